/- Proved here: what functions of the given program come to, and the plain laws of it; no condition but those in the theorems. -/
import Derived.Test.YtgllikepncnpkaaGreatA34f
import Derived.Test.YtgllikepncnpkaaGreatAbsRx
namespace Go.Proofs
open Go Go.Abs
set_option linter.unusedSimpArgs false
set_option linter.unusedVariables false
set_option maxRecDepth 20000
theorem in23_ok:FunR Tryz.prog 62 R_within:=by
  intro args k h
  unfold R_within at h
  split at h
  case h_2=>exact h.elim
  rename_i x most
  refine does_ex (qc:=qc1) (np:=[]) (CK:=ckK []) mixed Tryz.func62 rfl rfl Tryz.ntmps62 Tryz.results62 τ_ok (by kernel_rfl) (ckK_ok trivial) (by simp) ?_
  conv=>whnf
  refine Fork.mk (fun a=>?_) (fun a=>?_)
  · conv=>whnf
    exact kB h (by simp at a;simp [inB,a])
  · conv=>whnf
    exact kB h (by simp at a;simp [inB];omega)
theorem stands_ok:FunR Tryz.prog 129 R_stB:=by
  intro args k h
  obtain ⟨c,l,rfl,hc,hl,hlf,hk⟩:=h
  have hmx:=eX_len c.si
  have hml:=eD_len l
  have hcn:=hc.n
  refine does_ex (qc:=qc1) (np:=[]) (CK:=ckK [(146,cSc (R_dsB validD))]) mixed Tryz.func129 rfl rfl Tryz.ntmps129 Tryz.results129 τ_ok (by kernel_rfl) (ckK_ok ⟨cSc_ok dval_ok,trivial⟩) (by simp) ?_
  conv=>whnf
  refine Fork.mk (fun h=>?_) (fun h=>?_)
  · conv=>whnf
    exact kB hk (by rw [stB,if_pos (by simp at h;omega)])
  have h1:l.length=c.si.length:=by simp at h;omega
  clear h
  have hS:∀ y,dsB c.si l=y→stB c l=y:=fun y e=>by rw [stB,if_neg (by omega),e]
  conv=>whnf
  refine ⟨Nat,fun i=>([(1,.c (.lst (eD l))),(14,.c (.lst (eX c.si))),(15,I (eX c.si).length),(16,I i)],⟨[],9,[]⟩),
    fun i=>i≤c.si.length∧dsB c.si l=dsB (c.si.drop i) (l.drop i),fun i=>c.si.length - i,0,⟨Nat.zero_le _,rfl⟩,Shift.reset ⟨rfl,rfl,rfl,rfl,trivial⟩ trivial rfl rfl,fun i hi=>?_⟩
  obtain ⟨hi1,hi2⟩:=hi
  dsimp only
  conv=>whnf
  refine Fork.mk (fun h=>?_) (fun h=>?_)
  rotate_left
  · have hie:i=c.si.length:=by simp at h;omega
    rw [hie,List.drop_length,dsB_nil] at hi2
    conv=>whnf
    exact kB hk (hS _ hi2)
  have hi:i < c.si.length:=by simp at h;omega
  clear h
  have hci:=List.getElem?_eq_getElem hi
  have hcl:=List.getElem?_eq_getElem (show i < l.length by omega)
  have hfu:=hc.d _ (List.getElem_mem hi)
  have hfl:=hlf _ (List.getElem_mem (show i < l.length by omega))
  generalize c.si[i]=x at hci hfu
  generalize l[i]=z at hcl hfl
  rw [drop_of hci,drop_of hcl,dsB_cons] at hi2
  have hw1:=wr_succ (i:=i) (by omega)
  conv=>whnf
  refine ⟨by omega,siC x,by rw [Int.toNat_natCast,List.getElem?_map,hci];rfl,rfl,?_⟩
  conv=>whnf
  refine ⟨by omega,dtC z,by rw [Int.toNat_natCast,List.getElem?_map,hcl];rfl,rfl,?_⟩
  conv=>whnf
  refine ⟨x.d,z,rfl,hfu,hfl,?_⟩
  conv=>whnf
  refine Fork.mk (fun h=>?_) (fun h=>?_)
  · have a1:validD x.d z=false:=by simpa using h
    rw [if_pos a1] at hi2
    conv=>whnf
    exact kB hk (hS _ hi2)
  have a1:¬ validD x.d z=false:=by simpa using h
  rw [if_neg a1] at hi2
  clear h
  conv=>whnf
  rw [hw1]
  exact ⟨_,⟨hi,hi2⟩,Shift.reset ⟨rfl,rfl,rfl,rfl,trivial⟩ trivial rfl rfl,by omega⟩
theorem cflows_ok:FunR Tryz.prog 101 (R_cfB flB):=by
  intro args k h
  obtain ⟨c,f,rfl,hc,hf,hk⟩:=h
  have hmk:=eK_len c.rv.ls
  have hmv:=eV_len f.ws
  have hcn:=hc.r.1
  have hcl:=hc.r.2
  have hfn:=hf.w.1
  have hfw:=hf.w.2
  refine does_ex (qc:=qc1) (np:=[]) (CK:=ckK [(129,cSc R_stB),(130,cSc R_valid)]) mixed Tryz.func101 rfl rfl Tryz.ntmps101 Tryz.results101 τ_ok (by kernel_rfl) (ckK_ok ⟨cSc_ok stands_ok,cSc_ok pvalid_ok,trivial⟩) (by simp) ?_
  conv=>whnf
  refine Fork.mk (fun h=>?_) (fun h=>?_)
  · have a1:f.tm < 0:=by simpa using h
    conv=>whnf
    repeat' ((first | refine fork_t ?_ | refine fork_f ?_ | (refine Fork.mk (fun h=>?_) (fun h=>?_);focus (simp at h;done)) | fail) <;> (conv=>whnf))
    exact kB hk (by rw [flB,if_pos a1])
  have a1:¬ f.tm < 0:=by simpa using h
  clear h
  conv=>whnf
  refine Fork.mk (fun h=>?_) (fun h=>?_)
  · have a2:16777216 < f.tm:=by simpa using h
    conv=>whnf
    repeat' ((first | refine fork_t ?_ | refine fork_f ?_ | (refine Fork.mk (fun h=>?_) (fun h=>?_);focus (simp at h;done)) | fail) <;> (conv=>whnf))
    exact kB hk (by rw [flB,if_neg a1,if_pos a2])
  have a2:¬ 16777216 < f.tm:=by simpa using h
  clear h
  conv=>whnf
  refine ⟨c,f.ds,rfl,hc,hf.n,hf.d,?_⟩
  conv=>whnf
  refine Fork.mk (fun h=>?_) (fun h=>?_)
  · have a3:stB c f.ds=false:=by simpa using h
    conv=>whnf
    repeat' ((first | refine fork_t ?_ | refine fork_f ?_ | (refine Fork.mk (fun h=>?_) (fun h=>?_);focus (simp at h;done)) | fail) <;> (conv=>whnf))
    exact kB hk (by rw [flB,if_neg a1,if_neg a2,if_pos a3])
  have a3:¬ stB c f.ds=false:=by simpa using h
  clear h
  conv=>whnf
  refine Fork.mk (fun h=>?_) (fun h=>?_)
  · have a4:f.ws.length ≠ c.rv.ls.length:=by simp at h;omega
    conv=>whnf
    repeat' ((first | refine fork_t ?_ | refine fork_f ?_ | (refine Fork.mk (fun h=>?_) (fun h=>?_);focus (simp at h;done)) | fail) <;> (conv=>whnf))
    exact kB hk (by rw [flB,if_neg a1,if_neg a2,if_neg a3,if_pos a4])
  have a4:f.ws.length=c.rv.ls.length:=by simp at h;omega
  clear h
  have hS:∀ y,wsB c.rv.ls f.ws=y→flB c f=y:=fun y e=>by rw [flB,if_neg a1,if_neg a2,if_neg a3,if_neg (by omega),e]
  conv=>whnf
  refine ⟨Nat,fun i=>([(3,.c (.ptr (.l 3 1) 0)),(34,.c (.lst (eK c.rv.ls))),(35,I (eK c.rv.ls).length),(36,I i)],⟨[(.l 3 1,.blk (flC f))],9,[]⟩),
    fun i=>i≤c.rv.ls.length∧wsB c.rv.ls f.ws=wsB (c.rv.ls.drop i) (f.ws.drop i),fun i=>c.rv.ls.length - i,0,⟨Nat.zero_le _,rfl⟩,Shift.reset ⟨rfl,rfl,rfl,rfl,trivial⟩ ⟨rfl,trivial⟩ rfl rfl,fun i hi=>?_⟩
  obtain ⟨hi1,hi2⟩:=hi
  dsimp only
  conv=>whnf
  refine Fork.mk (fun h=>?_) (fun h=>?_)
  rotate_left
  · have hie:i=c.rv.ls.length:=by simp at h;omega
    rw [hie,List.drop_length,wsB_nil] at hi2
    conv=>whnf
    exact kB hk (hS _ hi2)
  have hi:i < c.rv.ls.length:=by simp at h;omega
  clear h
  have hci:=List.getElem?_eq_getElem hi
  have hcw:=List.getElem?_eq_getElem (show i < f.ws.length by omega)
  have hl1:=hcl _ (List.getElem_mem hi)
  have hl2:=hfw _ (List.getElem_mem (show i < f.ws.length by omega))
  generalize c.rv.ls[i]=x at hci hl1
  generalize f.ws[i]=z at hcw hl2
  rw [drop_of hci,drop_of hcw,wsB_cons] at hi2
  have hw1:=wr_succ (i:=i) (by omega)
  conv=>whnf
  refine ⟨by omega,lkC x,by rw [Int.toNat_natCast,List.getElem?_map,hci];rfl,rfl,?_⟩
  conv=>whnf
  refine ⟨by omega,wvC z,by rw [Int.toNat_natCast,List.getElem?_map,hcw];rfl,rfl,?_⟩
  conv=>whnf
  refine ⟨x.ws,z,rfl,rfl,hl1,hl2,?_⟩
  conv=>whnf
  refine Fork.mk (fun h=>?_) (fun h=>?_)
  · rw [Bool.not_eq_true'] at h
    rw [if_pos h] at hi2
    conv=>whnf
    exact kB hk (hS _ hi2)
  rw [Bool.not_eq_false'] at h
  rw [if_neg (by rw [h];simp)] at hi2
  clear h
  conv=>whnf
  rw [hw1]
  exact ⟨_,⟨hi,hi2⟩,Shift.reset ⟨rfl,rfl,rfl,rfl,trivial⟩ ⟨rfl,trivial⟩ rfl rfl,by omega⟩
theorem cvalid_ok:FunR Tryz.prog 67 (R_cfB vaB):=by
  intro args k h
  obtain ⟨c,f,rfl,hc,hf,hk⟩:=h
  refine does_ex (qc:=qc1) (np:=[]) (CK:=ckK [(45,cSc (R_csI csE)),(101,cSc (R_cfB flB))]) mixed Tryz.func67 rfl rfl Tryz.ntmps67 Tryz.results67 τ_ok (by kernel_rfl) (ckK_ok ⟨cSc_ok csE_ok',cSc_ok cflows_ok,trivial⟩) (by simp) ?_
  conv=>whnf
  refine ⟨c,rfl,hc,?_⟩
  conv=>whnf
  refine Fork.mk (fun h=>?_) (fun h=>?_)
  · have h1:csE c=0:=by simpa using h
    conv=>whnf
    refine ⟨c,f,rfl,hc,hf,?_⟩
    conv=>whnf
    exact kB hk (by simp [vaB,h1])
  have h1:¬ csE c=0:=by simpa using h
  conv=>whnf
  exact kB hk (by simp [vaB,h1])
theorem ready_ok:FunR Tryz.prog 41 (R_cfI rdyE):=by
  intro args k h
  obtain ⟨c,f,rfl,hc,hf,hk⟩:=h
  refine does_ex (qc:=qc1) (np:=[]) (CK:=ckK [(45,cSc (R_csI csE)),(67,cSc (R_cfB vaB))]) mixed Tryz.func41 rfl rfl Tryz.ntmps41 Tryz.results41 τ_ok (by kernel_rfl) (ckK_ok ⟨cSc_ok csE_ok',cSc_ok cvalid_ok,trivial⟩) (by simp) ?_
  conv=>whnf
  refine ⟨c,rfl,hc,?_⟩
  conv=>whnf
  refine Fork.mk (fun h=>?_) (fun h=>?_)
  · have h1:csE c ≠ 0:=by simpa using h
    conv=>whnf
    exact kI hk (by rw [rdyE,if_pos h1])
  have h1:¬ csE c ≠ 0:=by simpa using h
  clear h
  conv=>whnf
  refine ⟨c,f,rfl,hc,hf,?_⟩
  conv=>whnf
  refine Fork.mk (fun h=>?_) (fun h=>?_)
  · have h2:vaB c f=false:=by simpa using h
    conv=>whnf
    exact kI hk (by rw [rdyE,if_neg h1,if_pos h2])
  have h2:¬ vaB c f=false:=by simpa using h
  conv=>whnf
  exact kI hk (by rw [rdyE,if_neg h1,if_neg h2])
theorem rcvalid_ok:FunR Tryz.prog 39 (R_cfB vaB):=by
  intro args k h
  obtain ⟨c,f,rfl,hc,hf,hk⟩:=h
  have hmk:=eK_len c.rv.ls
  have hmv:=eV_len f.ws
  have hmx:=eX_len c.si
  have hmd:=eD_len f.ds
  have hcn:=hc.r.1
  have hcl:=hc.r.2
  have hcs:=hc.n
  have hfn:=hf.w.1
  have hfd:=hf.n
  have hfw:=hf.w.2
  refine does_ex (qc:=qc1) (np:=[]) (CK:=ckK [(38,cSc (R_csI csE)),(62,cSc R_within),(63,cSc (R_dsB validD)),(64,cSc R_valid)]) mixed Tryz.func39 rfl rfl Tryz.ntmps39 Tryz.results39 τ_ok (by kernel_rfl) (ckK_ok ⟨cSc_ok rcsE_ok,cSc_ok in23_ok,cSc_ok rdval_ok,cSc_ok rvld_ok,trivial⟩) (by simp) ?_
  conv=>whnf
  refine ⟨c,rfl,hc,?_⟩
  conv=>whnf
  refine Fork.mk (fun h=>?_) (fun h=>?_)
  · have h1:csE c ≠ 0:=by simpa using h
    conv=>whnf
    repeat' ((first | refine fork_t ?_ | refine fork_f ?_ | (refine Fork.mk (fun h=>?_) (fun h=>?_);focus (simp at h;done)) | fail) <;> (conv=>whnf))
    exact kB hk (by simp [vaB,h1])
  have h1:csE c=0:=by simpa using h
  have hok:=csE_ok h1
  clear h
  conv=>whnf
  refine Fork.mk (fun h=>?_) (fun h=>?_)
  · conv=>whnf
    repeat' ((first | refine fork_t ?_ | refine fork_f ?_ | (refine Fork.mk (fun h=>?_) (fun h=>?_);focus (simp at h;done)) | fail) <;> (conv=>whnf))
    exact kB hk (vaB_no fun e=>by have:=e.t;simp [inB] at h;omega)
  have a1:0≤f.tm∧f.tm≤16777216:=by simpa [inB] using h
  clear h
  conv=>whnf
  refine Fork.mk (fun h=>?_) (fun h=>?_)
  · conv=>whnf
    repeat' ((first | refine fork_t ?_ | refine fork_f ?_ | (refine Fork.mk (fun h=>?_) (fun h=>?_);focus (simp at h;done)) | fail) <;> (conv=>whnf))
    exact kB hk (vaB_no fun e=>by have:=e.n;simp at h;omega)
  have a2:f.ds.length=c.si.length:=by simp at h;omega
  clear h
  conv=>whnf
  refine Fork.mk (fun h=>?_) (fun h=>?_)
  · conv=>whnf
    repeat' ((first | refine fork_t ?_ | refine fork_f ?_ | (refine Fork.mk (fun h=>?_) (fun h=>?_);focus (simp at h;done)) | fail) <;> (conv=>whnf))
    exact kB hk (vaB_no fun e=>by have:=e.w.l;simp at h;omega)
  have a3:f.ws.length=c.rv.ls.length:=by simp at h;omega
  clear h
  conv=>whnf
  refine ⟨Nat,fun i=>([(2,.c (.ptr (.l 2 0) 0)),(3,.c (.ptr (.l 3 1) 0)),(38,.c (.lst (eX c.si))),(39,I (eX c.si).length),(40,I i)],⟨[(.l 2 0,.blk (csC c)),(.l 3 1,.blk (flC f))],9,[]⟩),
    fun i=>i≤c.si.length∧∀ (j:Nat) x s,j < i→c.si[j]?=some x→f.ds[j]?=some s→validD x.d s=true,fun i=>c.si.length - i,0,⟨Nat.zero_le _,fun j x s hj=>by omega⟩,Shift.reset ⟨rfl,rfl,rfl,rfl,rfl,trivial⟩ ⟨rfl,rfl,trivial⟩ rfl rfl,fun i hi=>?_⟩
  obtain ⟨hi1,hi2⟩:=hi
  dsimp only
  conv=>whnf
  refine Fork.mk (fun h=>?_) (fun h=>?_)
  · have hi:i < c.si.length:=by simp at h;omega
    clear h
    have hci:=List.getElem?_eq_getElem hi
    have hcd:=List.getElem?_eq_getElem (show i < f.ds.length by omega)
    have hfu:=hc.d _ (List.getElem_mem hi)
    have hfl:=hf.d _ (List.getElem_mem (show i < f.ds.length by omega))
    generalize c.si[i]=x at hci hfu
    generalize f.ds[i]=z at hcd hfl
    have hw1:=wr_succ (i:=i) (by omega)
    conv=>whnf
    refine ⟨by omega,siC x,by rw [Int.toNat_natCast,List.getElem?_map,hci];rfl,rfl,?_⟩
    conv=>whnf
    refine ⟨by omega,dtC z,by rw [Int.toNat_natCast,List.getElem?_map,hcd];rfl,rfl,?_⟩
    conv=>whnf
    refine ⟨x.d,z,rfl,hfu,hfl,?_⟩
    conv=>whnf
    refine Fork.mk (fun h=>?_) (fun h=>?_)
    · have a4:validD x.d z=false:=by simpa using h
      conv=>whnf
      exact kB hk (vaB_no fun e=>by have:=e.d i x z hci hcd;rw [a4] at this;cases this)
    have a4:validD x.d z=true:=by simpa using h
    clear h
    conv=>whnf
    rw [hw1]
    refine ⟨_,⟨hi,fun j y s hj h1 h2=>?_⟩,Shift.reset ⟨rfl,rfl,rfl,rfl,rfl,trivial⟩ ⟨rfl,rfl,trivial⟩ rfl rfl,by omega⟩
    rcases Nat.lt_or_ge j i with hji | hji
    · exact hi2 j y s hji h1 h2
    · have:j=i:=by omega
      subst this
      rw [hci] at h1;rw [hcd] at h2;cases h1;cases h2;exact a4
  have hie:i=c.si.length:=by simp at h;omega
  clear h
  have hD:∀ (j:Nat) x s,c.si[j]?=some x→f.ds[j]?=some s→validD x.d s=true:=fun j x s h1 h2=>hi2 j x s (by have:=(List.getElem?_eq_some_iff.1 h1).1;omega) h1 h2
  clear hi1 hi2 hie
  conv=>whnf
  refine ⟨Nat,fun i=>([(3,.c (.ptr (.l 3 1) 0)),(57,.c (.lst (eK c.rv.ls))),(58,I (eK c.rv.ls).length),(59,I i)],⟨[(.l 3 1,.blk (flC f))],20,[]⟩),
    fun i=>i≤c.rv.ls.length∧∀ (j:Nat) a p,j < i→c.rv.ls[j]?=some a→f.ws[j]?=some p→fitsB a.ws.length p=true,fun i=>c.rv.ls.length - i,0,⟨Nat.zero_le _,fun j x s hj=>by omega⟩,Shift.reset ⟨rfl,rfl,rfl,rfl,trivial⟩ ⟨rfl,trivial⟩ rfl rfl,fun i hi=>?_⟩
  obtain ⟨hi1,hi2⟩:=hi
  dsimp only
  conv=>whnf
  refine Fork.mk (fun h=>?_) (fun h=>?_)
  · have hi:i < c.rv.ls.length:=by simp at h;omega
    clear h
    have hci:=List.getElem?_eq_getElem hi
    have hcw:=List.getElem?_eq_getElem (show i < f.ws.length by omega)
    have hl1:=hcl _ (List.getElem_mem hi)
    have hl2:=hfw _ (List.getElem_mem (show i < f.ws.length by omega))
    generalize c.rv.ls[i]=x at hci hl1
    generalize f.ws[i]=z at hcw hl2
    have hw1:=wr_succ (i:=i) (by omega)
    conv=>whnf
    refine ⟨by omega,lkC x,by rw [Int.toNat_natCast,List.getElem?_map,hci];rfl,rfl,?_⟩
    conv=>whnf
    refine ⟨by omega,wvC z,by rw [Int.toNat_natCast,List.getElem?_map,hcw];rfl,rfl,?_⟩
    conv=>whnf
    refine ⟨x.ws,z,rfl,rfl,hl1,hl2,?_⟩
    have hrk:=(hok.r.l x (List.mem_of_getElem? hci)).r
    conv=>whnf
    refine Fork.mk (fun h=>?_) (fun h=>?_)
    · have a4:fitsB x.ws.length z=false:=by simpa [hrk] using h
      conv=>whnf
      exact kB hk (vaB_no fun e=>by have:=e.w.f i x z hci hcw;rw [a4] at this;cases this)
    have a4:fitsB x.ws.length z=true:=by simpa [hrk] using h
    clear h
    conv=>whnf
    rw [hw1]
    refine ⟨_,⟨hi,fun j y s hj h1 h2=>?_⟩,Shift.reset ⟨rfl,rfl,rfl,rfl,trivial⟩ ⟨rfl,trivial⟩ rfl rfl,by omega⟩
    rcases Nat.lt_or_ge j i with hji | hji
    · exact hi2 j y s hji h1 h2
    · have:j=i:=by omega
      subst this
      rw [hci] at h1;rw [hcw] at h2;cases h1;cases h2;exact a4
  have hie:i=c.rv.ls.length:=by simp at h;omega
  conv=>whnf
  exact kB hk (vaB_of ⟨hok,a1,a2,hD,⟨a3,fun j a p h1 h2=>hi2 j a p (by have:=(List.getElem?_eq_some_iff.1 h1).1;omega) h1 h2⟩⟩)
end Go.Proofs

namespace Go.Proofs
open Go Go.Abs
set_option linter.unusedSimpArgs false
set_option linter.unusedVariables false
set_option maxRecDepth 20000
theorem tk_snoc {α:Type} {l:List α} {i:Nat} {z:α} (h:l[i]?=some z):l.take (i+1)=l.take i ++ [z]:=by rw [List.take_add_one,h];rfl
theorem eQ_all (l:List Us):(eQ l).all (fun e=>e.length == 3)=true:=by simp [List.all_eq_true,usC]
theorem eS_all (l:List Gs):(eS l).all (fun e=>e.length == 2)=true:=by simp [List.all_eq_true,gsC]
def R_dams:RA:=fun args k=>∃ l:List Dt,args=[.c (.lst (eD l))]∧l.length≤1000∧(∀ x ∈ l,x.us.length≤1000∧x.gs.length≤1000)∧k (.c (.view (.x 0) 0 l.length)) (.arr 117 4 (eD l) false)
theorem dams_ok:FunA Tryz.prog 56 R_dams:=by
  intro args k h
  obtain ⟨l,rfl,hl,hb,hk⟩:=h
  have hml:=eD_len l
  refine doesA_ex (qc:=qc1) (np:=[]) (CK:=ckK []) mixed Tryz.func56 rfl rfl Tryz.ntmps56 Tryz.results56 τ_ok (by kernel_rfl) (ckK_ok trivial) (by simp) rfl ?_
  conv=>whnf
  refine ⟨Nat,fun i=>([(3,.c (.view (.l 23 0) 0 i)),(6,.c (.lst (eD l))),(7,I (eD l).length),(8,I i)],⟨[(.l 23 0,.arr 117 4 (eD (l.take i)) false)],9,[]⟩),
    fun i=>i≤l.length,fun i=>l.length - i,0,Nat.zero_le _,Shift.trans (Shift.rename [] ⟨rfl,rfl,rfl,rfl,trivial⟩ ⟨rfl,trivial⟩ rfl rfl rfl) (Shift.nilArr (t:=3) rfl 23 117 4),fun i hi=>?_⟩
  dsimp only
  have hmt:(eD (l.take i)).length=i:=by rw [eD_len,List.length_take];omega
  conv=>whnf
  refine Fork.mk (fun h=>?_) (fun h=>?_)
  rotate_left
  · have hie:i=l.length:=by simp at h;omega
    subst hie
    rw [List.take_length]
    conv=>whnf
    refine ⟨.l 23 0,?_⟩
    conv=>whnf
    exact ⟨rfl,rfl,rfl,hk⟩
  have hi2:i < l.length:=by simp at h;omega
  clear h
  have hci:=List.getElem?_eq_getElem hi2
  have hbi:=hb _ (List.getElem_mem hi2)
  generalize l[i]=z at hci hbi
  have hw1:=wr_succ (i:=i) (by omega)
  have hmu:=eQ_len z.us
  have hmg:=eS_len z.gs
  conv=>whnf
  refine ⟨by omega,dtC z,by rw [Int.toNat_natCast,List.getElem?_map,hci];rfl,rfl,?_⟩
  conv=>whnf
  refine ⟨eQ_all _,by rw [hmu];show _ * 24≤_;omega,?_⟩
  conv=>whnf
  refine ⟨eS_all _,by rw [hmg];show _ * 16≤_;omega,?_⟩
  conv=>whnf
  refine ⟨by omega,?_⟩
  conv=>whnf
  refine ⟨by omega,?_⟩
  have t1:List.take (eQ z.us).length (List.drop 0 (eQ z.us))=eQ z.us:=by rw [List.drop_zero,List.take_length]
  have t2:List.take (eS z.gs).length (List.drop 0 (eS z.gs))=eS z.gs:=by rw [List.drop_zero,List.take_length]
  conv=>whnf
  rw [t1,t2]
  refine ⟨by simp,?_⟩
  conv=>whnf
  refine ⟨rfl,?_⟩
  conv=>whnf
  refine ⟨⟨rfl,rfl,rfl,hmt.symm,by rw [hmt];simp;omega⟩,?_⟩
  conv=>whnf
  rw [hw1]
  refine ⟨i+1,hi2,Shift.rename [(.l 23 0,.l 23 13)] ⟨?_,rfl,rfl,rfl,trivial⟩ ⟨?_,trivial⟩ rfl rfl rfl,by omega⟩
  · dsimp only;rw [hmt];rfl
  · dsimp only;rw [tk_snoc hci,show eD (l.take i ++ [z])=eD (l.take i) ++ [dtC z] from List.map_append];rfl
def R_copy:RG:=fun args os k=>∃ f:Fl,args=[.agg (flC f)]∧os=[]∧f.ds.length≤1000∧(∀ x ∈ f.ds,x.us.length≤1000∧x.gs.length≤1000)∧f.ws.length≤1000∧(∀ p ∈ f.ws,p.length≤1000)∧k (.agg [IC f.tm,.view (.x 0) 0 f.ds.length,.view (.x 1) 0 f.ws.length]) [.arr 117 4 (eD f.ds) false,.arr 85 1 (eV f.ws) false]
theorem copy_ok:FunH Tryz.prog 30 R_copy:=by
  intro args os k h
  obtain ⟨f,rfl,rfl,hd,hdb,hw,hwb,hk⟩:=h
  have hmv:=eV_len f.ws
  refine doesH_ex (qc:=qc1) (np:=[]) (CK:=ckK [(56,cA R_dams)]) mixed Tryz.func30 rfl rfl Tryz.ntmps30 Tryz.results30 τ_ok (by kernel_rfl) (ckK_ok ⟨cA_ok dams_ok rfl,trivial⟩) (by simp) ?_
  conv=>whnf
  refine ⟨f.ds,rfl,hd,hdb,?_⟩
  conv=>whnf
  refine ⟨Nat,fun i=>([(1,.c (.ptr (.l 1 0) 0)),(2,.c (.ptr (.l 2 1) 0)),(3,.c (.view (.l 23 0) 0 i)),(11,.c (.lst (eV f.ws))),(12,I (eV f.ws).length),(13,I i)],⟨[(.l 1 0,.blk [IC f.tm,.view (.l 8 2) 0 f.ds.length,.lst (eV f.ws)]),(.l 2 1,.blk [IC 0,.sc (.slice none 0 0),.sc (.slice none 0 0)]),(.l 8 2,.arr 117 4 (eD f.ds) false),(.l 23 0,.arr 85 1 (eV (f.ws.take i)) false)],9,[]⟩),
    fun i=>i≤f.ws.length,fun i=>f.ws.length - i,0,Nat.zero_le _,Shift.trans (Shift.rename [(.l 23 0,.l 23 3)] ⟨rfl,rfl,rfl,rfl,rfl,rfl,trivial⟩ ⟨rfl,rfl,rfl,rfl,trivial⟩ rfl rfl rfl) (Shift.nilArr (t:=3) rfl 23 85 1),fun i hi=>?_⟩
  dsimp only
  have hmt:(eV (f.ws.take i)).length=i:=by rw [eV_len,List.length_take];omega
  conv=>whnf
  refine Fork.mk (fun h=>?_) (fun h=>?_)
  rotate_left
  · have hie:i=f.ws.length:=by simp at h;omega
    subst hie
    rw [List.take_length]
    conv=>whnf
    exact ⟨.l 8 2,.l 23 0,rfl,rfl,rfl,rfl,rfl,hk⟩
  have hi2:i < f.ws.length:=by simp at h;omega
  clear h
  have hci:=List.getElem?_eq_getElem hi2
  have hbi:=hwb _ (List.getElem_mem hi2)
  generalize f.ws[i]=p at hci hbi
  have hw1:=wr_succ (i:=i) (by omega)
  have hmp:=eL_len p
  conv=>whnf
  refine ⟨by omega,wvC p,by rw [Int.toNat_natCast,List.getElem?_map,hci];rfl,rfl,?_⟩
  conv=>whnf
  refine ⟨eL_all _,by rw [hmp];show _ * 8≤_;omega,?_⟩
  conv=>whnf
  refine ⟨by omega,?_⟩
  have t1:List.take (eL p).length (List.drop 0 (eL p))=eL p:=by rw [List.drop_zero,List.take_length]
  conv=>whnf
  rw [t1]
  refine ⟨by simp,?_⟩
  conv=>whnf
  refine ⟨rfl,?_⟩
  conv=>whnf
  refine ⟨⟨rfl,rfl,rfl,hmt.symm,by rw [hmt];simp;omega⟩,?_⟩
  conv=>whnf
  rw [hw1]
  refine ⟨i+1,hi2,Shift.rename [(.l 23 0,.l 23 12)] ⟨rfl,rfl,?_,rfl,rfl,rfl,trivial⟩ ⟨rfl,rfl,rfl,?_,trivial⟩ rfl rfl rfl,by omega⟩
  · dsimp only;rw [hmt];rfl
  · dsimp only;rw [tk_snoc hci,show eV (f.ws.take i ++ [p])=eV (f.ws.take i) ++ [wvC p] from List.map_append];rfl
end Go.Proofs

namespace Go.Proofs
open Go Go.Abs
set_option linter.unusedSimpArgs false
set_option linter.unusedVariables false
set_option maxRecDepth 20000
def fl0:Fl:=⟨0,[],[]⟩
def staF (c:Cs) (l:List Dt):Fl × Int:=if csE c ≠ 0 then (fl0,csE c) else if vaB c ⟨0,l,List.replicate c.rv.ls.length []⟩=false then (fl0,3) else (⟨0,l,List.replicate c.rv.ls.length []⟩,0)
def R_start:RT:=fun args k=>∃ (c:Cs) (l:List Dt),args=[.agg (csC c),.c (.lst (eD l))]∧c.fin∧l.length≤1000∧(∀ x ∈ l,x.us.length≤1000∧x.gs.length≤1000)∧k (.tup [.agg (flC (staF c l).1),I (staF c l).2])
theorem kSta {k:AV→Prop} {x y:Fl × Int} (h:k (.tup [.agg (flC x.1),I x.2])) (e:x=y):k (.tup [.agg (flC y.1),I y.2]):=by subst e;exact h
theorem start_ok:FunR Tryz.prog 53 R_start:=by
  intro args k h
  obtain ⟨c,l,rfl,hc,hl,hb,hk⟩:=h
  have hml:=eD_len l
  refine does_ex (qc:=qc1) (np:=[]) (CK:=ckK [(38,cSc (R_csI csE)),(85,cPu R_empS),(56,cA R_dams),(39,cSc (R_cfB vaB))]) mixed Tryz.func53 rfl rfl Tryz.ntmps53 Tryz.results53 τ_ok (by kernel_rfl) (ckK_ok ⟨cSc_ok rcsE_ok,cPu_ok rempS_ok rfl,cA_ok dams_ok rfl,cSc_ok rcvalid_ok,trivial⟩) (by simp) ?_
  conv=>whnf
  refine ⟨c,rfl,hc,?_⟩
  conv=>whnf
  refine Fork.mk (fun h=>?_) (fun h=>?_)
  · have h1:csE c ≠ 0:=by simpa using h
    conv=>whnf
    exact kSta (y:=(fl0,csE c)) hk (by rw [staF,if_pos h1])
  have h1:csE c=0:=by simpa using h
  clear h
  have hr:=(csE_ok h1).r
  have hE:empS c.rv=(List.replicate c.rv.ls.length [],0):=by rw [empS,if_neg (by simp [rvE_of hr])]
  have hlk:=hr.len
  conv=>whnf
  refine ⟨c.rv,rfl,hc.r,?_⟩
  rw [hE]
  dsimp only
  conv=>whnf
  refine ⟨l,rfl,hl,hb,?_⟩
  have t1:List.take l.length (List.drop 0 (eD l))=eD l:=by rw [List.drop_zero,List.take_of_length_le (by omega)]
  conv=>whnf
  refine ⟨by omega,?_⟩
  conv=>whnf
  rw [t1]
  have hff:Fl.fin ⟨0,l,List.replicate c.rv.ls.length []⟩:=⟨by dsimp only;omega,fun x hx=>by have:=hb x hx;exact ⟨by omega,by omega⟩,by dsimp only;rw [List.length_replicate];omega,fun p hp=>by rw [(List.mem_replicate.1 hp).2];exact Nat.zero_le _⟩
  refine ⟨c,⟨0,l,List.replicate c.rv.ls.length []⟩,rfl,hc,hff,?_⟩
  conv=>whnf
  refine Fork.mk (fun h=>?_) (fun h=>?_)
  · have h2:vaB c ⟨0,l,List.replicate c.rv.ls.length []⟩=false:=by simpa using h
    conv=>whnf
    exact kSta (y:=(fl0,3)) hk (by rw [staF,if_neg (by simp [h1]),if_pos h2])
  have h2:vaB c ⟨0,l,List.replicate c.rv.ls.length []⟩=true:=by simpa using h
  clear h
  conv=>whnf
  refine ⟨by omega,?_⟩
  conv=>whnf
  rw [t1]
  exact kSta (y:=(⟨0,l,List.replicate c.rv.ls.length []⟩,0)) hk (by rw [staF,if_neg (by simp [h1]),if_neg (by simp [h2])])
def R_all23:RT:=fun args k=>∃ (l:Ls) (m:Int),args=[.c (.lst (eL l)),I m]∧l.length≤9223372036854775807∧k (Bo (l.all (inB 0 m)))
theorem all23_ok:FunR Tryz.prog 65 R_all23:=by
  intro args k h
  obtain ⟨l,m,rfl,hl,hk⟩:=h
  have hm:=eL_len l
  refine does_ex (qc:=qc1) (np:=[]) (CK:=ckK [(62,cSc R_within)]) mixed Tryz.func65 rfl rfl Tryz.ntmps65 Tryz.results65 τ_ok (by kernel_rfl) (ckK_ok ⟨cSc_ok in23_ok,trivial⟩) (by simp) ?_
  conv=>whnf
  refine ⟨Nat,fun i=>([(1,I m),(7,.c (.lst (eL l))),(8,I (eL l).length),(9,I i)],⟨[],9,[]⟩),
    fun i=>i≤l.length∧l.all (inB 0 m)=(l.drop i).all (inB 0 m),fun i=>l.length - i,0,⟨Nat.zero_le _,rfl⟩,Shift.reset ⟨rfl,rfl,rfl,rfl,trivial⟩ trivial rfl rfl,fun i hi=>?_⟩
  obtain ⟨hi1,hi2⟩:=hi
  dsimp only
  conv=>whnf
  refine Fork.mk (fun h=>?_) (fun h=>?_)
  rotate_left
  · have hie:i=l.length:=by simp at h;omega
    rw [hie,List.drop_length,List.all_nil] at hi2
    conv=>whnf
    exact kB hk hi2
  have hi:i < l.length:=by simp at h;omega
  clear h
  have hci:=List.getElem?_eq_getElem hi
  generalize l[i]=x at hci
  rw [dropC hci,List.all_cons] at hi2
  have hw1:=wr_succ (i:=i) (by omega)
  conv=>whnf
  refine ⟨by omega,eI x,by rw [Int.toNat_natCast,List.getElem?_map,hci];rfl,rfl,?_⟩
  conv=>whnf
  refine Fork.mk (fun h=>?_) (fun h=>?_)
  · rw [Bool.not_eq_true'] at h
    rw [show inB 0 m x=false from h] at hi2
    conv=>whnf
    exact kB hk hi2
  rw [Bool.not_eq_false'] at h
  rw [show inB 0 m x=true from h] at hi2
  conv=>whnf
  rw [hw1]
  exact ⟨i+1,⟨hi,by rw [hi2];rfl⟩,Shift.reset ⟨rfl,rfl,rfl,rfl,trivial⟩ trivial rfl rfl,by omega⟩
def R_si1:RG:=fun args os k=>∃ (l:Si) (x:Int),args=[.agg (siC l),.c (.ptr (.x 0) 0)]∧os=kO x∧k (Bo (decide (l.nd=x))) (kO x)
theorem si1_ok:FunG Tryz.prog 103 R_si1:=by
  intro args os k h
  obtain ⟨l,x,rfl,rfl,hk⟩:=h
  refine doesG_ex (qc:=qc1) (np:=[]) (CK:=ckK []) mixed Tryz.func103 rfl rfl Tryz.ntmps103 Tryz.results103 τ_ok (by kernel_rfl) (ckK_ok trivial) (by simp) rfl rfl ?_
  conv=>whnf
  exact ⟨rfl,rfl,hk⟩
theorem lf1_ok:FunG Tryz.prog 110 R_link1:=by
  intro args os k h
  obtain ⟨l,x,rfl,rfl,hk⟩:=h
  refine doesG_ex (qc:=qc1) (np:=[]) (CK:=ckK []) mixed Tryz.func110 rfl rfl Tryz.ntmps110 Tryz.results110 τ_ok (by kernel_rfl) (ckK_ok trivial) (by simp) rfl rfl ?_
  conv=>whnf
  exact ⟨rfl,rfl,hk⟩
def R_idxS:RG:=fun args os k=>∃ (ls:List Si) (x:Int),args=[.c (.lst (eX ls)),.c (.fn 103 [.ptr (.x 0) 0])]∧os=kO x∧ls.length≤9223372036854775807∧k (I (snA ls x)) (kO x)
theorem idxS_ok:FunG Tryz.prog 102 R_idxS:=by
  intro args os k h
  obtain ⟨ls,x,rfl,rfl,hl,hk⟩:=h
  have hm:=eX_len ls
  refine doesG_ex (qc:=qc1) (np:=[]) (CK:=ckK [(103,cGr R_si1)]) mixed Tryz.func102 rfl rfl Tryz.ntmps102 Tryz.results102 τ_ok (by kernel_rfl) (ckK_ok ⟨cGr_ok si1_ok,trivial⟩) (by simp) rfl rfl ?_
  conv=>whnf
  refine ⟨Nat,fun i=>([(0,.c (.lst (eX ls))),(1,.c (.fn 103 [.ptr (.x 0) 0])),(7,I (eX ls).length),(8,I i)],⟨[(.x 0,.blk [IC x])],9,[]⟩),
    fun i=>i≤ls.length∧snA ls x=snGo x i (ls.drop i),fun i=>ls.length - i,0,⟨Nat.zero_le _,rfl⟩,Shift.reset ⟨rfl,rfl,rfl,rfl,trivial⟩ ⟨rfl,trivial⟩ rfl rfl,fun i hi=>?_⟩
  obtain ⟨hi1,hi2⟩:=hi
  dsimp only
  conv=>whnf
  refine Fork.mk (fun h=>?_) (fun h=>?_)
  rotate_left
  · have hie:i=ls.length:=by simp at h;omega
    rw [hie,List.drop_length] at hi2
    conv=>whnf
    exact ⟨rfl,rfl,kI1 hk (by rw [hi2];rfl)⟩
  have hi:i < ls.length:=by simp at h;omega
  clear h
  have hci:=List.getElem?_eq_getElem hi
  generalize ls[i]=l at hci
  rw [dropC hci,snGo] at hi2
  have hw1:=wr_succ (i:=i) (by omega)
  conv=>whnf
  refine ⟨by omega,siC l,by rw [Int.toNat_natCast,List.getElem?_map,hci];rfl,rfl,?_⟩
  conv=>whnf
  refine ⟨[.x 0],rfl,rfl,?_⟩
  conv=>whnf
  refine ⟨rfl,?_⟩
  conv=>whnf
  refine ⟨l,x,rfl,rfl,?_⟩
  conv=>whnf
  refine ⟨rfl,?_⟩
  conv=>whnf
  refine Fork.mk (fun h=>?_) (fun h=>?_)
  · rw [if_pos (by simpa using h)] at hi2
    conv=>whnf
    exact ⟨rfl,rfl,kI1 hk hi2⟩
  rw [if_neg (by simpa using h)] at hi2
  clear h
  conv=>whnf
  rw [hw1]
  exact ⟨i+1,⟨hi,hi2⟩,Shift.reset ⟨rfl,rfl,rfl,rfl,trivial⟩ ⟨rfl,trivial⟩ rfl rfl,by omega⟩
def R_idxM:RG:=fun args os k=>∃ (ls:List Lk) (x:Int),args=[.c (.lst (eK ls)),.c (.fn 110 [.ptr (.x 0) 0])]∧os=kO x∧ls.length≤9223372036854775807∧k (I (lnk ls x)) (kO x)
theorem idxM_ok:FunG Tryz.prog 109 R_idxM:=by
  intro args os k h
  obtain ⟨ls,x,rfl,rfl,hl,hk⟩:=h
  have hm:=eK_len ls
  refine doesG_ex (qc:=qc1) (np:=[]) (CK:=ckK [(110,cGr R_link1)]) mixed Tryz.func109 rfl rfl Tryz.ntmps109 Tryz.results109 τ_ok (by kernel_rfl) (ckK_ok ⟨cGr_ok lf1_ok,trivial⟩) (by simp) rfl rfl ?_
  conv=>whnf
  refine ⟨Nat,fun i=>([(0,.c (.lst (eK ls))),(1,.c (.fn 110 [.ptr (.x 0) 0])),(7,I (eK ls).length),(8,I i)],⟨[(.x 0,.blk [IC x])],9,[]⟩),
    fun i=>i≤ls.length∧lnk ls x=lnGo x i (ls.drop i),fun i=>ls.length - i,0,⟨Nat.zero_le _,rfl⟩,Shift.reset ⟨rfl,rfl,rfl,rfl,trivial⟩ ⟨rfl,trivial⟩ rfl rfl,fun i hi=>?_⟩
  obtain ⟨hi1,hi2⟩:=hi
  dsimp only
  conv=>whnf
  refine Fork.mk (fun h=>?_) (fun h=>?_)
  rotate_left
  · have hie:i=ls.length:=by simp at h;omega
    rw [hie,List.drop_length] at hi2
    conv=>whnf
    exact ⟨rfl,rfl,kI1 hk (by rw [hi2];rfl)⟩
  have hi:i < ls.length:=by simp at h;omega
  clear h
  have hci:=List.getElem?_eq_getElem hi
  generalize ls[i]=l at hci
  rw [dropC hci,lnGo] at hi2
  have hw1:=wr_succ (i:=i) (by omega)
  conv=>whnf
  refine ⟨by omega,lkC l,by rw [Int.toNat_natCast,List.getElem?_map,hci];rfl,rfl,?_⟩
  conv=>whnf
  refine ⟨[.x 0],rfl,rfl,?_⟩
  conv=>whnf
  refine ⟨rfl,?_⟩
  conv=>whnf
  refine ⟨l,x,rfl,rfl,?_⟩
  conv=>whnf
  refine ⟨rfl,?_⟩
  conv=>whnf
  refine Fork.mk (fun h=>?_) (fun h=>?_)
  · rw [if_pos (by simpa using h)] at hi2
    conv=>whnf
    exact ⟨rfl,rfl,kI1 hk hi2⟩
  rw [if_neg (by simpa using h)] at hi2
  clear h
  conv=>whnf
  rw [hw1]
  exact ⟨i+1,⟨hi,hi2⟩,Shift.reset ⟨rfl,rfl,rfl,rfl,trivial⟩ ⟨rfl,trivial⟩ rfl rfl,by omega⟩
def R_siA:RT:=fun args k=>∃ (c:Cs) (x:Int),args=[.agg (csC c),I x]∧c.si.length≤9223372036854775807∧k (I (snA c.si x))
theorem siA_ok:FunR Tryz.prog 71 R_siA:=by
  intro args k h
  obtain ⟨c,x,rfl,hl,hk⟩:=h
  refine does_ex (qc:=qc1) (np:=[]) (CK:=ckK [(102,cGr R_idxS)]) mixed Tryz.func71 rfl rfl Tryz.ntmps71 Tryz.results71 τ_ok (by kernel_rfl) (ckK_ok ⟨cGr_ok idxS_ok,trivial⟩) (by simp) ?_
  conv=>whnf
  refine ⟨[.l 3 1],rfl,rfl,?_⟩
  conv=>whnf
  refine ⟨rfl,?_⟩
  conv=>whnf
  refine ⟨c.si,x,rfl,rfl,hl,?_⟩
  conv=>whnf
  refine ⟨rfl,?_⟩
  conv=>whnf
  exact hk
def R_lkF:RT:=fun args k=>∃ (c:Cs) (x:Int),args=[.agg (csC c),I x]∧c.rv.ls.length≤9223372036854775807∧k (I (lnk c.rv.ls x))
theorem lkF_ok:FunR Tryz.prog 77 R_lkF:=by
  intro args k h
  obtain ⟨c,x,rfl,hl,hk⟩:=h
  refine does_ex (qc:=qc1) (np:=[]) (CK:=ckK [(109,cGr R_idxM)]) mixed Tryz.func77 rfl rfl Tryz.ntmps77 Tryz.results77 τ_ok (by kernel_rfl) (ckK_ok ⟨cGr_ok idxM_ok,trivial⟩) (by simp) ?_
  conv=>whnf
  refine ⟨[.l 3 1],rfl,rfl,?_⟩
  conv=>whnf
  refine ⟨rfl,?_⟩
  conv=>whnf
  refine ⟨c.rv.ls,x,rfl,rfl,hl,?_⟩
  conv=>whnf
  refine ⟨rfl,?_⟩
  conv=>whnf
  exact hk
end Go.Proofs
