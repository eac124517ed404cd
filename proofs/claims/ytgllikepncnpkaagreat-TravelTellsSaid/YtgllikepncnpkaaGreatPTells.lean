/- Proved here: what functions of the given program come to, and the plain laws of it; no condition but those in the theorems. -/
import Derived.Test.YtgllikepncnpkaaGreatPLag
namespace Go.Proofs
open Go Go.Abs
set_option linter.unusedSimpArgs false
set_option linter.unusedVariables false
set_option maxRecDepth 40000
def R_posz:RT:=fun args k=>∃ x:Int,args=[I x]∧k (Bo (decide (0 < x)))
theorem posz_ok:FunR Tryz.prog 90 R_posz:=by
  intro args k h
  obtain ⟨x,rfl,hk⟩:=h
  refine does_ex (qc:=qc1) (np:=[]) (CK:=ckK []) mixed Tryz.func90 rfl rfl Tryz.ntmps90 Tryz.results90 τ_ok (by kernel_rfl) (ckK_ok trivial) (by simp) ?_
  conv=>whnf
  exact hk
def R_ixW:RT:=fun args k=>∃ l:Ls,args=[.c (.lst (eL l)),.c (.fn 90 [])]∧l.length≤9223372036854775807∧k (I (pos l))
theorem ixW_ok:FunR Tryz.prog 89 R_ixW:=by
  intro args k h
  obtain ⟨l,rfl,hl,hk⟩:=h
  have hm:=eL_len l
  refine does_ex (qc:=qc1) (np:=[]) (CK:=ckK [(90,cSc R_posz)]) mixed Tryz.func89 rfl rfl Tryz.ntmps89 Tryz.results89 τ_ok (by kernel_rfl) (ckK_ok ⟨cSc_ok posz_ok,trivial⟩) (by simp) ?_
  conv=>whnf
  refine ⟨Nat,fun i=>([(0,.c (.lst (eL l))),(1,.c (.fn 90 [])),(7,I (eL l).length),(8,I i)],⟨[],9,[]⟩),
    fun i=>i≤l.length∧pos l=posG i (l.drop i),fun i=>l.length - i,0,⟨Nat.zero_le _,rfl⟩,Shift.reset ⟨rfl,rfl,rfl,rfl,trivial⟩ trivial rfl rfl,fun i hi=>?_⟩
  obtain ⟨hi1,hi2⟩:=hi
  dsimp only
  conv=>whnf
  refine Fork.mk (fun h=>?_) (fun h=>?_)
  rotate_left
  · have hie:i=l.length:=by simp at h;omega
    rw [hie,List.drop_length] at hi2
    rw [hi2] at hk
    conv=>whnf
    exact hk
  have hi:i < l.length:=by simp at h;omega
  clear h
  have hci:=List.getElem?_eq_getElem hi
  generalize l[i]=x at hci
  rw [drop_of hci,posG] at hi2
  have hw1:=wr_succ (i:=i) (by omega)
  conv=>whnf
  refine ⟨by omega,eI x,by rw [Int.toNat_natCast,List.getElem?_map,hci];rfl,rfl,?_⟩
  conv=>whnf
  refine ⟨x,rfl,?_⟩
  conv=>whnf
  refine Fork.mk (fun h=>?_) (fun h=>?_)
  · rw [if_pos h] at hi2
    rw [hi2] at hk
    conv=>whnf
    exact hk
  rw [if_neg (by rw [h];simp)] at hi2
  conv=>whnf
  rw [hw1]
  exact ⟨i+1,⟨hi,hi2⟩,Shift.reset ⟨rfl,rfl,rfl,rfl,trivial⟩ trivial rfl rfl,by omega⟩
theorem jtrv_ok:FunR Tryz.prog 55 R_trv:=by
  intro args k h
  obtain ⟨r,f,t,rfl,hr,hk⟩:=h
  have hmk:=eK_len r.ls
  refine does_ex (qc:=qc1) (np:=[]) (CK:=ckK [(73,cSc R_rvE),(87,cSc R_node),(88,cPu R_way),(89,cSc R_ixW)]) mixed Tryz.func55 rfl rfl Tryz.ntmps55 Tryz.results55 τ_ok (by kernel_rfl) (ckK_ok ⟨cSc_ok rvE_ok',cSc_ok node_ok,cPu_ok way_ok rfl,cSc_ok ixW_ok,trivial⟩) (by simp) ?_
  conv=>whnf
  refine ⟨r,rfl,hr,?_⟩
  conv=>whnf
  refine Fork.mk (fun h=>?_) (fun h=>?_)
  · have h1:rvE r ≠ 0:=by simpa using h
    conv=>whnf
    exact kTrv hk (y:=(0,0,false,rvE r)) (by rw [trvS,if_pos h1])
  have h1:rvE r=0:=by simpa using h
  clear h
  have hr:=rvE_ok h1
  have hrl:=hr.len
  have hrn:=hr.n
  conv=>whnf
  refine ⟨r,f,rfl,hrn,?_⟩
  conv=>whnf
  refine Fork.mk (fun h=>?_) (fun h=>?_)
  · have h2:inN r.n f=false:=by simpa using h
    conv=>whnf
    refine Fork.mk (fun _=>?_) (fun h=>by cases h)
    conv=>whnf
    exact kTrv hk (y:=(0,0,false,11)) (by rw [trvS,if_neg (by simp [h1]),if_pos h2])
  have h2:inN r.n f=true:=by simpa using h
  clear h
  conv=>whnf
  refine ⟨r,t,rfl,hrn,?_⟩
  conv=>whnf
  refine Fork.mk (fun h=>?_) (fun h=>?_)
  · have h3:inN r.n t=false:=by simpa using h
    conv=>whnf
    exact kTrv hk (y:=(0,0,false,11)) (by rw [trvS,if_neg (by simp [h1]),if_neg (by simp [h2]),if_pos h3])
  have h3:inN r.n t=true:=by simpa using h
  clear h
  have e0:trvS r f t=trvM (lagR r f t):=by rw [trvS,if_neg (by simp [h1]),if_neg (by simp [h2]),if_neg (by simp [h3])]
  have hf:0≤f∧f < r.n:=by simp [inN] at h2;omega
  conv=>whnf
  refine ⟨r,f,rfl,hr,hf,?_⟩
  have hW:(wayR r f).length≤40:=path_len hr hf
  generalize hW0:wayR r f=W at hW
  have hmw:(eL (W.map Int.ofNat)).length=W.length:=by rw [eL_len,List.length_map]
  conv=>whnf
  refine ⟨Nat × Int × Int × Int,fun y=>([(1,I y.2.1),(2,I t),(3,.c (.ptr (.l 3 0) 0)),(11,I y.2.2.1),(12,I y.2.2.2),(33,.c (.lst (eL (W.map Int.ofNat)))),(34,I (eL (W.map Int.ofNat)).length),(35,I y.1)],⟨[(.l 3 0,.blk (rvC r))],9,[]⟩),
    fun y=>y.1≤W.length∧W.drop y.1=wayR r y.2.1∧lgI r f t y.2.1 y.2.2.1 y.2.2.2,fun y=>W.length - y.1,(0,f,0,0),⟨Nat.zero_le _,hW0.symm,lgI.zero hf⟩,Shift.rename [] ⟨rfl,rfl,rfl,rfl,rfl,rfl,rfl,rfl,trivial⟩ ⟨rfl,trivial⟩ rfl rfl rfl,fun y hy=>?_⟩
  obtain ⟨j,q,a,b⟩:=y
  obtain ⟨hj,hw,hI⟩:=hy
  dsimp only at hj hw hI ⊢
  have ha:=hI.ha
  have hb:=hI.hb
  have hq:=hI.hf
  conv=>whnf
  refine Fork.mk (fun h=>?_) (fun h=>?_)
  rotate_left
  · have hje:j=W.length:=by simp at h;omega
    clear h
    rw [hje,List.drop_length] at hw
    have hlt:lnk r.ls q < 0:=by
      rcases lnk_at r.ls q with h | ⟨i,l,g1,g2,g3⟩
      · exact h
      · rw [wayR_step hr hq.1 g1 g2 g3] at hw;cases hw
    conv=>whnf
    refine Fork.mk (fun h=>?_) (fun h=>?_)
    · have hne:q ≠ t:=by simpa using h
      conv=>whnf
      exact kTrv hk (y:=(0,0,false,0)) (by rw [e0,hI.no (lagR_end hlt hne)];rfl)
    have he:q=t:=by simpa using h
    subst he
    conv=>whnf
    exact kTrv hk (y:=(a,b,true,0)) (by rw [e0,hI.done];rfl)
  have hj2:j < W.length:=by simp at h;omega
  clear h
  have hwj:=wr_succ (i:=j) (by omega)
  have hcj:=List.getElem?_eq_getElem hj2
  generalize W[j]=i at hcj
  rw [drop_of hcj] at hw
  obtain ⟨l,g1,g2,g3⟩:∃ l,lnk r.ls q=i∧r.ls[i]?=some l∧l.fr=q:=by
    rcases lnk_at r.ls q with h | ⟨i',l,g1,g2,g3⟩
    · rw [wayR_end h] at hw;cases hw
    · rw [wayR_step hr hq.1 g1 g2 g3] at hw
      obtain ⟨e,_⟩:=List.cons.inj hw
      subst e
      exact ⟨l,g1,g2,g3⟩
  have hil:=(List.getElem?_eq_some_iff.1 g2).1
  have hlk:=hr.l l (List.mem_of_getElem? g2)
  have k2:=hlk.o
  have k3:=hlk.t
  rw [wayR_step hr hq.1 g1 g2 g3] at hw
  obtain ⟨pj,px,p1,p2,p3,p4,p5,p6⟩:=pos_ok hlk.r
  have hmw2:=eL_len l.ws
  conv=>whnf
  refine ⟨by omega,eI (i:Int),by rw [Int.toNat_natCast,List.getElem?_map,List.getElem?_map,hcj];rfl,rfl,?_⟩
  conv=>whnf
  refine ⟨by omega,lkC l,by rw [Int.toNat_natCast,List.getElem?_map,g2];rfl,rfl,?_⟩
  conv=>whnf
  rw [g3]
  refine Fork.mk (fun h=>?_) (fun h=>?_)
  · have hge:t≤q:=by simpa using h
    clear h
    conv=>whnf
    refine Fork.mk (fun h=>?_) (fun h=>?_)
    · have hne:q ≠ t:=by simpa using h
      conv=>whnf
      exact kTrv hk (y:=(0,0,false,0)) (by rw [e0,hI.no (lagR_past hr _ q (Nat.le_refl _) hq.1 (by omega) hq.2)];rfl)
    have he:q=t:=by simpa using h
    subst he
    conv=>whnf
    exact kTrv hk (y:=(a,b,true,0)) (by rw [e0,hI.done];rfl)
  have hlt:¬ t≤q:=by simpa using h
  clear h
  have hI2:=hI.next hr (by omega) g1 g2 g3
  have w1:IntKind.i64.wrap (a+pos l.ws)=a+pos l.ws:=wrap_in (by omega) (by omega)
  have w2:IntKind.i64.wrap ((((eL l.ws).length:Nat):Int) - 1)=(l.ws.length:Int) - 1:=by rw [hmw2];exact wrap_in (by omega) (by omega)
  have w3:IntKind.i64.wrap (b+((l.ws.length:Int) - 1))=b+((l.ws.length:Int) - 1):=wrap_in (by omega) (by omega)
  conv=>whnf
  refine ⟨l.ws,rfl,by omega,?_⟩
  conv=>whnf
  rw [w1,w2,w3,hwj]
  exact ⟨(j+1,l.to,a+pos l.ws,b+((l.ws.length:Int) - 1)),⟨hj2,(List.cons.inj hw).2,hI2⟩,Shift.reset ⟨rfl,rfl,rfl,rfl,rfl,rfl,rfl,rfl,trivial⟩ ⟨rfl,trivial⟩ rfl rfl,by dsimp only;omega⟩
end Go.Proofs

namespace Go.Proofs
open Go Go.Abs
set_option linter.unusedSimpArgs false
set_option linter.unusedVariables false
set_option maxRecDepth 40000
def idxI (x:Int):Nat→Ls→Int
  | _,[]=>-1
  | i,y :: r=>if x=y then (i:Int) else idxI x (i+1) r
theorem idxI_any {x:Int}:∀ {l:Ls} {i:Nat},decide (0≤idxI x i l)=l.any (fun y=>decide (y=x))
  | [],i=>rfl
  | y :: r,i=>by
    rw [idxI,List.any_cons]
    by_cases h:x=y
    · rw [if_pos h]
      simp [h]
    · rw [if_neg h,idxI_any (l:=r)]
      have:¬ y=x:=fun e=>h e.symm
      simp [this]
def R_sidx:RT:=fun args k=>∃ (l:Ls) (x:Int),args=[.c (.lst (eL l)),I x]∧l.length≤9223372036854775807∧k (I (idxI x 0 l))
theorem rtrv_ok:FunR Tryz.prog 60 R_trv:=by
  intro args k h
  obtain ⟨r,f,t,rfl,hr,hk⟩:=h
  have hrf:=hr
  have hmk:=eK_len r.ls
  refine does_ex (qc:=qc1) (np:=[]) (CK:=ckK [(48,cSc R_rvE),(49,cSc R_within),(50,cSc R_lnk)]) mixed Tryz.func60 rfl rfl Tryz.ntmps60 Tryz.results60 τ_ok (by kernel_rfl) (ckK_ok ⟨cSc_ok rrvE_ok,cSc_ok rIn_ok,cSc_ok leav_ok,trivial⟩) (by simp) ?_
  conv=>whnf
  refine ⟨r,rfl,hr,?_⟩
  conv=>whnf
  refine Fork.mk (fun h=>?_) (fun h=>?_)
  · have h1:rvE r ≠ 0:=by simpa using h
    conv=>whnf
    exact kTrv hk (y:=(0,0,false,rvE r)) (by rw [trvS,if_pos h1])
  have h1:rvE r=0:=by simpa using h
  clear h
  have hr:=rvE_ok h1
  have hrl:=hr.len
  have hrn:=hr.n
  have e1:IntKind.i64.wrap (r.n - 1)=r.n - 1:=wrap_in (by omega) (by omega)
  conv=>whnf
  rw [e1]
  refine Fork.mk (fun h=>?_) (fun h=>?_)
  · have h2:inN r.n f=false:=by rw [Bool.not_eq_true'] at h;exact h
    conv=>whnf
    refine Fork.mk (fun _=>?_) (fun h=>by cases h)
    conv=>whnf
    exact kTrv hk (y:=(0,0,false,11)) (by rw [trvS,if_neg (by simp [h1]),if_pos h2])
  have h2:inN r.n f=true:=by rw [Bool.not_eq_false'] at h;exact h
  clear h
  conv=>whnf
  rw [e1]
  refine Fork.mk (fun h=>?_) (fun h=>?_)
  · have h3:inN r.n t=false:=by rw [Bool.not_eq_true'] at h;exact h
    conv=>whnf
    exact kTrv hk (y:=(0,0,false,11)) (by rw [trvS,if_neg (by simp [h1]),if_neg (by simp [h2]),if_pos h3])
  have h3:inN r.n t=true:=by rw [Bool.not_eq_false'] at h;exact h
  clear h
  have e0:trvS r f t=trvM (lagR r f t):=by rw [trvS,if_neg (by simp [h1]),if_neg (by simp [h2]),if_neg (by simp [h3])]
  have hf:0≤f∧f < r.n:=by simp [inN] at h2;omega
  conv=>whnf
  refine ⟨Int × Int × Int,fun y=>([(1,I y.1),(2,I t),(3,.c (.ptr (.l 3 0) 0)),(11,I y.2.1),(12,I y.2.2)],⟨[(.l 3 0,.blk (rvC r))],9,[]⟩),
    fun y=>lgI r f t y.1 y.2.1 y.2.2,fun y=>(r.n - y.1).toNat,(f,0,0),lgI.zero hf,Shift.rename [] ⟨rfl,rfl,rfl,rfl,rfl,trivial⟩ ⟨rfl,trivial⟩ rfl rfl rfl,fun y hI=>?_⟩
  obtain ⟨q,a,b⟩:=y
  have ha:=hI.ha
  have hb:=hI.hb
  have hq:=hI.hf
  dsimp only at ha hb hq hI ⊢
  conv=>whnf
  refine Fork.mk (fun h=>?_) (fun h=>?_)
  rotate_left
  · have he:q=t:=by simpa using h
    subst he
    conv=>whnf
    exact kTrv hk (y:=(a,b,true,0)) (by rw [e0,hI.done];rfl)
  have hne:q ≠ t:=by simpa using h
  clear h
  conv=>whnf
  refine ⟨r,q,rfl,by omega,?_⟩
  conv=>whnf
  refine Fork.mk (fun h=>?_) (fun h=>?_)
  · have hlt:lnk r.ls q < 0:=by simpa using h
    conv=>whnf
    exact kTrv hk (y:=(0,0,false,0)) (by rw [e0,hI.no (lagR_end hlt hne)];rfl)
  have hge:¬ lnk r.ls q < 0:=by simpa using h
  clear h
  obtain ⟨i,l,g1,g2,g3⟩:∃ (i:Nat) (l:Lk),lnk r.ls q=i∧r.ls[i]?=some l∧l.fr=q:=by
    rcases lnk_at r.ls q with h | h
    · exact absurd h hge
    · exact h
  have hil:=(List.getElem?_eq_some_iff.1 g2).1
  have hlk:=hr.l l (List.mem_of_getElem? g2)
  have k2:=hlk.o
  have k3:=hlk.t
  obtain ⟨pj,px,p1,p2,p3,p4,p5,p6⟩:=pos_ok hlk.r
  have hmw2:=eL_len l.ws
  have hI2:=hI.next hr hne g1 g2 g3
  rw [g1]
  conv=>whnf
  refine ⟨by omega,lkC l,by rw [Int.toNat_natCast,List.getElem?_map,g2];rfl,rfl,?_⟩
  conv=>whnf
  refine ⟨Nat,fun k=>([(2,I t),(3,.c (.ptr (.l 3 0) 0)),(11,I a),(12,I b),(14,.c (.ptr (.l 14 9) 0)),(15,I k)],⟨[(.l 3 0,.blk (rvC r)),(.l 14 9,.blk (lkC l))],20,[]⟩),
    fun k=>k≤pj,fun k=>pj - k,0,Nat.zero_le _,Shift.rename [] ⟨rfl,rfl,rfl,rfl,rfl,rfl,trivial⟩ ⟨rfl,rfl,trivial⟩ rfl rfl rfl,fun k hk2=>?_⟩
  dsimp only
  have hwk:=wr_succ (i:=k) (by omega)
  have hck:=List.getElem?_eq_getElem (show k < l.ws.length by omega)
  conv=>whnf
  refine ⟨by omega,eI (l.ws[k]'(by omega)),by rw [Int.toNat_natCast,List.getElem?_map,hck];rfl,rfl,?_⟩
  conv=>whnf
  refine Fork.mk (fun h=>?_) (fun h=>?_)
  · have hz:l.ws[k]'(by omega)=0:=by simpa using h
    have hk3:k < pj:=by
      rcases Nat.lt_or_ge k pj with e | e
      · exact e
      · have e:k=pj:=by omega
        subst e
        rw [hck] at p1
        have:=Option.some.inj p1
        omega
    conv=>whnf
    rw [hwk]
    exact ⟨k+1,hk3,Shift.reset ⟨rfl,rfl,rfl,rfl,rfl,rfl,trivial⟩ ⟨rfl,rfl,trivial⟩ rfl rfl,by omega⟩
  have hz:¬ l.ws[k]'(by omega)=0:=by simpa using h
  have hkp:k=pj:=by
    rcases Nat.lt_or_ge k pj with e | e
    · exact absurd (p6 k _ e hck) hz
    · omega
  clear h
  subst hkp
  rw [p3] at hI2
  have w1:IntKind.i64.wrap (a+(k:Int))=a+(k:Int):=wrap_in (by omega) (by omega)
  have w2:IntKind.i64.wrap (b+(((eL l.ws).length:Nat):Int))=b+(l.ws.length:Int):=by rw [hmw2];exact wrap_in (by omega) (by omega)
  have w3:IntKind.i64.wrap (b+(l.ws.length:Int) - 1)=b+((l.ws.length:Int) - 1):=by rw [wrap_in (by omega) (by omega)];omega
  conv=>whnf
  rw [w1,w2,w3]
  exact ⟨(l.to,a+(k:Int),b+((l.ws.length:Int) - 1)),hI2,Shift.reset ⟨rfl,rfl,rfl,rfl,rfl,trivial⟩ ⟨rfl,trivial⟩ rfl rfl,by dsimp only;omega⟩
theorem sidx_ok:FunR Tryz.prog 86 R_sidx:=by
  intro args k h
  obtain ⟨l,x,rfl,hl,hk⟩:=h
  have hm:=eL_len l
  refine does_ex (qc:=qc1) (np:=[]) (CK:=ckK []) mixed Tryz.func86 rfl rfl Tryz.ntmps86 Tryz.results86 τ_ok (by kernel_rfl) (ckK_ok trivial) (by simp) ?_
  conv=>whnf
  refine ⟨Nat,fun i=>([(0,.c (.lst (eL l))),(1,I x),(7,I (eL l).length),(8,I i)],⟨[],9,[]⟩),
    fun i=>i≤l.length∧idxI x 0 l=idxI x i (l.drop i),fun i=>l.length - i,0,⟨Nat.zero_le _,rfl⟩,Shift.reset ⟨rfl,rfl,rfl,rfl,trivial⟩ trivial rfl rfl,fun i hi=>?_⟩
  obtain ⟨hi1,hi2⟩:=hi
  dsimp only
  conv=>whnf
  refine Fork.mk (fun h=>?_) (fun h=>?_)
  rotate_left
  · have hie:i=l.length:=by simp at h;omega
    rw [hie,List.drop_length] at hi2
    rw [hi2] at hk
    conv=>whnf
    exact hk
  have hi:i < l.length:=by simp at h;omega
  clear h
  have hci:=List.getElem?_eq_getElem hi
  generalize l[i]=y at hci
  rw [drop_of hci,idxI] at hi2
  have hw1:=wr_succ (i:=i) (by omega)
  conv=>whnf
  refine ⟨by omega,eI y,by rw [Int.toNat_natCast,List.getElem?_map,hci];rfl,rfl,?_⟩
  conv=>whnf
  refine Fork.mk (fun h=>?_) (fun h=>?_)
  · rw [if_pos (by simpa using h)] at hi2
    rw [hi2] at hk
    conv=>whnf
    exact hk
  rw [if_neg (by simpa using h)] at hi2
  conv=>whnf
  rw [hw1]
  exact ⟨i+1,⟨hi,hi2⟩,Shift.reset ⟨rfl,rfl,rfl,rfl,trivial⟩ trivial rfl rfl,by omega⟩
theorem scon_ok:FunR Tryz.prog 54 R_has:=by
  intro args k h
  obtain ⟨l,x,rfl,hl,hk⟩:=h
  refine does_ex (qc:=qc1) (np:=[]) (CK:=ckK [(86,cSc R_sidx)]) mixed Tryz.func54 rfl rfl Tryz.ntmps54 Tryz.results54 τ_ok (by kernel_rfl) (ckK_ok ⟨cSc_ok sidx_ok,trivial⟩) (by simp) ?_
  conv=>whnf
  refine ⟨l,x,rfl,hl,?_⟩
  conv=>whnf
  rw [show decide (0≤idxI x 0 l)=l.any (fun y=>decide (y=x)) from idxI_any]
  exact hk
end Go.Proofs

namespace Go.Proofs
open Go Go.Abs
set_option linter.unusedSimpArgs false
set_option linter.unusedVariables false
set_option maxRecDepth 40000
theorem lags_err {c:Cs} {i m:Int} (h:(bwS c i).2 ≠ 0):lagsS c i m=(0,0,(bwS c i).2):=by
  unfold bwS at h ⊢
  unfold lagsS
  split
  · rfl
  rename_i h1
  rw [if_neg h1] at h
  split
  · rfl
  rename_i h2
  rw [if_neg h2] at h
  split
  · rfl
  rename_i h3
  rw [if_neg h3] at h
  exact absurd rfl h
theorem bw_good {c:Cs} {i:Int} (h:(bwS c i).2=0):csE c=0∧0≤i∧i < c.si.length∧(bwS c i).1=belF c i.toNat:=by
  unfold bwS at h ⊢
  split at h
  · rename_i h1;exact absurd h h1
  rename_i h1
  split at h
  · cases h
  rename_i h2
  split at h
  · cases h
  rename_i h3
  rw [if_neg h1,if_neg h2,if_neg h3]
  exact ⟨by omega,by omega,by omega,rfl⟩
theorem lags_no {c:Cs} {i m:Int} (h1:csE c=0) (h2:0≤i) (h3:i < c.si.length) (h:(belF c i.toNat).any (fun y=>decide (y=m))=false):lagsS c i m=(0,0,41):=by
  rw [lagsS,if_neg (by simp [h1]),if_neg (by omega),if_neg (by omega),if_pos h]
theorem lags_yes {c:Cs} {i m:Int} {x:Si} (h1:csE c=0) (h2:0≤i) (h3:i < c.si.length) (h:(belF c i.toNat).any (fun y=>decide (y=m))=true) (hx:c.si[i.toNat]?=some x):trvS c.rv x.nd m=trvM (lagR c.rv x.nd m) ∧
    lagsS c i m=((trvS c.rv x.nd m).1,(trvS c.rv x.nd m).2.1,0)∧(trvS c.rv x.nd m).2.2.2=0:=by
  have hc:=csE_ok h1
  have hm:=bel_in hc hx h
  have hxn:=(hc.s x (List.mem_of_getElem? hx)).1
  have e:trvS c.rv x.nd m=trvM (lagR c.rv x.nd m):=by rw [trvS,if_neg (by simp [rvE_of hc.r]),if_neg (by simp [inN];omega),if_neg (by simp [inN];omega)]
  refine ⟨e,?_,?_⟩
  · rw [e,lagsS,if_neg (by simp [h1]),if_neg (by omega),if_neg (by omega),if_neg (by simp [h]),hx]
    dsimp only
    cases lagR c.rv x.nd m <;> rfl
  · rw [e]
    cases lagR c.rv x.nd m <;> rfl
theorem lags_ok:FunR Tryz.prog 29 R_lags:=by
  intro args k h
  obtain ⟨c,i,m,rfl,hc,hk⟩:=h
  have hmx:=eX_len c.si
  refine does_ex (qc:=qc1) (np:=[]) (CK:=ckK [(20,cPu R_bw),(54,cSc R_has),(55,cSc R_trv)]) mixed Tryz.func29 rfl rfl Tryz.ntmps29 Tryz.results29 τ_ok (by kernel_rfl) (ckK_ok ⟨cPu_ok bel_ok rfl,cSc_ok scon_ok,cSc_ok jtrv_ok,trivial⟩) (by simp) ?_
  conv=>whnf
  refine ⟨c,i,rfl,hc,?_⟩
  conv=>whnf
  refine Fork.mk (fun h=>?_) (fun h=>?_)
  · have h1:(bwS c i).2 ≠ 0:=by simpa using h
    conv=>whnf
    exact kLg (y:=(0,0,(bwS c i).2)) hk (lags_err h1)
  have h1:(bwS c i).2=0:=by simpa using h
  clear h
  obtain ⟨b1,b2,b3,b4⟩:=bw_good h1
  have hok:=csE_ok b1
  have hbl:=belF_len hok i.toNat
  rw [b4]
  conv=>whnf
  refine ⟨belF c i.toNat,m,rfl,by omega,?_⟩
  conv=>whnf
  refine Fork.mk (fun h=>?_) (fun h=>?_)
  · have h2:(belF c i.toNat).any (fun y=>decide (y=m))=false:=by rw [Bool.not_eq_true'] at h;exact h
    conv=>whnf
    exact kLg (y:=(0,0,41)) hk (lags_no b1 b2 b3 h2)
  have h2:(belF c i.toNat).any (fun y=>decide (y=m))=true:=by rw [Bool.not_eq_false'] at h;exact h
  clear h
  obtain ⟨x,hx⟩:∃ x,c.si[i.toNat]?=some x:=⟨_,List.getElem?_eq_getElem (by omega)⟩
  obtain ⟨_,t2,t3⟩:=lags_yes b1 b2 b3 h2 hx
  conv=>whnf
  refine ⟨by omega,siC x,by rw [List.getElem?_map,hx];rfl,rfl,?_⟩
  conv=>whnf
  refine ⟨c.rv,x.nd,m,rfl,hc.r,?_⟩
  conv=>whnf
  rw [t3]
  refine Fork.mk (fun h=>absurd h (by decide)) (fun _=>?_)
  conv=>whnf
  exact kLg (y:=((trvS c.rv x.nd m).1,(trvS c.rv x.nd m).2.1,0)) hk t2
theorem rlags_ok:FunR Tryz.prog 35 R_lags:=by
  intro args k h
  obtain ⟨c,i,m,rfl,hc,hk⟩:=h
  have hmx:=eX_len c.si
  refine does_ex (qc:=qc1) (np:=[]) (CK:=ckK [(34,cPu R_bw),(60,cSc R_trv)]) mixed Tryz.func35 rfl rfl Tryz.ntmps35 Tryz.results35 τ_ok (by kernel_rfl) (ckK_ok ⟨cPu_ok rbel_ok rfl,cSc_ok rtrv_ok,trivial⟩) (by simp) ?_
  conv=>whnf
  refine ⟨c,i,rfl,hc,?_⟩
  conv=>whnf
  refine Fork.mk (fun h=>?_) (fun h=>?_)
  · have h1:(bwS c i).2 ≠ 0:=by simpa using h
    conv=>whnf
    exact kLg (y:=(0,0,(bwS c i).2)) hk (lags_err h1)
  have h1:(bwS c i).2=0:=by simpa using h
  clear h
  obtain ⟨b1,b2,b3,b4⟩:=bw_good h1
  have hok:=csE_ok b1
  have hbl:=belF_len hok i.toNat
  rw [b4]
  obtain ⟨x,hx⟩:∃ x,c.si[i.toNat]?=some x:=⟨_,List.getElem?_eq_getElem (by omega)⟩
  have hyes:=fun h=>lags_yes (m:=m) b1 b2 b3 h hx
  have hno:=fun h=>lags_no (m:=m) b1 b2 b3 h
  generalize belF c i.toNat=L at hbl hyes hno
  have hmL:=eL_len L
  conv=>whnf
  refine ⟨Nat,fun j=>([(1,I i),(2,I m),(3,.c (.ptr (.l 3 0) 0)),(26,.c (.lst (eL L))),(27,I (eL L).length),(28,I j)],⟨[(.l 3 0,.blk (csC c))],9,[]⟩),
    fun j=>j≤L.length∧L.any (fun y=>decide (y=m))=(L.drop j).any (fun y=>decide (y=m)),fun j=>L.length - j,0,⟨Nat.zero_le _,rfl⟩,Shift.rename [] ⟨rfl,rfl,rfl,rfl,rfl,rfl,trivial⟩ ⟨rfl,trivial⟩ rfl rfl rfl,fun j hj=>?_⟩
  obtain ⟨hj,hd⟩:=hj
  dsimp only
  conv=>whnf
  refine Fork.mk (fun h=>?_) (fun h=>?_)
  rotate_left
  · have hje:j=L.length:=by simp at h;omega
    clear h
    rw [hje,List.drop_length] at hd
    conv=>whnf
    exact kLg (y:=(0,0,41)) hk (hno hd)
  have hj2:j < L.length:=by simp at h;omega
  clear h
  have hwj:=wr_succ (i:=j) (by omega)
  have hcj:=List.getElem?_eq_getElem hj2
  generalize L[j]=y at hcj
  rw [drop_of hcj,List.any_cons] at hd
  conv=>whnf
  refine ⟨by omega,eI y,by rw [Int.toNat_natCast,List.getElem?_map,hcj];rfl,rfl,?_⟩
  conv=>whnf
  refine Fork.mk (fun h=>?_) (fun h=>?_)
  · rw [h,Bool.true_or] at hd
    obtain ⟨_,t2,t3⟩:=hyes hd
    conv=>whnf
    refine ⟨by omega,siC x,by rw [List.getElem?_map,hx];rfl,rfl,?_⟩
    conv=>whnf
    refine ⟨c.rv,x.nd,m,rfl,hc.r,?_⟩
    conv=>whnf
    rw [t3]
    exact kLg (y:=((trvS c.rv x.nd m).1,(trvS c.rv x.nd m).2.1,0)) hk t2
  rw [h,Bool.false_or] at hd
  conv=>whnf
  rw [hwj]
  exact ⟨j+1,⟨hj2,hd⟩,Shift.reset ⟨rfl,rfl,rfl,rfl,rfl,rfl,trivial⟩ ⟨rfl,trivial⟩ rfl rfl,by omega⟩
end Go.Proofs

/- What two sides answer alike, as one value. No program. -/
namespace Go.Proofs
open Go Go.Abs
set_option linter.unusedSimpArgs false
set_option linter.unusedVariables false
def foL:Except Int (List Ls)→List Ls
  | .error _=>[]
  | .ok r=>r
def foE:Except Int (List Ls)→Int
  | .error e=>e
  | .ok _=>0
theorem foA_eq (x:Except Int (List Ls)):foA x=.tup [.c (.lst (eLw (foL x))),I (foE x)]:=by cases x <;> rfl
theorem flG_vf {c:Cs} (hr:RvOk c.rv):∀ {lvs locs w r:List Ls},WvOk c.rv w→flG c w lvs locs=.ok r→r.length≤lvs.length∧∀ a ∈ r,(a.length:Int)=c.rv.n
  | [],locs,w,r,_,h=>by
    have:r=[]:=by unfold flG at h;cases h;rfl
    subst this
    exact ⟨Nat.le_refl _,fun a h=>by simp at h⟩
  | l :: lvs,[],w,r,_,h=>by
    have:r=[]:=by unfold flG at h;cases h;rfl
    subst this
    exact ⟨Nat.zero_le _,fun a h=>by simp at h⟩
  | l :: lvs,m :: locs,w,r,hw,h=>by
    unfold flG at h
    cases s1:stX c w l m with
    | error e=>rw [s1] at h;cases h
    | ok x =>
    rw [s1] at h
    dsimp only at h
    cases r1:flG c x.1 lvs locs with
    | error e=>rw [r1] at h;cases h
    | ok a =>
    rw [r1] at h
    cases h
    obtain ⟨f1,f2,f3,_⟩:=stX_fit hr hw s1
    obtain ⟨i1,i2⟩:=flG_vf hr f1 r1
    refine ⟨by simp;omega,fun b hb=>?_⟩
    rcases List.mem_cons.1 hb with rfl | hb
    · rw [f2];exact f3
    · exact i2 b hb
theorem foX_vf (c:Cs) (w:Fl) (lvs locs:List Ls):vfin (foL (foX c w lvs locs)):=by
  have nil:vfin (foL (.error 0)):=⟨by simp [foL],fun p h=>by simp [foL] at h⟩
  unfold foX
  split
  · exact nil
  rename_i h1
  split
  · exact nil
  rename_i h2
  split
  · exact nil
  rename_i h3
  cases h:flG c w.ws lvs locs with
  | error e=>exact nil
  | ok r =>
    have hv:VaOk c w:=by
      have h1:rdyE c w=0:=by omega
      unfold rdyE at h1
      split at h1
      · rename_i g;exact absurd h1 g
      split at h1
      · cases h1
      · rename_i g;exact vaB_ok (by simpa using g)
    obtain ⟨a,b⟩:=flG_vf hv.k.r hv.w h
    have:=hv.k.n
    exact ⟨by show r.length≤_;omega,fun p hp=>by have:=b p hp;omega⟩
def qC (x:List Ls × List Ls):List Cell:=[.lst (eLw x.1),.lst (eLw x.2)]
abbrev eQ2 (l:List (List Ls × List Ls)):List (List Cell):=l.map qC
abbrev eF (l:List Fl):List (List Cell):=l.map flC
end Go.Proofs
