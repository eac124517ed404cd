/- Proved here: what functions of the given program come to, and the plain laws of it; no condition but those in the theorems. -/
import Derived.Test.YtgllikepncnpkaaGreatA34n
namespace Go.Proofs
open Go Go.Abs
set_option linter.unusedSimpArgs false
set_option linter.unusedVariables false
set_option maxRecDepth 20000
theorem rdyE_ok {c:Cs} {s:Fl} (h:rdyE c s=0):VaOk c s:=by
  unfold rdyE at h
  split at h
  · rename_i e;exact absurd h e
  split at h
  · cases h
  · rename_i e;exact vaB_ok (by simpa using e)
theorem follow_ok:FunR Tryz.prog 17 R_fo:=by
  intro args k h
  obtain ⟨c,s,lvs,locs,rfl,hc,hs,hvl,hvm,hk⟩:=h
  have hml:=eLw_len lvs
  have hmm:=eLw_len locs
  refine does_ex (qc:=qc1) (np:=[]) (CK:=ckK [(41,cSc (R_cfI rdyE)),(42,cOr (cPu R_clW0) (cA R_clW1)),(43,cOr (cPu R_stT0) (cG (R_stT 85)))]) mixed Tryz.func17 rfl rfl Tryz.ntmps17 Tryz.results17 τ_ok (by kernel_rfl) (ckK_ok ⟨cSc_ok ready_ok,cOr_ok (cPu_ok clW0_ok rfl) (cA_ok clW1_ok rfl),cOr_ok (cPu_ok stT0_ok rfl) (cG_ok stT_ok rfl),trivial⟩) (by simp) ?_
  conv=>whnf
  refine ⟨c,s,rfl,hc,hs,?_⟩
  conv=>whnf
  refine Fork.mk (fun h=>?_) (fun h=>?_)
  · have h1:rdyE c s ≠ 0:=by simpa using h
    conv=>whnf
    exact kFo (y:=.error (rdyE c s)) hk (by rw [foX,if_pos h1])
  have h1:rdyE c s=0:=by simpa using h
  have hva:=rdyE_ok h1
  have hr:=hva.k.r
  have hrl:=hr.len
  have hwl:=hva.w.l
  clear h
  conv=>whnf
  refine Fork.mk (fun h=>?_) (fun h=>?_)
  · have h2:lvs.length ≠ locs.length:=by simp at h;omega
    conv=>whnf
    exact kFo (y:=.error 3) hk (by rw [foX,if_neg (by simp [h1]),if_pos h2])
  have h2:lvs.length=locs.length:=by simp at h;omega
  clear h
  conv=>whnf
  refine Fork.mk (fun h=>?_) (fun h=>?_)
  · have h3:400 < lvs.length:=by simp at h;omega
    conv=>whnf
    exact kFo (y:=.error 10) hk (by rw [foX,if_neg (by simp [h1]),if_neg (by simp [h2]),if_pos h3])
  have h3:¬ 400 < lvs.length:=by simp at h;omega
  clear h
  have e0:foX c s lvs locs=flG c s.ws lvs locs:=by rw [foX,if_neg (by simp [h1]),if_neg (by simp [h2]),if_neg h3]
  rw [e0] at hk
  clear e0
  conv=>whnf
  cases hws:s.ws with
  | nil =>
    have hls:c.rv.ls=[]:=List.eq_nil_of_length_eq_zero (by rw [← hwl,hws];rfl)
    refine Or.inl ?_
    conv=>whnf
    refine ⟨rfl,?_⟩
    conv=>whnf
    refine ⟨List Ls × List Ls × Nat,fun y=>([(3,.c (.lst (eLw locs))),(4,.c (.ptr (.l 4 0) 0)),(11,.c (.lst [])),(12,.c (.view (.l 58 2) 0 y.2.1.length)),(34,.c (.lst (eLw lvs))),(35,I (eLw lvs).length),(36,I y.2.2)],⟨[(.l 4 0,.blk (csC c)),(.l 58 2,.arr 22 1 (eLw y.2.1) false)],20,[]⟩),
      fun y=>y.2.2≤lvs.length∧flG c s.ws lvs locs=preL y.2.1 (flG c y.1 (lvs.drop y.2.2) (locs.drop y.2.2))∧WvOk c.rv y.1∧y.2.1.length=y.2.2,fun y=>lvs.length - y.2.2,(s.ws,[],0),⟨Nat.zero_le _,preL_nil _,hva.w,rfl⟩,Shift.trans (Shift.rename [] ⟨rfl,rfl,rfl,rfl,rfl,rfl,rfl,trivial⟩ ⟨rfl,rfl,trivial⟩ rfl rfl rfl) (Shift.nilArr (t:=12) rfl 58 22 1),fun y hy=>?_⟩
    obtain ⟨w',o,j⟩:=y
    obtain ⟨hj,hrun,hw',hol⟩:=hy
    dsimp only at hj hrun hw' hol ⊢
    have hwl':=hw'.l
    have hmo:=eLw_len o
    have hmw':=eV_len w'
    conv=>whnf
    refine Fork.mk (fun h=>?_) (fun h=>?_)
    rotate_left
    · have hje:j=lvs.length:=by simp at h;omega
      rw [hje,List.drop_length] at hrun
      have t1:List.take o.length (List.drop 0 (eLw o))=eLw o:=by rw [List.drop_zero,List.take_of_length_le (by omega)]
      conv=>whnf
      refine ⟨by omega,?_⟩
      conv=>whnf
      rw [t1]
      exact kFo (y:=.ok o) hk (by rw [hrun];simp [preL,flG])
    have hjl:j < lvs.length:=by simp at h;omega
    clear h
    have hcj:=List.getElem?_eq_getElem hjl
    have hcm:=List.getElem?_eq_getElem (show j < locs.length by omega)
    have hll:=hvl.2 _ (List.getElem_mem hjl)
    have hlm:=hvm.2 _ (List.getElem_mem (show j < locs.length by omega))
    generalize lvs[j]=l at hcj hll
    generalize locs[j]=m at hcm hlm
    rw [dropC hcj,dropC hcm] at hrun
    have hw1:=wr_succ (i:=j) (by omega)
    conv=>whnf
    refine ⟨by omega,lwC l,by rw [Int.toNat_natCast,List.getElem?_map,hcj];rfl,rfl,?_⟩
    conv=>whnf
    refine ⟨by omega,lwC m,by rw [Int.toNat_natCast,List.getElem?_map,hcm];rfl,rfl,?_⟩
    conv=>whnf
    refine Or.inl ?_
    conv=>whnf
    have hw0:w'=[]:=List.eq_nil_of_length_eq_zero (by rw [hwl',hls];rfl)
    subst hw0
    refine ⟨c,l,m,rfl,hva.k,hls,hll,hlm,fun x hx=>?_,fun e hx=>?_⟩
    · obtain ⟨f1,f2,_⟩:=stX_fit hr hw' hx
      rw [flG_ok hx,preL_app] at hrun
      obtain ⟨xw,xa⟩:=x
      dsimp only at f1 f2 hrun
      have hol2:=hol
      conv=>whnf
      repeat' ((first | refine fork_t ?_ | refine fork_f ?_ | (refine Fork.mk (fun h=>?_) (fun h=>?_);focus (simp at h;done)) | fail) <;> (conv=>whnf))
      refine ⟨by simp,?_⟩
      conv=>whnf
      refine ⟨rfl,?_⟩
      conv=>whnf
      refine ⟨⟨rfl,rfl,rfl,hmo.symm,by rw [hmo];simp;omega⟩,?_⟩
      conv=>whnf
      rw [hw1]
      refine ⟨(xw,o ++ [xa],j+1),⟨hjl,hrun,f1,by simp [hol]⟩,Shift.rename [(.l 58 2,.l 58 21)] ⟨rfl,rfl,rfl,?_,rfl,rfl,rfl,trivial⟩ ⟨rfl,?_,trivial⟩ rfl rfl rfl,by dsimp only;omega⟩
      · dsimp only;rw [List.length_append,← hmo];rfl
      · dsimp only;rw [show eLw (o ++ [xa])=eLw o ++ [lwC xa] from List.map_append];rfl
    · have he:=stX_err hx
      rw [flG_err hx] at hrun
      have hk2:k (foA (.error e)):=kFo hk hrun
      conv=>whnf
      rcases he with rfl | rfl
      · repeat' ((first | refine fork_t ?_ | refine fork_f ?_ | (refine Fork.mk (fun h=>?_) (fun h=>?_);focus (simp at h;done)) | fail) <;> (conv=>whnf))
        exact hk2
      · repeat' ((first | refine fork_t ?_ | refine fork_f ?_ | (refine Fork.mk (fun h=>?_) (fun h=>?_);focus (simp at h;done)) | fail) <;> (conv=>whnf))
        exact hk2
  | cons p0 r0 =>
    have hwn:1≤s.ws.length:=by rw [hws];simp
    rw [← hws]
    refine Or.inr ?_
    conv=>whnf
    refine ⟨s.ws,rfl,hwn,by omega,?_⟩
    conv=>whnf
    refine ⟨List Ls × List Ls × Nat,fun y=>([(3,.c (.lst (eLw locs))),(4,.c (.ptr (.l 4 0) 0)),(11,.c (.view (.l 33 2) 0 s.ws.length)),(12,.c (.view (.l 58 3) 0 y.2.1.length)),(34,.c (.lst (eLw lvs))),(35,I (eLw lvs).length),(36,I y.2.2)],⟨[(.l 4 0,.blk (csC c)),(.l 33 2,.arr 85 1 (eV y.1) false),(.l 58 3,.arr 22 1 (eLw y.2.1) false)],20,[]⟩),
      fun y=>y.2.2≤lvs.length∧flG c s.ws lvs locs=preL y.2.1 (flG c y.1 (lvs.drop y.2.2) (locs.drop y.2.2))∧WvOk c.rv y.1∧y.2.1.length=y.2.2,fun y=>lvs.length - y.2.2,(s.ws,[],0),⟨Nat.zero_le _,preL_nil _,hva.w,rfl⟩,Shift.trans (Shift.rename [] ⟨rfl,rfl,rfl,rfl,rfl,rfl,rfl,trivial⟩ ⟨rfl,rfl,rfl,trivial⟩ rfl rfl rfl) (Shift.nilArr (t:=12) rfl 58 22 1),fun y hy=>?_⟩
    obtain ⟨w',o,j⟩:=y
    obtain ⟨hj,hrun,hw',hol⟩:=hy
    dsimp only at hj hrun hw' hol ⊢
    have hwl':=hw'.l
    have hmo:=eLw_len o
    have hmw':=eV_len w'
    conv=>whnf
    refine Fork.mk (fun h=>?_) (fun h=>?_)
    rotate_left
    · have hje:j=lvs.length:=by simp at h;omega
      rw [hje,List.drop_length] at hrun
      have t1:List.take o.length (List.drop 0 (eLw o))=eLw o:=by rw [List.drop_zero,List.take_of_length_le (by omega)]
      conv=>whnf
      refine ⟨by omega,?_⟩
      conv=>whnf
      rw [t1]
      exact kFo (y:=.ok o) hk (by rw [hrun];simp [preL,flG])
    have hjl:j < lvs.length:=by simp at h;omega
    clear h
    have hcj:=List.getElem?_eq_getElem hjl
    have hcm:=List.getElem?_eq_getElem (show j < locs.length by omega)
    have hll:=hvl.2 _ (List.getElem_mem hjl)
    have hlm:=hvm.2 _ (List.getElem_mem (show j < locs.length by omega))
    generalize lvs[j]=l at hcj hll
    generalize locs[j]=m at hcm hlm
    rw [dropC hcj,dropC hcm] at hrun
    have hw1:=wr_succ (i:=j) (by omega)
    conv=>whnf
    refine ⟨by omega,lwC l,by rw [Int.toNat_natCast,List.getElem?_map,hcj];rfl,rfl,?_⟩
    conv=>whnf
    refine ⟨by omega,lwC m,by rw [Int.toNat_natCast,List.getElem?_map,hcm];rfl,rfl,?_⟩
    conv=>whnf
    refine Or.inr ?_
    conv=>whnf
    refine ⟨[.l 33 2],rfl,?_⟩
    conv=>whnf
    refine ⟨rfl,?_⟩
    conv=>whnf
    refine ⟨rfl,?_⟩
    conv=>whnf
    refine ⟨c,l,m,w',?_,rfl,hva.k,hw',hll,hlm,fun x hx=>?_,fun e hx w2 hw2=>?_⟩
    · rw [show w'.length=s.ws.length by omega];rfl
    · obtain ⟨f1,f2,_⟩:=stX_fit hr hw' hx
      have f3:=f1.l
      rw [flG_ok hx,preL_app] at hrun
      obtain ⟨xw,xa⟩:=x
      dsimp only at f1 f2 f3 hrun
      have hol2:=hol
      conv=>whnf
      repeat' ((first | refine fork_t ?_ | refine fork_f ?_ | (refine Fork.mk (fun h=>?_) (fun h=>?_);focus (simp at h;done)) | fail) <;> (conv=>whnf))
      refine ⟨by simp,?_⟩
      conv=>whnf
      refine ⟨rfl,?_⟩
      conv=>whnf
      refine ⟨⟨rfl,rfl,rfl,hmo.symm,by rw [hmo];simp;omega⟩,?_⟩
      conv=>whnf
      rw [hw1]
      refine ⟨(xw,o ++ [xa],j+1),⟨hjl,hrun,f1,by simp [hol]⟩,Shift.rename [(.l 58 3,.l 58 21)] ⟨rfl,rfl,?_,?_,rfl,rfl,rfl,trivial⟩ ⟨rfl,rfl,?_,trivial⟩ rfl rfl rfl,by dsimp only;omega⟩
      · first | rfl | (dsimp only;rw [show xw.length=s.ws.length by omega];rfl)
      · dsimp only;rw [List.length_append,← hmo];rfl
      · dsimp only;rw [show eLw (o ++ [xa])=eLw o ++ [lwC xa] from List.map_append];rfl
    · have he:=stX_err hx
      rw [flG_err hx] at hrun
      have hk2:k (foA (.error e)):=kFo hk hrun
      conv=>whnf
      rcases he with rfl | rfl
      · repeat' ((first | refine fork_t ?_ | refine fork_f ?_ | (refine Fork.mk (fun h=>?_) (fun h=>?_);focus (simp at h;done)) | fail) <;> (conv=>whnf))
        exact hk2
      · repeat' ((first | refine fork_t ?_ | refine fork_f ?_ | (refine Fork.mk (fun h=>?_) (fun h=>?_);focus (simp at h;done)) | fail) <;> (conv=>whnf))
        exact hk2
end Go.Proofs

namespace Go.Proofs
open Go Go.Abs
set_option linter.unusedSimpArgs false
set_option linter.unusedVariables false
set_option maxRecDepth 20000
def R_ints:RT:=fun args k=>∃ a b:Ls,args=[.c (.lst (eL a)),.c (.lst (eL b))]∧a.length≤9223372036854775807∧k (Bo (decide (a=b)))
theorem ints_ok:FunR Tryz.prog 22 R_ints:=by
  intro args k h
  obtain ⟨a,b,rfl,hl,hk⟩:=h
  have hma:=eL_len a
  have hmb:=eL_len b
  refine does_ex (qc:=qc1) (np:=[]) (CK:=ckK []) mixed Tryz.func22 rfl rfl Tryz.ntmps22 Tryz.results22 τ_ok (by kernel_rfl) (ckK_ok trivial) (by simp) ?_
  conv=>whnf
  refine Fork.mk (fun h=>?_) (fun h=>?_)
  · have h1:a ≠ b:=fun e=>by subst e;simp at h
    conv=>whnf
    rw [decide_eq_false h1] at hk
    exact hk
  · have h1:a.length=b.length:=by simp at h;omega
    conv=>whnf
    refine ⟨Nat,fun i=>([(0,.c (.lst (eL a))),(1,.c (.lst (eL b))),(12,I (eL a).length),(13,I i)],⟨[],0,[]⟩),fun i=>i≤a.length∧a.take i=b.take i,fun i=>a.length - i,0,⟨Nat.zero_le _,rfl⟩,
      Shift.reset ⟨rfl,rfl,rfl,rfl,trivial⟩ trivial rfl rfl,fun i hi=>?_⟩
    obtain ⟨hi1,hi2⟩:=hi
    dsimp only
    conv=>whnf
    refine Fork.mk (fun h=>?_) (fun h=>?_)
    · have hi:i < a.length:=by simp at h;omega
      have hib:i < b.length:=by omega
      have hata:=List.getElem?_eq_getElem hi
      have hatb:=List.getElem?_eq_getElem hib
      have e1:a.take (i+1)=a.take i ++ [a[i]]:=(List.take_append_getElem hi).symm
      have e2:b.take (i+1)=b.take i ++ [b[i]]:=(List.take_append_getElem hib).symm
      have hx:a[i] ≠ b[i]→a ≠ b:=fun h e=>by subst e;exact h rfl
      generalize a[i]=x at hata e1 hx
      generalize b[i]=y at hatb e2 hx
      conv=>whnf
      refine ⟨by omega,eI x,by rw [Int.toNat_natCast,List.getElem?_map,hata];rfl,rfl,?_⟩
      conv=>whnf
      refine ⟨by omega,eI y,by rw [Int.toNat_natCast,List.getElem?_map,hatb];rfl,rfl,?_⟩
      conv=>whnf
      refine Fork.mk (fun h=>?_) (fun h=>?_)
      · have hxy:x ≠ y:=by simpa using h
        conv=>whnf
        rw [decide_eq_false (hx hxy)] at hk
        exact hk
      · have hxy:x=y:=by simpa using h
        conv=>whnf
        rw [wr_succ (i:=i) (by omega)]
        refine ⟨i+1,⟨hi,by rw [e1,e2,hi2,hxy]⟩,Shift.reset ⟨rfl,rfl,rfl,rfl,trivial⟩ trivial rfl rfl,?_⟩
        show a.length - (i+1) < a.length - i
        omega
    · have hie:i=a.length:=by simp at h;omega
      subst hie
      rw [List.take_length,h1,List.take_length] at hi2
      rw [decide_eq_true hi2] at hk
      conv=>whnf
      exact hk
def R_few:RT:=fun args k=>∃ l:Ls,args=[.c (.lst (eL l))]∧k (Bo (decide (l.length≤500)))
theorem few_ok:FunR Tryz.prog 10 R_few:=by
  intro args k h
  obtain ⟨l,rfl,hk⟩:=h
  have hm:=eL_len l
  refine does_ex (qc:=qc1) (np:=[]) (CK:=ckK []) mixed Tryz.func10 rfl rfl Tryz.ntmps10 Tryz.results10 τ_ok (by kernel_rfl) (ckK_ok trivial) (by simp) ?_
  conv=>whnf
  rw [show decide (l.length≤500)=decide (((eL l).length:Int)≤500) by rw [hm];simp;omega] at hk
  exact hk
def R_sameL:RT:=fun args k=>∃ a b:List Ls,args=[.c (.lst (eLw a)),.c (.lst (eLw b))]∧vfin a∧k (Bo (decide (a=b)))
theorem sameL_ok:FunR Tryz.prog 18 R_sameL:=by
  intro args k h
  obtain ⟨a,b,rfl,hv,hk⟩:=h
  have hma:=eLw_len a
  have hmb:=eLw_len b
  have hl:=hv.1
  refine does_ex (qc:=qc1) (np:=[]) (CK:=ckK [(22,cSc R_ints)]) mixed Tryz.func18 rfl rfl Tryz.ntmps18 Tryz.results18 τ_ok (by kernel_rfl) (ckK_ok ⟨cSc_ok ints_ok,trivial⟩) (by simp) ?_
  conv=>whnf
  refine Fork.mk (fun h=>?_) (fun h=>?_)
  · have h1:a ≠ b:=fun e=>by subst e;simp at h
    conv=>whnf
    rw [decide_eq_false h1] at hk
    exact hk
  · have h1:a.length=b.length:=by simp at h;omega
    conv=>whnf
    refine ⟨Nat,fun i=>([(0,.c (.lst (eLw a))),(1,.c (.lst (eLw b))),(12,I (eLw a).length),(13,I i)],⟨[],0,[]⟩),fun i=>i≤a.length∧a.take i=b.take i,fun i=>a.length - i,0,⟨Nat.zero_le _,rfl⟩,
      Shift.reset ⟨rfl,rfl,rfl,rfl,trivial⟩ trivial rfl rfl,fun i hi=>?_⟩
    obtain ⟨hi1,hi2⟩:=hi
    dsimp only
    conv=>whnf
    refine Fork.mk (fun h=>?_) (fun h=>?_)
    · have hi:i < a.length:=by simp at h;omega
      have hib:i < b.length:=by omega
      have hata:=List.getElem?_eq_getElem hi
      have hatb:=List.getElem?_eq_getElem hib
      have hxl:=hv.2 _ (List.getElem_mem hi)
      have e1:a.take (i+1)=a.take i ++ [a[i]]:=(List.take_append_getElem hi).symm
      have e2:b.take (i+1)=b.take i ++ [b[i]]:=(List.take_append_getElem hib).symm
      have hx:a[i] ≠ b[i]→a ≠ b:=fun h e=>by subst e;exact h rfl
      generalize a[i]=x at hata e1 hx hxl
      generalize b[i]=y at hatb e2 hx
      conv=>whnf
      refine ⟨by omega,lwC x,by rw [Int.toNat_natCast,List.getElem?_map,hata];rfl,rfl,?_⟩
      conv=>whnf
      refine ⟨by omega,lwC y,by rw [Int.toNat_natCast,List.getElem?_map,hatb];rfl,rfl,?_⟩
      conv=>whnf
      refine ⟨x,y,rfl,hxl,?_⟩
      conv=>whnf
      refine Fork.mk (fun h=>?_) (fun h=>?_)
      · have hxy:x ≠ y:=by simpa using h
        conv=>whnf
        rw [decide_eq_false (hx hxy)] at hk
        exact hk
      · have hxy:x=y:=by simpa using h
        conv=>whnf
        rw [wr_succ (i:=i) (by omega)]
        refine ⟨i+1,⟨hi,by rw [e1,e2,hi2,hxy]⟩,Shift.reset ⟨rfl,rfl,rfl,rfl,trivial⟩ trivial rfl rfl,?_⟩
        show a.length - (i+1) < a.length - i
        omega
    · have hie:i=a.length:=by simp at h;omega
      subst hie
      rw [List.take_length,h1,List.take_length] at hi2
      rw [decide_eq_true hi2] at hk
      conv=>whnf
      exact hk
def R_has:RT:=fun args k=>∃ (l:Ls) (x:Int),args=[.c (.lst (eL l)),I x]∧l.length≤9223372036854775807∧k (Bo (l.any (fun y=>decide (y=x))))
def R_flws:RB:=fun cs args k=>∃ (d:Dk) (S N:Nat) (most:Int),args=[I S,I N,I most]∧cs=dkC d∧d.ok∧S≤1000∧N≤1000∧(1≤most∧most≤1000)∧∀ (l:List Ls) d',Dk.ok d'→l.length=S→(∀ r ∈ l,r.length=N∧∀ x ∈ r,0≤x∧x < most)→k (.c (.lst (eLw l))) (dkC d')
theorem flws_ok:FunB Tryz.prog 19 R_flws:=by
  intro cs args k h
  obtain ⟨d,S,N,most,rfl,rfl,hd,hS,hN,hm,hk⟩:=h
  refine doesB_ex (qc:=qc1) (np:=[]) (CK:=ckK [(44,cB R_flows)]) mixed Tryz.func19 rfl rfl Tryz.ntmps19 Tryz.results19 τ_ok (by kernel_rfl) (ckK_ok ⟨cB_ok mflows_ok rfl,trivial⟩) (by simp) rfl rfl ?_
  conv=>whnf
  refine ⟨List Ls × Dk,fun y=>([(0,.c (.ptr (.x 0) 0)),(2,I N),(3,I most),(9,.c (.view (.l 19 0) 0 y.1.length)),(10,I S),(11,I y.1.length)],⟨[(.x 0,.blk (dkC y.2)),(.l 19 0,.arr 22 1 (eLw y.1) false)],9,[]⟩),
    fun y=>y.2.ok∧y.1.length≤S∧(∀ r ∈ y.1,r.length=N∧∀ x ∈ r,0≤x∧x < most),fun y=>S - y.1.length,([],d),⟨hd,Nat.zero_le _,fun p h=>by simp at h⟩,
    Shift.trans (Shift.rename [] ⟨rfl,rfl,rfl,rfl,rfl,rfl,trivial⟩ ⟨rfl,rfl,trivial⟩ rfl rfl rfl) (Shift.nilArr (t:=9) rfl 19 22 1),fun y hy=>?_⟩
  obtain ⟨L,d⟩:=y
  obtain ⟨hd,hl,hb⟩:=hy
  dsimp only at hd hl hb ⊢
  have hmL:=eLw_len L
  have hw1:=wr_succ (i:=L.length) (by omega)
  conv=>whnf
  refine Fork.mk (fun h=>?_) (fun h=>?_)
  · have hl2:L.length < S:=by simp at h;omega
    clear h
    conv=>whnf
    refine ⟨d,N,rfl,hd,rfl,hN,hm,fun p d hd hp1 hp2=>?_⟩
    conv=>whnf
    refine ⟨by simp,?_⟩
    conv=>whnf
    refine ⟨rfl,?_⟩
    conv=>whnf
    refine ⟨⟨rfl,rfl,rfl,hmL.symm,by rw [hmL];simp;omega⟩,?_⟩
    conv=>whnf
    rw [hw1]
    refine ⟨(L ++ [p],d),⟨hd,by simp;omega,fun y hy=>?_⟩,Shift.rename [(.l 19 0,.l 19 10)] ⟨rfl,rfl,rfl,?_,rfl,?_,trivial⟩ ⟨rfl,?_,trivial⟩ rfl rfl rfl,by dsimp only;simp;omega⟩
    · rcases List.mem_append.1 hy with hy | hy
      · exact hb y hy
      · simp at hy;subst hy;exact ⟨hp1,hp2⟩
    · dsimp only;rw [List.length_append,← hmL];rfl
    · dsimp only;rw [List.length_append];rfl
    · dsimp only;rw [show eLw (L ++ [p])=eLw L ++ [lwC p] from List.map_append];rfl
  have hlN:L.length=S:=by simp at h;omega
  clear h
  have t1:List.take L.length (List.drop 0 (eLw L))=eLw L:=by rw [List.drop_zero,List.take_of_length_le (by omega)]
  conv=>whnf
  refine ⟨by omega,?_⟩
  conv=>whnf
  rw [t1]
  exact ⟨rfl,rfl,hk L d hd hlN hb⟩
theorem rat34_ok:FunR Tryz.prog 58 R_siA:=by
  intro args k h
  obtain ⟨c,x,rfl,hl,hk⟩:=h
  have hm:=eX_len c.si
  refine does_ex (qc:=qc1) (np:=[]) (CK:=ckK []) mixed Tryz.func58 rfl rfl Tryz.ntmps58 Tryz.results58 τ_ok (by kernel_rfl) (ckK_ok trivial) (by simp) ?_
  conv=>whnf
  refine ⟨Nat,fun i=>([(1,I x),(8,.c (.lst (eX c.si))),(9,I (eX c.si).length),(10,I i)],⟨[],9,[]⟩),
    fun i=>i≤c.si.length∧snA c.si x=snGo x i (c.si.drop i),fun i=>c.si.length - i,0,⟨Nat.zero_le _,rfl⟩,Shift.reset ⟨rfl,rfl,rfl,rfl,trivial⟩ trivial rfl rfl,fun i hi=>?_⟩
  obtain ⟨hi1,hi2⟩:=hi
  dsimp only
  conv=>whnf
  refine Fork.mk (fun h=>?_) (fun h=>?_)
  rotate_left
  · have hie:i=c.si.length:=by simp at h;omega
    rw [hie,List.drop_length] at hi2
    conv=>whnf
    exact kI hk hi2
  have hi:i < c.si.length:=by simp at h;omega
  clear h
  have hci:=List.getElem?_eq_getElem hi
  generalize c.si[i]=y at hci
  rw [dropC hci,snGo] at hi2
  have hw1:=wr_succ (i:=i) (by omega)
  conv=>whnf
  refine ⟨by omega,siC y,by rw [Int.toNat_natCast,List.getElem?_map,hci];rfl,rfl,?_⟩
  conv=>whnf
  refine Fork.mk (fun h=>?_) (fun h=>?_)
  · rw [if_pos (by simpa using h)] at hi2
    conv=>whnf
    exact kI hk hi2
  rw [if_neg (by simpa using h)] at hi2
  conv=>whnf
  rw [hw1]
  exact ⟨i+1,⟨hi,hi2⟩,Shift.reset ⟨rfl,rfl,rfl,rfl,trivial⟩ trivial rfl rfl,by omega⟩
def R_all34:RT:=fun args k=>∃ l:Ls,args=[.c (.lst (eL l))]∧l.length≤9223372036854775807∧k (Bo (!(l.any badX)))
theorem all34_ok:FunR Tryz.prog 57 R_all34:=by
  intro args k h
  obtain ⟨l,rfl,hl,hk⟩:=h
  have hm:=eL_len l
  refine does_ex (qc:=qc1) (np:=[]) (CK:=ckK []) mixed Tryz.func57 rfl rfl Tryz.ntmps57 Tryz.results57 τ_ok (by kernel_rfl) (ckK_ok trivial) (by simp) ?_
  conv=>whnf
  refine ⟨Nat,fun i=>([(5,.c (.lst (eL l))),(6,I (eL l).length),(7,I i)],⟨[],9,[]⟩),
    fun i=>i≤l.length∧l.any badX=(l.drop i).any badX,fun i=>l.length - i,0,⟨Nat.zero_le _,rfl⟩,Shift.reset ⟨rfl,rfl,rfl,trivial⟩ trivial rfl rfl,fun i hi=>?_⟩
  obtain ⟨hi1,hi2⟩:=hi
  dsimp only
  conv=>whnf
  refine Fork.mk (fun h=>?_) (fun h=>?_)
  rotate_left
  · have hie:i=l.length:=by simp at h;omega
    rw [hie,List.drop_length,List.any_nil] at hi2
    conv=>whnf
    exact kB hk (by rw [hi2];rfl)
  have hi:i < l.length:=by simp at h;omega
  clear h
  have hci:=List.getElem?_eq_getElem hi
  generalize l[i]=y at hci
  rw [dropC hci,List.any_cons] at hi2
  have hw1:=wr_succ (i:=i) (by omega)
  conv=>whnf
  refine ⟨by omega,eI y,by rw [Int.toNat_natCast,List.getElem?_map,hci];rfl,rfl,?_⟩
  conv=>whnf
  refine Fork.mk (fun h=>?_) (fun h=>?_)
  · have h1:badX y=true:=by simp [badX] at h ⊢;omega
    rw [h1] at hi2
    conv=>whnf
    repeat' ((first | refine fork_t ?_ | refine fork_f ?_ | (refine Fork.mk (fun h=>?_) (fun h=>?_);focus (simp at h;done)) | fail) <;> (conv=>whnf))
    exact kB hk (by rw [hi2];rfl)
  have h0:¬ y < 0:=by simpa using h
  clear h
  conv=>whnf
  refine Fork.mk (fun h=>?_) (fun h=>?_)
  · have h1:badX y=true:=by simp [badX] at h ⊢;omega
    rw [h1] at hi2
    conv=>whnf
    exact kB hk (by rw [hi2];rfl)
  have h1:badX y=false:=by simp [badX] at h ⊢;omega
  rw [h1] at hi2
  conv=>whnf
  rw [hw1]
  exact ⟨i+1,⟨hi,by rw [hi2];rfl⟩,Shift.reset ⟨rfl,rfl,rfl,trivial⟩ trivial rfl rfl,by omega⟩
end Go.Proofs

namespace Go.Proofs
open Go Go.Abs
set_option linter.unusedSimpArgs false
set_option linter.unusedVariables false
set_option maxRecDepth 20000
def zeL (m:Nat) (n:Nat):List Ls:=List.replicate m (List.replicate n 0)
def reX (c:Cs) (s:Fl) (m:Int):Except Int (List Ls):=if rdyE c s ≠ 0 then .error (rdyE c s) else if m < 0 then .error 10 else if 400 < m then .error 10 else foX c s (zeL m.toNat c.si.length) (zeL m.toNat c.rv.n.toNat)
def R_re:RT:=fun args k=>∃ (c:Cs) (s:Fl) (m:Int),args=[.agg (csC c),.agg (flC s),I m]∧c.fin∧s.fin∧k (foA (reX c s m))
theorem rest_ok':FunR Tryz.prog 27 R_re:=by
  intro args k h
  obtain ⟨c,s,m,rfl,hc,hs,hk⟩:=h
  have hmx:=eX_len c.si
  refine does_ex (qc:=qc1) (np:=[(9,[(2,11),(2,12),(4,10),(4,11),(4,12),(5,10),(5,11),(5,12),(6,10),(6,11),(6,12)])]) (CK:=ckK [(41,cSc (R_cfI rdyE)),(17,cPu R_fo)]) mixed Tryz.func27 rfl rfl Tryz.ntmps27 Tryz.results27 τ_ok (by kernel_rfl) (ckK_ok ⟨cSc_ok ready_ok,cPu_ok follow_ok rfl,trivial⟩) (by simp) ?_
  conv=>whnf
  refine ⟨c,s,rfl,hc,hs,?_⟩
  conv=>whnf
  refine Fork.mk (fun h=>?_) (fun h=>?_)
  · have h1:rdyE c s ≠ 0:=by simpa using h
    conv=>whnf
    exact kFo (y:=.error (rdyE c s)) hk (by rw [reX,if_pos h1])
  have h1:rdyE c s=0:=by simpa using h
  have hva:=rdyE_ok h1
  have hcm:=hva.k.m
  have hcn:=hva.k.n
  have hrn:=hva.k.r.n
  clear h
  conv=>whnf
  refine Fork.mk (fun h=>?_) (fun h=>?_)
  · have h2:m < 0:=by simpa using h
    conv=>whnf
    repeat' ((first | refine fork_t ?_ | refine fork_f ?_ | (refine Fork.mk (fun h=>?_) (fun h=>?_);focus (simp at h;done)) | fail) <;> (conv=>whnf))
    exact kFo (y:=.error 10) hk (by rw [reX,if_neg (by simp [h1]),if_pos h2])
  have h2:¬ m < 0:=by simpa using h
  clear h
  conv=>whnf
  refine Fork.mk (fun h=>?_) (fun h=>?_)
  · have h3:400 < m:=by simpa using h
    conv=>whnf
    exact kFo (y:=.error 10) hk (by rw [reX,if_neg (by simp [h1]),if_neg h2,if_pos h3])
  have h3:¬ 400 < m:=by simpa using h
  clear h
  obtain ⟨M,rfl⟩:=Int.eq_ofNat_of_zero_le (show 0≤m by omega)
  obtain ⟨N,hN⟩:=Int.eq_ofNat_of_zero_le (show 0≤c.rv.n by omega)
  have e0:reX c s M=foX c s (zeL M c.si.length) (zeL M N):=by rw [reX,if_neg (by simp [h1]),if_neg h2,if_neg h3,hN];rfl
  rw [e0] at hk
  have ez:∀ n,eL (List.replicate n 0)=List.replicate n [IC 0]:=fun n=>by simp [eL,eI]
  conv=>whnf
  refine ⟨Nat,fun i=>([(3,.c (.ptr (.l 3 0) 0)),(4,.c (.ptr (.l 4 1) 0)),(9,.c (.view (.l 32 2) 0 i)),(10,.c (.view (.l 39 3) 0 i)),(23,I M),(24,I i)],⟨[(.l 3 0,.blk (csC c)),(.l 4 1,.blk (flC s)),(.l 32 2,.arr 22 1 (eLw (zeL i c.si.length)) false),(.l 39 3,.arr 22 1 (eLw (zeL i N)) false)],20,[]⟩),
    fun i=>i≤M,fun i=>M - i,0,Nat.zero_le _,Shift.trans (Shift.rename [] ⟨rfl,rfl,rfl,rfl,rfl,rfl,trivial⟩ ⟨rfl,rfl,rfl,rfl,trivial⟩ rfl rfl rfl) (Shift.trans (Shift.nilArr (t:=10) rfl 39 22 1) (Shift.nilArr (t:=9) rfl 32 22 1)),fun i hi=>?_⟩
  dsimp only
  have hm1:(eLw (zeL i c.si.length)).length=i:=by simp [zeL]
  have hm2:(eLw (zeL i N)).length=i:=by simp [zeL]
  have hw1:=wr_succ (i:=i) (by omega)
  conv=>whnf
  refine Fork.mk (fun h=>?_) (fun h=>?_)
  rotate_left
  · have hie:i=M:=by simp at h;omega
    subst hie
    have t1:List.take i (List.drop 0 (eLw (zeL i c.si.length)))=eLw (zeL i c.si.length):=by rw [List.drop_zero,List.take_of_length_le (by omega)]
    have t2:List.take i (List.drop 0 (eLw (zeL i N)))=eLw (zeL i N):=by rw [List.drop_zero,List.take_of_length_le (by omega)]
    conv=>whnf
    refine ⟨by omega,?_⟩
    conv=>whnf
    refine ⟨by omega,?_⟩
    conv=>whnf
    rw [t1,t2]
    have hvf:∀ n:Nat,n≤40→vfin (zeL i n):=fun n hn=>⟨by simp [zeL];omega,fun p hp=>by rw [(List.mem_replicate.1 hp).2];simp;omega⟩
    refine ⟨c,s,_,_,rfl,hc,hs,hvf _ (by omega),hvf _ (by omega),?_⟩
    obtain ⟨X,hX⟩:∃ X,foX c s (zeL i c.si.length) (zeL i N)=X:=⟨_,rfl⟩
    rw [hX] at hk ⊢
    cases X with
    | error e =>
      conv=>whnf
      exact hk
    | ok r =>
      conv=>whnf
      exact hk
  have hi2:i < M:=by simp at h;omega
  clear h
  conv=>whnf
  refine ⟨⟨rfl,by omega,by rw [hmx];show _ * (8:Int)≤_;omega⟩,?_⟩
  conv=>whnf
  rw [show Int.toNat ((eX c.si).length:Int)=c.si.length by omega]
  have tz:∀ n:Nat,List.take n (List.drop 0 (List.replicate n [Cell.sc (Value.int .i64 0)]))=eL (List.replicate n 0):=fun n=>by
    rw [List.drop_zero,List.take_of_length_le (by simp),ez]
  refine ⟨by simp,?_⟩
  conv=>whnf
  rw [tz]
  refine ⟨by simp,?_⟩
  conv=>whnf
  refine ⟨rfl,?_⟩
  conv=>whnf
  refine ⟨⟨rfl,rfl,rfl,hm1.symm,by rw [hm1];simp;omega⟩,?_⟩
  conv=>whnf
  refine ⟨⟨rfl,by omega,by show _ * (8:Int)≤_;omega⟩,?_⟩
  conv=>whnf
  rw [show Int.toNat c.rv.n=N by omega]
  refine ⟨by simp,?_⟩
  conv=>whnf
  rw [tz]
  refine ⟨by simp,?_⟩
  conv=>whnf
  refine ⟨rfl,?_⟩
  conv=>whnf
  refine ⟨⟨rfl,rfl,rfl,hm2.symm,by rw [hm2];simp;omega⟩,?_⟩
  conv=>whnf
  rw [hw1]
  have ze:∀ n,eLw (zeL (i+1) n)=eLw (zeL i n) ++ [lwC (List.replicate n 0)]:=fun n=>by
    rw [show zeL (i+1) n=zeL i n ++ [List.replicate n 0] from List.replicate_succ' ..]
    exact List.map_append
  refine ⟨i+1,hi2,Shift.rename [(.l 32 2,.l 32 20),(.l 39 3,.l 39 20)] ⟨rfl,rfl,?_,?_,rfl,rfl,trivial⟩ ⟨rfl,rfl,?_,?_,trivial⟩ rfl rfl rfl,by omega⟩
  · dsimp only;rw [hm1];rfl
  · dsimp only;rw [hm2];rfl
  · dsimp only;rw [ze];rfl
  · dsimp only;rw [ze];rfl
end Go.Proofs
