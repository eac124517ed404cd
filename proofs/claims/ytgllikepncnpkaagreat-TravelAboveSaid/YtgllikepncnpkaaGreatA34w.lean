/- Proved here: what functions of the given program come to, and the plain laws of it; no condition but those in the theorems. -/
import Derived.Test.YtgllikepncnpkaaGreatA34n
namespace Go.Proofs
open Go Go.Abs
set_option linter.unusedSimpArgs false
set_option linter.unusedVariables false
set_option maxRecDepth 20000
theorem rdyE_ok {c : Cs} {s : Fl} (h : rdyE c s = 0) : VaOk c s:=by
  unfold rdyE at h
  split at h
  · rename_i e;exact absurd h e
  split at h
  · cases h
  · rename_i e;exact vaB_ok (by simpa using e)
theorem follow_ok : FunR Tryz.prog 17 R_fo:=by
  intro args k h
  obtain ⟨c,s,lvs,locs,rfl,hc,hs,hvl,hvm,hk⟩:=h
  have hml:=eLw_len lvs
  have hmm:=eLw_len locs
  refine does_ex (qc:=qc1) (np:=[]) (CK:=ckK [(41,cSc (R_cfI rdyE)),(42,cOr (cPu R_clW0) (cA R_clW1)),(43,cOr (cPu R_stT0) (cG (R_stT 85)))]) mixed Tryz.func17 rfl rfl Tryz.ntmps17 Tryz.results17 τ_ok (by kernel_rfl) (ckK_ok ⟨cSc_ok ready_ok,cOr_ok (cPu_ok clW0_ok rfl) (cA_ok clW1_ok rfl),cOr_ok (cPu_ok stT0_ok rfl) (cG_ok stT_ok rfl),trivial⟩) (by simp) ?_
  conv=>whnf
  refine ⟨c,s,rfl,hc,hs,?_⟩
  conv=>whnf
  refine Fork.mk (fun h=>?_) (fun h=>?_)
  · have h1 : rdyE c s ≠ 0:=by simpa using h
    conv=>whnf
    exact kFo (y:=.error (rdyE c s)) hk (by rw [foX,if_pos h1])
  have h1 : rdyE c s = 0:=by simpa using h
  have hva:=rdyE_ok h1
  have hr:=hva.k.r
  have hrl:=hr.len
  have hwl:=hva.w.l
  clear h
  conv=>whnf
  refine Fork.mk (fun h=>?_) (fun h=>?_)
  · have h2 : lvs.length ≠ locs.length:=by simp at h;omega
    conv=>whnf
    exact kFo (y:=.error 3) hk (by rw [foX,if_neg (by simp [h1]),if_pos h2])
  have h2 : lvs.length = locs.length:=by simp at h;omega
  clear h
  conv=>whnf
  refine Fork.mk (fun h=>?_) (fun h=>?_)
  · have h3 : 400 < lvs.length:=by simp at h;omega
    conv=>whnf
    exact kFo (y:=.error 10) hk (by rw [foX,if_neg (by simp [h1]),if_neg (by simp [h2]),if_pos h3])
  have h3 : ¬ 400 < lvs.length:=by simp at h;omega
  clear h
  have e0 : foX c s lvs locs = flG c s.ws lvs locs:=by rw [foX,if_neg (by simp [h1]),if_neg (by simp [h2]),if_neg h3]
  rw [e0] at hk
  clear e0
  conv=>whnf
  cases hws : s.ws with
  | nil =>
    have hls : c.rv.ls = []:=List.eq_nil_of_length_eq_zero (by rw [← hwl,hws];rfl)
    refine Or.inl ?_
    conv=>whnf
    refine ⟨rfl,?_⟩
    conv=>whnf
    refine ⟨List Ls × List Ls × Nat,fun y=>([(3,.c (.lst (eLw locs))),(4,.c (.ptr (.l 4 0) 0)),(11,.c (.lst [])),(12,.c (.view (.l 58 2) 0 y.2.1.length)),(34,.c (.lst (eLw lvs))),(35,I (eLw lvs).length),(36,I y.2.2)],⟨[(.l 4 0,.blk (csC c)),(.l 58 2,.arr 22 1 (eLw y.2.1) false)],20,[]⟩),
      fun y=>y.2.2≤lvs.length∧flG c s.ws lvs locs = preL y.2.1 (flG c y.1 (lvs.drop y.2.2) (locs.drop y.2.2))∧WvOk c.rv y.1∧y.2.1.length = y.2.2,fun y=>lvs.length - y.2.2,(s.ws,[],0),⟨Nat.zero_le _,preL_nil _,hva.w,rfl⟩,Shift.trans (Shift.rename [] ⟨rfl,rfl,rfl,rfl,rfl,rfl,rfl,trivial⟩ ⟨rfl,rfl,trivial⟩ rfl rfl rfl) (Shift.nilArr (t:=12) rfl 58 22 1),fun y hy=>?_⟩
    obtain ⟨w',o,j⟩:=y
    obtain ⟨hj,hrun,hw',hol⟩:=hy
    dsimp only at hj hrun hw' hol ⊢
    have hwl':=hw'.l
    have hmo:=eLw_len o
    have hmw':=eV_len w'
    conv=>whnf
    refine Fork.mk (fun h=>?_) (fun h=>?_)
    rotate_left
    · have hje : j = lvs.length:=by simp at h;omega
      rw [hje,List.drop_length] at hrun
      have t1 : List.take o.length (List.drop 0 (eLw o)) = eLw o:=by rw [List.drop_zero,List.take_of_length_le (by omega)]
      conv=>whnf
      refine ⟨by omega,?_⟩
      conv=>whnf
      rw [t1]
      exact kFo (y:=.ok o) hk (by rw [hrun];simp [preL,flG])
    have hjl : j < lvs.length:=by simp at h;omega
    clear h
    have hcj:=List.getElem?_eq_getElem hjl
    have hcm:=List.getElem?_eq_getElem (show j < locs.length by omega)
    have hll:=hvl.2 _ (List.getElem_mem hjl)
    have hlm:=hvm.2 _ (List.getElem_mem (show j < locs.length by omega))
    generalize lvs[j] = l at hcj hll
    generalize locs[j] = m at hcm hlm
    rw [dropC hcj,dropC hcm] at hrun
    have hw1:=wr_succ (i:=j) (by omega)
    conv=>whnf
    refine ⟨by omega,lwC l,by rw [Int.toNat_natCast,List.getElem?_map,hcj];rfl,rfl,?_⟩
    conv=>whnf
    refine ⟨by omega,lwC m,by rw [Int.toNat_natCast,List.getElem?_map,hcm];rfl,rfl,?_⟩
    conv=>whnf
    refine Or.inl ?_
    conv=>whnf
    have hw0 : w' = []:=List.eq_nil_of_length_eq_zero (by rw [hwl',hls];rfl)
    subst hw0
    refine ⟨c,l,m,rfl,hva.k,hls,hll,hlm,fun x hx=>?_,fun e hx=>?_⟩
    · obtain ⟨f1,f2,_⟩:=stX_fit hr hw' hx
      rw [flG_ok hx,preL_app] at hrun
      obtain ⟨xw,xa⟩:=x
      dsimp only at f1 f2 hrun
      have hol2:=hol
      conv=>whnf
      repeat' ((first | refine fork_t ?_ | refine fork_f ?_ | (refine Fork.mk (fun h=>?_) (fun h=>?_);focus (simp at h;done)) | fail) <;> (conv=>whnf))
      refine ⟨by simp,?_⟩
      conv=>whnf
      refine ⟨rfl,?_⟩
      conv=>whnf
      refine ⟨⟨rfl,rfl,rfl,hmo.symm,by rw [hmo];simp;omega⟩,?_⟩
      conv=>whnf
      rw [hw1]
      refine ⟨(xw,o ++ [xa],j + 1),⟨hjl,hrun,f1,by simp [hol]⟩,Shift.rename [(.l 58 2,.l 58 21)] ⟨rfl,rfl,rfl,?_,rfl,rfl,rfl,trivial⟩ ⟨rfl,?_,trivial⟩ rfl rfl rfl,by dsimp only;omega⟩
      · dsimp only;rw [List.length_append,← hmo];rfl
      · dsimp only;rw [show eLw (o ++ [xa]) = eLw o ++ [lwC xa] from List.map_append];rfl
    · have he:=stX_err hx
      rw [flG_err hx] at hrun
      have hk2 : k (foA (.error e)):=kFo hk hrun
      conv=>whnf
      rcases he with rfl | rfl
      · repeat' ((first | refine fork_t ?_ | refine fork_f ?_ | (refine Fork.mk (fun h=>?_) (fun h=>?_);focus (simp at h;done)) | fail) <;> (conv=>whnf))
        exact hk2
      · repeat' ((first | refine fork_t ?_ | refine fork_f ?_ | (refine Fork.mk (fun h=>?_) (fun h=>?_);focus (simp at h;done)) | fail) <;> (conv=>whnf))
        exact hk2
  | cons p0 r0 =>
    have hwn : 1≤s.ws.length:=by rw [hws];simp
    rw [← hws]
    refine Or.inr ?_
    conv=>whnf
    refine ⟨s.ws,rfl,hwn,by omega,?_⟩
    conv=>whnf
    refine ⟨List Ls × List Ls × Nat,fun y=>([(3,.c (.lst (eLw locs))),(4,.c (.ptr (.l 4 0) 0)),(11,.c (.view (.l 33 2) 0 s.ws.length)),(12,.c (.view (.l 58 3) 0 y.2.1.length)),(34,.c (.lst (eLw lvs))),(35,I (eLw lvs).length),(36,I y.2.2)],⟨[(.l 4 0,.blk (csC c)),(.l 33 2,.arr 85 1 (eV y.1) false),(.l 58 3,.arr 22 1 (eLw y.2.1) false)],20,[]⟩),
      fun y=>y.2.2≤lvs.length∧flG c s.ws lvs locs = preL y.2.1 (flG c y.1 (lvs.drop y.2.2) (locs.drop y.2.2))∧WvOk c.rv y.1∧y.2.1.length = y.2.2,fun y=>lvs.length - y.2.2,(s.ws,[],0),⟨Nat.zero_le _,preL_nil _,hva.w,rfl⟩,Shift.trans (Shift.rename [] ⟨rfl,rfl,rfl,rfl,rfl,rfl,rfl,trivial⟩ ⟨rfl,rfl,rfl,trivial⟩ rfl rfl rfl) (Shift.nilArr (t:=12) rfl 58 22 1),fun y hy=>?_⟩
    obtain ⟨w',o,j⟩:=y
    obtain ⟨hj,hrun,hw',hol⟩:=hy
    dsimp only at hj hrun hw' hol ⊢
    have hwl':=hw'.l
    have hmo:=eLw_len o
    have hmw':=eV_len w'
    conv=>whnf
    refine Fork.mk (fun h=>?_) (fun h=>?_)
    rotate_left
    · have hje : j = lvs.length:=by simp at h;omega
      rw [hje,List.drop_length] at hrun
      have t1 : List.take o.length (List.drop 0 (eLw o)) = eLw o:=by rw [List.drop_zero,List.take_of_length_le (by omega)]
      conv=>whnf
      refine ⟨by omega,?_⟩
      conv=>whnf
      rw [t1]
      exact kFo (y:=.ok o) hk (by rw [hrun];simp [preL,flG])
    have hjl : j < lvs.length:=by simp at h;omega
    clear h
    have hcj:=List.getElem?_eq_getElem hjl
    have hcm:=List.getElem?_eq_getElem (show j < locs.length by omega)
    have hll:=hvl.2 _ (List.getElem_mem hjl)
    have hlm:=hvm.2 _ (List.getElem_mem (show j < locs.length by omega))
    generalize lvs[j] = l at hcj hll
    generalize locs[j] = m at hcm hlm
    rw [dropC hcj,dropC hcm] at hrun
    have hw1:=wr_succ (i:=j) (by omega)
    conv=>whnf
    refine ⟨by omega,lwC l,by rw [Int.toNat_natCast,List.getElem?_map,hcj];rfl,rfl,?_⟩
    conv=>whnf
    refine ⟨by omega,lwC m,by rw [Int.toNat_natCast,List.getElem?_map,hcm];rfl,rfl,?_⟩
    conv=>whnf
    refine Or.inr ?_
    conv=>whnf
    refine ⟨[.l 33 2],rfl,?_⟩
    conv=>whnf
    refine ⟨rfl,?_⟩
    conv=>whnf
    refine ⟨rfl,?_⟩
    conv=>whnf
    refine ⟨c,l,m,w',?_,rfl,hva.k,hw',hll,hlm,fun x hx=>?_,fun e hx w2 hw2=>?_⟩
    · rw [show w'.length = s.ws.length by omega];rfl
    · obtain ⟨f1,f2,_⟩:=stX_fit hr hw' hx
      have f3:=f1.l
      rw [flG_ok hx,preL_app] at hrun
      obtain ⟨xw,xa⟩:=x
      dsimp only at f1 f2 f3 hrun
      have hol2:=hol
      conv=>whnf
      repeat' ((first | refine fork_t ?_ | refine fork_f ?_ | (refine Fork.mk (fun h=>?_) (fun h=>?_);focus (simp at h;done)) | fail) <;> (conv=>whnf))
      refine ⟨by simp,?_⟩
      conv=>whnf
      refine ⟨rfl,?_⟩
      conv=>whnf
      refine ⟨⟨rfl,rfl,rfl,hmo.symm,by rw [hmo];simp;omega⟩,?_⟩
      conv=>whnf
      rw [hw1]
      refine ⟨(xw,o ++ [xa],j + 1),⟨hjl,hrun,f1,by simp [hol]⟩,Shift.rename [(.l 58 3,.l 58 21)] ⟨rfl,rfl,?_,?_,rfl,rfl,rfl,trivial⟩ ⟨rfl,rfl,?_,trivial⟩ rfl rfl rfl,by dsimp only;omega⟩
      · first | rfl | (dsimp only;rw [show xw.length = s.ws.length by omega];rfl)
      · dsimp only;rw [List.length_append,← hmo];rfl
      · dsimp only;rw [show eLw (o ++ [xa]) = eLw o ++ [lwC xa] from List.map_append];rfl
    · have he:=stX_err hx
      rw [flG_err hx] at hrun
      have hk2 : k (foA (.error e)):=kFo hk hrun
      conv=>whnf
      rcases he with rfl | rfl
      · repeat' ((first | refine fork_t ?_ | refine fork_f ?_ | (refine Fork.mk (fun h=>?_) (fun h=>?_);focus (simp at h;done)) | fail) <;> (conv=>whnf))
        exact hk2
      · repeat' ((first | refine fork_t ?_ | refine fork_f ?_ | (refine Fork.mk (fun h=>?_) (fun h=>?_);focus (simp at h;done)) | fail) <;> (conv=>whnf))
        exact hk2
end Go.Proofs

namespace Go.Proofs
open Go Go.Abs
set_option linter.unusedSimpArgs false
set_option linter.unusedVariables false
set_option maxRecDepth 20000
def R_ints : RT:=fun args k=>∃ a b : Ls,args = [.c (.lst (eL a)),.c (.lst (eL b))]∧a.length≤9223372036854775807∧k (Bo (decide (a = b)))
theorem ints_ok : FunR Tryz.prog 22 R_ints:=by
  intro args k h
  obtain ⟨a,b,rfl,hl,hk⟩:=h
  have hma:=eL_len a
  have hmb:=eL_len b
  refine does_ex (qc:=qc1) (np:=[]) (CK:=ckK []) mixed Tryz.func22 rfl rfl Tryz.ntmps22 Tryz.results22 τ_ok (by kernel_rfl) (ckK_ok trivial) (by simp) ?_
  conv=>whnf
  refine Fork.mk (fun h=>?_) (fun h=>?_)
  · have h1 : a ≠ b:=fun e=>by subst e;simp at h
    conv=>whnf
    rw [decide_eq_false h1] at hk
    exact hk
  · have h1 : a.length = b.length:=by simp at h;omega
    conv=>whnf
    refine ⟨Nat,fun i=>([(0,.c (.lst (eL a))),(1,.c (.lst (eL b))),(12,I (eL a).length),(13,I i)],⟨[],0,[]⟩),fun i=>i≤a.length∧a.take i = b.take i,fun i=>a.length - i,0,⟨Nat.zero_le _,rfl⟩,
      Shift.reset ⟨rfl,rfl,rfl,rfl,trivial⟩ trivial rfl rfl,fun i hi=>?_⟩
    obtain ⟨hi1,hi2⟩:=hi
    dsimp only
    conv=>whnf
    refine Fork.mk (fun h=>?_) (fun h=>?_)
    · have hi : i < a.length:=by simp at h;omega
      have hib : i < b.length:=by omega
      have hata:=List.getElem?_eq_getElem hi
      have hatb:=List.getElem?_eq_getElem hib
      have e1 : a.take (i + 1) = a.take i ++ [a[i]]:=(List.take_append_getElem hi).symm
      have e2 : b.take (i + 1) = b.take i ++ [b[i]]:=(List.take_append_getElem hib).symm
      have hx : a[i] ≠ b[i]→a ≠ b:=fun h e=>by subst e;exact h rfl
      generalize a[i] = x at hata e1 hx
      generalize b[i] = y at hatb e2 hx
      conv=>whnf
      refine ⟨by omega,eI x,by rw [Int.toNat_natCast,List.getElem?_map,hata];rfl,rfl,?_⟩
      conv=>whnf
      refine ⟨by omega,eI y,by rw [Int.toNat_natCast,List.getElem?_map,hatb];rfl,rfl,?_⟩
      conv=>whnf
      refine Fork.mk (fun h=>?_) (fun h=>?_)
      · have hxy : x ≠ y:=by simpa using h
        conv=>whnf
        rw [decide_eq_false (hx hxy)] at hk
        exact hk
      · have hxy : x = y:=by simpa using h
        conv=>whnf
        rw [wr_succ (i:=i) (by omega)]
        refine ⟨i + 1,⟨hi,by rw [e1,e2,hi2,hxy]⟩,Shift.reset ⟨rfl,rfl,rfl,rfl,trivial⟩ trivial rfl rfl,?_⟩
        show a.length - (i + 1) < a.length - i
        omega
    · have hie : i = a.length:=by simp at h;omega
      subst hie
      rw [List.take_length,h1,List.take_length] at hi2
      rw [decide_eq_true hi2] at hk
      conv=>whnf
      exact hk
def R_few : RT:=fun args k=>∃ l : Ls,args = [.c (.lst (eL l))]∧k (Bo (decide (l.length≤500)))
theorem few_ok : FunR Tryz.prog 10 R_few:=by
  intro args k h
  obtain ⟨l,rfl,hk⟩:=h
  have hm:=eL_len l
  refine does_ex (qc:=qc1) (np:=[]) (CK:=ckK []) mixed Tryz.func10 rfl rfl Tryz.ntmps10 Tryz.results10 τ_ok (by kernel_rfl) (ckK_ok trivial) (by simp) ?_
  conv=>whnf
  rw [show decide (l.length≤500) = decide (((eL l).length : Int)≤500) by rw [hm];simp;omega] at hk
  exact hk
def R_has : RT:=fun args k=>∃ (l : Ls) (x : Int),args = [.c (.lst (eL l)),I x]∧l.length≤9223372036854775807∧k (Bo (l.any (fun y=>decide (y = x))))
theorem has_ok : FunR Tryz.prog 24 R_has:=by
  intro args k h
  obtain ⟨l,x,rfl,hl,hk⟩:=h
  have hm:=eL_len l
  refine does_ex (qc:=qc1) (np:=[]) (CK:=ckK []) mixed Tryz.func24 rfl rfl Tryz.ntmps24 Tryz.results24 τ_ok (by kernel_rfl) (ckK_ok trivial) (by simp) ?_
  conv=>whnf
  refine ⟨Nat,fun i=>([(1,I x),(7,.c (.lst (eL l))),(8,I (eL l).length),(9,I i)],⟨[],9,[]⟩),
    fun i=>i≤l.length∧l.any (fun y=>decide (y = x)) = (l.drop i).any (fun y=>decide (y = x)),fun i=>l.length - i,0,⟨Nat.zero_le _,rfl⟩,Shift.reset ⟨rfl,rfl,rfl,rfl,trivial⟩ trivial rfl rfl,fun i hi=>?_⟩
  obtain ⟨hi1,hi2⟩:=hi
  dsimp only
  conv=>whnf
  refine Fork.mk (fun h=>?_) (fun h=>?_)
  rotate_left
  · have hie : i = l.length:=by simp at h;omega
    rw [hie,List.drop_length,List.any_nil] at hi2
    conv=>whnf
    exact kB hk hi2
  have hi : i < l.length:=by simp at h;omega
  clear h
  have hci:=List.getElem?_eq_getElem hi
  generalize l[i] = y at hci
  rw [dropC hci,List.any_cons] at hi2
  have hw1:=wr_succ (i:=i) (by omega)
  conv=>whnf
  refine ⟨by omega,eI y,by rw [Int.toNat_natCast,List.getElem?_map,hci];rfl,rfl,?_⟩
  conv=>whnf
  refine Fork.mk (fun h=>?_) (fun h=>?_)
  · rw [h] at hi2
    conv=>whnf
    exact kB hk hi2
  rw [h] at hi2
  conv=>whnf
  rw [hw1]
  exact ⟨i + 1,⟨hi,by rw [hi2];rfl⟩,Shift.reset ⟨rfl,rfl,rfl,rfl,trivial⟩ trivial rfl rfl,by omega⟩
end Go.Proofs

namespace Go.Proofs
open Go Go.Abs
set_option linter.unusedSimpArgs false
set_option linter.unusedVariables false
set_option maxRecDepth 20000
end Go.Proofs

namespace Go.Proofs
open Go Go.Abs
set_option linter.unusedSimpArgs false
set_option linter.unusedVariables false
set_option maxRecDepth 20000
end Go.Proofs

namespace Go.Proofs
open Go Go.Abs
set_option linter.unusedSimpArgs false
set_option linter.unusedVariables false
set_option maxRecDepth 20000
end Go.Proofs

/- The nodes below a site. No program. -/
namespace Go.Proofs
open Go Go.Abs
set_option linter.unusedSimpArgs false
set_option linter.unusedVariables false
def cutS (si : List Si) : Ls→Ls
  | []=>[]
  | x :: r=>if 0≤snA si x then [x] else x :: cutS si r
/-- The nodes below a node, up to that of the next site. -/
def belP (c : Cs) (k : Int) : Ls:=cutS c.si (pathR c.rv k).tail
theorem belP_end {c : Cs} {k : Int} (h : lnk c.rv.ls k < 0) : belP c k = []:=by rw [belP,path_end h];rfl
theorem belP_step {c : Cs} (hr : RvOk c.rv) {k : Int} (hk : 0≤k) {i : Nat} {l : Lk} (h : lnk c.rv.ls k = i) (hl : c.rv.ls[i]? = some l) (hf : l.fr = k) : belP c k = if 0≤snA c.si l.to then [l.to] else l.to :: belP c l.to:=by
  have e : pathR c.rv l.to = l.to :: (pathR c.rv l.to).tail:=rfl
  rw [belP,path_step hr hk h hl hf,List.tail_cons,e,cutS]
  rfl
def belF (c : Cs) (i : Nat) : Ls:=match c.si[i]? with
  | some x=>belP c x.nd
  | none=>[]
def hitN (n : Int) (i : Nat) (l : Ls) : Ls:=(l.filter fun y=>decide (y = n)).map fun _=>(i : Int)
theorem hitN_snoc (n : Int) (i : Nat) (l : Ls) (z : Int) : hitN n i (l ++ [z]) = if z = n then hitN n i l ++ [(i : Int)] else hitN n i l:=by
  unfold hitN
  rw [List.filter_append]
  by_cases h : z = n <;> simp [h]
theorem hitN_len (n : Int) (i : Nat) (l : Ls) : (hitN n i l).length≤l.length:=by
  unfold hitN
  rw [List.length_map]
  exact List.length_filter_le ..
/-- The sites before the i-th above a node. -/
def abG (c : Cs) (n : Int) : Nat→Ls
  | 0=>[]
  | i + 1=>abG c n i ++ hitN n i (belF c i)
def abS (c : Cs) (n : Int) : Ls × Int:=if csE c ≠ 0 then ([],csE c) else if n < 0 then ([],41) else if c.rv.n≤n then ([],41) else (abG c n c.si.length,0)
theorem cutS_len (si : List Si) : ∀ l : Ls,(cutS si l).length≤l.length
  | []=>Nat.le_refl _
  | x :: r=>by
    rw [cutS]
    split
    · simp
    · simp [cutS_len si r]
theorem belF_len {c : Cs} (hc : CsOk c) (i : Nat) : (belF c i).length≤40:=by
  unfold belF
  cases hx : c.si[i]? with
  | none=>simp
  | some x =>
    have hxn:=(hc.s x (List.mem_of_getElem? hx)).1
    have h1:=cutS_len c.si (pathR c.rv x.nd).tail
    have h2:=path_len hc.r hxn
    rw [pathR,List.tail_cons,List.length_map] at h1
    dsimp only
    unfold belP
    rw [pathR,List.tail_cons]
    omega
theorem abG_len {c : Cs} (hc : CsOk c) (n : Int) : ∀ i,(abG c n i).length≤40 * i
  | 0=>Nat.le_refl _
  | i + 1=>by
    have:=abG_len hc n i
    have:=hitN_len n i (belF c i)
    have:=belF_len hc i
    rw [abG,List.length_append]
    omega
/-- Steps one behind the other, with what passed. -/
inductive runsC (c : Cs) (s : Fl) : List Su→List Pd→Fl→Prop
  | nil : runsC c s [] [] s
  | snoc {l : List Su} {xs : List Pd} {a b : Fl} {p : Su} {x : Pd} : runsC c s l xs a→stepC c a p b x→runsC c s (l ++ [p]) (xs ++ [x]) b
theorem runsC.va {c : Cs} {s : Fl} (h : VaOk c s) {l : List Su} {xs : List Pd} {b : Fl} (hs : runsC c s l xs b) : VaOk c b:=by
  cases hs with
  | nil=>exact h
  | snoc _ h3=>exact h3.valid
end Go.Proofs

namespace Go.Proofs
open Go Go.Abs
set_option linter.unusedSimpArgs false
set_option linter.unusedVariables false
set_option maxRecDepth 20000
theorem pathR_hd (r : Rv) (k : Int) : pathR r k = k :: (pathR r k).tail:=rfl
theorem rpth_ok : FunR Tryz.prog 21 R_pth:=by
  intro args k h
  obtain ⟨r,x,rfl,hf,hk⟩:=h
  refine does_ex (qc:=qc1) (np:=[]) (CK:=ckK [(48,cSc R_rvE),(49,cSc R_within),(50,cSc R_lnk)]) mixed Tryz.func21 rfl rfl Tryz.ntmps21 Tryz.results21 τ_ok (by kernel_rfl) (ckK_ok ⟨cSc_ok rrvE_ok,cSc_ok rIn_ok,cSc_ok leav_ok,trivial⟩) (by simp) ?_
  conv=>whnf
  refine ⟨r,rfl,hf,?_⟩
  conv=>whnf
  refine Fork.mk (fun h=>?_) (fun h=>?_)
  · have h1 : rvE r ≠ 0:=by simpa using h
    conv=>whnf
    exact kPth (y:=([],rvE r)) hk (by rw [pthS,if_pos h1])
  have h1 : rvE r = 0:=by simpa using h
  have hr:=rvE_ok h1
  have hrn:=hr.n
  have hrl:=hr.len
  have hmk:=eK_len r.ls
  clear h
  have e1 : IntKind.i64.wrap (r.n - 1) = r.n - 1:=wrap_in (by omega) (by omega)
  conv=>whnf
  rw [e1]
  refine Fork.mk (fun h=>?_) (fun h=>?_)
  · have h2 : inN r.n x = false:=by rw [Bool.not_eq_true'] at h;exact h
    conv=>whnf
    exact kPth (y:=([],11)) hk (by rw [pthS,if_neg (by simp [h1]),if_pos h2])
  have h2 : inN r.n x = true:=by rw [Bool.not_eq_false'] at h;exact h
  clear h
  have hx : 0≤x∧x < r.n:=by simp [inN] at h2;omega
  have e0 : pthS r x = (pathR r x,0):=by rw [pthS,if_neg (by simp [h1]),if_neg (by simp [h2])]
  rw [e0] at hk
  conv=>whnf
  refine ⟨r,x,rfl,by omega,?_⟩
  conv=>whnf
  refine ⟨Ls × Int,fun y=>([(2,.c (.ptr (.l 2 0) 0)),(7,.c (.view (.l 21 1) 0 y.1.length)),(8,I (lnk r.ls y.2))],⟨[(.l 2 0,.blk (rvC r)),(.l 21 1,.arr 3 1 (eL y.1) false)],9,[]⟩),
    fun y=>pathR r x = y.1 ++ (pathR r y.2).tail∧(0≤y.2∧y.2 < r.n)∧(y.1.length : Int)≤y.2 + 1,fun y=>(r.n - y.2).toNat,([x],x),⟨pathR_hd r x,hx,by simp;omega⟩,Shift.rename [] ⟨rfl,rfl,rfl,trivial⟩ ⟨rfl,rfl,trivial⟩ rfl rfl rfl,fun y hy=>?_⟩
  obtain ⟨O,q⟩:=y
  obtain ⟨hE,hq,hO⟩:=hy
  dsimp only at hE hq hO ⊢
  have hmO:=eL_len O
  conv=>whnf
  refine Fork.mk (fun h=>?_) (fun h=>?_)
  rotate_left
  · have hlt : lnk r.ls q < 0:=by simp at h;omega
    rw [path_end hlt,List.tail_cons,List.append_nil] at hE
    have t1 : List.take O.length (List.drop 0 (eL O)) = eL O:=by rw [List.drop_zero,List.take_of_length_le (by omega)]
    conv=>whnf
    refine ⟨by omega,?_⟩
    conv=>whnf
    rw [t1]
    exact kPth (y:=(O,0)) hk (by rw [hE])
  have hge : 0≤lnk r.ls q:=by simpa using h
  clear h
  obtain ⟨J,l,hJ1,hJ2,hJ3⟩ : ∃ (j : Nat) (a : Lk),r.ls[j]? = some a∧a.fr = q∧lnk r.ls q = j:=by
    rcases lnk_spec r.ls q with ⟨h,_⟩ | h
    · omega
    · exact h
  have hJl:=(List.getElem?_eq_some_iff.1 hJ1).1
  have hkk:=hr.l l (List.mem_of_getElem? hJ1)
  have hk1:=hkk.o
  have hk2:=hkk.t
  rw [path_step hr hq.1 hJ3 hJ1 hJ2,List.tail_cons,pathR_hd r l.to] at hE
  rw [hJ3]
  conv=>whnf
  refine ⟨by omega,lkC l,by rw [Int.toNat_natCast,List.getElem?_map,hJ1];rfl,rfl,?_⟩
  conv=>whnf
  refine ⟨by simp,?_⟩
  conv=>whnf
  refine ⟨rfl,?_⟩
  conv=>whnf
  refine ⟨⟨rfl,rfl,rfl,hmO.symm,by rw [hmO];simp;omega⟩,?_⟩
  conv=>whnf
  refine ⟨r,l.to,rfl,by omega,?_⟩
  conv=>whnf
  refine ⟨(O ++ [l.to],l.to),⟨by simpa using hE,⟨by dsimp only;omega,hk2⟩,by dsimp only;simp;omega⟩,Shift.rename [(.l 21 1,.l 39 10)] ⟨rfl,?_,rfl,trivial⟩ ⟨rfl,?_,trivial⟩ rfl rfl rfl,by dsimp only;omega⟩
  · dsimp only;rw [List.length_append,← hmO];rfl
  · dsimp only;rw [show eL (O ++ [l.to]) = eL O ++ [eI l.to] from List.map_append];rfl
def bwS (c : Cs) (i : Int) : Ls × Int:=if csE c ≠ 0 then ([],csE c) else if i < 0 then ([],40) else if (c.si.length : Int)≤i then ([],40) else (belF c i.toNat,0)
def R_bw : RT:=fun args k=>∃ (c : Cs) (i : Int),args = [.agg (csC c),I i]∧c.fin∧k (.tup [.c (.lst (eL (bwS c i).1)),I (bwS c i).2])
end Go.Proofs

namespace Go.Proofs
open Go Go.Abs
set_option linter.unusedSimpArgs false
set_option linter.unusedVariables false
set_option maxRecDepth 20000
def R_abv : RT:=fun args k=>∃ (c : Cs) (n : Int),args = [.agg (csC c),I n]∧c.fin∧k (.tup [.c (.lst (eL (abS c n).1)),I (abS c n).2])
end Go.Proofs

namespace Go.Proofs
open Go Go.Abs
set_option linter.unusedSimpArgs false
set_option linter.unusedVariables false
set_option maxRecDepth 20000
end Go.Proofs
