/- Proved here: what functions of the given program come to, and the plain laws of it; no condition but those in the theorems. -/
import Derived.Test.YtgllikepncnpkaaGreatA34n
import Derived.Test.YtgllikepncnpkaaGreatAbsRx
namespace Go.Proofs
open Go Go.Abs
set_option linter.unusedSimpArgs false
set_option linter.unusedVariables false
set_option maxRecDepth 20000
theorem rdyE_ok {c:Cs} {s:Fl} (h:rdyE c s=0):VaOk c s:=by
  unfold rdyE at h
  split at h
  · rename_i e;exact absurd h e
  split at h
  · cases h
  · rename_i e;exact vaB_ok (by simpa using e)
theorem follow_ok:FunR Tryz.prog 17 R_fo:=by
  intro args k h
  obtain ⟨c,s,lvs,locs,rfl,hc,hs,hvl,hvm,hk⟩:=h
  have hml:=eLw_len lvs
  have hmm:=eLw_len locs
  refine does_ex (qc:=qc1) (np:=[]) (CK:=ckK [(41,cSc (R_cfI rdyE)),(42,cOr (cPu R_clW0) (cA R_clW1)),(43,cOr (cPu R_stT0) (cG (R_stT 85)))]) mixed Tryz.func17 rfl rfl Tryz.ntmps17 Tryz.results17 τ_ok (by kernel_rfl) (ckK_ok ⟨cSc_ok ready_ok,cOr_ok (cPu_ok clW0_ok rfl) (cA_ok clW1_ok rfl),cOr_ok (cPu_ok stT0_ok rfl) (cG_ok stT_ok rfl),trivial⟩) (by simp) ?_
  conv=>whnf
  refine ⟨c,s,rfl,hc,hs,?_⟩
  conv=>whnf
  refine Fork.mk (fun h=>?_) (fun h=>?_)
  · have h1:rdyE c s ≠ 0:=by simpa using h
    conv=>whnf
    exact kFo (y:=.error (rdyE c s)) hk (by rw [foX,if_pos h1])
  have h1:rdyE c s=0:=by simpa using h
  have hva:=rdyE_ok h1
  have hr:=hva.k.r
  have hrl:=hr.len
  have hwl:=hva.w.l
  clear h
  conv=>whnf
  refine Fork.mk (fun h=>?_) (fun h=>?_)
  · have h2:lvs.length ≠ locs.length:=by simp at h;omega
    conv=>whnf
    exact kFo (y:=.error 3) hk (by rw [foX,if_neg (by simp [h1]),if_pos h2])
  have h2:lvs.length=locs.length:=by simp at h;omega
  clear h
  conv=>whnf
  refine Fork.mk (fun h=>?_) (fun h=>?_)
  · have h3:400 < lvs.length:=by simp at h;omega
    conv=>whnf
    exact kFo (y:=.error 10) hk (by rw [foX,if_neg (by simp [h1]),if_neg (by simp [h2]),if_pos h3])
  have h3:¬ 400 < lvs.length:=by simp at h;omega
  clear h
  have e0:foX c s lvs locs=flG c s.ws lvs locs:=by rw [foX,if_neg (by simp [h1]),if_neg (by simp [h2]),if_neg h3]
  rw [e0] at hk
  clear e0
  conv=>whnf
  cases hws:s.ws with
  | nil =>
    have hls:c.rv.ls=[]:=List.eq_nil_of_length_eq_zero (by rw [← hwl,hws];rfl)
    refine Or.inl ?_
    conv=>whnf
    refine ⟨rfl,?_⟩
    conv=>whnf
    refine ⟨List Ls × List Ls × Nat,fun y=>([(3,.c (.lst (eLw locs))),(4,.c (.ptr (.l 4 0) 0)),(11,.c (.lst [])),(12,.c (.view (.l 58 2) 0 y.2.1.length)),(34,.c (.lst (eLw lvs))),(35,I (eLw lvs).length),(36,I y.2.2)],⟨[(.l 4 0,.blk (csC c)),(.l 58 2,.arr 22 1 (eLw y.2.1) false)],20,[]⟩),
      fun y=>y.2.2≤lvs.length∧flG c s.ws lvs locs=preL y.2.1 (flG c y.1 (lvs.drop y.2.2) (locs.drop y.2.2))∧WvOk c.rv y.1∧y.2.1.length=y.2.2,fun y=>lvs.length - y.2.2,(s.ws,[],0),⟨Nat.zero_le _,preL_nil _,hva.w,rfl⟩,Shift.trans (Shift.rename [] ⟨rfl,rfl,rfl,rfl,rfl,rfl,rfl,trivial⟩ ⟨rfl,rfl,trivial⟩ rfl rfl rfl) (Shift.nilArr (t:=12) rfl 58 22 1),fun y hy=>?_⟩
    obtain ⟨w',o,j⟩:=y
    obtain ⟨hj,hrun,hw',hol⟩:=hy
    dsimp only at hj hrun hw' hol ⊢
    have hwl':=hw'.l
    have hmo:=eLw_len o
    have hmw':=eV_len w'
    conv=>whnf
    refine Fork.mk (fun h=>?_) (fun h=>?_)
    rotate_left
    · have hje:j=lvs.length:=by simp at h;omega
      rw [hje,List.drop_length] at hrun
      have t1:List.take o.length (List.drop 0 (eLw o))=eLw o:=by rw [List.drop_zero,List.take_of_length_le (by omega)]
      conv=>whnf
      refine ⟨by omega,?_⟩
      conv=>whnf
      rw [t1]
      exact kFo (y:=.ok o) hk (by rw [hrun];simp [preL,flG])
    have hjl:j < lvs.length:=by simp at h;omega
    clear h
    have hcj:=List.getElem?_eq_getElem hjl
    have hcm:=List.getElem?_eq_getElem (show j < locs.length by omega)
    have hll:=hvl.2 _ (List.getElem_mem hjl)
    have hlm:=hvm.2 _ (List.getElem_mem (show j < locs.length by omega))
    generalize lvs[j]=l at hcj hll
    generalize locs[j]=m at hcm hlm
    rw [dropC hcj,dropC hcm] at hrun
    have hw1:=wr_succ (i:=j) (by omega)
    conv=>whnf
    refine ⟨by omega,lwC l,by rw [Int.toNat_natCast,List.getElem?_map,hcj];rfl,rfl,?_⟩
    conv=>whnf
    refine ⟨by omega,lwC m,by rw [Int.toNat_natCast,List.getElem?_map,hcm];rfl,rfl,?_⟩
    conv=>whnf
    refine Or.inl ?_
    conv=>whnf
    have hw0:w'=[]:=List.eq_nil_of_length_eq_zero (by rw [hwl',hls];rfl)
    subst hw0
    refine ⟨c,l,m,rfl,hva.k,hls,hll,hlm,fun x hx=>?_,fun e hx=>?_⟩
    · obtain ⟨f1,f2,_⟩:=stX_fit hr hw' hx
      rw [flG_ok hx,preL_app] at hrun
      obtain ⟨xw,xa⟩:=x
      dsimp only at f1 f2 hrun
      have hol2:=hol
      conv=>whnf
      repeat' ((first | refine fork_t ?_ | refine fork_f ?_ | (refine Fork.mk (fun h=>?_) (fun h=>?_);focus (simp at h;done)) | fail) <;> (conv=>whnf))
      refine ⟨by simp,?_⟩
      conv=>whnf
      refine ⟨rfl,?_⟩
      conv=>whnf
      refine ⟨⟨rfl,rfl,rfl,hmo.symm,by rw [hmo];simp;omega⟩,?_⟩
      conv=>whnf
      rw [hw1]
      refine ⟨(xw,o ++ [xa],j+1),⟨hjl,hrun,f1,by simp [hol]⟩,Shift.rename [(.l 58 2,.l 58 21)] ⟨rfl,rfl,rfl,?_,rfl,rfl,rfl,trivial⟩ ⟨rfl,?_,trivial⟩ rfl rfl rfl,by dsimp only;omega⟩
      · dsimp only;rw [List.length_append,← hmo];rfl
      · dsimp only;rw [show eLw (o ++ [xa])=eLw o ++ [lwC xa] from List.map_append];rfl
    · have he:=stX_err hx
      rw [flG_err hx] at hrun
      have hk2:k (foA (.error e)):=kFo hk hrun
      conv=>whnf
      rcases he with rfl | rfl
      · repeat' ((first | refine fork_t ?_ | refine fork_f ?_ | (refine Fork.mk (fun h=>?_) (fun h=>?_);focus (simp at h;done)) | fail) <;> (conv=>whnf))
        exact hk2
      · repeat' ((first | refine fork_t ?_ | refine fork_f ?_ | (refine Fork.mk (fun h=>?_) (fun h=>?_);focus (simp at h;done)) | fail) <;> (conv=>whnf))
        exact hk2
  | cons p0 r0 =>
    have hwn:1≤s.ws.length:=by rw [hws];simp
    rw [← hws]
    refine Or.inr ?_
    conv=>whnf
    refine ⟨s.ws,rfl,hwn,by omega,?_⟩
    conv=>whnf
    refine ⟨List Ls × List Ls × Nat,fun y=>([(3,.c (.lst (eLw locs))),(4,.c (.ptr (.l 4 0) 0)),(11,.c (.view (.l 33 2) 0 s.ws.length)),(12,.c (.view (.l 58 3) 0 y.2.1.length)),(34,.c (.lst (eLw lvs))),(35,I (eLw lvs).length),(36,I y.2.2)],⟨[(.l 4 0,.blk (csC c)),(.l 33 2,.arr 85 1 (eV y.1) false),(.l 58 3,.arr 22 1 (eLw y.2.1) false)],20,[]⟩),
      fun y=>y.2.2≤lvs.length∧flG c s.ws lvs locs=preL y.2.1 (flG c y.1 (lvs.drop y.2.2) (locs.drop y.2.2))∧WvOk c.rv y.1∧y.2.1.length=y.2.2,fun y=>lvs.length - y.2.2,(s.ws,[],0),⟨Nat.zero_le _,preL_nil _,hva.w,rfl⟩,Shift.trans (Shift.rename [] ⟨rfl,rfl,rfl,rfl,rfl,rfl,rfl,trivial⟩ ⟨rfl,rfl,rfl,trivial⟩ rfl rfl rfl) (Shift.nilArr (t:=12) rfl 58 22 1),fun y hy=>?_⟩
    obtain ⟨w',o,j⟩:=y
    obtain ⟨hj,hrun,hw',hol⟩:=hy
    dsimp only at hj hrun hw' hol ⊢
    have hwl':=hw'.l
    have hmo:=eLw_len o
    have hmw':=eV_len w'
    conv=>whnf
    refine Fork.mk (fun h=>?_) (fun h=>?_)
    rotate_left
    · have hje:j=lvs.length:=by simp at h;omega
      rw [hje,List.drop_length] at hrun
      have t1:List.take o.length (List.drop 0 (eLw o))=eLw o:=by rw [List.drop_zero,List.take_of_length_le (by omega)]
      conv=>whnf
      refine ⟨by omega,?_⟩
      conv=>whnf
      rw [t1]
      exact kFo (y:=.ok o) hk (by rw [hrun];simp [preL,flG])
    have hjl:j < lvs.length:=by simp at h;omega
    clear h
    have hcj:=List.getElem?_eq_getElem hjl
    have hcm:=List.getElem?_eq_getElem (show j < locs.length by omega)
    have hll:=hvl.2 _ (List.getElem_mem hjl)
    have hlm:=hvm.2 _ (List.getElem_mem (show j < locs.length by omega))
    generalize lvs[j]=l at hcj hll
    generalize locs[j]=m at hcm hlm
    rw [dropC hcj,dropC hcm] at hrun
    have hw1:=wr_succ (i:=j) (by omega)
    conv=>whnf
    refine ⟨by omega,lwC l,by rw [Int.toNat_natCast,List.getElem?_map,hcj];rfl,rfl,?_⟩
    conv=>whnf
    refine ⟨by omega,lwC m,by rw [Int.toNat_natCast,List.getElem?_map,hcm];rfl,rfl,?_⟩
    conv=>whnf
    refine Or.inr ?_
    conv=>whnf
    refine ⟨[.l 33 2],rfl,?_⟩
    conv=>whnf
    refine ⟨rfl,?_⟩
    conv=>whnf
    refine ⟨rfl,?_⟩
    conv=>whnf
    refine ⟨c,l,m,w',?_,rfl,hva.k,hw',hll,hlm,fun x hx=>?_,fun e hx w2 hw2=>?_⟩
    · rw [show w'.length=s.ws.length by omega];rfl
    · obtain ⟨f1,f2,_⟩:=stX_fit hr hw' hx
      have f3:=f1.l
      rw [flG_ok hx,preL_app] at hrun
      obtain ⟨xw,xa⟩:=x
      dsimp only at f1 f2 f3 hrun
      have hol2:=hol
      conv=>whnf
      repeat' ((first | refine fork_t ?_ | refine fork_f ?_ | (refine Fork.mk (fun h=>?_) (fun h=>?_);focus (simp at h;done)) | fail) <;> (conv=>whnf))
      refine ⟨by simp,?_⟩
      conv=>whnf
      refine ⟨rfl,?_⟩
      conv=>whnf
      refine ⟨⟨rfl,rfl,rfl,hmo.symm,by rw [hmo];simp;omega⟩,?_⟩
      conv=>whnf
      rw [hw1]
      refine ⟨(xw,o ++ [xa],j+1),⟨hjl,hrun,f1,by simp [hol]⟩,Shift.rename [(.l 58 3,.l 58 21)] ⟨rfl,rfl,?_,?_,rfl,rfl,rfl,trivial⟩ ⟨rfl,rfl,?_,trivial⟩ rfl rfl rfl,by dsimp only;omega⟩
      · first | rfl | (dsimp only;rw [show xw.length=s.ws.length by omega];rfl)
      · dsimp only;rw [List.length_append,← hmo];rfl
      · dsimp only;rw [show eLw (o ++ [xa])=eLw o ++ [lwC xa] from List.map_append];rfl
    · have he:=stX_err hx
      rw [flG_err hx] at hrun
      have hk2:k (foA (.error e)):=kFo hk hrun
      conv=>whnf
      rcases he with rfl | rfl
      · repeat' ((first | refine fork_t ?_ | refine fork_f ?_ | (refine Fork.mk (fun h=>?_) (fun h=>?_);focus (simp at h;done)) | fail) <;> (conv=>whnf))
        exact hk2
      · repeat' ((first | refine fork_t ?_ | refine fork_f ?_ | (refine Fork.mk (fun h=>?_) (fun h=>?_);focus (simp at h;done)) | fail) <;> (conv=>whnf))
        exact hk2
end Go.Proofs

namespace Go.Proofs
open Go Go.Abs
set_option linter.unusedSimpArgs false
set_option linter.unusedVariables false
set_option maxRecDepth 20000
def R_few:RT:=fun args k=>∃ l:Ls,args=[.c (.lst (eL l))]∧k (Bo (decide (l.length≤500)))
theorem few_ok:FunR Tryz.prog 10 R_few:=by
  intro args k h
  obtain ⟨l,rfl,hk⟩:=h
  have hm:=eL_len l
  refine does_ex (qc:=qc1) (np:=[]) (CK:=ckK []) mixed Tryz.func10 rfl rfl Tryz.ntmps10 Tryz.results10 τ_ok (by kernel_rfl) (ckK_ok trivial) (by simp) ?_
  conv=>whnf
  rw [show decide (l.length≤500)=decide (((eL l).length:Int)≤500) by rw [hm];simp;omega] at hk
  exact hk
def R_has:RT:=fun args k=>∃ (l:Ls) (x:Int),args=[.c (.lst (eL l)),I x]∧l.length≤9223372036854775807∧k (Bo (l.any (fun y=>decide (y=x))))
def R_flws:RB:=fun cs args k=>∃ (d:Dk) (S N:Nat) (most:Int),args=[I S,I N,I most]∧cs=dkC d∧d.ok∧S≤1000∧N≤1000∧(1≤most∧most≤1000)∧∀ (l:List Ls) d',Dk.ok d'→l.length=S→(∀ r ∈ l,r.length=N∧∀ x ∈ r,0≤x∧x < most)→k (.c (.lst (eLw l))) (dkC d')
theorem flws_ok:FunB Tryz.prog 19 R_flws:=by
  intro cs args k h
  obtain ⟨d,S,N,most,rfl,rfl,hd,hS,hN,hm,hk⟩:=h
  refine doesB_ex (qc:=qc1) (np:=[]) (CK:=ckK [(44,cB R_flows)]) mixed Tryz.func19 rfl rfl Tryz.ntmps19 Tryz.results19 τ_ok (by kernel_rfl) (ckK_ok ⟨cB_ok mflows_ok rfl,trivial⟩) (by simp) rfl rfl ?_
  conv=>whnf
  refine ⟨List Ls × Dk,fun y=>([(0,.c (.ptr (.x 0) 0)),(2,I N),(3,I most),(9,.c (.view (.l 19 0) 0 y.1.length)),(10,I S),(11,I y.1.length)],⟨[(.x 0,.blk (dkC y.2)),(.l 19 0,.arr 22 1 (eLw y.1) false)],9,[]⟩),
    fun y=>y.2.ok∧y.1.length≤S∧(∀ r ∈ y.1,r.length=N∧∀ x ∈ r,0≤x∧x < most),fun y=>S - y.1.length,([],d),⟨hd,Nat.zero_le _,fun p h=>by simp at h⟩,
    Shift.trans (Shift.rename [] ⟨rfl,rfl,rfl,rfl,rfl,rfl,trivial⟩ ⟨rfl,rfl,trivial⟩ rfl rfl rfl) (Shift.nilArr (t:=9) rfl 19 22 1),fun y hy=>?_⟩
  obtain ⟨L,d⟩:=y
  obtain ⟨hd,hl,hb⟩:=hy
  dsimp only at hd hl hb ⊢
  have hmL:=eLw_len L
  have hw1:=wr_succ (i:=L.length) (by omega)
  conv=>whnf
  refine Fork.mk (fun h=>?_) (fun h=>?_)
  · have hl2:L.length < S:=by simp at h;omega
    clear h
    conv=>whnf
    refine ⟨d,N,rfl,hd,rfl,hN,hm,fun p d hd hp1 hp2=>?_⟩
    conv=>whnf
    refine ⟨by simp,?_⟩
    conv=>whnf
    refine ⟨rfl,?_⟩
    conv=>whnf
    refine ⟨⟨rfl,rfl,rfl,hmL.symm,by rw [hmL];simp;omega⟩,?_⟩
    conv=>whnf
    rw [hw1]
    refine ⟨(L ++ [p],d),⟨hd,by simp;omega,fun y hy=>?_⟩,Shift.rename [(.l 19 0,.l 19 10)] ⟨rfl,rfl,rfl,?_,rfl,?_,trivial⟩ ⟨rfl,?_,trivial⟩ rfl rfl rfl,by dsimp only;simp;omega⟩
    · rcases List.mem_append.1 hy with hy | hy
      · exact hb y hy
      · simp at hy;subst hy;exact ⟨hp1,hp2⟩
    · dsimp only;rw [List.length_append,← hmL];rfl
    · dsimp only;rw [List.length_append];rfl
    · dsimp only;rw [show eLw (L ++ [p])=eLw L ++ [lwC p] from List.map_append];rfl
  have hlN:L.length=S:=by simp at h;omega
  clear h
  have t1:List.take L.length (List.drop 0 (eLw L))=eLw L:=by rw [List.drop_zero,List.take_of_length_le (by omega)]
  conv=>whnf
  refine ⟨by omega,?_⟩
  conv=>whnf
  rw [t1]
  exact ⟨rfl,rfl,hk L d hd hlN hb⟩
end Go.Proofs

namespace Go.Proofs
open Go Go.Abs
set_option linter.unusedSimpArgs false
set_option linter.unusedVariables false
set_option maxRecDepth 20000
end Go.Proofs

namespace Go.Proofs
open Go Go.Abs
set_option linter.unusedSimpArgs false
set_option linter.unusedVariables false
set_option maxRecDepth 20000
end Go.Proofs

namespace Go.Proofs
open Go Go.Abs
set_option linter.unusedSimpArgs false
set_option linter.unusedVariables false
set_option maxRecDepth 20000
end Go.Proofs

namespace Go.Proofs
open Go Go.Abs
set_option linter.unusedSimpArgs false
set_option linter.unusedVariables false
def cutS (si:List Si):Ls→Ls
  | []=>[]
  | x :: r=>if 0≤snA si x then [x] else x :: cutS si r
def belP (c:Cs) (k:Int):Ls:=cutS c.si (pathR c.rv k).tail
theorem belP_end {c:Cs} {k:Int} (h:lnk c.rv.ls k < 0):belP c k=[]:=by rw [belP,path_end h];rfl
theorem belP_step {c:Cs} (hr:RvOk c.rv) {k:Int} (hk:0≤k) {i:Nat} {l:Lk} (h:lnk c.rv.ls k=i) (hl:c.rv.ls[i]?=some l) (hf:l.fr=k):belP c k=if 0≤snA c.si l.to then [l.to] else l.to :: belP c l.to:=by
  have e:pathR c.rv l.to=l.to :: (pathR c.rv l.to).tail:=rfl
  rw [belP,path_step hr hk h hl hf,List.tail_cons,e,cutS]
  rfl
def belF (c:Cs) (i:Nat):Ls:=match c.si[i]? with
  | some x=>belP c x.nd
  | none=>[]
def hitN (n:Int) (i:Nat) (l:Ls):Ls:=(l.filter fun y=>decide (y=n)).map fun _=>(i:Int)
theorem hitN_snoc (n:Int) (i:Nat) (l:Ls) (z:Int):hitN n i (l ++ [z])=if z=n then hitN n i l ++ [(i:Int)] else hitN n i l:=by
  unfold hitN
  rw [List.filter_append]
  by_cases h:z=n <;> simp [h]
theorem hitN_len (n:Int) (i:Nat) (l:Ls):(hitN n i l).length≤l.length:=by
  unfold hitN
  rw [List.length_map]
  exact List.length_filter_le ..
def abG (c:Cs) (n:Int):Nat→Ls
  | 0=>[]
  | i+1=>abG c n i ++ hitN n i (belF c i)
def abS (c:Cs) (n:Int):Ls × Int:=if csE c ≠ 0 then ([],csE c) else if n < 0 then ([],41) else if c.rv.n≤n then ([],41) else (abG c n c.si.length,0)
theorem cutS_len (si:List Si):∀ l:Ls,(cutS si l).length≤l.length
  | []=>Nat.le_refl _
  | x :: r=>by
    rw [cutS]
    split
    · simp
    · simp [cutS_len si r]
theorem belF_len {c:Cs} (hc:CsOk c) (i:Nat):(belF c i).length≤40:=by
  unfold belF
  cases hx:c.si[i]? with
  | none=>simp
  | some x =>
    have hxn:=(hc.s x (List.mem_of_getElem? hx)).1
    have h1:=cutS_len c.si (pathR c.rv x.nd).tail
    have h2:=path_len hc.r hxn
    rw [pathR,List.tail_cons,List.length_map] at h1
    dsimp only
    unfold belP
    rw [pathR,List.tail_cons]
    omega
theorem abG_len {c:Cs} (hc:CsOk c) (n:Int):∀ i,(abG c n i).length≤40 * i
  | 0=>Nat.le_refl _
  | i+1=>by
    have:=abG_len hc n i
    have:=hitN_len n i (belF c i)
    have:=belF_len hc i
    rw [abG,List.length_append]
    omega
inductive runsC (c:Cs) (s:Fl):List Su→List Pd→Fl→Prop
  | nil:runsC c s [] [] s
  | snoc {l:List Su} {xs:List Pd} {a b:Fl} {p:Su} {x:Pd}:runsC c s l xs a→stepC c a p b x→runsC c s (l ++ [p]) (xs ++ [x]) b
theorem runsC.va {c:Cs} {s:Fl} (h:VaOk c s) {l:List Su} {xs:List Pd} {b:Fl} (hs:runsC c s l xs b):VaOk c b:=by
  cases hs with
  | nil=>exact h
  | snoc _ h3=>exact h3.valid
end Go.Proofs

namespace Go.Proofs
open Go Go.Abs
set_option linter.unusedSimpArgs false
set_option linter.unusedVariables false
set_option maxRecDepth 20000
def bwS (c:Cs) (i:Int):Ls × Int:=if csE c ≠ 0 then ([],csE c) else if i < 0 then ([],40) else if (c.si.length:Int)≤i then ([],40) else (belF c i.toNat,0)
def R_bw:RT:=fun args k=>∃ (c:Cs) (i:Int),args=[.agg (csC c),I i]∧c.fin∧k (.tup [.c (.lst (eL (bwS c i).1)),I (bwS c i).2])
end Go.Proofs

namespace Go.Proofs
open Go Go.Abs
set_option linter.unusedSimpArgs false
set_option linter.unusedVariables false
set_option maxRecDepth 20000
def R_abv:RT:=fun args k=>∃ (c:Cs) (n:Int),args=[.agg (csC c),I n]∧c.fin∧k (.tup [.c (.lst (eL (abS c n).1)),I (abS c n).2])
end Go.Proofs

namespace Go.Proofs
open Go Go.Abs
set_option linter.unusedSimpArgs false
set_option linter.unusedVariables false
set_option maxRecDepth 20000
end Go.Proofs

namespace Go.Proofs
open Go Go.Abs
set_option linter.unusedSimpArgs false
set_option linter.unusedVariables false
set_option maxRecDepth 40000
abbrev bO (c:Cs) (i:Nat):List MObj:=[.blk (csC c),.blk [IC i]]
def R_belw:RG:=fun args os k=>∃ (c:Cs) (i:Nat),args=[.agg (csC c),I i]∧os=[]∧k (.c (.fn 76 [.ptr (.x 0) 0,.ptr (.x 1) 0])) (bO c i)
theorem belw_ok:FunH Tryz.prog 47 R_belw:=by
  intro args os k h
  obtain ⟨c,i,rfl,rfl,hk⟩:=h
  refine doesH_ex (qc:=qc1) (np:=[]) (CK:=ckK []) mixed Tryz.func47 rfl rfl Tryz.ntmps47 Tryz.results47 τ_ok (by kernel_rfl) (ckK_ok trivial) (by simp) ?_
  conv=>whnf
  exact ⟨.l 2 0,.l 3 1,rfl,rfl,rfl,rfl,rfl,hk⟩
noncomputable def genBel:Gen Tryz.prog:=⟨76,Tryz.f76,bodyF Tryz.f76,_,[],qc1,ckK [(77,cSc R_lkF),(71,cSc R_siA)],Tryz.func76,rfl,rfl,Tryz.ntmps76,Tryz.results76,by kernel_rfl,ckK_ok ⟨cSc_ok lkF_ok,cSc_ok siA_ok,trivial⟩⟩
def R_apS:RG:=fun args os k=>∃ (c:Cs) (i:Nat),args=[.c (.sc (.slice none 0 0)),.c (.fn 76 [.ptr (.x 0) 0,.ptr (.x 1) 0])]∧os=bO c i∧CsOk c∧i < c.si.length∧k (.c (.lst (eL (belF c i)))) (bO c i)
theorem apS_ok:FunG Tryz.prog 75 R_apS:=by
  intro args os k h
  obtain ⟨c,i,rfl,rfl,hc,hi,hk⟩:=h
  have hr:=hc.r
  have hrn:=hr.n
  have hrl:=hr.len
  have hcm:=hc.m
  have hmx:=eX_len c.si
  have hmk:=eK_len c.rv.ls
  obtain ⟨x,hx⟩:∃ x,c.si[i]?=some x:=⟨_,List.getElem?_eq_getElem hi⟩
  have hxn:=(hc.s x (List.mem_of_getElem? hx)).1
  have hB:belF c i=belP c x.nd:=by unfold belF;rw [hx]
  rw [hB] at hk
  have hCK:∀ f args d m k,ckK [] f args d m k→callK Tryz.prog qc1 f args d m k:=ckK_ok trivial
  refine ⟨_,_,doesTG_of (qc:=qc1) (np:=[]) (CK:=ckK []) (RC:=rcN τ [] (ckK []) qc1 13 genBel) mixed Tryz.func75 rfl rfl Tryz.ntmps75 Tryz.results75 τ_ok (by kernel_rfl) hCK (rcN_ok τ_ok hCK mixed genBel) (by simp) ⟨rfl,rfl,rfl,rfl,rfl⟩ ?_,hk⟩
  conv=>whnf
  refine ⟨⟨⟨rfl,rfl⟩,⟨rfl,rfl⟩,rfl⟩,?_⟩
  conv=>whnf
  refine ⟨_,rfl,Nat.le_of_ble_eq_true rfl,[.x 0,.x 1,.l 2 0],[],rfl,rfl,?_⟩
  conv=>whnf
  refine ⟨rfl,rfl,fun L=>?_⟩
  conv=>whnf
  refine ⟨by omega,siC x,by rw [Int.toNat_natCast,List.getElem?_map,hx];rfl,rfl,?_⟩
  conv=>whnf
  refine ⟨c,x.nd,rfl,by omega,?_⟩
  conv=>whnf
  refine ⟨Ls × Int,fun y=>([(0,yV L),(1,.c (.ptr (.x 0) 0)),(4,I (lnk c.rv.ls y.2))],⟨[(.x 0,.blk (csC c)),(.x 1,.blk [IC i]),(.x 2,.blk [.view (.l 11 0) 0 y.1.length]),(.l 11 0,.arr 3 1 (eL y.1) false)],20,[]⟩),
    fun y=>belP c x.nd=y.1 ++ belP c y.2∧(0≤y.2∧y.2 < c.rv.n)∧(y.1.length:Int)≤y.2,fun y=>(c.rv.n - y.2).toNat,([],x.nd),⟨rfl,hxn,hxn.1⟩,
    Shift.trans (Shift.rename [] ⟨rfl,rfl,rfl,trivial⟩ ⟨rfl,rfl,rfl,rfl,trivial⟩ rfl rfl rfl) (Shift.nilCell (i:=.x 2) (cs:=[.sc (.slice none 0 0)]) (j:=0) rfl rfl 11 3 1),fun y hy=>?_⟩
  obtain ⟨O,q⟩:=y
  obtain ⟨hE,hq,hO⟩:=hy
  dsimp only at hE hq hO ⊢
  have hmO:=eL_len O
  conv=>whnf
  refine Fork.mk (fun h=>?_) (fun h=>?_)
  rotate_left
  · have hlt:lnk c.rv.ls q < 0:=by simp at h;omega
    clear h
    rw [belP_end hlt,List.append_nil] at hE
    conv=>whnf
    refine ⟨[.l 11 0],[11],⟨rfl,rfl,rfl,rfl⟩,?_⟩
    conv=>whnf
    refine ⟨rfl,rfl,?_⟩
    conv=>whnf
    refine ⟨by omega,?_⟩
    have he:(((eL O).drop 0).take O.length)=eL (belP c x.nd):=by rw [List.drop_zero,List.take_of_length_le (by rw [eL_len];exact Nat.le_refl _),hE]
    simp only [Nat.zero_add,he]
    conv=>whnf
    exact ⟨rfl,rfl⟩
  have hge:0≤lnk c.rv.ls q:=by simpa using h
  clear h
  obtain ⟨J,l,hJ1,hJ2,hJ3⟩:∃ (j:Nat) (a:Lk),c.rv.ls[j]?=some a∧a.fr=q∧lnk c.rv.ls q=j:=by
    rcases lnk_spec c.rv.ls q with ⟨h,_⟩ | h
    · omega
    · exact h
  have hJl:=(List.getElem?_eq_some_iff.1 hJ1).1
  have hk:=hr.l l (List.mem_of_getElem? hJ1)
  have hk1:=hk.o
  have hk2:=hk.t
  have hS:=belP_step hr hq.1 hJ3 hJ1 hJ2
  rw [hS] at hE
  rw [hJ3]
  conv=>whnf
  refine ⟨by omega,lkC l,by rw [Int.toNat_natCast,List.getElem?_map,hJ1];rfl,rfl,?_⟩
  conv=>whnf
  refine ⟨rfl,?_⟩
  conv=>whnf
  refine ⟨rfl,?_⟩
  conv=>whnf
  refine ⟨by simp,?_⟩
  conv=>whnf
  refine ⟨rfl,?_⟩
  conv=>whnf
  refine ⟨⟨rfl,rfl,rfl,hmO.symm,by rw [hmO];simp;omega⟩,?_⟩
  conv=>whnf
  refine Fork.mk (fun h=>by cases h) (fun _=>?_)
  conv=>whnf
  refine ⟨c,l.to,rfl,by omega,?_⟩
  conv=>whnf
  refine Fork.mk (fun h=>?_) (fun h=>?_)
  · have h5:0≤snA c.si l.to:=by simpa using h
    clear h
    rw [if_pos h5] at hE
    conv=>whnf
    refine ⟨[.l 11 21],[11],⟨rfl,rfl,rfl,rfl⟩,?_⟩
    conv=>whnf
    refine ⟨rfl,rfl,?_⟩
    conv=>whnf
    refine ⟨by simp,?_⟩
    have he:(List.take ((eL O).length+(List.take 1 (List.drop 0 [[nrm (Value.int IntKind.i64 l.to)]])).length) (List.drop 0 (eL O ++ List.take 1 (List.drop 0 [[nrm (Value.int IntKind.i64 l.to)]]))))=eL (belP c x.nd):=by
      rw [List.take_of_length_le (by simp),hE,← eL_snoc];rfl
    simp only [Nat.zero_add,he]
    conv=>whnf
    exact ⟨rfl,rfl⟩
  have h5:¬ 0≤snA c.si l.to:=by simpa using h
  clear h
  rw [if_neg h5] at hE
  conv=>whnf
  refine ⟨c,l.to,rfl,by omega,?_⟩
  conv=>whnf
  refine ⟨(O ++ [l.to],l.to),⟨by dsimp only;rw [hE];simp,by dsimp only;omega,by dsimp only;rw [List.length_append];simp;omega⟩,Shift.rename [(.l 11 0,.l 11 21)] ⟨rfl,rfl,rfl,trivial⟩ ⟨rfl,rfl,?_,?_,trivial⟩ rfl rfl rfl,by dsimp only;omega⟩
  · dsimp only;rw [show (O ++ [l.to]).length=(eL O).length+1 by rw [hmO];simp];rfl
  · dsimp only;rw [← eL_snoc];rfl
end Go.Proofs

namespace Go.Proofs
open Go Go.Abs
set_option linter.unusedSimpArgs false
set_option linter.unusedVariables false
set_option maxRecDepth 40000
def R_coll:RG:=fun args os k=>∃ (c:Cs) (i:Nat),args=[.c (.fn 76 [.ptr (.x 0) 0,.ptr (.x 1) 0])]∧os=bO c i∧CsOk c∧i < c.si.length∧k (.c (.lst (eL (belF c i)))) (bO c i)
theorem coll_ok:FunG Tryz.prog 46 R_coll:=by
  intro args os k h
  obtain ⟨c,i,rfl,rfl,hc,hi,hk⟩:=h
  refine doesG_ex (qc:=qc1) (np:=[]) (CK:=ckK [(75,cG R_apS)]) mixed Tryz.func46 rfl rfl Tryz.ntmps46 Tryz.results46 τ_ok (by kernel_rfl) (ckK_ok ⟨cG_ok apS_ok rfl,trivial⟩) (by simp) rfl rfl ?_
  conv=>whnf
  refine ⟨[.x 0,.x 1],rfl,rfl,?_⟩
  conv=>whnf
  refine ⟨rfl,?_⟩
  conv=>whnf
  refine ⟨c,i,rfl,rfl,hc,hi,?_⟩
  conv=>whnf
  refine ⟨rfl,?_⟩
  conv=>whnf
  exact ⟨rfl,hk⟩
theorem bel_ok:FunR Tryz.prog 20 R_bw:=by
  intro args k h
  obtain ⟨c,i,rfl,hc,hk⟩:=h
  have hmx:=eX_len c.si
  refine does_ex (qc:=qc1) (np:=[]) (CK:=ckK [(45,cSc (R_csI csE)),(47,cH R_belw),(46,cG R_coll)]) mixed Tryz.func20 rfl rfl Tryz.ntmps20 Tryz.results20 τ_ok (by kernel_rfl) (ckK_ok ⟨cSc_ok csE_ok',cH_ok belw_ok rfl,cG_ok coll_ok rfl,trivial⟩) (by simp) ?_
  conv=>whnf
  refine ⟨c,rfl,hc,?_⟩
  conv=>whnf
  refine Fork.mk (fun h=>?_) (fun h=>?_)
  · have h1:csE c ≠ 0:=by simpa using h
    conv=>whnf
    exact kPth (y:=([],csE c)) hk (by rw [bwS,if_pos h1])
  have h1:csE c=0:=by simpa using h
  have hok:=csE_ok h1
  have hr:=hok.r
  have hcm:=hok.m
  have hrn:=hr.n
  clear h
  conv=>whnf
  refine Fork.mk (fun h=>?_) (fun h=>?_)
  · have h2:i < 0:=by simpa using h
    conv=>whnf
    repeat' ((first | refine fork_t ?_ | refine fork_f ?_ | (refine Fork.mk (fun h=>?_) (fun h=>?_);focus (simp at h;done)) | fail) <;> (conv=>whnf))
    exact kPth (y:=([],40)) hk (by rw [bwS,if_neg (by simp [h1]),if_pos h2])
  have h2:¬ i < 0:=by simpa using h
  clear h
  conv=>whnf
  refine Fork.mk (fun h=>?_) (fun h=>?_)
  · have h3:(c.si.length:Int)≤i:=by simp at h;omega
    conv=>whnf
    exact kPth (y:=([],40)) hk (by rw [bwS,if_neg (by simp [h1]),if_neg h2,if_pos h3])
  have h3:¬ (c.si.length:Int)≤i:=by simp at h;omega
  clear h
  obtain ⟨I0,rfl⟩:=Int.eq_ofNat_of_zero_le (show 0≤i by omega)
  have e0:bwS c I0=(belF c I0,0):=by
    rw [bwS,if_neg (by simp [h1]),if_neg h2,if_neg h3,Int.toNat_natCast]
  rw [e0] at hk
  conv=>whnf
  refine ⟨[],rfl,?_⟩
  conv=>whnf
  refine ⟨rfl,?_⟩
  conv=>whnf
  refine ⟨rfl,?_⟩
  conv=>whnf
  refine ⟨c,I0,rfl,rfl,?_⟩
  conv=>whnf
  refine ⟨[.l 23 1,.l 2071 1],rfl,?_⟩
  conv=>whnf
  refine ⟨rfl,?_⟩
  conv=>whnf
  refine ⟨rfl,?_⟩
  conv=>whnf
  refine ⟨c,I0,rfl,rfl,hok,by omega,?_⟩
  conv=>whnf
  exact hk
end Go.Proofs
