/- Proved here: what functions of the given program come to, and the plain laws of it; no condition but those in the theorems. -/
import Derived.Test.YtgllikepncnpkaaGreatA34n
namespace Go.Proofs
open Go Go.Abs
set_option linter.unusedSimpArgs false
set_option linter.unusedVariables false
set_option maxRecDepth 20000
theorem rdyE_ok {c:Cs} {s:Fl} (h:rdyE c s=0):VaOk c s:=by
  unfold rdyE at h
  split at h
  · rename_i e;exact absurd h e
  split at h
  · cases h
  · rename_i e;exact vaB_ok (by simpa using e)
theorem follow_ok:FunR Tryz.prog 17 R_fo:=by
  intro args k h
  obtain ⟨c,s,lvs,locs,rfl,hc,hs,hvl,hvm,hk⟩:=h
  have hml:=eLw_len lvs
  have hmm:=eLw_len locs
  refine does_ex (qc:=qc1) (np:=[]) (CK:=ckK [(41,cSc (R_cfI rdyE)),(42,cOr (cPu R_clW0) (cA R_clW1)),(43,cOr (cPu R_stT0) (cG (R_stT 85)))]) mixed Tryz.func17 rfl rfl Tryz.ntmps17 Tryz.results17 τ_ok (by kernel_rfl) (ckK_ok ⟨cSc_ok ready_ok,cOr_ok (cPu_ok clW0_ok rfl) (cA_ok clW1_ok rfl),cOr_ok (cPu_ok stT0_ok rfl) (cG_ok stT_ok rfl),trivial⟩) (by simp) ?_
  conv=>whnf
  refine ⟨c,s,rfl,hc,hs,?_⟩
  conv=>whnf
  refine Fork.mk (fun h=>?_) (fun h=>?_)
  · have h1:rdyE c s ≠ 0:=by simpa using h
    conv=>whnf
    exact kFo (y:=.error (rdyE c s)) hk (by rw [foX,if_pos h1])
  have h1:rdyE c s=0:=by simpa using h
  have hva:=rdyE_ok h1
  have hr:=hva.k.r
  have hrl:=hr.len
  have hwl:=hva.w.l
  clear h
  conv=>whnf
  refine Fork.mk (fun h=>?_) (fun h=>?_)
  · have h2:lvs.length ≠ locs.length:=by simp at h;omega
    conv=>whnf
    exact kFo (y:=.error 3) hk (by rw [foX,if_neg (by simp [h1]),if_pos h2])
  have h2:lvs.length=locs.length:=by simp at h;omega
  clear h
  conv=>whnf
  refine Fork.mk (fun h=>?_) (fun h=>?_)
  · have h3:400 < lvs.length:=by simp at h;omega
    conv=>whnf
    exact kFo (y:=.error 10) hk (by rw [foX,if_neg (by simp [h1]),if_neg (by simp [h2]),if_pos h3])
  have h3:¬ 400 < lvs.length:=by simp at h;omega
  clear h
  have e0:foX c s lvs locs=flG c s.ws lvs locs:=by rw [foX,if_neg (by simp [h1]),if_neg (by simp [h2]),if_neg h3]
  rw [e0] at hk
  clear e0
  conv=>whnf
  cases hws:s.ws with
  | nil =>
    have hls:c.rv.ls=[]:=List.eq_nil_of_length_eq_zero (by rw [← hwl,hws];rfl)
    refine Or.inl ?_
    conv=>whnf
    refine ⟨rfl,?_⟩
    conv=>whnf
    refine ⟨List Ls × List Ls × Nat,fun y=>([(3,.c (.lst (eLw locs))),(4,.c (.ptr (.l 4 0) 0)),(11,.c (.lst [])),(12,.c (.view (.l 58 2) 0 y.2.1.length)),(34,.c (.lst (eLw lvs))),(35,I (eLw lvs).length),(36,I y.2.2)],⟨[(.l 4 0,.blk (csC c)),(.l 58 2,.arr 22 1 (eLw y.2.1) false)],20,[]⟩),
      fun y=>y.2.2≤lvs.length∧flG c s.ws lvs locs=preL y.2.1 (flG c y.1 (lvs.drop y.2.2) (locs.drop y.2.2))∧WvOk c.rv y.1∧y.2.1.length=y.2.2,fun y=>lvs.length - y.2.2,(s.ws,[],0),⟨Nat.zero_le _,preL_nil _,hva.w,rfl⟩,Shift.trans (Shift.rename [] ⟨rfl,rfl,rfl,rfl,rfl,rfl,rfl,trivial⟩ ⟨rfl,rfl,trivial⟩ rfl rfl rfl) (Shift.nilArr (t:=12) rfl 58 22 1),fun y hy=>?_⟩
    obtain ⟨w',o,j⟩:=y
    obtain ⟨hj,hrun,hw',hol⟩:=hy
    dsimp only at hj hrun hw' hol ⊢
    have hwl':=hw'.l
    have hmo:=eLw_len o
    have hmw':=eV_len w'
    conv=>whnf
    refine Fork.mk (fun h=>?_) (fun h=>?_)
    rotate_left
    · have hje:j=lvs.length:=by simp at h;omega
      rw [hje,List.drop_length] at hrun
      have t1:List.take o.length (List.drop 0 (eLw o))=eLw o:=by rw [List.drop_zero,List.take_of_length_le (by omega)]
      conv=>whnf
      refine ⟨by omega,?_⟩
      conv=>whnf
      rw [t1]
      exact kFo (y:=.ok o) hk (by rw [hrun];simp [preL,flG])
    have hjl:j < lvs.length:=by simp at h;omega
    clear h
    have hcj:=List.getElem?_eq_getElem hjl
    have hcm:=List.getElem?_eq_getElem (show j < locs.length by omega)
    have hll:=hvl.2 _ (List.getElem_mem hjl)
    have hlm:=hvm.2 _ (List.getElem_mem (show j < locs.length by omega))
    generalize lvs[j]=l at hcj hll
    generalize locs[j]=m at hcm hlm
    rw [dropC hcj,dropC hcm] at hrun
    have hw1:=wr_succ (i:=j) (by omega)
    conv=>whnf
    refine ⟨by omega,lwC l,by rw [Int.toNat_natCast,List.getElem?_map,hcj];rfl,rfl,?_⟩
    conv=>whnf
    refine ⟨by omega,lwC m,by rw [Int.toNat_natCast,List.getElem?_map,hcm];rfl,rfl,?_⟩
    conv=>whnf
    refine Or.inl ?_
    conv=>whnf
    have hw0:w'=[]:=List.eq_nil_of_length_eq_zero (by rw [hwl',hls];rfl)
    subst hw0
    refine ⟨c,l,m,rfl,hva.k,hls,hll,hlm,fun x hx=>?_,fun e hx=>?_⟩
    · obtain ⟨f1,f2,_⟩:=stX_fit hr hw' hx
      rw [flG_ok hx,preL_app] at hrun
      obtain ⟨xw,xa⟩:=x
      dsimp only at f1 f2 hrun
      have hol2:=hol
      conv=>whnf
      repeat' ((first | refine fork_t ?_ | refine fork_f ?_ | (refine Fork.mk (fun h=>?_) (fun h=>?_);focus (simp at h;done)) | fail) <;> (conv=>whnf))
      refine ⟨by simp,?_⟩
      conv=>whnf
      refine ⟨rfl,?_⟩
      conv=>whnf
      refine ⟨⟨rfl,rfl,rfl,hmo.symm,by rw [hmo];simp;omega⟩,?_⟩
      conv=>whnf
      rw [hw1]
      refine ⟨(xw,o ++ [xa],j+1),⟨hjl,hrun,f1,by simp [hol]⟩,Shift.rename [(.l 58 2,.l 58 21)] ⟨rfl,rfl,rfl,?_,rfl,rfl,rfl,trivial⟩ ⟨rfl,?_,trivial⟩ rfl rfl rfl,by dsimp only;omega⟩
      · dsimp only;rw [List.length_append,← hmo];rfl
      · dsimp only;rw [show eLw (o ++ [xa])=eLw o ++ [lwC xa] from List.map_append];rfl
    · have he:=stX_err hx
      rw [flG_err hx] at hrun
      have hk2:k (foA (.error e)):=kFo hk hrun
      conv=>whnf
      rcases he with rfl | rfl
      · repeat' ((first | refine fork_t ?_ | refine fork_f ?_ | (refine Fork.mk (fun h=>?_) (fun h=>?_);focus (simp at h;done)) | fail) <;> (conv=>whnf))
        exact hk2
      · repeat' ((first | refine fork_t ?_ | refine fork_f ?_ | (refine Fork.mk (fun h=>?_) (fun h=>?_);focus (simp at h;done)) | fail) <;> (conv=>whnf))
        exact hk2
  | cons p0 r0 =>
    have hwn:1≤s.ws.length:=by rw [hws];simp
    rw [← hws]
    refine Or.inr ?_
    conv=>whnf
    refine ⟨s.ws,rfl,hwn,by omega,?_⟩
    conv=>whnf
    refine ⟨List Ls × List Ls × Nat,fun y=>([(3,.c (.lst (eLw locs))),(4,.c (.ptr (.l 4 0) 0)),(11,.c (.view (.l 33 2) 0 s.ws.length)),(12,.c (.view (.l 58 3) 0 y.2.1.length)),(34,.c (.lst (eLw lvs))),(35,I (eLw lvs).length),(36,I y.2.2)],⟨[(.l 4 0,.blk (csC c)),(.l 33 2,.arr 85 1 (eV y.1) false),(.l 58 3,.arr 22 1 (eLw y.2.1) false)],20,[]⟩),
      fun y=>y.2.2≤lvs.length∧flG c s.ws lvs locs=preL y.2.1 (flG c y.1 (lvs.drop y.2.2) (locs.drop y.2.2))∧WvOk c.rv y.1∧y.2.1.length=y.2.2,fun y=>lvs.length - y.2.2,(s.ws,[],0),⟨Nat.zero_le _,preL_nil _,hva.w,rfl⟩,Shift.trans (Shift.rename [] ⟨rfl,rfl,rfl,rfl,rfl,rfl,rfl,trivial⟩ ⟨rfl,rfl,rfl,trivial⟩ rfl rfl rfl) (Shift.nilArr (t:=12) rfl 58 22 1),fun y hy=>?_⟩
    obtain ⟨w',o,j⟩:=y
    obtain ⟨hj,hrun,hw',hol⟩:=hy
    dsimp only at hj hrun hw' hol ⊢
    have hwl':=hw'.l
    have hmo:=eLw_len o
    have hmw':=eV_len w'
    conv=>whnf
    refine Fork.mk (fun h=>?_) (fun h=>?_)
    rotate_left
    · have hje:j=lvs.length:=by simp at h;omega
      rw [hje,List.drop_length] at hrun
      have t1:List.take o.length (List.drop 0 (eLw o))=eLw o:=by rw [List.drop_zero,List.take_of_length_le (by omega)]
      conv=>whnf
      refine ⟨by omega,?_⟩
      conv=>whnf
      rw [t1]
      exact kFo (y:=.ok o) hk (by rw [hrun];simp [preL,flG])
    have hjl:j < lvs.length:=by simp at h;omega
    clear h
    have hcj:=List.getElem?_eq_getElem hjl
    have hcm:=List.getElem?_eq_getElem (show j < locs.length by omega)
    have hll:=hvl.2 _ (List.getElem_mem hjl)
    have hlm:=hvm.2 _ (List.getElem_mem (show j < locs.length by omega))
    generalize lvs[j]=l at hcj hll
    generalize locs[j]=m at hcm hlm
    rw [dropC hcj,dropC hcm] at hrun
    have hw1:=wr_succ (i:=j) (by omega)
    conv=>whnf
    refine ⟨by omega,lwC l,by rw [Int.toNat_natCast,List.getElem?_map,hcj];rfl,rfl,?_⟩
    conv=>whnf
    refine ⟨by omega,lwC m,by rw [Int.toNat_natCast,List.getElem?_map,hcm];rfl,rfl,?_⟩
    conv=>whnf
    refine Or.inr ?_
    conv=>whnf
    refine ⟨[.l 33 2],rfl,?_⟩
    conv=>whnf
    refine ⟨rfl,?_⟩
    conv=>whnf
    refine ⟨rfl,?_⟩
    conv=>whnf
    refine ⟨c,l,m,w',?_,rfl,hva.k,hw',hll,hlm,fun x hx=>?_,fun e hx w2 hw2=>?_⟩
    · rw [show w'.length=s.ws.length by omega];rfl
    · obtain ⟨f1,f2,_⟩:=stX_fit hr hw' hx
      have f3:=f1.l
      rw [flG_ok hx,preL_app] at hrun
      obtain ⟨xw,xa⟩:=x
      dsimp only at f1 f2 f3 hrun
      have hol2:=hol
      conv=>whnf
      repeat' ((first | refine fork_t ?_ | refine fork_f ?_ | (refine Fork.mk (fun h=>?_) (fun h=>?_);focus (simp at h;done)) | fail) <;> (conv=>whnf))
      refine ⟨by simp,?_⟩
      conv=>whnf
      refine ⟨rfl,?_⟩
      conv=>whnf
      refine ⟨⟨rfl,rfl,rfl,hmo.symm,by rw [hmo];simp;omega⟩,?_⟩
      conv=>whnf
      rw [hw1]
      refine ⟨(xw,o ++ [xa],j+1),⟨hjl,hrun,f1,by simp [hol]⟩,Shift.rename [(.l 58 3,.l 58 21)] ⟨rfl,rfl,?_,?_,rfl,rfl,rfl,trivial⟩ ⟨rfl,rfl,?_,trivial⟩ rfl rfl rfl,by dsimp only;omega⟩
      · first | rfl | (dsimp only;rw [show xw.length=s.ws.length by omega];rfl)
      · dsimp only;rw [List.length_append,← hmo];rfl
      · dsimp only;rw [show eLw (o ++ [xa])=eLw o ++ [lwC xa] from List.map_append];rfl
    · have he:=stX_err hx
      rw [flG_err hx] at hrun
      have hk2:k (foA (.error e)):=kFo hk hrun
      conv=>whnf
      rcases he with rfl | rfl
      · repeat' ((first | refine fork_t ?_ | refine fork_f ?_ | (refine Fork.mk (fun h=>?_) (fun h=>?_);focus (simp at h;done)) | fail) <;> (conv=>whnf))
        exact hk2
      · repeat' ((first | refine fork_t ?_ | refine fork_f ?_ | (refine Fork.mk (fun h=>?_) (fun h=>?_);focus (simp at h;done)) | fail) <;> (conv=>whnf))
        exact hk2
end Go.Proofs

namespace Go.Proofs
open Go Go.Abs
set_option linter.unusedSimpArgs false
set_option linter.unusedVariables false
set_option maxRecDepth 20000
def R_few:RT:=fun args k=>∃ l:Ls,args=[.c (.lst (eL l))]∧k (Bo (decide (l.length≤500)))
theorem few_ok:FunR Tryz.prog 10 R_few:=by
  intro args k h
  obtain ⟨l,rfl,hk⟩:=h
  have hm:=eL_len l
  refine does_ex (qc:=qc1) (np:=[]) (CK:=ckK []) mixed Tryz.func10 rfl rfl Tryz.ntmps10 Tryz.results10 τ_ok (by kernel_rfl) (ckK_ok trivial) (by simp) ?_
  conv=>whnf
  rw [show decide (l.length≤500)=decide (((eL l).length:Int)≤500) by rw [hm];simp;omega] at hk
  exact hk
end Go.Proofs

namespace Go.Proofs
open Go Go.Abs
set_option linter.unusedSimpArgs false
set_option linter.unusedVariables false
set_option maxRecDepth 20000
def zeL (m:Nat) (n:Nat):List Ls:=List.replicate m (List.replicate n 0)
def reX (c:Cs) (s:Fl) (m:Int):Except Int (List Ls):=if rdyE c s ≠ 0 then .error (rdyE c s) else if m < 0 then .error 10 else if 400 < m then .error 10 else foX c s (zeL m.toNat c.si.length) (zeL m.toNat c.rv.n.toNat)
def R_re:RT:=fun args k=>∃ (c:Cs) (s:Fl) (m:Int),args=[.agg (csC c),.agg (flC s),I m]∧c.fin∧s.fin∧k (foA (reX c s m))
theorem rest_ok':FunR Tryz.prog 27 R_re:=by
  intro args k h
  obtain ⟨c,s,m,rfl,hc,hs,hk⟩:=h
  have hmx:=eX_len c.si
  refine does_ex (qc:=qc1) (np:=[(9,[(2,11),(2,12),(4,10),(4,11),(4,12),(5,10),(5,11),(5,12),(6,10),(6,11),(6,12)])]) (CK:=ckK [(41,cSc (R_cfI rdyE)),(17,cPu R_fo)]) mixed Tryz.func27 rfl rfl Tryz.ntmps27 Tryz.results27 τ_ok (by kernel_rfl) (ckK_ok ⟨cSc_ok ready_ok,cPu_ok follow_ok rfl,trivial⟩) (by simp) ?_
  conv=>whnf
  refine ⟨c,s,rfl,hc,hs,?_⟩
  conv=>whnf
  refine Fork.mk (fun h=>?_) (fun h=>?_)
  · have h1:rdyE c s ≠ 0:=by simpa using h
    conv=>whnf
    exact kFo (y:=.error (rdyE c s)) hk (by rw [reX,if_pos h1])
  have h1:rdyE c s=0:=by simpa using h
  have hva:=rdyE_ok h1
  have hcm:=hva.k.m
  have hcn:=hva.k.n
  have hrn:=hva.k.r.n
  clear h
  conv=>whnf
  refine Fork.mk (fun h=>?_) (fun h=>?_)
  · have h2:m < 0:=by simpa using h
    conv=>whnf
    repeat' ((first | refine fork_t ?_ | refine fork_f ?_ | (refine Fork.mk (fun h=>?_) (fun h=>?_);focus (simp at h;done)) | fail) <;> (conv=>whnf))
    exact kFo (y:=.error 10) hk (by rw [reX,if_neg (by simp [h1]),if_pos h2])
  have h2:¬ m < 0:=by simpa using h
  clear h
  conv=>whnf
  refine Fork.mk (fun h=>?_) (fun h=>?_)
  · have h3:400 < m:=by simpa using h
    conv=>whnf
    exact kFo (y:=.error 10) hk (by rw [reX,if_neg (by simp [h1]),if_neg h2,if_pos h3])
  have h3:¬ 400 < m:=by simpa using h
  clear h
  obtain ⟨M,rfl⟩:=Int.eq_ofNat_of_zero_le (show 0≤m by omega)
  obtain ⟨N,hN⟩:=Int.eq_ofNat_of_zero_le (show 0≤c.rv.n by omega)
  have e0:reX c s M=foX c s (zeL M c.si.length) (zeL M N):=by rw [reX,if_neg (by simp [h1]),if_neg h2,if_neg h3,hN];rfl
  rw [e0] at hk
  have ez:∀ n,eL (List.replicate n 0)=List.replicate n [IC 0]:=fun n=>by simp [eL,eI]
  conv=>whnf
  refine ⟨Nat,fun i=>([(3,.c (.ptr (.l 3 0) 0)),(4,.c (.ptr (.l 4 1) 0)),(9,.c (.view (.l 32 2) 0 i)),(10,.c (.view (.l 39 3) 0 i)),(23,I M),(24,I i)],⟨[(.l 3 0,.blk (csC c)),(.l 4 1,.blk (flC s)),(.l 32 2,.arr 22 1 (eLw (zeL i c.si.length)) false),(.l 39 3,.arr 22 1 (eLw (zeL i N)) false)],20,[]⟩),
    fun i=>i≤M,fun i=>M - i,0,Nat.zero_le _,Shift.trans (Shift.rename [] ⟨rfl,rfl,rfl,rfl,rfl,rfl,trivial⟩ ⟨rfl,rfl,rfl,rfl,trivial⟩ rfl rfl rfl) (Shift.trans (Shift.nilArr (t:=10) rfl 39 22 1) (Shift.nilArr (t:=9) rfl 32 22 1)),fun i hi=>?_⟩
  dsimp only
  have hm1:(eLw (zeL i c.si.length)).length=i:=by simp [zeL]
  have hm2:(eLw (zeL i N)).length=i:=by simp [zeL]
  have hw1:=wr_succ (i:=i) (by omega)
  conv=>whnf
  refine Fork.mk (fun h=>?_) (fun h=>?_)
  rotate_left
  · have hie:i=M:=by simp at h;omega
    subst hie
    have t1:List.take i (List.drop 0 (eLw (zeL i c.si.length)))=eLw (zeL i c.si.length):=by rw [List.drop_zero,List.take_of_length_le (by omega)]
    have t2:List.take i (List.drop 0 (eLw (zeL i N)))=eLw (zeL i N):=by rw [List.drop_zero,List.take_of_length_le (by omega)]
    conv=>whnf
    refine ⟨by omega,?_⟩
    conv=>whnf
    refine ⟨by omega,?_⟩
    conv=>whnf
    rw [t1,t2]
    have hvf:∀ n:Nat,n≤40→vfin (zeL i n):=fun n hn=>⟨by simp [zeL];omega,fun p hp=>by rw [(List.mem_replicate.1 hp).2];simp;omega⟩
    refine ⟨c,s,_,_,rfl,hc,hs,hvf _ (by omega),hvf _ (by omega),?_⟩
    obtain ⟨X,hX⟩:∃ X,foX c s (zeL i c.si.length) (zeL i N)=X:=⟨_,rfl⟩
    rw [hX] at hk ⊢
    cases X with
    | error e =>
      conv=>whnf
      exact hk
    | ok r =>
      conv=>whnf
      exact hk
  have hi2:i < M:=by simp at h;omega
  clear h
  conv=>whnf
  refine ⟨⟨rfl,by omega,by rw [hmx];show _ * (8:Int)≤_;omega⟩,?_⟩
  conv=>whnf
  rw [show Int.toNat ((eX c.si).length:Int)=c.si.length by omega]
  have tz:∀ n:Nat,List.take n (List.drop 0 (List.replicate n [Cell.sc (Value.int .i64 0)]))=eL (List.replicate n 0):=fun n=>by
    rw [List.drop_zero,List.take_of_length_le (by simp),ez]
  refine ⟨by simp,?_⟩
  conv=>whnf
  rw [tz]
  refine ⟨by simp,?_⟩
  conv=>whnf
  refine ⟨rfl,?_⟩
  conv=>whnf
  refine ⟨⟨rfl,rfl,rfl,hm1.symm,by rw [hm1];simp;omega⟩,?_⟩
  conv=>whnf
  refine ⟨⟨rfl,by omega,by show _ * (8:Int)≤_;omega⟩,?_⟩
  conv=>whnf
  rw [show Int.toNat c.rv.n=N by omega]
  refine ⟨by simp,?_⟩
  conv=>whnf
  rw [tz]
  refine ⟨by simp,?_⟩
  conv=>whnf
  refine ⟨rfl,?_⟩
  conv=>whnf
  refine ⟨⟨rfl,rfl,rfl,hm2.symm,by rw [hm2];simp;omega⟩,?_⟩
  conv=>whnf
  rw [hw1]
  have ze:∀ n,eLw (zeL (i+1) n)=eLw (zeL i n) ++ [lwC (List.replicate n 0)]:=fun n=>by
    rw [show zeL (i+1) n=zeL i n ++ [List.replicate n 0] from List.replicate_succ' ..]
    exact List.map_append
  refine ⟨i+1,hi2,Shift.rename [(.l 32 2,.l 32 20),(.l 39 3,.l 39 20)] ⟨rfl,rfl,?_,?_,rfl,rfl,trivial⟩ ⟨rfl,rfl,?_,?_,trivial⟩ rfl rfl rfl,by omega⟩
  · dsimp only;rw [hm1];rfl
  · dsimp only;rw [hm2];rfl
  · dsimp only;rw [ze];rfl
  · dsimp only;rw [ze];rfl
end Go.Proofs

namespace Go.Proofs
open Go Go.Abs
set_option linter.unusedSimpArgs false
set_option linter.unusedVariables false
set_option maxRecDepth 20000
end Go.Proofs

namespace Go.Proofs
open Go Go.Abs
set_option linter.unusedSimpArgs false
set_option linter.unusedVariables false
set_option maxRecDepth 20000
end Go.Proofs

/- The nodes below a site. No program. -/
namespace Go.Proofs
open Go Go.Abs
set_option linter.unusedSimpArgs false
set_option linter.unusedVariables false
def cutS (si:List Si):Ls→Ls
  | []=>[]
  | x :: r=>if 0≤snA si x then [x] else x :: cutS si r
/-- The nodes below a node, up to that of the next site. -/
def belP (c:Cs) (k:Int):Ls:=cutS c.si (pathR c.rv k).tail
theorem belP_end {c:Cs} {k:Int} (h:lnk c.rv.ls k < 0):belP c k=[]:=by rw [belP,path_end h];rfl
theorem belP_step {c:Cs} (hr:RvOk c.rv) {k:Int} (hk:0≤k) {i:Nat} {l:Lk} (h:lnk c.rv.ls k=i) (hl:c.rv.ls[i]?=some l) (hf:l.fr=k):belP c k=if 0≤snA c.si l.to then [l.to] else l.to :: belP c l.to:=by
  have e:pathR c.rv l.to=l.to :: (pathR c.rv l.to).tail:=rfl
  rw [belP,path_step hr hk h hl hf,List.tail_cons,e,cutS]
  rfl
def belF (c:Cs) (i:Nat):Ls:=match c.si[i]? with
  | some x=>belP c x.nd
  | none=>[]
def hitN (n:Int) (i:Nat) (l:Ls):Ls:=(l.filter fun y=>decide (y=n)).map fun _=>(i:Int)
theorem hitN_snoc (n:Int) (i:Nat) (l:Ls) (z:Int):hitN n i (l ++ [z])=if z=n then hitN n i l ++ [(i:Int)] else hitN n i l:=by
  unfold hitN
  rw [List.filter_append]
  by_cases h:z=n <;> simp [h]
theorem hitN_len (n:Int) (i:Nat) (l:Ls):(hitN n i l).length≤l.length:=by
  unfold hitN
  rw [List.length_map]
  exact List.length_filter_le ..
/-- The sites before the i-th above a node. -/
def abG (c:Cs) (n:Int):Nat→Ls
  | 0=>[]
  | i+1=>abG c n i ++ hitN n i (belF c i)
def abS (c:Cs) (n:Int):Ls × Int:=if csE c ≠ 0 then ([],csE c) else if n < 0 then ([],41) else if c.rv.n≤n then ([],41) else (abG c n c.si.length,0)
theorem cutS_len (si:List Si):∀ l:Ls,(cutS si l).length≤l.length
  | []=>Nat.le_refl _
  | x :: r=>by
    rw [cutS]
    split
    · simp
    · simp [cutS_len si r]
theorem belF_len {c:Cs} (hc:CsOk c) (i:Nat):(belF c i).length≤40:=by
  unfold belF
  cases hx:c.si[i]? with
  | none=>simp
  | some x =>
    have hxn:=(hc.s x (List.mem_of_getElem? hx)).1
    have h1:=cutS_len c.si (pathR c.rv x.nd).tail
    have h2:=path_len hc.r hxn
    rw [pathR,List.tail_cons,List.length_map] at h1
    dsimp only
    unfold belP
    rw [pathR,List.tail_cons]
    omega
theorem abG_len {c:Cs} (hc:CsOk c) (n:Int):∀ i,(abG c n i).length≤40 * i
  | 0=>Nat.le_refl _
  | i+1=>by
    have:=abG_len hc n i
    have:=hitN_len n i (belF c i)
    have:=belF_len hc i
    rw [abG,List.length_append]
    omega
/-- Steps one behind the other, with what passed. -/
inductive runsC (c:Cs) (s:Fl):List Su→List Pd→Fl→Prop
  | nil:runsC c s [] [] s
  | snoc {l:List Su} {xs:List Pd} {a b:Fl} {p:Su} {x:Pd}:runsC c s l xs a→stepC c a p b x→runsC c s (l ++ [p]) (xs ++ [x]) b
theorem runsC.va {c:Cs} {s:Fl} (h:VaOk c s) {l:List Su} {xs:List Pd} {b:Fl} (hs:runsC c s l xs b):VaOk c b:=by
  cases hs with
  | nil=>exact h
  | snoc _ h3=>exact h3.valid
end Go.Proofs

namespace Go.Proofs
open Go Go.Abs
set_option linter.unusedSimpArgs false
set_option linter.unusedVariables false
set_option maxRecDepth 20000
theorem pathR_hd (r:Rv) (k:Int):pathR r k=k :: (pathR r k).tail:=rfl
theorem rpth_ok:FunR Tryz.prog 21 R_pth:=by
  intro args k h
  obtain ⟨r,x,rfl,hf,hk⟩:=h
  refine does_ex (qc:=qc1) (np:=[]) (CK:=ckK [(48,cSc R_rvE),(49,cSc R_within),(50,cSc R_lnk)]) mixed Tryz.func21 rfl rfl Tryz.ntmps21 Tryz.results21 τ_ok (by kernel_rfl) (ckK_ok ⟨cSc_ok rrvE_ok,cSc_ok rIn_ok,cSc_ok leav_ok,trivial⟩) (by simp) ?_
  conv=>whnf
  refine ⟨r,rfl,hf,?_⟩
  conv=>whnf
  refine Fork.mk (fun h=>?_) (fun h=>?_)
  · have h1:rvE r ≠ 0:=by simpa using h
    conv=>whnf
    exact kPth (y:=([],rvE r)) hk (by rw [pthS,if_pos h1])
  have h1:rvE r=0:=by simpa using h
  have hr:=rvE_ok h1
  have hrn:=hr.n
  have hrl:=hr.len
  have hmk:=eK_len r.ls
  clear h
  have e1:IntKind.i64.wrap (r.n - 1)=r.n - 1:=wrap_in (by omega) (by omega)
  conv=>whnf
  rw [e1]
  refine Fork.mk (fun h=>?_) (fun h=>?_)
  · have h2:inN r.n x=false:=by rw [Bool.not_eq_true'] at h;exact h
    conv=>whnf
    exact kPth (y:=([],11)) hk (by rw [pthS,if_neg (by simp [h1]),if_pos h2])
  have h2:inN r.n x=true:=by rw [Bool.not_eq_false'] at h;exact h
  clear h
  have hx:0≤x∧x < r.n:=by simp [inN] at h2;omega
  have e0:pthS r x=(pathR r x,0):=by rw [pthS,if_neg (by simp [h1]),if_neg (by simp [h2])]
  rw [e0] at hk
  conv=>whnf
  refine ⟨r,x,rfl,by omega,?_⟩
  conv=>whnf
  refine ⟨Ls × Int,fun y=>([(2,.c (.ptr (.l 2 0) 0)),(7,.c (.view (.l 21 1) 0 y.1.length)),(8,I (lnk r.ls y.2))],⟨[(.l 2 0,.blk (rvC r)),(.l 21 1,.arr 3 1 (eL y.1) false)],9,[]⟩),
    fun y=>pathR r x=y.1 ++ (pathR r y.2).tail∧(0≤y.2∧y.2 < r.n)∧(y.1.length:Int)≤y.2+1,fun y=>(r.n - y.2).toNat,([x],x),⟨pathR_hd r x,hx,by simp;omega⟩,Shift.rename [] ⟨rfl,rfl,rfl,trivial⟩ ⟨rfl,rfl,trivial⟩ rfl rfl rfl,fun y hy=>?_⟩
  obtain ⟨O,q⟩:=y
  obtain ⟨hE,hq,hO⟩:=hy
  dsimp only at hE hq hO ⊢
  have hmO:=eL_len O
  conv=>whnf
  refine Fork.mk (fun h=>?_) (fun h=>?_)
  rotate_left
  · have hlt:lnk r.ls q < 0:=by simp at h;omega
    rw [path_end hlt,List.tail_cons,List.append_nil] at hE
    have t1:List.take O.length (List.drop 0 (eL O))=eL O:=by rw [List.drop_zero,List.take_of_length_le (by omega)]
    conv=>whnf
    refine ⟨by omega,?_⟩
    conv=>whnf
    rw [t1]
    exact kPth (y:=(O,0)) hk (by rw [hE])
  have hge:0≤lnk r.ls q:=by simpa using h
  clear h
  obtain ⟨J,l,hJ1,hJ2,hJ3⟩:∃ (j:Nat) (a:Lk),r.ls[j]?=some a∧a.fr=q∧lnk r.ls q=j:=by
    rcases lnk_spec r.ls q with ⟨h,_⟩ | h
    · omega
    · exact h
  have hJl:=(List.getElem?_eq_some_iff.1 hJ1).1
  have hkk:=hr.l l (List.mem_of_getElem? hJ1)
  have hk1:=hkk.o
  have hk2:=hkk.t
  rw [path_step hr hq.1 hJ3 hJ1 hJ2,List.tail_cons,pathR_hd r l.to] at hE
  rw [hJ3]
  conv=>whnf
  refine ⟨by omega,lkC l,by rw [Int.toNat_natCast,List.getElem?_map,hJ1];rfl,rfl,?_⟩
  conv=>whnf
  refine ⟨by simp,?_⟩
  conv=>whnf
  refine ⟨rfl,?_⟩
  conv=>whnf
  refine ⟨⟨rfl,rfl,rfl,hmO.symm,by rw [hmO];simp;omega⟩,?_⟩
  conv=>whnf
  refine ⟨r,l.to,rfl,by omega,?_⟩
  conv=>whnf
  refine ⟨(O ++ [l.to],l.to),⟨by simpa using hE,⟨by dsimp only;omega,hk2⟩,by dsimp only;simp;omega⟩,Shift.rename [(.l 21 1,.l 39 10)] ⟨rfl,?_,rfl,trivial⟩ ⟨rfl,?_,trivial⟩ rfl rfl rfl,by dsimp only;omega⟩
  · dsimp only;rw [List.length_append,← hmO];rfl
  · dsimp only;rw [show eL (O ++ [l.to])=eL O ++ [eI l.to] from List.map_append];rfl
def bwS (c:Cs) (i:Int):Ls × Int:=if csE c ≠ 0 then ([],csE c) else if i < 0 then ([],40) else if (c.si.length:Int)≤i then ([],40) else (belF c i.toNat,0)
def R_bw:RT:=fun args k=>∃ (c:Cs) (i:Int),args=[.agg (csC c),I i]∧c.fin∧k (.tup [.c (.lst (eL (bwS c i).1)),I (bwS c i).2])
end Go.Proofs

namespace Go.Proofs
open Go Go.Abs
set_option linter.unusedSimpArgs false
set_option linter.unusedVariables false
set_option maxRecDepth 20000
def R_abv:RT:=fun args k=>∃ (c:Cs) (n:Int),args=[.agg (csC c),I n]∧c.fin∧k (.tup [.c (.lst (eL (abS c n).1)),I (abS c n).2])
end Go.Proofs

namespace Go.Proofs
open Go Go.Abs
set_option linter.unusedSimpArgs false
set_option linter.unusedVariables false
set_option maxRecDepth 20000
end Go.Proofs
