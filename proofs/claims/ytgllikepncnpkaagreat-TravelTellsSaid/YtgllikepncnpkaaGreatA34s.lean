/- Proved here: what functions of the given program come to, for the statements of this chapter; no condition but those in the theorems. -/
import Derived.Test.YtgllikepncnpkaaGreatA34q
namespace Go.Proofs
open Go Go.Abs
set_option linter.unusedSimpArgs false
set_option linter.unusedVariables false
set_option maxRecDepth 20000
set_option maxHeartbeats 4000000 in
theorem rfollow_ok:FunR Tryz.prog 31 R_fo:=by
  intro args k h
  obtain ⟨c,s,lvs,locs,rfl,hc,hs,hvl,hvm,hk⟩:=h
  have hml:=eLw_len lvs
  have hmm:=eLw_len locs
  have hmx:=eX_len c.si
  have hmk:=eK_len c.rv.ls
  refine does_ex (qc:=qc1) (np:=[(27,[(1,12),(4,12),(5,12),(7,12)])]) (CK:=ckK [(38,cSc (R_csI csE)),(39,cSc (R_cfB vaB)),(30,cH R_copy),(57,cSc R_all34),(58,cSc R_siA),(59,cPu R_stepA)]) mixed Tryz.func31 rfl rfl Tryz.ntmps31 Tryz.results31 τ_ok (by kernel_rfl) (ckK_ok ⟨cSc_ok rcsE_ok,cSc_ok rcvalid_ok,cH_ok copy_ok rfl,cSc_ok all34_ok,cSc_ok rat34_ok,cPu_ok rstepA_ok rfl,trivial⟩) (by simp) ?_
  conv=>whnf
  refine ⟨c,rfl,hc,?_⟩
  conv=>whnf
  refine Fork.mk (fun h=>?_) (fun h=>?_)
  · have h1:csE c ≠ 0:=by simpa using h
    conv=>whnf
    exact kFo (y:=.error (csE c)) hk (by rw [foX,show rdyE c s=csE c by rw [rdyE,if_pos h1],if_pos h1])
  have h0:csE c=0:=by simpa using h
  clear h
  conv=>whnf
  refine ⟨c,s,rfl,hc,hs,?_⟩
  conv=>whnf
  refine Fork.mk (fun h=>?_) (fun h=>?_)
  · have h1:vaB c s=false:=by simpa using h
    conv=>whnf
    exact kFo (y:=.error 50) hk (by rw [foX,show rdyE c s=50 by rw [rdyE,if_neg (by simp [h0]),if_pos h1],if_pos (by simp)])
  have h1:rdyE c s=0:=by rw [rdyE,if_neg (by simp [h0]),if_neg (by rw [Bool.not_eq_false'] at h;simp [h])]
  have hva:=rdyE_ok h1
  have hr:=hva.k.r
  have hrl:=hr.len
  have hrn:=hr.n
  have hcn:=hva.k.n
  have hcm:=hva.k.m
  have hwl:=hva.w.l
  have hvn:=hva.n
  obtain ⟨_,hw40,hw24⟩:=hva.w.fin hr
  have hdb:∀ x ∈ s.ds,x.us.length≤1000∧x.gs.length≤1000:=fun x hx=>by
    obtain ⟨i,hi⟩:=List.getElem?_of_mem hx
    have hil:=(List.getElem?_eq_some_iff.1 hi).1
    have hv:=hva.d i _ x (List.getElem?_eq_getElem (show i < c.si.length by omega)) hi
    obtain ⟨k1,_,_,k4,k5,_⟩:=validD_at hv
    have:=(ckD_ok k1).n
    have:=(ckD_ok k1).m
    omega
  clear h
  conv=>whnf
  refine Fork.mk (fun h=>?_) (fun h=>?_)
  · have h2:lvs.length ≠ locs.length:=by simp at h;omega
    conv=>whnf
    exact kFo (y:=.error 3) hk (by rw [foX,if_neg (by simp [h1]),if_pos h2])
  have h2:lvs.length=locs.length:=by simp at h;omega
  clear h
  conv=>whnf
  refine Fork.mk (fun h=>?_) (fun h=>?_)
  · have h3:400 < lvs.length:=by simp at h;omega
    conv=>whnf
    exact kFo (y:=.error 10) hk (by rw [foX,if_neg (by simp [h1]),if_neg (by simp [h2]),if_pos h3])
  have h3:¬ 400 < lvs.length:=by simp at h;omega
  clear h
  have e0:foX c s lvs locs=flG c s.ws lvs locs:=by rw [foX,if_neg (by simp [h1]),if_neg (by simp [h2]),if_neg h3]
  rw [e0] at hk
  clear e0
  conv=>whnf
  refine ⟨[],rfl,?_⟩
  conv=>whnf
  refine ⟨rfl,?_⟩
  conv=>whnf
  refine ⟨rfl,?_⟩
  conv=>whnf
  refine ⟨s,rfl,rfl,by omega,hdb,by omega,fun p hp=>by have:=hw24 p hp;omega,?_⟩
  conv=>whnf
  refine ⟨List Ls × List Ls × Nat,fun y=>([(2,.c (.lst (eLw lvs))),(3,.c (.lst (eLw locs))),(4,.c (.ptr (.l 4 0) 0)),(11,.c (.view (.l 2088 2) 0 s.ws.length)),(12,.c (.view (.l 144 3) 0 y.2.1.length)),(43,I (eLw lvs).length),(44,I y.2.2)],⟨[(.l 4 0,.blk (csC c)),(.l 2088 2,.arr 85 1 (eV y.1) false),(.l 144 3,.arr 22 1 (eLw y.2.1) false)],20,[]⟩),
    fun y=>y.2.2≤lvs.length∧flG c s.ws lvs locs=preL y.2.1 (flG c y.1 (lvs.drop y.2.2) (locs.drop y.2.2))∧WvOk c.rv y.1∧y.2.1.length=y.2.2,fun y=>lvs.length - y.2.2,(s.ws,[],0),⟨Nat.zero_le _,preL_nil _,hva.w,rfl⟩,Shift.trans (Shift.rename [] ⟨rfl,rfl,rfl,rfl,rfl,rfl,rfl,trivial⟩ ⟨rfl,rfl,rfl,trivial⟩ rfl rfl rfl) (Shift.nilArr (t:=12) rfl 144 22 1),fun y hy=>?_⟩
  obtain ⟨w',o,j⟩:=y
  obtain ⟨hj,hrun,hw',hol⟩:=hy
  dsimp only at hj hrun hw' hol ⊢
  have hwl':=hw'.l
  have hmo:=eLw_len o
  conv=>whnf
  refine Fork.mk (fun h=>?_) (fun h=>?_)
  rotate_left
  · have hje:j=lvs.length:=by simp at h;omega
    rw [hje,List.drop_length] at hrun
    have t1:List.take o.length (List.drop 0 (eLw o))=eLw o:=by rw [List.drop_zero,List.take_of_length_le (by omega)]
    conv=>whnf
    refine ⟨by omega,?_⟩
    conv=>whnf
    rw [t1]
    exact kFo (y:=.ok o) hk (by rw [hrun];simp [preL,flG])
  have hjl:j < lvs.length:=by simp at h;omega
  clear h
  have hcj:=List.getElem?_eq_getElem hjl
  have hcm2:=List.getElem?_eq_getElem (show j < locs.length by omega)
  have hll:=hvl.2 _ (List.getElem_mem hjl)
  have hlm:=hvm.2 _ (List.getElem_mem (show j < locs.length by omega))
  generalize lvs[j]=lv at hcj hll
  generalize locs[j]=loc at hcm2 hlm
  rw [dropC hcj,dropC hcm2] at hrun
  have hw0:=wr_succ (i:=j) (by omega)
  have hmv:=eL_len lv
  have hmc:=eL_len loc
  have hBad:∀ e,stX c w' lv loc=.error e→k (foA (.error e)):=fun e he=>by
    rw [flG_err he] at hrun
    exact kFo hk hrun
  have g1:(eLw lvs)[((j:Int)).toNat]?=some (lwC lv):=by rw [Int.toNat_natCast,List.getElem?_map,hcj];rfl
  have g2:(eLw locs)[((j:Int)).toNat]?=some (lwC loc):=by rw [Int.toNat_natCast,List.getElem?_map,hcm2];rfl
  conv=>whnf
  refine ⟨by omega,lwC lv,g1,rfl,?_⟩
  conv=>whnf
  refine Fork.mk (fun h=>?_) (fun h=>?_)
  · have e:stX c w' lv loc=.error 3:=by rw [stX,if_pos (by simp at h;omega)]
    conv=>whnf
    repeat' ((first | refine fork_t ?_ | refine fork_f ?_ | (refine Fork.mk (fun h=>?_) (fun h=>?_);focus (simp at h;done)) | fail) <;> (conv=>whnf))
    exact hBad 3 e
  have q1:lv.length=c.si.length:=by simp at h;omega
  clear h
  conv=>whnf
  refine ⟨by omega,lwC loc,g2,rfl,?_⟩
  conv=>whnf
  refine Fork.mk (fun h=>?_) (fun h=>?_)
  · have e:stX c w' lv loc=.error 3:=by rw [stX,if_neg (by omega),if_pos (by simp at h;omega)]
    conv=>whnf
    exact hBad 3 e
  have q2:(loc.length:Int)=c.rv.n:=by simp at h;omega
  clear h
  conv=>whnf
  refine ⟨by omega,lwC lv,g1,rfl,?_⟩
  conv=>whnf
  refine ⟨lv,rfl,hll,?_⟩
  conv=>whnf
  refine Fork.mk (fun h=>?_) (fun h=>?_)
  · have e:stX c w' lv loc=.error 1:=by rw [stX,if_neg (by omega),if_neg (by omega),if_pos (by simpa using h)]
    conv=>whnf
    repeat' ((first | refine fork_t ?_ | refine fork_f ?_ | (refine Fork.mk (fun h=>?_) (fun h=>?_);focus (simp at h;done)) | fail) <;> (conv=>whnf))
    exact hBad 1 e
  have q3:lv.any badX=false:=by rw [Bool.not_not] at h;exact h
  clear h
  conv=>whnf
  refine ⟨by omega,lwC loc,g2,rfl,?_⟩
  conv=>whnf
  refine ⟨loc,rfl,hlm,?_⟩
  conv=>whnf
  refine Fork.mk (fun h=>?_) (fun h=>?_)
  · have e:stX c w' lv loc=.error 1:=by rw [stX,if_neg (by omega),if_neg (by omega),if_neg (by simp [q3]),if_pos (by simpa using h)]
    conv=>whnf
    exact hBad 1 e
  have q4:loc.any badX=false:=by rw [Bool.not_not] at h;exact h
  clear h
  conv=>whnf
  refine ⟨by omega,lwC loc,g2,rfl,?_⟩
  conv=>whnf
  refine ⟨eL_all _,by rw [hmc];show _ * 8≤_;omega,?_⟩
  conv=>whnf
  rw [show (eL loc).length=loc.length from hmc]
  refine ⟨Nat × Ls × List Ls,fun y=>([(2,.c (.lst (eLw lvs))),(3,.c (.lst (eLw locs))),(4,.c (.ptr (.l 4 0) 0)),(11,.c (.view (.l 2088 2) 0 s.ws.length)),(12,.c (.view (.l 144 3) 0 o.length)),(13,I j),(14,.c (.view (.l 85 20) 0 loc.length)),(43,I (eLw lvs).length),(44,I j),(88,.c (.lst (eK c.rv.ls))),(89,I (eK c.rv.ls).length),(90,I y.1)],⟨[(.l 4 0,.blk (csC c)),(.l 2088 2,.arr 85 1 (eV y.2.2) false),(.l 144 3,.arr 22 1 (eLw o) false),(.l 85 20,.arr 3 1 (eL y.2.1) false)],40,[]⟩),
    fun y=>y.1≤c.rv.ls.length∧trI c (lvF c.si lv) w' loc y.2.1 y.2.2 y.1,fun y=>c.rv.ls.length - y.1,(0,loc,w'),⟨Nat.zero_le _,trI.zero hw' q4⟩,Shift.reset ⟨rfl,rfl,rfl,rfl,rfl,rfl,rfl,rfl,rfl,rfl,rfl,rfl,trivial⟩ ⟨rfl,rfl,rfl,rfl,trivial⟩ rfl rfl,fun y hy=>?_⟩
  obtain ⟨i,A,w⟩:=y
  obtain ⟨hi,hI⟩:=hy
  dsimp only at hi hI ⊢
  have hmA:=eL_len A
  have hmw:=eV_len w
  have hlA:=hI.la
  have hlw:=hI.w.l
  have tA:List.take loc.length (List.drop 0 (eL A))=eL A:=by rw [List.drop_zero,List.take_of_length_le (by omega)]
  conv=>whnf
  refine Fork.mk (fun h=>?_) (fun h=>?_)
  rotate_left
  · have hie:i=c.rv.ls.length:=by simp at h;omega
    have hx:=stX_ok (hI.done hie) q1 q2 q3 q4
    rw [flG_ok hx,preL_app] at hrun
    conv=>whnf
    refine ⟨by omega,?_⟩
    conv=>whnf
    rw [tA]
    refine ⟨by simp,?_⟩
    conv=>whnf
    refine ⟨rfl,?_⟩
    conv=>whnf
    refine ⟨⟨rfl,rfl,rfl,hmo.symm,by rw [hmo];simp;omega⟩,?_⟩
    conv=>whnf
    rw [hw0]
    refine ⟨(w,o ++ [A],j+1),⟨hjl,hrun,hI.w,by simp [hol]⟩,Shift.rename [(.l 144 3,.l 144 41)] ⟨rfl,rfl,rfl,rfl,?_,rfl,rfl,trivial⟩ ⟨rfl,rfl,?_,trivial⟩ rfl rfl rfl,by dsimp only;omega⟩
    · dsimp only;rw [List.length_append,← hmo];rfl
    · dsimp only;rw [show eLw (o ++ [A])=eLw o ++ [lwC A] from List.map_append];rfl
  have hi2:i < c.rv.ls.length:=by simp at h;omega
  clear h
  have hci:=List.getElem?_eq_getElem hi2
  have hcw:=List.getElem?_eq_getElem (show i < w.length by omega)
  generalize c.rv.ls[i]=l at hci
  generalize w[i]=p at hcw
  have hk:=hr.l l (List.mem_of_getElem? hci)
  have hf:=hI.w.f i l p hci hcw
  have hpl:=(fits_facts hf).1
  have hlw5:=(rk_facts hk.r).2.1
  have hk1:=hk.f
  have hk2:=hk.o
  have hk3:=hk.t
  have hw1:=wr_succ (i:=i) (by omega)
  have hcell:∀ j:Int,0≤j→j < c.rv.n→(eL A)[0+j.toNat]?=some (eI (gA A j)):=fun j j1 j2=>by
    obtain ⟨J,rfl⟩:=Int.eq_ofNat_of_zero_le j1
    have:A[J]?=some (gA A J):=by rw [gA_nat];exact gN_get (by omega)
    rw [Nat.zero_add,Int.toNat_natCast,List.getElem?_map,this];rfl
  have hb:=hI.b l.to
  obtain ⟨hS1,hS2⟩:=hI.step hr hci hcw
  have key:∀ q,q=qGo (lvF c.si lv) l A→rkStep l.ws l.den p q=if stG l p (qGo (lvF c.si lv) l A)=true then (stepF l.ws l.den p (qGo (lvF c.si lv) l A),outF l.ws l.den p (qGo (lvF c.si lv) l A),0) else ([],0,1):=fun q hq=>by rw [hq];exact step_eq hk.r hf
  conv=>whnf
  refine ⟨by omega,lkC l,by rw [Int.toNat_natCast,List.getElem?_map,hci];rfl,rfl,?_⟩
  conv=>whnf
  refine ⟨by omega,rfl,?_⟩
  conv=>whnf
  refine ⟨eI (gA A l.fr),hcell _ (by omega) (by omega),?_⟩
  conv=>whnf
  refine ⟨c,l.fr,rfl,by omega,?_⟩
  conv=>whnf
  refine Fork.mk (fun h=>?_) (fun h=>?_)
  · have hsn:0≤snA c.si l.fr:=by simpa using h
    clear h
    obtain ⟨J,s,hJ1,hJ2,hJ3⟩:∃ (j:Nat) (s:Si),c.si[j]?=some s∧s.nd=l.fr∧snA c.si l.fr=(j:Int):=by
      rcases snA_is c.si l.fr with ⟨h,_⟩ | h
      · omega
      · exact h
    have hJl:=(List.getElem?_eq_some_iff.1 hJ1).1
    have hcq:=List.getElem?_eq_getElem (show J < lv.length by omega)
    generalize lv[J]=q at hcq
    have hq:q=qGo (lvF c.si lv) l A:=by
      unfold qGo lvF
      rw [if_pos hsn,hJ3,Int.toNat_natCast,hcq];rfl
    conv=>whnf
    refine ⟨by omega,lwC lv,g1,rfl,?_⟩
    conv=>whnf
    rw [hJ3]
    refine ⟨by omega,eI q,by rw [Int.toNat_natCast,List.getElem?_map,hcq];rfl,rfl,?_⟩
    conv=>whnf
    refine ⟨by omega,rfl,?_⟩
    conv=>whnf
    refine ⟨wvC p,by rw [Nat.zero_add,Int.toNat_natCast,List.getElem?_map,hcw];rfl,?_⟩
    conv=>whnf
    refine ⟨l.ws,p,rfl,rfl,by omega,by omega,?_⟩
    rw [key q hq]
    by_cases hg:stG l p (qGo (lvF c.si lv) l A)=true
    · rw [if_pos hg]
      have hI2:=hS1 hg
      have ho:=out_in hk.r hf hg
      generalize stepF l.ws l.den p (qGo (lvF c.si lv) l A)=u at hI2
      generalize outF l.ws l.den p (qGo (lvF c.si lv) l A)=v at hI2 ho
      have e5:IntKind.i64.wrap (gA A l.to+v)=gA A l.to+v:=wrap_in (by omega) (by omega)
      conv=>whnf
      repeat' ((first | refine fork_t ?_ | refine fork_f ?_ | (refine Fork.mk (fun h=>?_) (fun h=>?_);focus (simp at h;done)) | fail) <;> (conv=>whnf))
      refine ⟨by omega,rfl,?_⟩
      conv=>whnf
      refine ⟨wvC p,by rw [Nat.zero_add,Int.toNat_natCast,List.getElem?_map,hcw];rfl,Nat.le_refl _,?_⟩
      conv=>whnf
      refine ⟨by omega,rfl,?_⟩
      conv=>whnf
      refine ⟨eI (gA A l.to),hcell _ (by omega) (by omega),?_⟩
      conv=>whnf
      refine ⟨by omega,rfl,?_⟩
      conv=>whnf
      refine ⟨eI (gA A l.to),hcell _ (by omega) (by omega),Nat.le_refl _,?_⟩
      conv=>whnf
      rw [hw1,e5]
      have q1:(eV w).set (0+((i:Int)).toNat) (wvC u)=eV (w.set i u):=by rw [Nat.zero_add,Int.toNat_natCast,eV_set]
      have q4:(eL A).set (0+l.to.toNat) (eI (gA A l.to+v))=eL (A.set l.to.toNat (gA A l.to+v)):=by rw [Nat.zero_add,eL_set]
      refine ⟨(i+1,A.set l.to.toNat (gA A l.to+v),w.set i u),⟨hi2,hI2⟩,Shift.reset ⟨rfl,rfl,rfl,rfl,rfl,rfl,rfl,rfl,rfl,rfl,rfl,rfl,trivial⟩ ⟨rfl,?_,rfl,?_,trivial⟩ rfl rfl,by dsimp only;omega⟩
      · dsimp only;rw [← q1];rfl
      · dsimp only;rw [← q4];rfl
    have hx:=stX_no (hS2 (by simpa using hg)) q1 q2
    rw [if_neg hg]
    conv=>whnf
    repeat' ((first | refine fork_t ?_ | refine fork_f ?_ | (refine Fork.mk (fun h=>?_) (fun h=>?_);focus (simp at h;done)) | fail) <;> (conv=>whnf))
    exact hBad 1 hx
  have hsn:¬ 0≤snA c.si l.fr:=by simpa using h
  clear h
  obtain ⟨q,hqA⟩:∃ q,q=gA A l.fr:=⟨_,rfl⟩
  have hq:q=qGo (lvF c.si lv) l A:=by
    unfold qGo lvF
    rw [if_neg hsn,hqA];rfl
  rw [← hqA]
  conv=>whnf
  refine ⟨by omega,rfl,?_⟩
  conv=>whnf
  refine ⟨wvC p,by rw [Nat.zero_add,Int.toNat_natCast,List.getElem?_map,hcw];rfl,?_⟩
  conv=>whnf
  refine ⟨l.ws,p,rfl,rfl,by omega,by omega,?_⟩
  rw [key q hq]
  by_cases hg:stG l p (qGo (lvF c.si lv) l A)=true
  · rw [if_pos hg]
    have hI2:=hS1 hg
    have ho:=out_in hk.r hf hg
    generalize stepF l.ws l.den p (qGo (lvF c.si lv) l A)=u at hI2
    generalize outF l.ws l.den p (qGo (lvF c.si lv) l A)=v at hI2 ho
    have e5:IntKind.i64.wrap (gA A l.to+v)=gA A l.to+v:=wrap_in (by omega) (by omega)
    conv=>whnf
    repeat' ((first | refine fork_t ?_ | refine fork_f ?_ | (refine Fork.mk (fun h=>?_) (fun h=>?_);focus (simp at h;done)) | fail) <;> (conv=>whnf))
    refine ⟨by omega,rfl,?_⟩
    conv=>whnf
    refine ⟨wvC p,by rw [Nat.zero_add,Int.toNat_natCast,List.getElem?_map,hcw];rfl,Nat.le_refl _,?_⟩
    conv=>whnf
    refine ⟨by omega,rfl,?_⟩
    conv=>whnf
    refine ⟨eI (gA A l.to),hcell _ (by omega) (by omega),?_⟩
    conv=>whnf
    refine ⟨by omega,rfl,?_⟩
    conv=>whnf
    refine ⟨eI (gA A l.to),hcell _ (by omega) (by omega),Nat.le_refl _,?_⟩
    conv=>whnf
    rw [hw1,e5]
    have q1:(eV w).set (0+((i:Int)).toNat) (wvC u)=eV (w.set i u):=by rw [Nat.zero_add,Int.toNat_natCast,eV_set]
    have q4:(eL A).set (0+l.to.toNat) (eI (gA A l.to+v))=eL (A.set l.to.toNat (gA A l.to+v)):=by rw [Nat.zero_add,eL_set]
    refine ⟨(i+1,A.set l.to.toNat (gA A l.to+v),w.set i u),⟨hi2,hI2⟩,Shift.reset ⟨rfl,rfl,rfl,rfl,rfl,rfl,rfl,rfl,rfl,rfl,rfl,rfl,trivial⟩ ⟨rfl,?_,rfl,?_,trivial⟩ rfl rfl,by dsimp only;omega⟩
    · dsimp only;rw [← q1];rfl
    · dsimp only;rw [← q4];rfl
  have hx:=stX_no (hS2 (by simpa using hg)) q1 q2
  rw [if_neg hg]
  conv=>whnf
  repeat' ((first | refine fork_t ?_ | refine fork_f ?_ | (refine Fork.mk (fun h=>?_) (fun h=>?_);focus (simp at h;done)) | fail) <;> (conv=>whnf))
  exact hBad 1 hx
end Go.Proofs
