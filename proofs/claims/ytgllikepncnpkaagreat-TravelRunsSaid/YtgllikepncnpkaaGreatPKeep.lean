/- Proved here: what functions of the given program come to, and the plain laws of it; no condition but those in the theorems. -/
import Derived.Test.YtgllikepncnpkaaGreatA34w
import Derived.Test.YtgllikepncnpkaaGreatAbsQ
namespace Go.Proofs
open Go Go.Abs
set_option linter.unusedSimpArgs false
set_option linter.unusedVariables false
set_option maxRecDepth 40000
abbrev bO (c : Cs) (i : Nat) : List MObj:=[.blk (csC c),.blk [IC i]]
def R_belw : RG:=fun args os k=>∃ (c : Cs) (i : Nat),args = [.agg (csC c),I i]∧os = []∧k (.c (.fn 76 [.ptr (.x 0) 0,.ptr (.x 1) 0])) (bO c i)
theorem belw_ok : FunH Tryz.prog 47 R_belw:=by
  intro args os k h
  obtain ⟨c,i,rfl,rfl,hk⟩:=h
  refine doesH_ex (qc:=qc1) (np:=[]) (CK:=ckK []) mixed Tryz.func47 rfl rfl Tryz.ntmps47 Tryz.results47 τ_ok (by kernel_rfl) (ckK_ok trivial) (by simp) ?_
  conv=>whnf
  exact ⟨.l 2 0,.l 3 1,rfl,rfl,rfl,rfl,rfl,hk⟩
noncomputable def genBel : Gen Tryz.prog:=⟨76,Tryz.f76,bodyF Tryz.f76,_,[],qc1,ckK [(77,cSc R_lkF),(71,cSc R_siA)],Tryz.func76,rfl,rfl,Tryz.ntmps76,Tryz.results76,by kernel_rfl,ckK_ok ⟨cSc_ok lkF_ok,cSc_ok siA_ok,trivial⟩⟩
def R_apS : RG:=fun args os k=>∃ (c : Cs) (i : Nat),args = [.c (.sc (.slice none 0 0)),.c (.fn 76 [.ptr (.x 0) 0,.ptr (.x 1) 0])]∧os = bO c i∧CsOk c∧i < c.si.length∧k (.c (.lst (eL (belF c i)))) (bO c i)
theorem apS_ok : FunG Tryz.prog 75 R_apS:=by
  intro args os k h
  obtain ⟨c,i,rfl,rfl,hc,hi,hk⟩:=h
  have hr:=hc.r
  have hrn:=hr.n
  have hrl:=hr.len
  have hcm:=hc.m
  have hmx:=eX_len c.si
  have hmk:=eK_len c.rv.ls
  obtain ⟨x,hx⟩ : ∃ x,c.si[i]? = some x:=⟨_,List.getElem?_eq_getElem hi⟩
  have hxn:=(hc.s x (List.mem_of_getElem? hx)).1
  have hB : belF c i = belP c x.nd:=by unfold belF;rw [hx]
  rw [hB] at hk
  have hCK : ∀ f args d m k,ckK [] f args d m k→callK Tryz.prog qc1 f args d m k:=ckK_ok trivial
  refine ⟨_,_,doesTG_of (qc:=qc1) (np:=[]) (CK:=ckK []) (RC:=rcN τ [] (ckK []) qc1 13 genBel) mixed Tryz.func75 rfl rfl Tryz.ntmps75 Tryz.results75 τ_ok (by kernel_rfl) hCK (rcN_ok τ_ok hCK mixed genBel) (by simp) ⟨rfl,rfl,rfl,rfl,rfl⟩ ?_,hk⟩
  conv=>whnf
  refine ⟨⟨⟨rfl,rfl⟩,⟨rfl,rfl⟩,rfl⟩,?_⟩
  conv=>whnf
  refine ⟨_,rfl,Nat.le_of_ble_eq_true rfl,[.x 0,.x 1,.l 2 0],[],rfl,rfl,?_⟩
  conv=>whnf
  refine ⟨rfl,rfl,fun L=>?_⟩
  conv=>whnf
  refine ⟨by omega,siC x,by rw [Int.toNat_natCast,List.getElem?_map,hx];rfl,rfl,?_⟩
  conv=>whnf
  refine ⟨c,x.nd,rfl,by omega,?_⟩
  conv=>whnf
  refine ⟨Ls × Int,fun y=>([(0,yV L),(1,.c (.ptr (.x 0) 0)),(4,I (lnk c.rv.ls y.2))],⟨[(.x 0,.blk (csC c)),(.x 1,.blk [IC i]),(.x 2,.blk [.view (.l 11 0) 0 y.1.length]),(.l 11 0,.arr 3 1 (eL y.1) false)],20,[]⟩),
    fun y=>belP c x.nd = y.1 ++ belP c y.2∧(0≤y.2∧y.2 < c.rv.n)∧(y.1.length : Int)≤y.2,fun y=>(c.rv.n - y.2).toNat,([],x.nd),⟨rfl,hxn,hxn.1⟩,
    Shift.trans (Shift.rename [] ⟨rfl,rfl,rfl,trivial⟩ ⟨rfl,rfl,rfl,rfl,trivial⟩ rfl rfl rfl) (Shift.nilCell (i:=.x 2) (cs:=[.sc (.slice none 0 0)]) (j:=0) rfl rfl 11 3 1),fun y hy=>?_⟩
  obtain ⟨O,q⟩:=y
  obtain ⟨hE,hq,hO⟩:=hy
  dsimp only at hE hq hO ⊢
  have hmO:=eL_len O
  conv=>whnf
  refine Fork.mk (fun h=>?_) (fun h=>?_)
  rotate_left
  · have hlt : lnk c.rv.ls q < 0:=by simp at h;omega
    clear h
    rw [belP_end hlt,List.append_nil] at hE
    conv=>whnf
    refine ⟨[.l 11 0],[11],⟨rfl,rfl,rfl,rfl⟩,?_⟩
    conv=>whnf
    refine ⟨rfl,rfl,?_⟩
    conv=>whnf
    refine ⟨by omega,?_⟩
    have he : (((eL O).drop 0).take O.length) = eL (belP c x.nd):=by rw [List.drop_zero,List.take_of_length_le (by rw [eL_len];exact Nat.le_refl _),hE]
    simp only [Nat.zero_add,he]
    conv=>whnf
    exact ⟨rfl,rfl⟩
  have hge : 0≤lnk c.rv.ls q:=by simpa using h
  clear h
  obtain ⟨J,l,hJ1,hJ2,hJ3⟩ : ∃ (j : Nat) (a : Lk),c.rv.ls[j]? = some a∧a.fr = q∧lnk c.rv.ls q = j:=by
    rcases lnk_spec c.rv.ls q with ⟨h,_⟩ | h
    · omega
    · exact h
  have hJl:=(List.getElem?_eq_some_iff.1 hJ1).1
  have hk:=hr.l l (List.mem_of_getElem? hJ1)
  have hk1:=hk.o
  have hk2:=hk.t
  have hS:=belP_step hr hq.1 hJ3 hJ1 hJ2
  rw [hS] at hE
  rw [hJ3]
  conv=>whnf
  refine ⟨by omega,lkC l,by rw [Int.toNat_natCast,List.getElem?_map,hJ1];rfl,rfl,?_⟩
  conv=>whnf
  refine ⟨rfl,?_⟩
  conv=>whnf
  refine ⟨rfl,?_⟩
  conv=>whnf
  refine ⟨by simp,?_⟩
  conv=>whnf
  refine ⟨rfl,?_⟩
  conv=>whnf
  refine ⟨⟨rfl,rfl,rfl,hmO.symm,by rw [hmO];simp;omega⟩,?_⟩
  conv=>whnf
  refine Fork.mk (fun h=>by cases h) (fun _=>?_)
  conv=>whnf
  refine ⟨c,l.to,rfl,by omega,?_⟩
  conv=>whnf
  refine Fork.mk (fun h=>?_) (fun h=>?_)
  · have h5 : 0≤snA c.si l.to:=by simpa using h
    clear h
    rw [if_pos h5] at hE
    conv=>whnf
    refine ⟨[.l 11 21],[11],⟨rfl,rfl,rfl,rfl⟩,?_⟩
    conv=>whnf
    refine ⟨rfl,rfl,?_⟩
    conv=>whnf
    refine ⟨by simp,?_⟩
    have he : (List.take ((eL O).length + (List.take 1 (List.drop 0 [[nrm (Value.int IntKind.i64 l.to)]])).length) (List.drop 0 (eL O ++ List.take 1 (List.drop 0 [[nrm (Value.int IntKind.i64 l.to)]])))) = eL (belP c x.nd):=by
      rw [List.take_of_length_le (by simp),hE,← eL_snoc];rfl
    simp only [Nat.zero_add,he]
    conv=>whnf
    exact ⟨rfl,rfl⟩
  have h5 : ¬ 0≤snA c.si l.to:=by simpa using h
  clear h
  rw [if_neg h5] at hE
  conv=>whnf
  refine ⟨c,l.to,rfl,by omega,?_⟩
  conv=>whnf
  refine ⟨(O ++ [l.to],l.to),⟨by dsimp only;rw [hE];simp,by dsimp only;omega,by dsimp only;rw [List.length_append];simp;omega⟩,Shift.rename [(.l 11 0,.l 11 21)] ⟨rfl,rfl,rfl,trivial⟩ ⟨rfl,rfl,?_,?_,trivial⟩ rfl rfl rfl,by dsimp only;omega⟩
  · dsimp only;rw [show (O ++ [l.to]).length = (eL O).length + 1 by rw [hmO];simp];rfl
  · dsimp only;rw [← eL_snoc];rfl
end Go.Proofs

namespace Go.Proofs
open Go Go.Abs
set_option linter.unusedSimpArgs false
set_option linter.unusedVariables false
set_option maxRecDepth 40000
def R_coll : RG:=fun args os k=>∃ (c : Cs) (i : Nat),args = [.c (.fn 76 [.ptr (.x 0) 0,.ptr (.x 1) 0])]∧os = bO c i∧CsOk c∧i < c.si.length∧k (.c (.lst (eL (belF c i)))) (bO c i)
theorem coll_ok : FunG Tryz.prog 46 R_coll:=by
  intro args os k h
  obtain ⟨c,i,rfl,rfl,hc,hi,hk⟩:=h
  refine doesG_ex (qc:=qc1) (np:=[]) (CK:=ckK [(75,cG R_apS)]) mixed Tryz.func46 rfl rfl Tryz.ntmps46 Tryz.results46 τ_ok (by kernel_rfl) (ckK_ok ⟨cG_ok apS_ok rfl,trivial⟩) (by simp) rfl rfl ?_
  conv=>whnf
  refine ⟨[.x 0,.x 1],rfl,rfl,?_⟩
  conv=>whnf
  refine ⟨rfl,?_⟩
  conv=>whnf
  refine ⟨c,i,rfl,rfl,hc,hi,?_⟩
  conv=>whnf
  refine ⟨rfl,?_⟩
  conv=>whnf
  exact ⟨rfl,hk⟩
theorem bel_ok : FunR Tryz.prog 20 R_bw:=by
  intro args k h
  obtain ⟨c,i,rfl,hc,hk⟩:=h
  have hmx:=eX_len c.si
  refine does_ex (qc:=qc1) (np:=[]) (CK:=ckK [(45,cSc (R_csI csE)),(47,cH R_belw),(46,cG R_coll)]) mixed Tryz.func20 rfl rfl Tryz.ntmps20 Tryz.results20 τ_ok (by kernel_rfl) (ckK_ok ⟨cSc_ok csE_ok',cH_ok belw_ok rfl,cG_ok coll_ok rfl,trivial⟩) (by simp) ?_
  conv=>whnf
  refine ⟨c,rfl,hc,?_⟩
  conv=>whnf
  refine Fork.mk (fun h=>?_) (fun h=>?_)
  · have h1 : csE c ≠ 0:=by simpa using h
    conv=>whnf
    exact kPth (y:=([],csE c)) hk (by rw [bwS,if_pos h1])
  have h1 : csE c = 0:=by simpa using h
  have hok:=csE_ok h1
  have hr:=hok.r
  have hcm:=hok.m
  have hrn:=hr.n
  clear h
  conv=>whnf
  refine Fork.mk (fun h=>?_) (fun h=>?_)
  · have h2 : i < 0:=by simpa using h
    conv=>whnf
    repeat' ((first | refine fork_t ?_ | refine fork_f ?_ | (refine Fork.mk (fun h=>?_) (fun h=>?_);focus (simp at h;done)) | fail) <;> (conv=>whnf))
    exact kPth (y:=([],40)) hk (by rw [bwS,if_neg (by simp [h1]),if_pos h2])
  have h2 : ¬ i < 0:=by simpa using h
  clear h
  conv=>whnf
  refine Fork.mk (fun h=>?_) (fun h=>?_)
  · have h3 : (c.si.length : Int)≤i:=by simp at h;omega
    conv=>whnf
    exact kPth (y:=([],40)) hk (by rw [bwS,if_neg (by simp [h1]),if_neg h2,if_pos h3])
  have h3 : ¬ (c.si.length : Int)≤i:=by simp at h;omega
  clear h
  obtain ⟨I0,rfl⟩:=Int.eq_ofNat_of_zero_le (show 0≤i by omega)
  have e0 : bwS c I0 = (belF c I0,0):=by
    rw [bwS,if_neg (by simp [h1]),if_neg h2,if_neg h3,Int.toNat_natCast]
  rw [e0] at hk
  conv=>whnf
  refine ⟨[],rfl,?_⟩
  conv=>whnf
  refine ⟨rfl,?_⟩
  conv=>whnf
  refine ⟨rfl,?_⟩
  conv=>whnf
  refine ⟨c,I0,rfl,rfl,?_⟩
  conv=>whnf
  refine ⟨[.l 23 1,.l 2071 1],rfl,?_⟩
  conv=>whnf
  refine ⟨rfl,?_⟩
  conv=>whnf
  refine ⟨rfl,?_⟩
  conv=>whnf
  refine ⟨c,I0,rfl,rfl,hok,by omega,?_⟩
  conv=>whnf
  exact hk
end Go.Proofs

namespace Go.Proofs
open Go Go.Abs
set_option linter.unusedSimpArgs false
set_option linter.unusedVariables false
set_option maxRecDepth 40000
set_option maxHeartbeats 4000000 in
theorem abv_ok : FunR Tryz.prog 23 R_abv:=by
  intro args k h
  obtain ⟨c,n,rfl,hc,hk⟩:=h
  have hmx:=eX_len c.si
  have hCK : ∀ f args d m k,ckK [(45,cSc (R_csI csE)),(47,cH R_belw)] f args d m k→callK Tryz.prog qc1 f args d m k:=ckK_ok ⟨cSc_ok csE_ok',cH_ok belw_ok rfl,trivial⟩
  refine ⟨_,doesT_of (qc:=qc1) (np:=[]) (CK:=ckK [(45,cSc (R_csI csE)),(47,cH R_belw)]) (RC:=rcN τ [] (ckK [(45,cSc (R_csI csE)),(47,cH R_belw)]) qc1 43 genBel) mixed Tryz.func23 rfl rfl Tryz.ntmps23 Tryz.results23 τ_ok (by kernel_rfl) hCK (rcN_ok τ_ok hCK mixed genBel) (by simp) ?_,hk⟩
  conv=>whnf
  refine ⟨c,rfl,hc,?_⟩
  conv=>whnf
  have hA : ∀ y,abS c n = y→AV.tup [.c (.lst (eL (abS c n).1)),I (abS c n).2] = AV.tup [.c (.lst (eL y.1)),I y.2]:=by rintro _ rfl;rfl
  refine Fork.mk (fun h=>?_) (fun h=>?_)
  · have h1 : csE c ≠ 0:=by simpa using h
    conv=>whnf
    exact hA ([],csE c) (by rw [abS,if_pos h1])
  have h1 : csE c = 0:=by simpa using h
  have hok:=csE_ok h1
  have hcm:=hok.m
  clear h
  conv=>whnf
  refine Fork.mk (fun h=>?_) (fun h=>?_)
  · have h2 : n < 0:=by simpa using h
    conv=>whnf
    repeat' ((first | refine fork_t ?_ | refine fork_f ?_ | (refine Fork.mk (fun h=>?_) (fun h=>?_);focus (simp at h;done)) | fail) <;> (conv=>whnf))
    exact hA ([],41) (by rw [abS,if_neg (by simp [h1]),if_pos h2])
  have h2 : ¬ n < 0:=by simpa using h
  clear h
  conv=>whnf
  refine Fork.mk (fun h=>?_) (fun h=>?_)
  · have h3 : c.rv.n≤n:=by simpa using h
    conv=>whnf
    exact hA ([],41) (by rw [abS,if_neg (by simp [h1]),if_neg h2,if_pos h3])
  have h3 : ¬ c.rv.n≤n:=by simpa using h
  clear h
  have e0 : abS c n = (abG c n c.si.length,0):=by rw [abS,if_neg (by simp [h1]),if_neg h2,if_neg h3]
  have hA:=hA _ e0
  conv=>whnf
  refine ⟨Nat,fun i=>([(2,.c (.ptr (.l 2 0) 0)),(3,.c (.ptr (.l 3 1) 0)),(7,.c (.ptr (.l 7 2) 0)),(26,I (eX c.si).length),(27,I i)],⟨[(.l 2 0,.blk (csC c)),(.l 3 1,.blk [IC n]),(.l 7 2,.blk [.view (.l 40 3) 0 (abG c n i).length]),(.l 40 3,.arr 3 1 (eL (abG c n i)) false)],9,[]⟩),
    fun i=>i≤c.si.length,fun i=>c.si.length - i,0,Nat.zero_le _,Shift.trans (Shift.rename [] ⟨rfl,rfl,rfl,rfl,rfl,trivial⟩ ⟨rfl,rfl,rfl,rfl,trivial⟩ rfl rfl rfl) (Shift.nilCell (i:=.l 7 2) (cs:=[.sc (.slice none 0 0)]) (j:=0) rfl rfl 40 3 1),fun i hi=>?_⟩
  dsimp only
  have hml:=eL_len (abG c n i)
  conv=>whnf
  refine Fork.mk (fun h=>?_) (fun h=>?_)
  rotate_left
  · have hie : i = c.si.length:=by simp at h;omega
    subst hie
    have t1 : List.take (abG c n c.si.length).length (List.drop 0 (eL (abG c n c.si.length))) = eL (abG c n c.si.length):=by rw [List.drop_zero,List.take_of_length_le (by omega)]
    conv=>whnf
    refine ⟨by omega,?_⟩
    simp only [t1]
    conv=>whnf
    exact hA
  have hi2 : i < c.si.length:=by simp at h;omega
  clear h
  have hwi:=wr_succ (i:=i) (by omega)
  have hbl:=belF_len hok i
  have hgl:=abG_len hok n i
  have hg1 : abG c n (i + 1) = abG c n i ++ hitN n i (belF c i):=rfl
  conv=>whnf
  refine ⟨[],rfl,?_⟩
  conv=>whnf
  refine ⟨rfl,?_⟩
  conv=>whnf
  refine ⟨rfl,?_⟩
  conv=>whnf
  refine ⟨c,i,rfl,rfl,?_⟩
  conv=>whnf
  refine ⟨⟨⟨rfl,rfl⟩,⟨rfl,rfl⟩,rfl⟩,?_⟩
  conv=>whnf
  refine ⟨_,rfl,Nat.le_of_ble_eq_true rfl,[.l 32 10,.l 2080 10,.l 3 1,.l 7 2,.l 8 9],[.l 40 3],rfl,rfl,?_⟩
  conv=>whnf
  refine ⟨rfl,rfl,fun L=>?_⟩
  conv=>whnf
  obtain ⟨x,hx⟩ : ∃ x,c.si[i]? = some x:=⟨_,List.getElem?_eq_getElem hi2⟩
  have hr:=hok.r
  have hrn:=hr.n
  have hrl:=hr.len
  have hmk:=eK_len c.rv.ls
  have hxn:=(hok.s x (List.mem_of_getElem? hx)).1
  have hB : belF c i = belP c x.nd:=by unfold belF;rw [hx]
  rw [hB] at hg1 hbl
  refine ⟨by omega,siC x,by rw [Int.toNat_natCast,List.getElem?_map,hx];rfl,rfl,?_⟩
  conv=>whnf
  refine ⟨c,x.nd,rfl,by omega,?_⟩
  conv=>whnf
  generalize hG : abG c n i = G at hml hgl hg1
  refine ⟨Ls × Int,fun y=>([(0,yV L),(1,.c (.ptr (.x 0) 0)),(4,I (lnk c.rv.ls y.2))],⟨[(.x 0,.blk (csC c)),(.x 1,.blk [IC i]),(.x 2,.blk [IC n]),(.x 3,.blk [.view (.l 40 0) 0 (G ++ hitN n i y.1).length]),(.x 4,.blk [IC i]),(.l 40 0,.arr 3 1 (eL (G ++ hitN n i y.1)) false)],20,[]⟩),
    fun y=>belP c x.nd = y.1 ++ belP c y.2∧(0≤y.2∧y.2 < c.rv.n)∧(y.1.length : Int)≤y.2,fun y=>(c.rv.n - y.2).toNat,([],x.nd),⟨rfl,hxn,hxn.1⟩,
    ?_,fun y hy=>?_⟩
  · dsimp only
    rw [show G ++ hitN n i [] = G by simp [hitN]]
    exact Shift.rename [(.l 40 0,.x 5)] ⟨rfl,rfl,rfl,trivial⟩ ⟨rfl,rfl,rfl,rfl,rfl,rfl,trivial⟩ rfl rfl rfl
  obtain ⟨O,q⟩:=y
  obtain ⟨hE,hq,hO⟩:=hy
  dsimp only at hE hq hO ⊢
  have hmO:=eL_len (G ++ hitN n i O)
  have hol:=hitN_len n i O
  have hjs : (G ++ hitN n i O).length≤1000:=by rw [List.length_append];omega
  conv=>whnf
  refine Fork.mk (fun h=>?_) (fun h=>?_)
  rotate_left
  · have hlt : lnk c.rv.ls q < 0:=by simp at h;omega
    clear h
    rw [belP_end hlt,List.append_nil] at hE
    conv=>whnf
    refine ⟨[.l 40 0],[40],⟨rfl,rfl,rfl,rfl⟩,?_⟩
    conv=>whnf
    refine ⟨rfl,rfl,?_⟩
    conv=>whnf
    rw [hwi]
    rw [hE] at hg1
    exact ⟨i + 1,hi2,Shift.rename [(.l 40 3,.l 40 11)] ⟨rfl,rfl,rfl,rfl,rfl,trivial⟩ ⟨rfl,rfl,by dsimp only;rw [hg1];rfl,by dsimp only;rw [hg1];rfl,trivial⟩ rfl rfl rfl,by omega⟩
  have hge : 0≤lnk c.rv.ls q:=by simpa using h
  clear h
  obtain ⟨J,l,hJ1,hJ2,hJ3⟩ : ∃ (j : Nat) (a : Lk),c.rv.ls[j]? = some a∧a.fr = q∧lnk c.rv.ls q = j:=by
    rcases lnk_spec c.rv.ls q with ⟨h,_⟩ | h
    · omega
    · exact h
  have hJl:=(List.getElem?_eq_some_iff.1 hJ1).1
  have hk:=hr.l l (List.mem_of_getElem? hJ1)
  have hk1:=hk.o
  have hk2:=hk.t
  have hS:=belP_step hr hq.1 hJ3 hJ1 hJ2
  rw [hS] at hE
  have hsn:=hitN_snoc n i O l.to
  rw [hJ3]
  conv=>whnf
  refine ⟨by omega,lkC l,by rw [Int.toNat_natCast,List.getElem?_map,hJ1];rfl,rfl,?_⟩
  conv=>whnf
  refine ⟨rfl,?_⟩
  conv=>whnf
  refine ⟨rfl,?_⟩
  conv=>whnf
  refine Fork.mk (fun h=>?_) (fun h=>?_)
  · have hz : l.to = n:=by simpa using h
    rw [if_pos hz] at hsn
    clear h
    conv=>whnf
    refine ⟨by simp,?_⟩
    conv=>whnf
    refine ⟨rfl,?_⟩
    conv=>whnf
    refine ⟨⟨rfl,rfl,rfl,hmO.symm,by rw [hmO];simp;simp at hjs;omega⟩,?_⟩
    conv=>whnf
    refine Fork.mk (fun h=>by cases h) (fun _=>?_)
    conv=>whnf
    refine ⟨c,l.to,rfl,by omega,?_⟩
    conv=>whnf
    refine Fork.mk (fun h=>?_) (fun h=>?_)
    · have h5 : 0≤snA c.si l.to:=by simpa using h
      clear h
      rw [if_pos h5] at hE
      conv=>whnf
      refine ⟨[.l 40 21],[40],⟨rfl,rfl,rfl,rfl⟩,?_⟩
      conv=>whnf
      refine ⟨rfl,rfl,?_⟩
      conv=>whnf
      have e3 : G ++ hitN n i (belP c x.nd) = (G ++ hitN n i O) ++ [(i : Int)]:=by rw [hE,hsn,List.append_assoc]
      rw [hwi]
      exact ⟨i + 1,hi2,Shift.rename [(.l 40 3,.l 40 11)] ⟨rfl,rfl,rfl,rfl,rfl,trivial⟩ ⟨rfl,rfl,by dsimp only;rw [hg1,e3,List.length_append,← hmO];rfl,by dsimp only;rw [hg1,e3,← eL_snoc];rfl,trivial⟩ rfl rfl rfl,by omega⟩
    have h5 : ¬ 0≤snA c.si l.to:=by simpa using h
    clear h
    rw [if_neg h5] at hE
    conv=>whnf
    refine ⟨c,l.to,rfl,by omega,?_⟩
    conv=>whnf
    have e4 : G ++ hitN n i (O ++ [l.to]) = (G ++ hitN n i O) ++ [(i : Int)]:=by rw [hsn,List.append_assoc]
    exact ⟨(O ++ [l.to],l.to),⟨by dsimp only;rw [hE];simp,by dsimp only;omega,by dsimp only;rw [List.length_append];simp;omega⟩,Shift.rename [(.l 40 0,.l 40 21)] ⟨rfl,rfl,rfl,trivial⟩ ⟨rfl,rfl,rfl,by dsimp only;rw [e4,List.length_append,← hmO];rfl,rfl,by dsimp only;rw [e4,← eL_snoc];rfl,trivial⟩ rfl rfl rfl,by dsimp only;omega⟩
  have hz : ¬ l.to = n:=by simpa using h
  rw [if_neg hz] at hsn
  clear h
  conv=>whnf
  refine Fork.mk (fun h=>by cases h) (fun _=>?_)
  conv=>whnf
  refine ⟨c,l.to,rfl,by omega,?_⟩
  conv=>whnf
  refine Fork.mk (fun h=>?_) (fun h=>?_)
  · have h5 : 0≤snA c.si l.to:=by simpa using h
    clear h
    rw [if_pos h5] at hE
    conv=>whnf
    refine ⟨[.l 40 0],[40],⟨rfl,rfl,rfl,rfl⟩,?_⟩
    conv=>whnf
    refine ⟨rfl,rfl,?_⟩
    conv=>whnf
    have e3 : G ++ hitN n i (belP c x.nd) = G ++ hitN n i O:=by rw [hE,hsn]
    rw [hwi]
    exact ⟨i + 1,hi2,Shift.rename [(.l 40 3,.l 40 11)] ⟨rfl,rfl,rfl,rfl,rfl,trivial⟩ ⟨rfl,rfl,by dsimp only;rw [hg1,e3];rfl,by dsimp only;rw [hg1,e3];rfl,trivial⟩ rfl rfl rfl,by omega⟩
  have h5 : ¬ 0≤snA c.si l.to:=by simpa using h
  clear h
  rw [if_neg h5] at hE
  conv=>whnf
  refine ⟨c,l.to,rfl,by omega,?_⟩
  conv=>whnf
  have e4 : G ++ hitN n i (O ++ [l.to]) = G ++ hitN n i O:=by rw [hsn]
  exact ⟨(O ++ [l.to],l.to),⟨by dsimp only;rw [hE];simp,by dsimp only;omega,by dsimp only;rw [List.length_append];simp;omega⟩,Shift.rename [] ⟨rfl,rfl,rfl,trivial⟩ ⟨rfl,rfl,rfl,by dsimp only;rw [e4];rfl,rfl,by dsimp only;rw [e4];rfl,trivial⟩ rfl rfl rfl,by dsimp only;omega⟩
end Go.Proofs

namespace Go.Proofs
open Go Go.Abs
set_option linter.unusedSimpArgs false
set_option linter.unusedVariables false
set_option maxRecDepth 40000
def c0 : Cs:=⟨⟨3,[⟨0,1,[0,1],1⟩,⟨1,2,[0,0,1],1⟩]⟩,[]⟩
def s0 : Fl:=⟨0,[],[[],[]]⟩
set_option maxHeartbeats 4000000 in
theorem fo0 : foX c0 s0 [[],[],[],[]] [[5,0,0],[0,0,0],[0,0,0],[0,0,0]] = .ok [[5,0,0],[0,5,0],[0,0,0],[0,0,5]]:=by rfl
theorem c0_fin : c0.fin:=⟨⟨by decide,by decide⟩,by decide,by simp [c0]⟩
theorem s0_fin : s0.fin:=⟨by decide,by simp [s0],by simp [vfin,s0]⟩
theorem ab0 : abS c0 2 = ([],0):=by rfl
theorem bw0 : bwS c0 0 = ([],40):=by rfl
set_option maxHeartbeats 4000000 in
theorem sane_ok : FunR Tryz.prog 9 R_tt:=by
  intro args k h
  obtain ⟨rfl,hk⟩:=h
  refine does_ex (qc:=qc1) (np:=[(2,[(0,1),(0,3),(0,4),(0,5),(0,6),(0,7),(0,8),(1,3),(1,4),(1,5),(1,6),(1,7),(1,8),(3,4),(3,5),(3,6),(3,7),(3,8),(4,5),(4,6),(4,7),(5,6),(5,7),(6,7)])]) (CK:=ckK [(17,cPu R_fo),(23,cPu R_abv),(20,cPu R_bw)]) mixed Tryz.func9 rfl rfl Tryz.ntmps9 Tryz.results9 τ_ok (by kernel_rfl) (ckK_ok ⟨cPu_ok follow_ok rfl,cPu_ok abv_ok rfl,cPu_ok bel_ok rfl,trivial⟩) (by simp) ?_
  conv=>whnf
  repeat (refine ⟨Nat.le_of_ble_eq_true rfl,?_⟩;conv=>whnf)
  refine ⟨⟨rfl,by decide,by decide⟩,?_⟩
  conv=>whnf
  repeat (refine ⟨Nat.le_of_ble_eq_true rfl,?_⟩;conv=>whnf)
  refine ⟨c0,s0,[[],[],[],[]],[[5,0,0],[0,0,0],[0,0,0],[0,0,0]],rfl,c0_fin,s0_fin,by simp [vfin],by simp [vfin],?_⟩
  rw [fo0]
  conv=>whnf
  repeat (refine ⟨Nat.le_of_ble_eq_true rfl,?_⟩;conv=>whnf)
  refine ⟨c0,2,rfl,c0_fin,?_⟩
  rw [ab0]
  conv=>whnf
  repeat (refine ⟨Nat.le_of_ble_eq_true rfl,?_⟩;conv=>whnf)
  refine ⟨c0,0,rfl,c0_fin,?_⟩
  rw [bw0]
  conv=>whnf
  repeat (first | (refine Fork.mk (fun _=>?_) (fun h=>absurd h (by decide));conv=>whnf) | (refine ⟨by decide,_,rfl,rfl,?_⟩;conv=>whnf))
  exact hk
end Go.Proofs

/- Little water travels well, also if some flows leave sites. No program. -/
namespace Go.Proofs
open Go Go.Abs
set_option linter.unusedSimpArgs false
set_option linter.unusedVariables false
theorem bad_no {l : Ls} (h : ∀ x ∈ l,0≤x∧x≤1073741824) : l.any badX = false:=by
  cases e : l.any badX with
  | false=>rfl
  | true =>
    obtain ⟨x,hx,hx2⟩:=List.any_eq_true.1 e
    have:=h x hx
    simp [badX] at hx2
    omega
end Go.Proofs

/- What arrives in a step of a cascade is what is told for what left its sites. No program. -/
namespace Go.Proofs
open Go Go.Abs
set_option linter.unusedSimpArgs false
set_option linter.unusedVariables false
def addL : List Lk→Ls→Ls→Ls
  | l :: r,v :: t,a=>addL r t (a.set l.to.toNat (gA a l.to + v))
  | _,_,a=>a
theorem addL_cons (l : Lk) (r : List Lk) (v : Int) (t : Ls) (a : Ls) : addL (l :: r) (v :: t) a = addL r t (a.set l.to.toNat (gA a l.to + v)):=rfl
theorem addL_nil (t : Ls) (a : Ls) : addL [] t a = a:=by cases t <;> rfl
theorem inS_low {j : Int} : ∀ {ls : List Lk} {cm : Ls},(∀ l ∈ ls,j < l.to)→inS ls cm j = 0
  | [],cm,_=>by cases cm <;> rfl
  | l :: r,[],_=>rfl
  | l :: r,c :: t,h=>by
    have:=h l (by simp)
    rw [inS_cons,if_neg (by omega),inS_low fun x hx=>h x (by simp [hx])]
    rfl
theorem go_of {n : Int} {lv : Int→Option Int} {Qf : Int→Int} : ∀ {ls : List Lk} {ws ws' : List Ls} {cm a : Ls},(∀ l ∈ ls,LkOk n l)→ls.Pairwise (fun a b=>a.fr < b.fr)→(n = a.length)→ws.length = ls.length→ws'.length = ls.length→cm.length = ls.length →
    (∀ (i : Nat) l p,ls[i]? = some l→ws[i]? = some p→fitsB l.ws.length p = true)→(∀ (i : Nat) l q w v,ls[i]? = some l→ws[i]? = some q→ws'[i]? = some w→cm[i]? = some v→rkStep l.ws l.den q (Qf l.fr) = (w,v,0)) →
    (∀ l ∈ ls,(lv l.fr).getD (gA a l.fr + inS ls cm l.fr) = Qf l.fr)→cGo lv ls ws a = some (ws',addL ls cm a)
  | [],ws,ws',cm,a,_,_,_,_,h5,_,_,_,_=>by
    have : ws' = []:=List.eq_nil_of_length_eq_zero h5
    rw [cGo_nil,addL_nil,this]
  | l :: ls,[],_,_,_,_,_,_,h,_,_,_,_,_=>by simp at h
  | l :: ls,_ :: _,[],_,_,_,_,_,_,h,_,_,_,_=>by simp at h
  | l :: ls,_ :: _,_ :: _,[],_,_,_,_,_,_,h,_,_,_=>by simp at h
  | l :: ls,w :: ws,w' :: ws',v :: cm,a,h1,h2,h3,h4,h5,h6,h7,h8,h9=>by
    have hl:=h1 l (by simp)
    have ho:=hl.o
    have ht:=hl.t
    have hf0:=hl.f
    obtain ⟨p1,p2⟩:=List.pairwise_cons.1 h2
    have hfit:=h7 0 l w rfl rfl
    have hstep:=h8 0 l w w' v rfl rfl rfl rfl
    have hq:=h9 l (by simp)
    have h0 : inS (l :: ls) (v :: cm) l.fr = 0:=inS_low fun y hy=>by
      rcases List.mem_cons.1 hy with rfl | hy
      · exact ho
      · have:=p1 y hy;have:=(h1 y (by simp [hy])).o;omega
    rw [h0,Int.add_zero] at hq
    have hqq : qGo lv l a = Qf l.fr:=hq
    rw [step_eq hl.r hfit] at hstep
    by_cases hg : (inQ (Qf l.fr) && stepB l.ws w (Qf l.fr)) = true
    · rw [if_pos hg] at hstep
      simp only [Prod.mk.injEq] at hstep
      obtain ⟨e1,e2,_⟩:=hstep
      rw [cGo_cons,hqq,if_pos (show stG l w (Qf l.fr) = true from hg),e1,e2,addL_cons]
      rw [go_of (fun y hy=>h1 y (by simp [hy])) p2 (by rw [List.length_set];exact h3) (by simpa using h4) (by simpa using h5) (by simpa using h6) (fun i y p e1 e2=>h7 (i + 1) y p (by simpa using e1) (by simpa using e2)) (fun i y q u z e1 e2 e3 e4=>h8 (i + 1) y q u z (by simpa using e1) (by simpa using e2) (by simpa using e3) (by simpa using e4)) (fun y hy=>?_)]
      · rfl
      · have hy0:=(h1 y (by simp [hy])).f
        have hc:=h9 y (by simp [hy])
        rw [inS_cons] at hc
        rw [gA_set (by omega) (by omega) hy0]
        by_cases e : y.fr = l.to
        · rw [if_pos e]
          rw [if_pos e.symm] at hc
          rw [← e]
          rw [← hc]
          congr 1
          omega
        · rw [if_neg e]
          rw [if_neg (Ne.symm e)] at hc
          rw [← hc]
          congr 1
          omega
    · rw [if_neg hg] at hstep
      simp at hstep
theorem gA_map {l : List Rc} {j : Nat} {r : Rc} (h : l[j]? = some r) : (l.map floR)[j]? = some (floR r):=by rw [List.getElem?_map,h];rfl
/-- What arrives in a step. -/
theorem stepC_go {c : Cs} {s : Fl} {p : Su} {s' : Fl} {x : Pd} (h : stepC c s p s' x) : cGo (lvF c.si (x.re.map floR)) c.rv.ls s.ws p.inf = some (s'.ws,addL c.rv.ls x.came p.inf):=by
  have hr:=h.va.k.r
  have hwl:=h.va.w.l
  refine go_of (Qf:=gA x.left) hr.l hr.p h.n1.symm hwl h.lw h.lc h.va.w.f (fun i l q w v e1 e2 e3 e4=>?_) (fun l hl=>?_)
  · obtain ⟨w2,v2,f1,f2,f3⟩:=h.lk i l q e1 e2
    rw [f1] at e3
    rw [f2] at e4
    cases e3;cases e4
    exact f3
  · have hk:=hr.l l hl
    have:=hk.f
    have:=hk.o
    have:=hk.t
    rcases snA_is c.si l.fr with ⟨e1,e2⟩ | ⟨j,y,e1,e2,e3⟩
    · rw [lvF,if_neg (by omega),Option.getD_none]
      exact (h.no l.fr (by omega) (by omega) e2).symm
    · have hj:=(List.getElem?_eq_some_iff.1 e1).1
      have hd:=h.va.n
      obtain ⟨z',r,g1,g2,_,g4⟩:=h.st j y _ e1 (List.getElem?_eq_getElem (show j < s.ds.length by omega))
      rw [lvF,e3,if_pos (by omega),Int.toNat_natCast,gA_map g2,Option.getD_some,← g4,e2]
end Go.Proofs

/- Little water stays little, also if dams let some of theirs go. No program. -/
namespace Go.Proofs
open Go Go.Abs
set_option linter.unusedSimpArgs false
set_option linter.unusedVariables false
theorem cGo_low {lv : Int→Option Int} {j : Int} (hj : 0≤j) : ∀ {ls : List Lk} {ws : List Ls} {a : Ls} {wf : List Ls} {xf : Ls},(∀ l ∈ ls,j < l.to∧l.to < a.length)→cGo lv ls ws a = some (wf,xf)→gA xf j = gA a j
  | [],ws,a,wf,xf,_,h=>by
    rw [cGo_nil] at h
    cases h
    rfl
  | l :: ls,[],a,wf,xf,_,h=>by
    cases h
    rfl
  | l :: ls,w :: ws,a,wf,xf,hl,h=>by
    rw [cGo_cons] at h
    split at h
    · obtain ⟨h1,h2⟩:=hl l (by simp)
      cases hc : cGo lv ls ws (a.set l.to.toNat (gA a l.to + outF l.ws l.den w (qGo lv l a))) with
      | none=>rw [hc] at h;cases h
      | some y =>
        rw [hc] at h
        obtain ⟨y1,y2⟩:=y
        simp at h
        have:=cGo_low hj (fun x hx=>by rw [List.length_set];exact hl x (by simp [hx])) hc
        rw [← h.2,this,gA_set (by omega) (by omega) hj,if_neg (by omega)]
    · cases h
theorem cGo_keep {lv : Int→Option Int} {B : Int} (hB : 0≤B) {xf : Ls} {K : Int} (hK : K≤1000000000) : ∀ {ls : List Lk} {ws : List Ls} {a v : Ls} {n : Int} (k : Nat),(∀ l ∈ ls,LkOk n l∧(k : Int)≤l.fr)→ls.Pairwise (fun a b=>a.fr < b.fr)→(n = a.length)→ws.length = ls.length →
    (∀ (i : Nat) l p,ls[i]? = some l→ws[i]? = some p→fitsB l.ws.length p = true)→volOk ls ws v→(∀ l ∈ ls,∀ q,lv l.fr = some q→0≤q∧q≤gA xf l.fr + B)→(∃ wf,cGo lv ls ws a = some (wf,xf))→(∀ x ∈ a,0≤x)→tailS a k + v.sum + B * ls.length≤K →
    ∃ x v',cGo lv ls ws a = some x∧volOk ls x.1 v'∧(∀ y ∈ x.2,0≤y)∧v'.sum≤K∧(∀ j,k≤j→gN x.2 j≤K)∧(∀ j,j < k→gN x.2 j = gN a j)
  | [],ws,a,v,n,k,_,_,_,_,_,hv,_,_,hnn,hs=>by
    rw [List.length_nil] at hs
    have hvn : v = []:=List.eq_nil_of_length_eq_zero hv.l
    subst hvn
    refine ⟨([],a),[],by cases ws <;> rfl,⟨rfl,fun i l p x h=>by simp at h⟩,hnn,?_,fun j hj=>?_,fun _ _=>rfl⟩
    · have:=nn_tail hnn k;simp at hs ⊢;omega
    · have:=le_tail hnn hj;simp at hs;dsimp only;omega
  | l :: ls,[],a,v,n,k,_,_,_,hl,_,_,_,_,_,_=>by simp at hl
  | l :: ls,w :: ws,a,[],n,k,_,_,_,_,_,hv,_,_,_,_=>by have:=hv.l;simp at this
  | l :: ls,w :: ws,a,x :: v,n,k,hl,hp,hn,hwl,hf,hv,hlv,hX,hnn,hs=>by
    obtain ⟨hlo,hkf⟩:=hl l (by simp)
    have hfit:=hf 0 l w rfl rfl
    obtain ⟨hx0,hxs⟩:=hv.b 0 l w x rfl rfl rfl
    obtain ⟨f,hfr⟩ : ∃ f : Nat,l.fr = f:=⟨l.fr.toNat,by have:=hlo.f;omega⟩
    obtain ⟨t,hto⟩ : ∃ t : Nat,l.to = t:=⟨l.to.toNat,by have:=hlo.f;have:=hlo.o;omega⟩
    have ho:=hlo.o
    have ht:=hlo.t
    have hft : f < t:=by omega
    have hta : t < a.length:=by omega
    have hkf' : k≤f:=by omega
    have hgq : gA a l.fr = gN a f:=by rw [hfr,gA_nat]
    have hgt : gA a l.to = gN a t:=by rw [hto,gA_nat]
    have hA0:=gN_nn hnn f
    obtain ⟨Q,hQ⟩ : ∃ Q,qGo lv l a = Q:=⟨_,rfl⟩
    have hQb : 0≤Q∧Q≤gN a f + B:=by
      rw [← hQ]
      unfold qGo
      cases e : lv l.fr with
      | none=>rw [Option.getD_none,hgq];omega
      | some q =>
        have h1:=hlv l (by simp) q e
        obtain ⟨wf,hwf⟩:=hX
        have h2:=cGo_low (j:=l.fr) hlo.f (fun y hy=>by
          rcases List.mem_cons.1 hy with rfl | hy
          · exact ⟨ho,by omega⟩
          · have h3:=(List.pairwise_cons.1 hp).1 y hy
            have h4:=(hl y (by simp [hy])).1
            have h5:=h4.o
            have h6:=h4.t
            exact ⟨by omega,by omega⟩) hwf
        rw [Option.getD_some]
        rw [h2,hgq] at h1
        exact h1
    have hq0:=hQb.1
    have hBl : B * (((l :: ls).length : Nat) : Int) = B * ls.length + B:=by rw [List.length_cons,Int.natCast_add,Int.mul_add];simp
    have hBn : 0≤B * (ls.length : Int):=Int.mul_nonneg hB (by omega)
    rw [hBl] at hs
    have hvn : 0≤v.sum:=(sum_nn fun y hy=>by
      obtain ⟨i,hi⟩:=List.getElem?_of_mem hy
      have h1:=(List.getElem?_eq_some_iff.1 hi).1
      have hvl:=hv.l
      simp at hvl hwl
      have c1:=List.getElem?_eq_getElem (show i < ls.length by omega)
      have c2:=List.getElem?_eq_getElem (show i < ws.length by omega)
      exact (hv.b (i + 1) _ _ y (by rw [List.getElem?_cons_succ];exact c1) (by rw [List.getElem?_cons_succ];exact c2) (by rw [List.getElem?_cons_succ];exact hi)).1).1
    have htk:=tail_mono hnn hkf'
    have htf:=tail_cons (gN_get (show f < a.length by omega))
    have htf1:=nn_tail hnn (f + 1)
    rw [List.sum_cons] at hs
    obtain ⟨a1,a2,a3,a4,a5,a6,_⟩:=rk_facts hlo.r
    -- the step goes well
    have hdq : l.den * (x + Q)≤240000 * 1000000000:=Int.mul_le_mul a5 (by omega) (by omega) (by omega)
    rw [Int.mul_add] at hdq
    have hqd : Q * l.den = l.den * Q:=Int.mul_comm _ _
    have hok:=(step_ok_of hlo.r hfit hq0 (by omega) (by omega)).1
    have hst : stG l w (Q) = true:=by
      simp only [stG,inQ,Bool.and_eq_true,decide_eq_true_eq]
      exact ⟨⟨hq0,by omega⟩,stepB_iff.2 hok⟩
    have hsum:=step_sum (q:=Q) hlo.r hfit
    have hfit2:=step_fits hlo.r hfit hq0 (by omega) hok
    have hs0:=fits_sum hfit2
    have hout:=out_in hlo.r hfit hst
    rw [cGo_cons,hQ,hgt,if_pos hst]
    have hXe : cGo lv (l :: ls) (w :: ws) a = (cGo lv ls ws (a.set t (gN a t + outF l.ws l.den w Q))).map fun x=>(stepF l.ws l.den w Q :: x.1,x.2):=by rw [cGo_cons,hQ,hgt,if_pos hst,show l.to.toNat = t by omega]
    generalize outF l.ws l.den w (Q) = o at *
    generalize stepF l.ws l.den w (Q) = w' at *
    -- the link's new bound
    have hxn : 0≤x + Q - o:=by
      rcases Int.lt_or_le (x + Q - o) 0 with h | h
      · have h1 : l.den * (x + Q - o)≤l.den * (-1):=Int.mul_le_mul_of_nonneg_left (by omega) (by omega)
        rw [Int.mul_sub,Int.mul_add] at h1
        omega
      · exact h
    have hnn2 : ∀ y ∈ a.set t (gN a t + o),0≤y:=fun y hy=>by
      rcases List.mem_or_eq_of_mem_set hy with hy | rfl
      · exact hnn y hy
      · have:=gN_nn hnn t;omega
    have hts:=tail_set (v:=o) hta (f + 1)
    rw [if_pos (by omega)] at hts
    have hvl:=hv.l
    simp at hvl hwl
    have hl' : ∀ y ∈ ls,LkOk n y∧((f + 1 : Nat) : Int)≤y.fr:=fun y hy=>⟨(hl y (by simp [hy])).1,by have:=(List.pairwise_cons.1 hp).1 y hy;omega⟩
    have hv' : volOk ls ws v:=⟨hvl,fun i l p y e1 e2 e3=>hv.b (i + 1) l p y (by simpa using e1) (by simpa using e2) (by simpa using e3)⟩
    have hX2 : ∃ wf,cGo lv ls ws (a.set t (gN a t + o)) = some (wf,xf):=by
      obtain ⟨wf,hwf⟩:=hX
      cases hc : cGo lv ls ws (a.set t (gN a t + o)) with
      | none=>exact absurd (hwf.symm.trans (hXe.trans (by rw [hc]))) (by simp)
      | some y =>
        have:=hwf.symm.trans (hXe.trans (by rw [hc]))
        simp at this
        exact ⟨y.1,by rw [this.2]⟩
    obtain ⟨z,v',z1,z2,z3,z4,z5,z6⟩:=cGo_keep hB (xf:=xf) (K:=K - (x + Q - o)) (by omega) (a:=a.set t (gN a t + o)) (v:=v) (f + 1) hl' (List.pairwise_cons.1 hp).2 (by rw [List.length_set];exact hn) hwl (fun i l p e1 e2=>hf (i + 1) l p (by simpa using e1) (by simpa using e2)) hv' (fun y hy=>hlv y (by simp [hy])) hX2 hnn2 (by omega)
    rw [show l.to.toNat = t by omega,z1]
    refine ⟨(w' :: z.1,z.2),(x + Q - o) :: v',rfl,⟨by simp [z2.l],fun i b p y e1 e2 e3=>?_⟩,z3,by rw [List.sum_cons];omega,fun j hj=>?_,fun j hj=>?_⟩
    · cases i with
      | zero =>
        simp at e1 e2 e3
        subst e1;subst e2;subst e3
        refine ⟨hxn,?_⟩
        rw [Int.mul_sub,Int.mul_add]
        omega
      | succ i=>exact z2.b i b p y (by simpa using e1) (by simpa using e2) (by simpa using e3)
    · by_cases e : f + 1≤j
      · have:=z5 j e;dsimp only;omega
      · dsimp only
        rw [z6 j (by omega),gN_set hta,if_neg (by omega)]
        have:=le_tail hnn hj
        omega
    · dsimp only
      rw [z6 j (by omega),gN_set hta,if_neg (by omega)]
end Go.Proofs
