/- Proved here: what functions of the given program come to, and the plain laws of it; no condition but those in the theorems. -/
import Derived.Test.YtgllikepncnpkaaGreatA34w
import Derived.Test.YtgllikepncnpkaaGreatAbsQ
namespace Go.Proofs
open Go Go.Abs
set_option linter.unusedSimpArgs false
set_option linter.unusedVariables false
set_option maxRecDepth 40000
abbrev bO (c:Cs) (i:Nat):List MObj:=[.blk (csC c),.blk [IC i]]
def R_belw:RG:=fun args os k=>∃ (c:Cs) (i:Nat),args=[.agg (csC c),I i]∧os=[]∧k (.c (.fn 76 [.ptr (.x 0) 0,.ptr (.x 1) 0])) (bO c i)
theorem belw_ok:FunH Tryz.prog 47 R_belw:=by
  intro args os k h
  obtain ⟨c,i,rfl,rfl,hk⟩:=h
  refine doesH_ex (qc:=qc1) (np:=[]) (CK:=ckK []) mixed Tryz.func47 rfl rfl Tryz.ntmps47 Tryz.results47 τ_ok (by kernel_rfl) (ckK_ok trivial) (by simp) ?_
  conv=>whnf
  exact ⟨.l 2 0,.l 3 1,rfl,rfl,rfl,rfl,rfl,hk⟩
noncomputable def genBel:Gen Tryz.prog:=⟨76,Tryz.f76,bodyF Tryz.f76,_,[],qc1,ckK [(77,cSc R_lkF),(71,cSc R_siA)],Tryz.func76,rfl,rfl,Tryz.ntmps76,Tryz.results76,by kernel_rfl,ckK_ok ⟨cSc_ok lkF_ok,cSc_ok siA_ok,trivial⟩⟩
def R_apS:RG:=fun args os k=>∃ (c:Cs) (i:Nat),args=[.c (.sc (.slice none 0 0)),.c (.fn 76 [.ptr (.x 0) 0,.ptr (.x 1) 0])]∧os=bO c i∧CsOk c∧i < c.si.length∧k (.c (.lst (eL (belF c i)))) (bO c i)
theorem apS_ok:FunG Tryz.prog 75 R_apS:=by
  intro args os k h
  obtain ⟨c,i,rfl,rfl,hc,hi,hk⟩:=h
  have hr:=hc.r
  have hrn:=hr.n
  have hrl:=hr.len
  have hcm:=hc.m
  have hmx:=eX_len c.si
  have hmk:=eK_len c.rv.ls
  obtain ⟨x,hx⟩:∃ x,c.si[i]?=some x:=⟨_,List.getElem?_eq_getElem hi⟩
  have hxn:=(hc.s x (List.mem_of_getElem? hx)).1
  have hB:belF c i=belP c x.nd:=by unfold belF;rw [hx]
  rw [hB] at hk
  have hCK:∀ f args d m k,ckK [] f args d m k→callK Tryz.prog qc1 f args d m k:=ckK_ok trivial
  refine ⟨_,_,doesTG_of (qc:=qc1) (np:=[]) (CK:=ckK []) (RC:=rcN τ [] (ckK []) qc1 13 genBel) mixed Tryz.func75 rfl rfl Tryz.ntmps75 Tryz.results75 τ_ok (by kernel_rfl) hCK (rcN_ok τ_ok hCK mixed genBel) (by simp) ⟨rfl,rfl,rfl,rfl,rfl⟩ ?_,hk⟩
  conv=>whnf
  refine ⟨⟨⟨rfl,rfl⟩,⟨rfl,rfl⟩,rfl⟩,?_⟩
  conv=>whnf
  refine ⟨_,rfl,Nat.le_of_ble_eq_true rfl,[.x 0,.x 1,.l 2 0],[],rfl,rfl,?_⟩
  conv=>whnf
  refine ⟨rfl,rfl,fun L=>?_⟩
  conv=>whnf
  refine ⟨by omega,siC x,by rw [Int.toNat_natCast,List.getElem?_map,hx];rfl,rfl,?_⟩
  conv=>whnf
  refine ⟨c,x.nd,rfl,by omega,?_⟩
  conv=>whnf
  refine ⟨Ls × Int,fun y=>([(0,yV L),(1,.c (.ptr (.x 0) 0)),(4,I (lnk c.rv.ls y.2))],⟨[(.x 0,.blk (csC c)),(.x 1,.blk [IC i]),(.x 2,.blk [.view (.l 11 0) 0 y.1.length]),(.l 11 0,.arr 3 1 (eL y.1) false)],20,[]⟩),
    fun y=>belP c x.nd=y.1 ++ belP c y.2∧(0≤y.2∧y.2 < c.rv.n)∧(y.1.length:Int)≤y.2,fun y=>(c.rv.n - y.2).toNat,([],x.nd),⟨rfl,hxn,hxn.1⟩,
    Shift.trans (Shift.rename [] ⟨rfl,rfl,rfl,trivial⟩ ⟨rfl,rfl,rfl,rfl,trivial⟩ rfl rfl rfl) (Shift.nilCell (i:=.x 2) (cs:=[.sc (.slice none 0 0)]) (j:=0) rfl rfl 11 3 1),fun y hy=>?_⟩
  obtain ⟨O,q⟩:=y
  obtain ⟨hE,hq,hO⟩:=hy
  dsimp only at hE hq hO ⊢
  have hmO:=eL_len O
  conv=>whnf
  refine Fork.mk (fun h=>?_) (fun h=>?_)
  rotate_left
  · have hlt:lnk c.rv.ls q < 0:=by simp at h;omega
    clear h
    rw [belP_end hlt,List.append_nil] at hE
    conv=>whnf
    refine ⟨[.l 11 0],[11],⟨rfl,rfl,rfl,rfl⟩,?_⟩
    conv=>whnf
    refine ⟨rfl,rfl,?_⟩
    conv=>whnf
    refine ⟨by omega,?_⟩
    have he:(((eL O).drop 0).take O.length)=eL (belP c x.nd):=by rw [List.drop_zero,List.take_of_length_le (by rw [eL_len];exact Nat.le_refl _),hE]
    simp only [Nat.zero_add,he]
    conv=>whnf
    exact ⟨rfl,rfl⟩
  have hge:0≤lnk c.rv.ls q:=by simpa using h
  clear h
  obtain ⟨J,l,hJ1,hJ2,hJ3⟩:∃ (j:Nat) (a:Lk),c.rv.ls[j]?=some a∧a.fr=q∧lnk c.rv.ls q=j:=by
    rcases lnk_spec c.rv.ls q with ⟨h,_⟩ | h
    · omega
    · exact h
  have hJl:=(List.getElem?_eq_some_iff.1 hJ1).1
  have hk:=hr.l l (List.mem_of_getElem? hJ1)
  have hk1:=hk.o
  have hk2:=hk.t
  have hS:=belP_step hr hq.1 hJ3 hJ1 hJ2
  rw [hS] at hE
  rw [hJ3]
  conv=>whnf
  refine ⟨by omega,lkC l,by rw [Int.toNat_natCast,List.getElem?_map,hJ1];rfl,rfl,?_⟩
  conv=>whnf
  refine ⟨rfl,?_⟩
  conv=>whnf
  refine ⟨rfl,?_⟩
  conv=>whnf
  refine ⟨by simp,?_⟩
  conv=>whnf
  refine ⟨rfl,?_⟩
  conv=>whnf
  refine ⟨⟨rfl,rfl,rfl,hmO.symm,by rw [hmO];simp;omega⟩,?_⟩
  conv=>whnf
  refine Fork.mk (fun h=>by cases h) (fun _=>?_)
  conv=>whnf
  refine ⟨c,l.to,rfl,by omega,?_⟩
  conv=>whnf
  refine Fork.mk (fun h=>?_) (fun h=>?_)
  · have h5:0≤snA c.si l.to:=by simpa using h
    clear h
    rw [if_pos h5] at hE
    conv=>whnf
    refine ⟨[.l 11 21],[11],⟨rfl,rfl,rfl,rfl⟩,?_⟩
    conv=>whnf
    refine ⟨rfl,rfl,?_⟩
    conv=>whnf
    refine ⟨by simp,?_⟩
    have he:(List.take ((eL O).length+(List.take 1 (List.drop 0 [[nrm (Value.int IntKind.i64 l.to)]])).length) (List.drop 0 (eL O ++ List.take 1 (List.drop 0 [[nrm (Value.int IntKind.i64 l.to)]]))))=eL (belP c x.nd):=by
      rw [List.take_of_length_le (by simp),hE,← eL_snoc];rfl
    simp only [Nat.zero_add,he]
    conv=>whnf
    exact ⟨rfl,rfl⟩
  have h5:¬ 0≤snA c.si l.to:=by simpa using h
  clear h
  rw [if_neg h5] at hE
  conv=>whnf
  refine ⟨c,l.to,rfl,by omega,?_⟩
  conv=>whnf
  refine ⟨(O ++ [l.to],l.to),⟨by dsimp only;rw [hE];simp,by dsimp only;omega,by dsimp only;rw [List.length_append];simp;omega⟩,Shift.rename [(.l 11 0,.l 11 21)] ⟨rfl,rfl,rfl,trivial⟩ ⟨rfl,rfl,?_,?_,trivial⟩ rfl rfl rfl,by dsimp only;omega⟩
  · dsimp only;rw [show (O ++ [l.to]).length=(eL O).length+1 by rw [hmO];simp];rfl
  · dsimp only;rw [← eL_snoc];rfl
end Go.Proofs

namespace Go.Proofs
open Go Go.Abs
set_option linter.unusedSimpArgs false
set_option linter.unusedVariables false
set_option maxRecDepth 40000
def R_coll:RG:=fun args os k=>∃ (c:Cs) (i:Nat),args=[.c (.fn 76 [.ptr (.x 0) 0,.ptr (.x 1) 0])]∧os=bO c i∧CsOk c∧i < c.si.length∧k (.c (.lst (eL (belF c i)))) (bO c i)
theorem coll_ok:FunG Tryz.prog 46 R_coll:=by
  intro args os k h
  obtain ⟨c,i,rfl,rfl,hc,hi,hk⟩:=h
  refine doesG_ex (qc:=qc1) (np:=[]) (CK:=ckK [(75,cG R_apS)]) mixed Tryz.func46 rfl rfl Tryz.ntmps46 Tryz.results46 τ_ok (by kernel_rfl) (ckK_ok ⟨cG_ok apS_ok rfl,trivial⟩) (by simp) rfl rfl ?_
  conv=>whnf
  refine ⟨[.x 0,.x 1],rfl,rfl,?_⟩
  conv=>whnf
  refine ⟨rfl,?_⟩
  conv=>whnf
  refine ⟨c,i,rfl,rfl,hc,hi,?_⟩
  conv=>whnf
  refine ⟨rfl,?_⟩
  conv=>whnf
  exact ⟨rfl,hk⟩
theorem bel_ok:FunR Tryz.prog 20 R_bw:=by
  intro args k h
  obtain ⟨c,i,rfl,hc,hk⟩:=h
  have hmx:=eX_len c.si
  refine does_ex (qc:=qc1) (np:=[]) (CK:=ckK [(45,cSc (R_csI csE)),(47,cH R_belw),(46,cG R_coll)]) mixed Tryz.func20 rfl rfl Tryz.ntmps20 Tryz.results20 τ_ok (by kernel_rfl) (ckK_ok ⟨cSc_ok csE_ok',cH_ok belw_ok rfl,cG_ok coll_ok rfl,trivial⟩) (by simp) ?_
  conv=>whnf
  refine ⟨c,rfl,hc,?_⟩
  conv=>whnf
  refine Fork.mk (fun h=>?_) (fun h=>?_)
  · have h1:csE c ≠ 0:=by simpa using h
    conv=>whnf
    exact kPth (y:=([],csE c)) hk (by rw [bwS,if_pos h1])
  have h1:csE c=0:=by simpa using h
  have hok:=csE_ok h1
  have hr:=hok.r
  have hcm:=hok.m
  have hrn:=hr.n
  clear h
  conv=>whnf
  refine Fork.mk (fun h=>?_) (fun h=>?_)
  · have h2:i < 0:=by simpa using h
    conv=>whnf
    repeat' ((first | refine fork_t ?_ | refine fork_f ?_ | (refine Fork.mk (fun h=>?_) (fun h=>?_);focus (simp at h;done)) | fail) <;> (conv=>whnf))
    exact kPth (y:=([],40)) hk (by rw [bwS,if_neg (by simp [h1]),if_pos h2])
  have h2:¬ i < 0:=by simpa using h
  clear h
  conv=>whnf
  refine Fork.mk (fun h=>?_) (fun h=>?_)
  · have h3:(c.si.length:Int)≤i:=by simp at h;omega
    conv=>whnf
    exact kPth (y:=([],40)) hk (by rw [bwS,if_neg (by simp [h1]),if_neg h2,if_pos h3])
  have h3:¬ (c.si.length:Int)≤i:=by simp at h;omega
  clear h
  obtain ⟨I0,rfl⟩:=Int.eq_ofNat_of_zero_le (show 0≤i by omega)
  have e0:bwS c I0=(belF c I0,0):=by
    rw [bwS,if_neg (by simp [h1]),if_neg h2,if_neg h3,Int.toNat_natCast]
  rw [e0] at hk
  conv=>whnf
  refine ⟨[],rfl,?_⟩
  conv=>whnf
  refine ⟨rfl,?_⟩
  conv=>whnf
  refine ⟨rfl,?_⟩
  conv=>whnf
  refine ⟨c,I0,rfl,rfl,?_⟩
  conv=>whnf
  refine ⟨[.l 23 1,.l 2071 1],rfl,?_⟩
  conv=>whnf
  refine ⟨rfl,?_⟩
  conv=>whnf
  refine ⟨rfl,?_⟩
  conv=>whnf
  refine ⟨c,I0,rfl,rfl,hok,by omega,?_⟩
  conv=>whnf
  exact hk
end Go.Proofs

namespace Go.Proofs
open Go Go.Abs
set_option linter.unusedSimpArgs false
set_option linter.unusedVariables false
set_option maxRecDepth 40000
set_option maxHeartbeats 4000000 in
theorem abv_ok:FunR Tryz.prog 23 R_abv:=by
  intro args k h
  obtain ⟨c,n,rfl,hc,hk⟩:=h
  have hmx:=eX_len c.si
  have hCK:∀ f args d m k,ckK [(45,cSc (R_csI csE)),(47,cH R_belw)] f args d m k→callK Tryz.prog qc1 f args d m k:=ckK_ok ⟨cSc_ok csE_ok',cH_ok belw_ok rfl,trivial⟩
  refine ⟨_,doesT_of (qc:=qc1) (np:=[]) (CK:=ckK [(45,cSc (R_csI csE)),(47,cH R_belw)]) (RC:=rcN τ [] (ckK [(45,cSc (R_csI csE)),(47,cH R_belw)]) qc1 43 genBel) mixed Tryz.func23 rfl rfl Tryz.ntmps23 Tryz.results23 τ_ok (by kernel_rfl) hCK (rcN_ok τ_ok hCK mixed genBel) (by simp) ?_,hk⟩
  conv=>whnf
  refine ⟨c,rfl,hc,?_⟩
  conv=>whnf
  have hA:∀ y,abS c n=y→AV.tup [.c (.lst (eL (abS c n).1)),I (abS c n).2]=AV.tup [.c (.lst (eL y.1)),I y.2]:=by rintro _ rfl;rfl
  refine Fork.mk (fun h=>?_) (fun h=>?_)
  · have h1:csE c ≠ 0:=by simpa using h
    conv=>whnf
    exact hA ([],csE c) (by rw [abS,if_pos h1])
  have h1:csE c=0:=by simpa using h
  have hok:=csE_ok h1
  have hcm:=hok.m
  clear h
  conv=>whnf
  refine Fork.mk (fun h=>?_) (fun h=>?_)
  · have h2:n < 0:=by simpa using h
    conv=>whnf
    repeat' ((first | refine fork_t ?_ | refine fork_f ?_ | (refine Fork.mk (fun h=>?_) (fun h=>?_);focus (simp at h;done)) | fail) <;> (conv=>whnf))
    exact hA ([],41) (by rw [abS,if_neg (by simp [h1]),if_pos h2])
  have h2:¬ n < 0:=by simpa using h
  clear h
  conv=>whnf
  refine Fork.mk (fun h=>?_) (fun h=>?_)
  · have h3:c.rv.n≤n:=by simpa using h
    conv=>whnf
    exact hA ([],41) (by rw [abS,if_neg (by simp [h1]),if_neg h2,if_pos h3])
  have h3:¬ c.rv.n≤n:=by simpa using h
  clear h
  have e0:abS c n=(abG c n c.si.length,0):=by rw [abS,if_neg (by simp [h1]),if_neg h2,if_neg h3]
  have hA:=hA _ e0
  conv=>whnf
  refine ⟨Nat,fun i=>([(2,.c (.ptr (.l 2 0) 0)),(3,.c (.ptr (.l 3 1) 0)),(7,.c (.ptr (.l 7 2) 0)),(26,I (eX c.si).length),(27,I i)],⟨[(.l 2 0,.blk (csC c)),(.l 3 1,.blk [IC n]),(.l 7 2,.blk [.view (.l 40 3) 0 (abG c n i).length]),(.l 40 3,.arr 3 1 (eL (abG c n i)) false)],9,[]⟩),
    fun i=>i≤c.si.length,fun i=>c.si.length - i,0,Nat.zero_le _,Shift.trans (Shift.rename [] ⟨rfl,rfl,rfl,rfl,rfl,trivial⟩ ⟨rfl,rfl,rfl,rfl,trivial⟩ rfl rfl rfl) (Shift.nilCell (i:=.l 7 2) (cs:=[.sc (.slice none 0 0)]) (j:=0) rfl rfl 40 3 1),fun i hi=>?_⟩
  dsimp only
  have hml:=eL_len (abG c n i)
  conv=>whnf
  refine Fork.mk (fun h=>?_) (fun h=>?_)
  rotate_left
  · have hie:i=c.si.length:=by simp at h;omega
    subst hie
    have t1:List.take (abG c n c.si.length).length (List.drop 0 (eL (abG c n c.si.length)))=eL (abG c n c.si.length):=by rw [List.drop_zero,List.take_of_length_le (by omega)]
    conv=>whnf
    refine ⟨by omega,?_⟩
    simp only [t1]
    conv=>whnf
    exact hA
  have hi2:i < c.si.length:=by simp at h;omega
  clear h
  have hwi:=wr_succ (i:=i) (by omega)
  have hbl:=belF_len hok i
  have hgl:=abG_len hok n i
  have hg1:abG c n (i+1)=abG c n i ++ hitN n i (belF c i):=rfl
  conv=>whnf
  refine ⟨[],rfl,?_⟩
  conv=>whnf
  refine ⟨rfl,?_⟩
  conv=>whnf
  refine ⟨rfl,?_⟩
  conv=>whnf
  refine ⟨c,i,rfl,rfl,?_⟩
  conv=>whnf
  refine ⟨⟨⟨rfl,rfl⟩,⟨rfl,rfl⟩,rfl⟩,?_⟩
  conv=>whnf
  refine ⟨_,rfl,Nat.le_of_ble_eq_true rfl,[.l 32 10,.l 2080 10,.l 3 1,.l 7 2,.l 8 9],[.l 40 3],rfl,rfl,?_⟩
  conv=>whnf
  refine ⟨rfl,rfl,fun L=>?_⟩
  conv=>whnf
  obtain ⟨x,hx⟩:∃ x,c.si[i]?=some x:=⟨_,List.getElem?_eq_getElem hi2⟩
  have hr:=hok.r
  have hrn:=hr.n
  have hrl:=hr.len
  have hmk:=eK_len c.rv.ls
  have hxn:=(hok.s x (List.mem_of_getElem? hx)).1
  have hB:belF c i=belP c x.nd:=by unfold belF;rw [hx]
  rw [hB] at hg1 hbl
  refine ⟨by omega,siC x,by rw [Int.toNat_natCast,List.getElem?_map,hx];rfl,rfl,?_⟩
  conv=>whnf
  refine ⟨c,x.nd,rfl,by omega,?_⟩
  conv=>whnf
  generalize hG:abG c n i=G at hml hgl hg1
  refine ⟨Ls × Int,fun y=>([(0,yV L),(1,.c (.ptr (.x 0) 0)),(4,I (lnk c.rv.ls y.2))],⟨[(.x 0,.blk (csC c)),(.x 1,.blk [IC i]),(.x 2,.blk [IC n]),(.x 3,.blk [.view (.l 40 0) 0 (G ++ hitN n i y.1).length]),(.x 4,.blk [IC i]),(.l 40 0,.arr 3 1 (eL (G ++ hitN n i y.1)) false)],20,[]⟩),
    fun y=>belP c x.nd=y.1 ++ belP c y.2∧(0≤y.2∧y.2 < c.rv.n)∧(y.1.length:Int)≤y.2,fun y=>(c.rv.n - y.2).toNat,([],x.nd),⟨rfl,hxn,hxn.1⟩,
    ?_,fun y hy=>?_⟩
  · dsimp only
    rw [show G ++ hitN n i []=G by simp [hitN]]
    exact Shift.rename [(.l 40 0,.x 5)] ⟨rfl,rfl,rfl,trivial⟩ ⟨rfl,rfl,rfl,rfl,rfl,rfl,trivial⟩ rfl rfl rfl
  obtain ⟨O,q⟩:=y
  obtain ⟨hE,hq,hO⟩:=hy
  dsimp only at hE hq hO ⊢
  have hmO:=eL_len (G ++ hitN n i O)
  have hol:=hitN_len n i O
  have hjs:(G ++ hitN n i O).length≤1000:=by rw [List.length_append];omega
  conv=>whnf
  refine Fork.mk (fun h=>?_) (fun h=>?_)
  rotate_left
  · have hlt:lnk c.rv.ls q < 0:=by simp at h;omega
    clear h
    rw [belP_end hlt,List.append_nil] at hE
    conv=>whnf
    refine ⟨[.l 40 0],[40],⟨rfl,rfl,rfl,rfl⟩,?_⟩
    conv=>whnf
    refine ⟨rfl,rfl,?_⟩
    conv=>whnf
    rw [hwi]
    rw [hE] at hg1
    exact ⟨i+1,hi2,Shift.rename [(.l 40 3,.l 40 11)] ⟨rfl,rfl,rfl,rfl,rfl,trivial⟩ ⟨rfl,rfl,by dsimp only;rw [hg1];rfl,by dsimp only;rw [hg1];rfl,trivial⟩ rfl rfl rfl,by omega⟩
  have hge:0≤lnk c.rv.ls q:=by simpa using h
  clear h
  obtain ⟨J,l,hJ1,hJ2,hJ3⟩:∃ (j:Nat) (a:Lk),c.rv.ls[j]?=some a∧a.fr=q∧lnk c.rv.ls q=j:=by
    rcases lnk_spec c.rv.ls q with ⟨h,_⟩ | h
    · omega
    · exact h
  have hJl:=(List.getElem?_eq_some_iff.1 hJ1).1
  have hk:=hr.l l (List.mem_of_getElem? hJ1)
  have hk1:=hk.o
  have hk2:=hk.t
  have hS:=belP_step hr hq.1 hJ3 hJ1 hJ2
  rw [hS] at hE
  have hsn:=hitN_snoc n i O l.to
  rw [hJ3]
  conv=>whnf
  refine ⟨by omega,lkC l,by rw [Int.toNat_natCast,List.getElem?_map,hJ1];rfl,rfl,?_⟩
  conv=>whnf
  refine ⟨rfl,?_⟩
  conv=>whnf
  refine ⟨rfl,?_⟩
  conv=>whnf
  refine Fork.mk (fun h=>?_) (fun h=>?_)
  · have hz:l.to=n:=by simpa using h
    rw [if_pos hz] at hsn
    clear h
    conv=>whnf
    refine ⟨by simp,?_⟩
    conv=>whnf
    refine ⟨rfl,?_⟩
    conv=>whnf
    refine ⟨⟨rfl,rfl,rfl,hmO.symm,by rw [hmO];simp;simp at hjs;omega⟩,?_⟩
    conv=>whnf
    refine Fork.mk (fun h=>by cases h) (fun _=>?_)
    conv=>whnf
    refine ⟨c,l.to,rfl,by omega,?_⟩
    conv=>whnf
    refine Fork.mk (fun h=>?_) (fun h=>?_)
    · have h5:0≤snA c.si l.to:=by simpa using h
      clear h
      rw [if_pos h5] at hE
      conv=>whnf
      refine ⟨[.l 40 21],[40],⟨rfl,rfl,rfl,rfl⟩,?_⟩
      conv=>whnf
      refine ⟨rfl,rfl,?_⟩
      conv=>whnf
      have e3:G ++ hitN n i (belP c x.nd)=(G ++ hitN n i O) ++ [(i:Int)]:=by rw [hE,hsn,List.append_assoc]
      rw [hwi]
      exact ⟨i+1,hi2,Shift.rename [(.l 40 3,.l 40 11)] ⟨rfl,rfl,rfl,rfl,rfl,trivial⟩ ⟨rfl,rfl,by dsimp only;rw [hg1,e3,List.length_append,← hmO];rfl,by dsimp only;rw [hg1,e3,← eL_snoc];rfl,trivial⟩ rfl rfl rfl,by omega⟩
    have h5:¬ 0≤snA c.si l.to:=by simpa using h
    clear h
    rw [if_neg h5] at hE
    conv=>whnf
    refine ⟨c,l.to,rfl,by omega,?_⟩
    conv=>whnf
    have e4:G ++ hitN n i (O ++ [l.to])=(G ++ hitN n i O) ++ [(i:Int)]:=by rw [hsn,List.append_assoc]
    exact ⟨(O ++ [l.to],l.to),⟨by dsimp only;rw [hE];simp,by dsimp only;omega,by dsimp only;rw [List.length_append];simp;omega⟩,Shift.rename [(.l 40 0,.l 40 21)] ⟨rfl,rfl,rfl,trivial⟩ ⟨rfl,rfl,rfl,by dsimp only;rw [e4,List.length_append,← hmO];rfl,rfl,by dsimp only;rw [e4,← eL_snoc];rfl,trivial⟩ rfl rfl rfl,by dsimp only;omega⟩
  have hz:¬ l.to=n:=by simpa using h
  rw [if_neg hz] at hsn
  clear h
  conv=>whnf
  refine Fork.mk (fun h=>by cases h) (fun _=>?_)
  conv=>whnf
  refine ⟨c,l.to,rfl,by omega,?_⟩
  conv=>whnf
  refine Fork.mk (fun h=>?_) (fun h=>?_)
  · have h5:0≤snA c.si l.to:=by simpa using h
    clear h
    rw [if_pos h5] at hE
    conv=>whnf
    refine ⟨[.l 40 0],[40],⟨rfl,rfl,rfl,rfl⟩,?_⟩
    conv=>whnf
    refine ⟨rfl,rfl,?_⟩
    conv=>whnf
    have e3:G ++ hitN n i (belP c x.nd)=G ++ hitN n i O:=by rw [hE,hsn]
    rw [hwi]
    exact ⟨i+1,hi2,Shift.rename [(.l 40 3,.l 40 11)] ⟨rfl,rfl,rfl,rfl,rfl,trivial⟩ ⟨rfl,rfl,by dsimp only;rw [hg1,e3];rfl,by dsimp only;rw [hg1,e3];rfl,trivial⟩ rfl rfl rfl,by omega⟩
  have h5:¬ 0≤snA c.si l.to:=by simpa using h
  clear h
  rw [if_neg h5] at hE
  conv=>whnf
  refine ⟨c,l.to,rfl,by omega,?_⟩
  conv=>whnf
  have e4:G ++ hitN n i (O ++ [l.to])=G ++ hitN n i O:=by rw [hsn]
  exact ⟨(O ++ [l.to],l.to),⟨by dsimp only;rw [hE];simp,by dsimp only;omega,by dsimp only;rw [List.length_append];simp;omega⟩,Shift.rename [] ⟨rfl,rfl,rfl,trivial⟩ ⟨rfl,rfl,rfl,by dsimp only;rw [e4];rfl,rfl,by dsimp only;rw [e4];rfl,trivial⟩ rfl rfl rfl,by dsimp only;omega⟩
end Go.Proofs
