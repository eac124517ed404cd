/- Proved here: what functions of the given program come to, and the plain laws of it; no condition but those in the theorems. -/
import Derived.Test.YtgllikepncnpkaaGreatA34x
namespace Go.Proofs
open Go Go.Abs
set_option linter.unusedSimpArgs false
set_option linter.unusedVariables false
set_option maxRecDepth 40000
set_option maxHeartbeats 4000000 in
theorem abv_ok:FunR Tryz.prog 23 R_abv:=by
  intro args k h
  obtain ⟨c,n,rfl,hc,hk⟩:=h
  have hmx:=eX_len c.si
  have hCK:∀ f args d m k,ckK [(45,cSc (R_csI csE)),(47,cH R_belw)] f args d m k→callK Tryz.prog qc1 f args d m k:=ckK_ok ⟨cSc_ok csE_ok',cH_ok belw_ok rfl,trivial⟩
  refine ⟨_,doesT_of (qc:=qc1) (np:=[]) (CK:=ckK [(45,cSc (R_csI csE)),(47,cH R_belw)]) (RC:=rcN τ [] (ckK [(45,cSc (R_csI csE)),(47,cH R_belw)]) qc1 43 genBel) mixed Tryz.func23 rfl rfl Tryz.ntmps23 Tryz.results23 τ_ok (by kernel_rfl) hCK (rcN_ok τ_ok hCK mixed genBel) (by simp) ?_,hk⟩
  conv=>whnf
  refine ⟨c,rfl,hc,?_⟩
  conv=>whnf
  have hA:∀ y,abS c n=y→AV.tup [.c (.lst (eL (abS c n).1)),I (abS c n).2]=AV.tup [.c (.lst (eL y.1)),I y.2]:=by rintro _ rfl;rfl
  refine Fork.mk (fun h=>?_) (fun h=>?_)
  · have h1:csE c ≠ 0:=by simpa using h
    conv=>whnf
    exact hA ([],csE c) (by rw [abS,if_pos h1])
  have h1:csE c=0:=by simpa using h
  have hok:=csE_ok h1
  have hcm:=hok.m
  clear h
  conv=>whnf
  refine Fork.mk (fun h=>?_) (fun h=>?_)
  · have h2:n < 0:=by simpa using h
    conv=>whnf
    repeat' ((first | refine fork_t ?_ | refine fork_f ?_ | (refine Fork.mk (fun h=>?_) (fun h=>?_);focus (simp at h;done)) | fail) <;> (conv=>whnf))
    exact hA ([],41) (by rw [abS,if_neg (by simp [h1]),if_pos h2])
  have h2:¬ n < 0:=by simpa using h
  clear h
  conv=>whnf
  refine Fork.mk (fun h=>?_) (fun h=>?_)
  · have h3:c.rv.n≤n:=by simpa using h
    conv=>whnf
    exact hA ([],41) (by rw [abS,if_neg (by simp [h1]),if_neg h2,if_pos h3])
  have h3:¬ c.rv.n≤n:=by simpa using h
  clear h
  have e0:abS c n=(abG c n c.si.length,0):=by rw [abS,if_neg (by simp [h1]),if_neg h2,if_neg h3]
  have hA:=hA _ e0
  conv=>whnf
  refine ⟨Nat,fun i=>([(2,.c (.ptr (.l 2 0) 0)),(3,.c (.ptr (.l 3 1) 0)),(7,.c (.ptr (.l 7 2) 0)),(26,I (eX c.si).length),(27,I i)],⟨[(.l 2 0,.blk (csC c)),(.l 3 1,.blk [IC n]),(.l 7 2,.blk [.view (.l 40 3) 0 (abG c n i).length]),(.l 40 3,.arr 3 1 (eL (abG c n i)) false)],9,[]⟩),
    fun i=>i≤c.si.length,fun i=>c.si.length - i,0,Nat.zero_le _,Shift.trans (Shift.rename [] ⟨rfl,rfl,rfl,rfl,rfl,trivial⟩ ⟨rfl,rfl,rfl,rfl,trivial⟩ rfl rfl rfl) (Shift.nilCell (i:=.l 7 2) (cs:=[.sc (.slice none 0 0)]) (j:=0) rfl rfl 40 3 1),fun i hi=>?_⟩
  dsimp only
  have hml:=eL_len (abG c n i)
  conv=>whnf
  refine Fork.mk (fun h=>?_) (fun h=>?_)
  rotate_left
  · have hie:i=c.si.length:=by simp at h;omega
    subst hie
    have t1:List.take (abG c n c.si.length).length (List.drop 0 (eL (abG c n c.si.length)))=eL (abG c n c.si.length):=by rw [List.drop_zero,List.take_of_length_le (by omega)]
    conv=>whnf
    refine ⟨by omega,?_⟩
    simp only [t1]
    conv=>whnf
    exact hA
  have hi2:i < c.si.length:=by simp at h;omega
  clear h
  have hwi:=wr_succ (i:=i) (by omega)
  have hbl:=belF_len hok i
  have hgl:=abG_len hok n i
  have hg1:abG c n (i+1)=abG c n i ++ hitN n i (belF c i):=rfl
  conv=>whnf
  refine ⟨[],rfl,?_⟩
  conv=>whnf
  refine ⟨rfl,?_⟩
  conv=>whnf
  refine ⟨rfl,?_⟩
  conv=>whnf
  refine ⟨c,i,rfl,rfl,?_⟩
  conv=>whnf
  refine ⟨⟨⟨rfl,rfl⟩,⟨rfl,rfl⟩,rfl⟩,?_⟩
  conv=>whnf
  refine ⟨_,rfl,Nat.le_of_ble_eq_true rfl,[.l 32 10,.l 2080 10,.l 3 1,.l 7 2,.l 8 9],[.l 40 3],rfl,rfl,?_⟩
  conv=>whnf
  refine ⟨rfl,rfl,fun L=>?_⟩
  conv=>whnf
  obtain ⟨x,hx⟩:∃ x,c.si[i]?=some x:=⟨_,List.getElem?_eq_getElem hi2⟩
  have hr:=hok.r
  have hrn:=hr.n
  have hrl:=hr.len
  have hmk:=eK_len c.rv.ls
  have hxn:=(hok.s x (List.mem_of_getElem? hx)).1
  have hB:belF c i=belP c x.nd:=by unfold belF;rw [hx]
  rw [hB] at hg1 hbl
  refine ⟨by omega,siC x,by rw [Int.toNat_natCast,List.getElem?_map,hx];rfl,rfl,?_⟩
  conv=>whnf
  refine ⟨c,x.nd,rfl,by omega,?_⟩
  conv=>whnf
  generalize hG:abG c n i=G at hml hgl hg1
  refine ⟨Ls × Int,fun y=>([(0,yV L),(1,.c (.ptr (.x 0) 0)),(4,I (lnk c.rv.ls y.2))],⟨[(.x 0,.blk (csC c)),(.x 1,.blk [IC i]),(.x 2,.blk [IC n]),(.x 3,.blk [.view (.l 40 0) 0 (G ++ hitN n i y.1).length]),(.x 4,.blk [IC i]),(.l 40 0,.arr 3 1 (eL (G ++ hitN n i y.1)) false)],20,[]⟩),
    fun y=>belP c x.nd=y.1 ++ belP c y.2∧(0≤y.2∧y.2 < c.rv.n)∧(y.1.length:Int)≤y.2,fun y=>(c.rv.n - y.2).toNat,([],x.nd),⟨rfl,hxn,hxn.1⟩,
    ?_,fun y hy=>?_⟩
  · dsimp only
    rw [show G ++ hitN n i []=G by simp [hitN]]
    exact Shift.rename [(.l 40 0,.x 5)] ⟨rfl,rfl,rfl,trivial⟩ ⟨rfl,rfl,rfl,rfl,rfl,rfl,trivial⟩ rfl rfl rfl
  obtain ⟨O,q⟩:=y
  obtain ⟨hE,hq,hO⟩:=hy
  dsimp only at hE hq hO ⊢
  have hmO:=eL_len (G ++ hitN n i O)
  have hol:=hitN_len n i O
  have hjs:(G ++ hitN n i O).length≤1000:=by rw [List.length_append];omega
  conv=>whnf
  refine Fork.mk (fun h=>?_) (fun h=>?_)
  rotate_left
  · have hlt:lnk c.rv.ls q < 0:=by simp at h;omega
    clear h
    rw [belP_end hlt,List.append_nil] at hE
    conv=>whnf
    refine ⟨[.l 40 0],[40],⟨rfl,rfl,rfl,rfl⟩,?_⟩
    conv=>whnf
    refine ⟨rfl,rfl,?_⟩
    conv=>whnf
    rw [hwi]
    rw [hE] at hg1
    exact ⟨i+1,hi2,Shift.rename [(.l 40 3,.l 40 11)] ⟨rfl,rfl,rfl,rfl,rfl,trivial⟩ ⟨rfl,rfl,by dsimp only;rw [hg1];rfl,by dsimp only;rw [hg1];rfl,trivial⟩ rfl rfl rfl,by omega⟩
  have hge:0≤lnk c.rv.ls q:=by simpa using h
  clear h
  obtain ⟨J,l,hJ1,hJ2,hJ3⟩:∃ (j:Nat) (a:Lk),c.rv.ls[j]?=some a∧a.fr=q∧lnk c.rv.ls q=j:=by
    rcases lnk_spec c.rv.ls q with ⟨h,_⟩ | h
    · omega
    · exact h
  have hJl:=(List.getElem?_eq_some_iff.1 hJ1).1
  have hk:=hr.l l (List.mem_of_getElem? hJ1)
  have hk1:=hk.o
  have hk2:=hk.t
  have hS:=belP_step hr hq.1 hJ3 hJ1 hJ2
  rw [hS] at hE
  have hsn:=hitN_snoc n i O l.to
  rw [hJ3]
  conv=>whnf
  refine ⟨by omega,lkC l,by rw [Int.toNat_natCast,List.getElem?_map,hJ1];rfl,rfl,?_⟩
  conv=>whnf
  refine ⟨rfl,?_⟩
  conv=>whnf
  refine ⟨rfl,?_⟩
  conv=>whnf
  refine Fork.mk (fun h=>?_) (fun h=>?_)
  · have hz:l.to=n:=by simpa using h
    rw [if_pos hz] at hsn
    clear h
    conv=>whnf
    refine ⟨by simp,?_⟩
    conv=>whnf
    refine ⟨rfl,?_⟩
    conv=>whnf
    refine ⟨⟨rfl,rfl,rfl,hmO.symm,by rw [hmO];simp;simp at hjs;omega⟩,?_⟩
    conv=>whnf
    refine Fork.mk (fun h=>by cases h) (fun _=>?_)
    conv=>whnf
    refine ⟨c,l.to,rfl,by omega,?_⟩
    conv=>whnf
    refine Fork.mk (fun h=>?_) (fun h=>?_)
    · have h5:0≤snA c.si l.to:=by simpa using h
      clear h
      rw [if_pos h5] at hE
      conv=>whnf
      refine ⟨[.l 40 21],[40],⟨rfl,rfl,rfl,rfl⟩,?_⟩
      conv=>whnf
      refine ⟨rfl,rfl,?_⟩
      conv=>whnf
      have e3:G ++ hitN n i (belP c x.nd)=(G ++ hitN n i O) ++ [(i:Int)]:=by rw [hE,hsn,List.append_assoc]
      rw [hwi]
      exact ⟨i+1,hi2,Shift.rename [(.l 40 3,.l 40 11)] ⟨rfl,rfl,rfl,rfl,rfl,trivial⟩ ⟨rfl,rfl,by dsimp only;rw [hg1,e3,List.length_append,← hmO];rfl,by dsimp only;rw [hg1,e3,← eL_snoc];rfl,trivial⟩ rfl rfl rfl,by omega⟩
    have h5:¬ 0≤snA c.si l.to:=by simpa using h
    clear h
    rw [if_neg h5] at hE
    conv=>whnf
    refine ⟨c,l.to,rfl,by omega,?_⟩
    conv=>whnf
    have e4:G ++ hitN n i (O ++ [l.to])=(G ++ hitN n i O) ++ [(i:Int)]:=by rw [hsn,List.append_assoc]
    exact ⟨(O ++ [l.to],l.to),⟨by dsimp only;rw [hE];simp,by dsimp only;omega,by dsimp only;rw [List.length_append];simp;omega⟩,Shift.rename [(.l 40 0,.l 40 21)] ⟨rfl,rfl,rfl,trivial⟩ ⟨rfl,rfl,rfl,by dsimp only;rw [e4,List.length_append,← hmO];rfl,rfl,by dsimp only;rw [e4,← eL_snoc];rfl,trivial⟩ rfl rfl rfl,by dsimp only;omega⟩
  have hz:¬ l.to=n:=by simpa using h
  rw [if_neg hz] at hsn
  clear h
  conv=>whnf
  refine Fork.mk (fun h=>by cases h) (fun _=>?_)
  conv=>whnf
  refine ⟨c,l.to,rfl,by omega,?_⟩
  conv=>whnf
  refine Fork.mk (fun h=>?_) (fun h=>?_)
  · have h5:0≤snA c.si l.to:=by simpa using h
    clear h
    rw [if_pos h5] at hE
    conv=>whnf
    refine ⟨[.l 40 0],[40],⟨rfl,rfl,rfl,rfl⟩,?_⟩
    conv=>whnf
    refine ⟨rfl,rfl,?_⟩
    conv=>whnf
    have e3:G ++ hitN n i (belP c x.nd)=G ++ hitN n i O:=by rw [hE,hsn]
    rw [hwi]
    exact ⟨i+1,hi2,Shift.rename [(.l 40 3,.l 40 11)] ⟨rfl,rfl,rfl,rfl,rfl,trivial⟩ ⟨rfl,rfl,by dsimp only;rw [hg1,e3];rfl,by dsimp only;rw [hg1,e3];rfl,trivial⟩ rfl rfl rfl,by omega⟩
  have h5:¬ 0≤snA c.si l.to:=by simpa using h
  clear h
  rw [if_neg h5] at hE
  conv=>whnf
  refine ⟨c,l.to,rfl,by omega,?_⟩
  conv=>whnf
  have e4:G ++ hitN n i (O ++ [l.to])=G ++ hitN n i O:=by rw [hsn]
  exact ⟨(O ++ [l.to],l.to),⟨by dsimp only;rw [hE];simp,by dsimp only;omega,by dsimp only;rw [List.length_append];simp;omega⟩,Shift.rename [] ⟨rfl,rfl,rfl,trivial⟩ ⟨rfl,rfl,rfl,by dsimp only;rw [e4];rfl,rfl,by dsimp only;rw [e4];rfl,trivial⟩ rfl rfl rfl,by dsimp only;omega⟩
end Go.Proofs

namespace Go.Proofs
open Go Go.Abs
set_option linter.unusedSimpArgs false
set_option linter.unusedVariables false
set_option maxRecDepth 40000
def c0:Cs:=⟨⟨3,[⟨0,1,[0,1],1⟩,⟨1,2,[0,0,1],1⟩]⟩,[]⟩
def s0:Fl:=⟨0,[],[[],[]]⟩
set_option maxHeartbeats 4000000 in
theorem fo0:foX c0 s0 [[],[],[],[]] [[5,0,0],[0,0,0],[0,0,0],[0,0,0]]=.ok [[5,0,0],[0,5,0],[0,0,0],[0,0,5]]:=by rfl
theorem c0_fin:c0.fin:=⟨⟨by decide,by decide⟩,by decide,by simp [c0]⟩
theorem s0_fin:s0.fin:=⟨by decide,by simp [s0],by simp [vfin,s0]⟩
theorem ab0:abS c0 2=([],0):=by rfl
theorem bw0:bwS c0 0=([],40):=by rfl
set_option maxHeartbeats 4000000 in
theorem sane_ok:FunR Tryz.prog 9 R_tt:=by
  intro args k h
  obtain ⟨rfl,hk⟩:=h
  refine does_ex (qc:=qc1) (np:=[(2,[(0,1),(0,3),(0,4),(0,5),(0,6),(0,7),(0,8),(1,3),(1,4),(1,5),(1,6),(1,7),(1,8),(3,4),(3,5),(3,6),(3,7),(3,8),(4,5),(4,6),(4,7),(5,6),(5,7),(6,7)])]) (CK:=ckK [(17,cPu R_fo),(23,cPu R_abv),(20,cPu R_bw)]) mixed Tryz.func9 rfl rfl Tryz.ntmps9 Tryz.results9 τ_ok (by kernel_rfl) (ckK_ok ⟨cPu_ok follow_ok rfl,cPu_ok abv_ok rfl,cPu_ok bel_ok rfl,trivial⟩) (by simp) ?_
  conv=>whnf
  repeat (refine ⟨Nat.le_of_ble_eq_true rfl,?_⟩;conv=>whnf)
  refine ⟨⟨rfl,by decide,by decide⟩,?_⟩
  conv=>whnf
  repeat (refine ⟨Nat.le_of_ble_eq_true rfl,?_⟩;conv=>whnf)
  refine ⟨c0,s0,[[],[],[],[]],[[5,0,0],[0,0,0],[0,0,0],[0,0,0]],rfl,c0_fin,s0_fin,by simp [vfin],by simp [vfin],?_⟩
  rw [fo0]
  conv=>whnf
  repeat (refine ⟨Nat.le_of_ble_eq_true rfl,?_⟩;conv=>whnf)
  refine ⟨c0,2,rfl,c0_fin,?_⟩
  rw [ab0]
  conv=>whnf
  repeat (refine ⟨Nat.le_of_ble_eq_true rfl,?_⟩;conv=>whnf)
  refine ⟨c0,0,rfl,c0_fin,?_⟩
  rw [bw0]
  conv=>whnf
  repeat (first | (refine Fork.mk (fun _=>?_) (fun h=>absurd h (by decide));conv=>whnf) | (refine ⟨by decide,_,rfl,rfl,?_⟩;conv=>whnf))
  exact hk
end Go.Proofs

namespace Go.Proofs
open Go Go.Abs
set_option linter.unusedSimpArgs false
set_option linter.unusedVariables false
theorem cGo_small {lv:Int→Option Int} {B:Int} (hB:0≤B) (hlv:∀ x q,lv x=some q→0≤q∧q≤B) {K:Int} (hK:K≤1000000000):∀ {ls:List Lk} {ws:List Ls} {a v:Ls} {n:Int} (k:Nat),(∀ l ∈ ls,LkOk n l∧(k:Int)≤l.fr)→ls.Pairwise (fun a b=>a.fr < b.fr)→(n=a.length)→ws.length=ls.length →
    (∀ (i:Nat) l p,ls[i]?=some l→ws[i]?=some p→fitsB l.ws.length p=true)→volOk ls ws v→(∀ x ∈ a,0≤x)→tailS a k+v.sum+B * ls.length≤K →
    ∃ x v',cGo lv ls ws a=some x∧volOk ls x.1 v'∧(∀ y ∈ x.2,0≤y)∧v'.sum≤K∧(∀ j,k≤j→gN x.2 j≤K)∧(∀ j,j < k→gN x.2 j=gN a j)
  | [],ws,a,v,n,k,_,_,_,_,_,hv,hnn,hs=>by
    rw [List.length_nil] at hs
    have hvn:v=[]:=List.eq_nil_of_length_eq_zero hv.l
    subst hvn
    refine ⟨([],a),[],by cases ws <;> rfl,⟨rfl,fun i l p x h=>by simp at h⟩,hnn,?_,fun j hj=>?_,fun _ _=>rfl⟩
    · have:=nn_tail hnn k;simp at hs ⊢;omega
    · have:=le_tail hnn hj;simp at hs;dsimp only;omega
  | l :: ls,[],a,v,n,k,_,_,_,hl,_,_,_,_=>by simp at hl
  | l :: ls,w :: ws,a,[],n,k,_,_,_,_,_,hv,_,_=>by have:=hv.l;simp at this
  | l :: ls,w :: ws,a,x :: v,n,k,hl,hp,hn,hwl,hf,hv,hnn,hs=>by
    obtain ⟨hlo,hkf⟩:=hl l (by simp)
    have hfit:=hf 0 l w rfl rfl
    obtain ⟨hx0,hxs⟩:=hv.b 0 l w x rfl rfl rfl
    obtain ⟨f,hfr⟩:∃ f:Nat,l.fr=f:=⟨l.fr.toNat,by have:=hlo.f;omega⟩
    obtain ⟨t,hto⟩:∃ t:Nat,l.to=t:=⟨l.to.toNat,by have:=hlo.f;have:=hlo.o;omega⟩
    have ho:=hlo.o
    have ht:=hlo.t
    have hft:f < t:=by omega
    have hta:t < a.length:=by omega
    have hkf':k≤f:=by omega
    have hgq:gA a l.fr=gN a f:=by rw [hfr,gA_nat]
    have hgt:gA a l.to=gN a t:=by rw [hto,gA_nat]
    have hA0:=gN_nn hnn f
    obtain ⟨Q,hQ⟩:∃ Q,qGo lv l a=Q:=⟨_,rfl⟩
    have hQb:0≤Q∧Q≤gN a f+B:=by
      rw [← hQ]
      unfold qGo
      cases e:lv l.fr with
      | none=>rw [Option.getD_none,hgq];omega
      | some q=>have:=hlv _ _ e;rw [Option.getD_some];omega
    have hq0:=hQb.1
    have hBl:B * (((l :: ls).length:Nat):Int)=B * ls.length+B:=by rw [List.length_cons,Int.natCast_add,Int.mul_add];simp
    have hBn:0≤B * (ls.length:Int):=Int.mul_nonneg hB (by omega)
    rw [hBl] at hs
    have hvn:0≤v.sum:=(sum_nn fun y hy=>by
      obtain ⟨i,hi⟩:=List.getElem?_of_mem hy
      have h1:=(List.getElem?_eq_some_iff.1 hi).1
      have hvl:=hv.l
      simp at hvl hwl
      have c1:=List.getElem?_eq_getElem (show i < ls.length by omega)
      have c2:=List.getElem?_eq_getElem (show i < ws.length by omega)
      exact (hv.b (i+1) _ _ y (by rw [List.getElem?_cons_succ];exact c1) (by rw [List.getElem?_cons_succ];exact c2) (by rw [List.getElem?_cons_succ];exact hi)).1).1
    have htk:=tail_mono hnn hkf'
    have htf:=tail_cons (gN_get (show f < a.length by omega))
    have htf1:=nn_tail hnn (f+1)
    rw [List.sum_cons] at hs
    obtain ⟨a1,a2,a3,a4,a5,a6,_⟩:=rk_facts hlo.r
    -- the step goes well
    have hdq:l.den * (x+Q)≤240000 * 1000000000:=Int.mul_le_mul a5 (by omega) (by omega) (by omega)
    rw [Int.mul_add] at hdq
    have hqd:Q * l.den=l.den * Q:=Int.mul_comm _ _
    have hok:=(step_ok_of hlo.r hfit hq0 (by omega) (by omega)).1
    have hst:stG l w (Q)=true:=by
      simp only [stG,inQ,Bool.and_eq_true,decide_eq_true_eq]
      exact ⟨⟨hq0,by omega⟩,stepB_iff.2 hok⟩
    have hsum:=step_sum (q:=Q) hlo.r hfit
    have hfit2:=step_fits hlo.r hfit hq0 (by omega) hok
    have hs0:=fits_sum hfit2
    have hout:=out_in hlo.r hfit hst
    rw [cGo_cons,hQ,hgt,if_pos hst]
    generalize outF l.ws l.den w (Q)=o at *
    generalize stepF l.ws l.den w (Q)=w' at *
    -- the link's new bound
    have hxn:0≤x+Q - o:=by
      rcases Int.lt_or_le (x+Q - o) 0 with h | h
      · have h1:l.den * (x+Q - o)≤l.den * (-1):=Int.mul_le_mul_of_nonneg_left (by omega) (by omega)
        rw [Int.mul_sub,Int.mul_add] at h1
        omega
      · exact h
    have hnn2:∀ y ∈ a.set t (gN a t+o),0≤y:=fun y hy=>by
      rcases List.mem_or_eq_of_mem_set hy with hy | rfl
      · exact hnn y hy
      · have:=gN_nn hnn t;omega
    have hts:=tail_set (v:=o) hta (f+1)
    rw [if_pos (by omega)] at hts
    have hvl:=hv.l
    simp at hvl hwl
    have hl':∀ y ∈ ls,LkOk n y∧((f+1:Nat):Int)≤y.fr:=fun y hy=>⟨(hl y (by simp [hy])).1,by have:=(List.pairwise_cons.1 hp).1 y hy;omega⟩
    have hv':volOk ls ws v:=⟨hvl,fun i l p y e1 e2 e3=>hv.b (i+1) l p y (by simpa using e1) (by simpa using e2) (by simpa using e3)⟩
    obtain ⟨z,v',z1,z2,z3,z4,z5,z6⟩:=cGo_small hB hlv (K:=K - (x+Q - o)) (by omega) (a:=a.set t (gN a t+o)) (v:=v) (f+1) hl' (List.pairwise_cons.1 hp).2 (by rw [List.length_set];exact hn) hwl (fun i l p e1 e2=>hf (i+1) l p (by simpa using e1) (by simpa using e2)) hv' hnn2 (by omega)
    rw [show l.to.toNat=t by omega,z1]
    refine ⟨(w' :: z.1,z.2),(x+Q - o) :: v',rfl,⟨by simp [z2.l],fun i b p y e1 e2 e3=>?_⟩,z3,by rw [List.sum_cons];omega,fun j hj=>?_,fun j hj=>?_⟩
    · cases i with
      | zero =>
        simp at e1 e2 e3
        subst e1;subst e2;subst e3
        refine ⟨hxn,?_⟩
        rw [Int.mul_sub,Int.mul_add]
        omega
      | succ i=>exact z2.b i b p y (by simpa using e1) (by simpa using e2) (by simpa using e3)
    · by_cases e:f+1≤j
      · have:=z5 j e;dsimp only;omega
      · dsimp only
        rw [z6 j (by omega),gN_set hta,if_neg (by omega)]
        have:=le_tail hnn hj
        omega
    · dsimp only
      rw [z6 j (by omega),gN_set hta,if_neg (by omega)]
theorem lvF_b {si:List Si} {l:Ls} {B:Int} (h:∀ x ∈ l,0≤x∧x≤B):∀ x q,lvF si l x=some q→0≤q∧q≤B:=fun x q e=>by
  unfold lvF at e
  split at e
  · exact h q (List.mem_of_getElem? e)
  · cases e
theorem bad_no {l:Ls} (h:∀ x ∈ l,0≤x∧x≤1073741824):l.any badX=false:=by
  cases e:l.any badX with
  | false=>rfl
  | true =>
    obtain ⟨x,hx,hx2⟩:=List.any_eq_true.1 e
    have:=h x hx
    simp [badX] at hx2
    omega
theorem vol_nn {ls:List Lk} {ws:List Ls} {v:Ls} (h:volOk ls ws v) (hl:ws.length=ls.length):0≤v.sum:=(sum_nn fun y hy=>by
  obtain ⟨i,hi⟩:=List.getElem?_of_mem hy
  have hil:=(List.getElem?_eq_some_iff.1 hi).1
  have e1:=h.l
  exact (h.b i _ _ y (List.getElem?_eq_getElem (by omega)) (List.getElem?_eq_getElem (show i < ws.length by omega)) hi).1).1
end Go.Proofs
