/- Proved here: what functions of the given program come to, and the plain laws of it; no condition but those in the theorems. -/
import Derived.Test.YtgllikepncnpkaaGreatA34x
namespace Go.Proofs
open Go Go.Abs
set_option linter.unusedSimpArgs false
set_option linter.unusedVariables false
set_option maxRecDepth 40000
set_option maxHeartbeats 4000000 in
theorem abv_ok:FunR Tryz.prog 23 R_abv:=by
  intro args k h
  obtain ⟨c,n,rfl,hc,hk⟩:=h
  have hmx:=eX_len c.si
  have hCK:∀ f args d m k,ckK [(45,cSc (R_csI csE)),(47,cH R_belw)] f args d m k→callK Tryz.prog qc1 f args d m k:=ckK_ok ⟨cSc_ok csE_ok',cH_ok belw_ok rfl,trivial⟩
  refine ⟨_,doesT_of (qc:=qc1) (np:=[]) (CK:=ckK [(45,cSc (R_csI csE)),(47,cH R_belw)]) (RC:=rcN τ [] (ckK [(45,cSc (R_csI csE)),(47,cH R_belw)]) qc1 43 genBel) mixed Tryz.func23 rfl rfl Tryz.ntmps23 Tryz.results23 τ_ok (by kernel_rfl) hCK (rcN_ok τ_ok hCK mixed genBel) (by simp) ?_,hk⟩
  conv=>whnf
  refine ⟨c,rfl,hc,?_⟩
  conv=>whnf
  have hA:∀ y,abS c n=y→AV.tup [.c (.lst (eL (abS c n).1)),I (abS c n).2]=AV.tup [.c (.lst (eL y.1)),I y.2]:=by rintro _ rfl;rfl
  refine Fork.mk (fun h=>?_) (fun h=>?_)
  · have h1:csE c ≠ 0:=by simpa using h
    conv=>whnf
    exact hA ([],csE c) (by rw [abS,if_pos h1])
  have h1:csE c=0:=by simpa using h
  have hok:=csE_ok h1
  have hcm:=hok.m
  clear h
  conv=>whnf
  refine Fork.mk (fun h=>?_) (fun h=>?_)
  · have h2:n < 0:=by simpa using h
    conv=>whnf
    repeat' ((first | refine fork_t ?_ | refine fork_f ?_ | (refine Fork.mk (fun h=>?_) (fun h=>?_);focus (simp at h;done)) | fail) <;> (conv=>whnf))
    exact hA ([],41) (by rw [abS,if_neg (by simp [h1]),if_pos h2])
  have h2:¬ n < 0:=by simpa using h
  clear h
  conv=>whnf
  refine Fork.mk (fun h=>?_) (fun h=>?_)
  · have h3:c.rv.n≤n:=by simpa using h
    conv=>whnf
    exact hA ([],41) (by rw [abS,if_neg (by simp [h1]),if_neg h2,if_pos h3])
  have h3:¬ c.rv.n≤n:=by simpa using h
  clear h
  have e0:abS c n=(abG c n c.si.length,0):=by rw [abS,if_neg (by simp [h1]),if_neg h2,if_neg h3]
  have hA:=hA _ e0
  conv=>whnf
  refine ⟨Nat,fun i=>([(2,.c (.ptr (.l 2 0) 0)),(3,.c (.ptr (.l 3 1) 0)),(7,.c (.ptr (.l 7 2) 0)),(26,I (eX c.si).length),(27,I i)],⟨[(.l 2 0,.blk (csC c)),(.l 3 1,.blk [IC n]),(.l 7 2,.blk [.view (.l 40 3) 0 (abG c n i).length]),(.l 40 3,.arr 3 1 (eL (abG c n i)) false)],9,[]⟩),
    fun i=>i≤c.si.length,fun i=>c.si.length - i,0,Nat.zero_le _,Shift.trans (Shift.rename [] ⟨rfl,rfl,rfl,rfl,rfl,trivial⟩ ⟨rfl,rfl,rfl,rfl,trivial⟩ rfl rfl rfl) (Shift.nilCell (i:=.l 7 2) (cs:=[.sc (.slice none 0 0)]) (j:=0) rfl rfl 40 3 1),fun i hi=>?_⟩
  dsimp only
  have hml:=eL_len (abG c n i)
  conv=>whnf
  refine Fork.mk (fun h=>?_) (fun h=>?_)
  rotate_left
  · have hie:i=c.si.length:=by simp at h;omega
    subst hie
    have t1:List.take (abG c n c.si.length).length (List.drop 0 (eL (abG c n c.si.length)))=eL (abG c n c.si.length):=by rw [List.drop_zero,List.take_of_length_le (by omega)]
    conv=>whnf
    refine ⟨by omega,?_⟩
    simp only [t1]
    conv=>whnf
    exact hA
  have hi2:i < c.si.length:=by simp at h;omega
  clear h
  have hwi:=wr_succ (i:=i) (by omega)
  have hbl:=belF_len hok i
  have hgl:=abG_len hok n i
  have hg1:abG c n (i+1)=abG c n i ++ hitN n i (belF c i):=rfl
  conv=>whnf
  refine ⟨[],rfl,?_⟩
  conv=>whnf
  refine ⟨rfl,?_⟩
  conv=>whnf
  refine ⟨rfl,?_⟩
  conv=>whnf
  refine ⟨c,i,rfl,rfl,?_⟩
  conv=>whnf
  refine ⟨⟨⟨rfl,rfl⟩,⟨rfl,rfl⟩,rfl⟩,?_⟩
  conv=>whnf
  refine ⟨_,rfl,Nat.le_of_ble_eq_true rfl,[.l 32 10,.l 2080 10,.l 3 1,.l 7 2,.l 8 9],[.l 40 3],rfl,rfl,?_⟩
  conv=>whnf
  refine ⟨rfl,rfl,fun L=>?_⟩
  conv=>whnf
  obtain ⟨x,hx⟩:∃ x,c.si[i]?=some x:=⟨_,List.getElem?_eq_getElem hi2⟩
  have hr:=hok.r
  have hrn:=hr.n
  have hrl:=hr.len
  have hmk:=eK_len c.rv.ls
  have hxn:=(hok.s x (List.mem_of_getElem? hx)).1
  have hB:belF c i=belP c x.nd:=by unfold belF;rw [hx]
  rw [hB] at hg1 hbl
  refine ⟨by omega,siC x,by rw [Int.toNat_natCast,List.getElem?_map,hx];rfl,rfl,?_⟩
  conv=>whnf
  refine ⟨c,x.nd,rfl,by omega,?_⟩
  conv=>whnf
  generalize hG:abG c n i=G at hml hgl hg1
  refine ⟨Ls × Int,fun y=>([(0,yV L),(1,.c (.ptr (.x 0) 0)),(4,I (lnk c.rv.ls y.2))],⟨[(.x 0,.blk (csC c)),(.x 1,.blk [IC i]),(.x 2,.blk [IC n]),(.x 3,.blk [.view (.l 40 0) 0 (G ++ hitN n i y.1).length]),(.x 4,.blk [IC i]),(.l 40 0,.arr 3 1 (eL (G ++ hitN n i y.1)) false)],20,[]⟩),
    fun y=>belP c x.nd=y.1 ++ belP c y.2∧(0≤y.2∧y.2 < c.rv.n)∧(y.1.length:Int)≤y.2,fun y=>(c.rv.n - y.2).toNat,([],x.nd),⟨rfl,hxn,hxn.1⟩,
    ?_,fun y hy=>?_⟩
  · dsimp only
    rw [show G ++ hitN n i []=G by simp [hitN]]
    exact Shift.rename [(.l 40 0,.x 5)] ⟨rfl,rfl,rfl,trivial⟩ ⟨rfl,rfl,rfl,rfl,rfl,rfl,trivial⟩ rfl rfl rfl
  obtain ⟨O,q⟩:=y
  obtain ⟨hE,hq,hO⟩:=hy
  dsimp only at hE hq hO ⊢
  have hmO:=eL_len (G ++ hitN n i O)
  have hol:=hitN_len n i O
  have hjs:(G ++ hitN n i O).length≤1000:=by rw [List.length_append];omega
  conv=>whnf
  refine Fork.mk (fun h=>?_) (fun h=>?_)
  rotate_left
  · have hlt:lnk c.rv.ls q < 0:=by simp at h;omega
    clear h
    rw [belP_end hlt,List.append_nil] at hE
    conv=>whnf
    refine ⟨[.l 40 0],[40],⟨rfl,rfl,rfl,rfl⟩,?_⟩
    conv=>whnf
    refine ⟨rfl,rfl,?_⟩
    conv=>whnf
    rw [hwi]
    rw [hE] at hg1
    exact ⟨i+1,hi2,Shift.rename [(.l 40 3,.l 40 11)] ⟨rfl,rfl,rfl,rfl,rfl,trivial⟩ ⟨rfl,rfl,by dsimp only;rw [hg1];rfl,by dsimp only;rw [hg1];rfl,trivial⟩ rfl rfl rfl,by omega⟩
  have hge:0≤lnk c.rv.ls q:=by simpa using h
  clear h
  obtain ⟨J,l,hJ1,hJ2,hJ3⟩:∃ (j:Nat) (a:Lk),c.rv.ls[j]?=some a∧a.fr=q∧lnk c.rv.ls q=j:=by
    rcases lnk_spec c.rv.ls q with ⟨h,_⟩ | h
    · omega
    · exact h
  have hJl:=(List.getElem?_eq_some_iff.1 hJ1).1
  have hk:=hr.l l (List.mem_of_getElem? hJ1)
  have hk1:=hk.o
  have hk2:=hk.t
  have hS:=belP_step hr hq.1 hJ3 hJ1 hJ2
  rw [hS] at hE
  have hsn:=hitN_snoc n i O l.to
  rw [hJ3]
  conv=>whnf
  refine ⟨by omega,lkC l,by rw [Int.toNat_natCast,List.getElem?_map,hJ1];rfl,rfl,?_⟩
  conv=>whnf
  refine ⟨rfl,?_⟩
  conv=>whnf
  refine ⟨rfl,?_⟩
  conv=>whnf
  refine Fork.mk (fun h=>?_) (fun h=>?_)
  · have hz:l.to=n:=by simpa using h
    rw [if_pos hz] at hsn
    clear h
    conv=>whnf
    refine ⟨by simp,?_⟩
    conv=>whnf
    refine ⟨rfl,?_⟩
    conv=>whnf
    refine ⟨⟨rfl,rfl,rfl,hmO.symm,by rw [hmO];simp;simp at hjs;omega⟩,?_⟩
    conv=>whnf
    refine Fork.mk (fun h=>by cases h) (fun _=>?_)
    conv=>whnf
    refine ⟨c,l.to,rfl,by omega,?_⟩
    conv=>whnf
    refine Fork.mk (fun h=>?_) (fun h=>?_)
    · have h5:0≤snA c.si l.to:=by simpa using h
      clear h
      rw [if_pos h5] at hE
      conv=>whnf
      refine ⟨[.l 40 21],[40],⟨rfl,rfl,rfl,rfl⟩,?_⟩
      conv=>whnf
      refine ⟨rfl,rfl,?_⟩
      conv=>whnf
      have e3:G ++ hitN n i (belP c x.nd)=(G ++ hitN n i O) ++ [(i:Int)]:=by rw [hE,hsn,List.append_assoc]
      rw [hwi]
      exact ⟨i+1,hi2,Shift.rename [(.l 40 3,.l 40 11)] ⟨rfl,rfl,rfl,rfl,rfl,trivial⟩ ⟨rfl,rfl,by dsimp only;rw [hg1,e3,List.length_append,← hmO];rfl,by dsimp only;rw [hg1,e3,← eL_snoc];rfl,trivial⟩ rfl rfl rfl,by omega⟩
    have h5:¬ 0≤snA c.si l.to:=by simpa using h
    clear h
    rw [if_neg h5] at hE
    conv=>whnf
    refine ⟨c,l.to,rfl,by omega,?_⟩
    conv=>whnf
    have e4:G ++ hitN n i (O ++ [l.to])=(G ++ hitN n i O) ++ [(i:Int)]:=by rw [hsn,List.append_assoc]
    exact ⟨(O ++ [l.to],l.to),⟨by dsimp only;rw [hE];simp,by dsimp only;omega,by dsimp only;rw [List.length_append];simp;omega⟩,Shift.rename [(.l 40 0,.l 40 21)] ⟨rfl,rfl,rfl,trivial⟩ ⟨rfl,rfl,rfl,by dsimp only;rw [e4,List.length_append,← hmO];rfl,rfl,by dsimp only;rw [e4,← eL_snoc];rfl,trivial⟩ rfl rfl rfl,by dsimp only;omega⟩
  have hz:¬ l.to=n:=by simpa using h
  rw [if_neg hz] at hsn
  clear h
  conv=>whnf
  refine Fork.mk (fun h=>by cases h) (fun _=>?_)
  conv=>whnf
  refine ⟨c,l.to,rfl,by omega,?_⟩
  conv=>whnf
  refine Fork.mk (fun h=>?_) (fun h=>?_)
  · have h5:0≤snA c.si l.to:=by simpa using h
    clear h
    rw [if_pos h5] at hE
    conv=>whnf
    refine ⟨[.l 40 0],[40],⟨rfl,rfl,rfl,rfl⟩,?_⟩
    conv=>whnf
    refine ⟨rfl,rfl,?_⟩
    conv=>whnf
    have e3:G ++ hitN n i (belP c x.nd)=G ++ hitN n i O:=by rw [hE,hsn]
    rw [hwi]
    exact ⟨i+1,hi2,Shift.rename [(.l 40 3,.l 40 11)] ⟨rfl,rfl,rfl,rfl,rfl,trivial⟩ ⟨rfl,rfl,by dsimp only;rw [hg1,e3];rfl,by dsimp only;rw [hg1,e3];rfl,trivial⟩ rfl rfl rfl,by omega⟩
  have h5:¬ 0≤snA c.si l.to:=by simpa using h
  clear h
  rw [if_neg h5] at hE
  conv=>whnf
  refine ⟨c,l.to,rfl,by omega,?_⟩
  conv=>whnf
  have e4:G ++ hitN n i (O ++ [l.to])=G ++ hitN n i O:=by rw [hsn]
  exact ⟨(O ++ [l.to],l.to),⟨by dsimp only;rw [hE];simp,by dsimp only;omega,by dsimp only;rw [List.length_append];simp;omega⟩,Shift.rename [] ⟨rfl,rfl,rfl,trivial⟩ ⟨rfl,rfl,rfl,by dsimp only;rw [e4];rfl,rfl,by dsimp only;rw [e4];rfl,trivial⟩ rfl rfl rfl,by dsimp only;omega⟩
end Go.Proofs

namespace Go.Proofs
open Go Go.Abs
set_option linter.unusedSimpArgs false
set_option linter.unusedVariables false
set_option maxRecDepth 40000
def c0:Cs:=⟨⟨3,[⟨0,1,[0,1],1⟩,⟨1,2,[0,0,1],1⟩]⟩,[]⟩
def s0:Fl:=⟨0,[],[[],[]]⟩
set_option maxHeartbeats 4000000 in
theorem fo0:foX c0 s0 [[],[],[],[]] [[5,0,0],[0,0,0],[0,0,0],[0,0,0]]=.ok [[5,0,0],[0,5,0],[0,0,0],[0,0,5]]:=by rfl
theorem c0_fin:c0.fin:=⟨⟨by decide,by decide⟩,by decide,by simp [c0]⟩
theorem s0_fin:s0.fin:=⟨by decide,by simp [s0],by simp [vfin,s0]⟩
theorem ab0:abS c0 2=([],0):=by rfl
theorem bw0:bwS c0 0=([],40):=by rfl
set_option maxHeartbeats 4000000 in
theorem sane_ok:FunR Tryz.prog 9 R_tt:=by
  intro args k h
  obtain ⟨rfl,hk⟩:=h
  refine does_ex (qc:=qc1) (np:=[(2,[(0,1),(0,3),(0,4),(0,5),(0,6),(0,7),(0,8),(1,3),(1,4),(1,5),(1,6),(1,7),(1,8),(3,4),(3,5),(3,6),(3,7),(3,8),(4,5),(4,6),(4,7),(5,6),(5,7),(6,7)])]) (CK:=ckK [(17,cPu R_fo),(23,cPu R_abv),(20,cPu R_bw)]) mixed Tryz.func9 rfl rfl Tryz.ntmps9 Tryz.results9 τ_ok (by kernel_rfl) (ckK_ok ⟨cPu_ok follow_ok rfl,cPu_ok abv_ok rfl,cPu_ok bel_ok rfl,trivial⟩) (by simp) ?_
  conv=>whnf
  repeat (refine ⟨Nat.le_of_ble_eq_true rfl,?_⟩;conv=>whnf)
  refine ⟨⟨rfl,by decide,by decide⟩,?_⟩
  conv=>whnf
  repeat (refine ⟨Nat.le_of_ble_eq_true rfl,?_⟩;conv=>whnf)
  refine ⟨c0,s0,[[],[],[],[]],[[5,0,0],[0,0,0],[0,0,0],[0,0,0]],rfl,c0_fin,s0_fin,by simp [vfin],by simp [vfin],?_⟩
  rw [fo0]
  conv=>whnf
  repeat (refine ⟨Nat.le_of_ble_eq_true rfl,?_⟩;conv=>whnf)
  refine ⟨c0,2,rfl,c0_fin,?_⟩
  rw [ab0]
  conv=>whnf
  repeat (refine ⟨Nat.le_of_ble_eq_true rfl,?_⟩;conv=>whnf)
  refine ⟨c0,0,rfl,c0_fin,?_⟩
  rw [bw0]
  conv=>whnf
  repeat (first | (refine Fork.mk (fun _=>?_) (fun h=>absurd h (by decide));conv=>whnf) | (refine ⟨by decide,_,rfl,rfl,?_⟩;conv=>whnf))
  exact hk
end Go.Proofs

/- Little water travels well, also if some flows leave sites. No program. -/
namespace Go.Proofs
open Go Go.Abs
set_option linter.unusedSimpArgs false
set_option linter.unusedVariables false
end Go.Proofs

/- What arrives in a step of a cascade is what is told for what left its sites. No program. -/
namespace Go.Proofs
open Go Go.Abs
set_option linter.unusedSimpArgs false
set_option linter.unusedVariables false
end Go.Proofs

/- Little water stays little, also if dams let some of theirs go. No program. -/
namespace Go.Proofs
open Go Go.Abs
set_option linter.unusedSimpArgs false
set_option linter.unusedVariables false
end Go.Proofs

/- The water of a cascade that a deck makes is little. No program. -/
namespace Go.Proofs
open Go Go.Abs
set_option linter.unusedSimpArgs false
set_option linter.unusedVariables false
end Go.Proofs

/- A run of a cascade: what arrives is what is told for what left its sites. No program. -/
namespace Go.Proofs
open Go Go.Abs
set_option linter.unusedSimpArgs false
set_option linter.unusedVariables false
theorem runsC.len {c:Cs} {s:Fl} {l:List Su} {xs:List Pd} {b:Fl} (h:runsC c s l xs b):xs.length=l.length:=by
  induction h with
  | nil=>rfl
  | snoc _ _ ih=>simp [ih]
end Go.Proofs

/- What passes in a run is little. No program. -/
namespace Go.Proofs
open Go Go.Abs
set_option linter.unusedSimpArgs false
set_option linter.unusedVariables false
structure pdOk (c:Cs) (x:Pd):Prop where
  lr:x.re.length=c.si.length
  lc:x.came.length=c.rv.ls.length
  r:∀ r ∈ x.re,(0≤r.tur∧0≤r.spi∧0≤r.ovr)∧floR r≤100000000
  c:∀ v ∈ x.came,0≤v∧v≤1125899906842624
end Go.Proofs

namespace Go.Proofs
open Go Go.Abs
set_option linter.unusedSimpArgs false
set_option linter.unusedVariables false
set_option maxRecDepth 40000
end Go.Proofs

/- Sites above a node and nodes below a site. No program. -/
namespace Go.Proofs
open Go Go.Abs
set_option linter.unusedSimpArgs false
set_option linter.unusedVariables false
theorem cutS_pre (si:List Si):∀ l:Ls,cutS si l=l.take (cutS si l).length
  | []=>rfl
  | x :: r=>by
    rw [cutS]
    split
    · simp
    · rw [List.length_cons,List.take_succ_cons,← cutS_pre si r]
theorem bel_path {c:Cs} (hc:CsOk c) {i:Nat} {x:Si} (hx:c.si[i]?=some x):belF c i=((pathR c.rv x.nd).drop 1).take (belF c i).length∧(belF c i).length≤(pathR c.rv x.nd).length - 1:=by
  have e:belF c i=cutS c.si (pathR c.rv x.nd).tail:=by unfold belF;rw [hx];rfl
  rw [e]
  have h1:=cutS_pre c.si (pathR c.rv x.nd).tail
  have h2:=cutS_len c.si (pathR c.rv x.nd).tail
  rw [List.length_tail] at h2
  refine ⟨?_,h2⟩
  rw [List.drop_one]
  exact h1
end Go.Proofs

/- The least and the greatest number of steps from a node to another one. No program. -/
namespace Go.Proofs
open Go Go.Abs
set_option linter.unusedSimpArgs false
set_option linter.unusedVariables false
def posG:Nat→Ls→Int
  | _,[]=>-1
  | i,x :: r=>if decide (0 < x)=true then (i:Int) else posG (i+1) r
abbrev pos (ws:Ls):Int:=posG 0 ws
theorem posG_spec:∀ {l:Ls} {i:Nat},(posG i l=-1∧∀ x ∈ l,x≤0) ∨ ∃ (j:Nat) (x:Int),l[j]?=some x∧0 < x∧posG i l=((i+j:Nat):Int)∧∀ (k:Nat) y,k < j→l[k]?=some y→y≤0
  | [],i=>.inl ⟨rfl,fun x h=>by simp at h⟩
  | x :: r,i=>by
    rw [posG]
    by_cases h:0 < x
    · rw [if_pos (by simp [h])]
      exact .inr ⟨0,x,rfl,h,rfl,fun k y h=>by omega⟩
    · rw [if_neg (by simp [h])]
      rcases posG_spec (l:=r) (i:=i+1) with ⟨h1,h2⟩ | ⟨j,y,h1,h2,h3,h4⟩
      · exact .inl ⟨h1,fun z hz=>by
          rcases List.mem_cons.1 hz with rfl | hz
          · omega
          · exact h2 z hz⟩
      · refine .inr ⟨j+1,y,by simpa using h1,h2,by rw [h3];congr 1;omega,fun k z hk hz=>?_⟩
        cases k with
        | zero=>simp at hz;omega
        | succ k=>exact h4 k z (by omega) (by simpa using hz)
theorem sum_np {l:Ls} (h:∀ x ∈ l,x≤0):l.sum≤0:=by
  induction l with
  | nil=>simp
  | cons x r ih =>
    have:=h x (by simp)
    have:=ih fun y hy=>h y (by simp [hy])
    rw [List.sum_cons]
    omega
/-- Where the first weight is that is not 0. -/
theorem pos_ok {ws:Ls} {den:Int} (h:rkCheck ws den=0):∃ (j:Nat) (x:Int),ws[j]?=some x∧0 < x∧pos ws=j∧j < ws.length∧ws.length≤24∧∀ (k:Nat) y,k < j→ws[k]?=some y→y=0:=by
  obtain ⟨h1,h2,h3,h4,h5,h6,h7⟩:=rk_facts h
  rcases posG_spec (l:=ws) (i:=0) with ⟨_,g⟩ | ⟨j,x,g1,g2,g3,g4⟩
  · have:=sum_np g;omega
  · refine ⟨j,x,g1,g2,by rw [pos,g3,Nat.zero_add],(List.getElem?_eq_some_iff.1 g1).1,h2,fun k y hk hy=>?_⟩
    have:=g4 k y hk hy
    have:=(h7 y (List.mem_of_getElem? hy)).1
    omega
def lagW (ls:List Lk) (t:Int):List Nat→Int→Option (Int × Int)
  | [],f=>if f=t then some (0,0) else none
  | i :: w,f=>if f=t then some (0,0) else match ls[i]? with
    | none=>none
    | some l=>(lagW ls t w l.to).map fun x=>(pos l.ws+x.1,(l.ws.length:Int) - 1+x.2)
def lagR (r:Rv) (f t:Int):Option (Int × Int):=lagW r.ls t (wayR r f) f
theorem lagR_eq (r:Rv) (t:Int):lagR r t t=some (0,0):=by
  unfold lagR
  cases wayR r t <;> simp [lagW]
theorem lagR_end {r:Rv} {f t:Int} (h:lnk r.ls f < 0) (hne:f ≠ t):lagR r f t=none:=by
  unfold lagR
  rw [wayR_end h,lagW,if_neg hne]
theorem lagR_step {r:Rv} (hr:RvOk r) {f t:Int} (hf0:0≤f) (hne:f ≠ t) {i:Nat} {l:Lk} (h:lnk r.ls f=i) (hl:r.ls[i]?=some l) (hf:l.fr=f):lagR r f t=(lagR r l.to t).map fun x=>(pos l.ws+x.1,(l.ws.length:Int) - 1+x.2):=by
  unfold lagR
  rw [wayR_step hr hf0 h hl hf,lagW,if_neg hne,hl]
theorem lnk_at (ls:List Lk) (f:Int):lnk ls f < 0 ∨ ∃ (i:Nat) (l:Lk),lnk ls f=i∧ls[i]?=some l∧l.fr=f:=by
  rcases lnk_spec ls f with ⟨h,_⟩ | ⟨j,a,h1,h2,h3⟩
  · exact .inl (by omega)
  · exact .inr ⟨j,a,h3,h1,h2⟩
theorem lagR_past {r:Rv} (hr:RvOk r) {t:Int}:∀ (m:Nat) (f:Int),(r.n - f).toNat≤m→0≤f→t < f→f < r.n→lagR r f t=none
  | 0,f,h,h0,ht,hn=>by omega
  | m+1,f,h,h0,ht,hn=>by
    rcases lnk_at r.ls f with hl | ⟨i,l,h1,h2,h3⟩
    · exact lagR_end hl (by omega)
    · have hk:=hr.l l (List.mem_of_getElem? h2)
      have k2:=hk.o
      have k3:=hk.t
      rw [lagR_step hr h0 (by omega) h1 h2 h3,lagR_past hr m l.to (by omega) (by omega) (by omega) k3]
      rfl
def trvM:Option (Int × Int)→Int × Int × Bool × Int
  | some x=>(x.1,x.2,true,0)
  | none=>(0,0,false,0)
/-- The answer of Travel. -/
def trvS (r:Rv) (f t:Int):Int × Int × Bool × Int:=if rvE r ≠ 0 then (0,0,false,rvE r) else if inN r.n f=false then (0,0,false,11) else if inN r.n t=false then (0,0,false,11) else trvM (lagR r f t)
def R_trv:RT:=fun args k=>∃ (r:Rv) (f t:Int),args=[.agg (rvC r),I f,I t]∧r.fin∧k (.tup [I (trvS r f t).1,I (trvS r f t).2.1,Bo (trvS r f t).2.2.1,I (trvS r f t).2.2.2])
theorem kTrv {k:AV→Prop} {x y:Int × Int × Bool × Int} (h:k (.tup [I x.1,I x.2.1,Bo x.2.2.1,I x.2.2.2])) (e:x=y):k (.tup [I y.1,I y.2.1,Bo y.2.2.1,I y.2.2.2]):=by subst e;exact h
/-- While the way is gone. -/
structure lgI (r:Rv) (f0 t f a b:Int):Prop where
  hf:0≤f∧f < r.n
  ha:0≤a∧a≤24 * f
  hb:0≤b∧b≤24 * f
  he:lagR r f0 t=(lagR r f t).map fun x=>(a+x.1,b+x.2)
theorem lgI.zero {r:Rv} {f t:Int} (h:0≤f∧f < r.n):lgI r f t f 0 0:=⟨h,by omega,by omega,by cases lagR r f t <;> simp⟩
theorem lgI.done {r:Rv} {f0 t a b:Int} (h:lgI r f0 t t a b):lagR r f0 t=some (a,b):=by
  rw [h.he,lagR_eq]
  simp
theorem lgI.no {r:Rv} {f0 t f a b:Int} (h:lgI r f0 t f a b) (hl:lagR r f t=none):lagR r f0 t=none:=by
  rw [h.he,hl]
  rfl
theorem lgI.next {r:Rv} (hr:RvOk r) {f0 t f a b:Int} (h:lgI r f0 t f a b) (hne:f ≠ t) {i:Nat} {l:Lk} (h1:lnk r.ls f=i) (h2:r.ls[i]?=some l) (h3:l.fr=f):lgI r f0 t l.to (a+pos l.ws) (b+((l.ws.length:Int) - 1)):=by
  have hk:=hr.l l (List.mem_of_getElem? h2)
  have k2:=hk.o
  have k3:=hk.t
  obtain ⟨j,x,p1,p2,p3,p4,p5,p6⟩:=pos_ok hk.r
  have ha:=h.ha
  have hb:=h.hb
  have hf:=h.hf
  refine ⟨by omega,by omega,by omega,?_⟩
  rw [h.he,lagR_step hr hf.1 hne h1 h2 h3]
  cases lagR r l.to t with
  | none=>rfl
  | some x=>simp;omega
/-- The answer of Lags. -/
def lagsS (c:Cs) (i m:Int):Int × Int × Int:=if csE c ≠ 0 then (0,0,csE c) else if i < 0 then (0,0,40) else if (c.si.length:Int)≤i then (0,0,40) else if (belF c i.toNat).any (fun y=>decide (y=m))=false then (0,0,41) else match c.si[i.toNat]? with
  | none=>(0,0,0)
  | some x=>match lagR c.rv x.nd m with
    | some z=>(z.1,z.2,0)
    | none=>(0,0,0)
def R_lags:RT:=fun args k=>∃ (c:Cs) (i m:Int),args=[.agg (csC c),I i,I m]∧c.fin∧k (.tup [I (lagsS c i m).1,I (lagsS c i m).2.1,I (lagsS c i m).2.2])
theorem kLg {k:AV→Prop} {x y:Int × Int × Int} (h:k (.tup [I x.1,I x.2.1,I x.2.2])) (e:x=y):k (.tup [I y.1,I y.2.1,I y.2.2]):=by subst e;exact h
theorem bel_in {c:Cs} (hc:CsOk c) {i:Nat} {x:Si} (hx:c.si[i]?=some x) {m:Int} (h:(belF c i).any (fun y=>decide (y=m))=true):0≤m∧m < c.rv.n:=by
  obtain ⟨y,hy,hm⟩:=List.any_eq_true.1 h
  have hm:y=m:=by simpa using hm
  subst hm
  have hxn:=(hc.s x (List.mem_of_getElem? hx)).1
  rw [(bel_path hc hx).1] at hy
  have h1:=List.mem_of_mem_drop (List.mem_of_mem_take hy)
  have:=(path_facts hc.r _ x.nd (Nat.le_refl _) hxn).1 y h1
  omega
end Go.Proofs
