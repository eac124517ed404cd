/- Proved here: what functions of the given program come to, and the plain laws of it; no condition but those in the theorems. -/
import Derived.Test.YtgllikepncnpkaaGreatA34y
import Derived.Test.YtgllikepncnpkaaGreatA34w
namespace Go.Proofs
open Go Go.Abs
set_option linter.unusedSimpArgs false
set_option linter.unusedVariables false
set_option maxRecDepth 40000
def c0 : Cs:=⟨⟨3,[⟨0,1,[0,1],1⟩,⟨1,2,[0,0,1],1⟩]⟩,[]⟩
def s0 : Fl:=⟨0,[],[[],[]]⟩
set_option maxHeartbeats 4000000 in
theorem fo0 : foX c0 s0 [[],[],[],[]] [[5,0,0],[0,0,0],[0,0,0],[0,0,0]] = .ok [[5,0,0],[0,5,0],[0,0,0],[0,0,5]]:=by rfl
theorem c0_fin : c0.fin:=⟨⟨by decide,by decide⟩,by decide,by simp [c0]⟩
theorem s0_fin : s0.fin:=⟨by decide,by simp [s0],by simp [vfin,s0]⟩
theorem ab0 : abS c0 2 = ([],0):=by rfl
theorem bw0 : bwS c0 0 = ([],40):=by rfl
set_option maxHeartbeats 4000000 in
theorem sane_ok : FunR Tryz.prog 9 R_tt:=by
  intro args k h
  obtain ⟨rfl,hk⟩:=h
  refine does_ex (qc:=qc1) (np:=[(2,[(0,1),(0,3),(0,4),(0,5),(0,6),(0,7),(0,8),(1,3),(1,4),(1,5),(1,6),(1,7),(1,8),(3,4),(3,5),(3,6),(3,7),(3,8),(4,5),(4,6),(4,7),(5,6),(5,7),(6,7)])]) (CK:=ckK [(17,cPu R_fo),(23,cPu R_abv),(20,cPu R_bw)]) mixed Tryz.func9 rfl rfl Tryz.ntmps9 Tryz.results9 τ_ok (by kernel_rfl) (ckK_ok ⟨cPu_ok follow_ok rfl,cPu_ok abv_ok rfl,cPu_ok bel_ok rfl,trivial⟩) (by simp) ?_
  conv=>whnf
  repeat (refine ⟨Nat.le_of_ble_eq_true rfl,?_⟩;conv=>whnf)
  refine ⟨⟨rfl,by decide,by decide⟩,?_⟩
  conv=>whnf
  repeat (refine ⟨Nat.le_of_ble_eq_true rfl,?_⟩;conv=>whnf)
  refine ⟨c0,s0,[[],[],[],[]],[[5,0,0],[0,0,0],[0,0,0],[0,0,0]],rfl,c0_fin,s0_fin,by simp [vfin],by simp [vfin],?_⟩
  rw [fo0]
  conv=>whnf
  repeat (refine ⟨Nat.le_of_ble_eq_true rfl,?_⟩;conv=>whnf)
  refine ⟨c0,2,rfl,c0_fin,?_⟩
  rw [ab0]
  conv=>whnf
  repeat (refine ⟨Nat.le_of_ble_eq_true rfl,?_⟩;conv=>whnf)
  refine ⟨c0,0,rfl,c0_fin,?_⟩
  rw [bw0]
  conv=>whnf
  repeat (first | (refine Fork.mk (fun _=>?_) (fun h=>absurd h (by decide));conv=>whnf) | (refine ⟨by decide,_,rfl,rfl,?_⟩;conv=>whnf))
  exact hk
end Go.Proofs

/- Little water travels well, also if some flows leave sites. No program. -/
namespace Go.Proofs
open Go Go.Abs
set_option linter.unusedSimpArgs false
set_option linter.unusedVariables false
end Go.Proofs

/- What arrives in a step of a cascade is what is told for what left its sites. No program. -/
namespace Go.Proofs
open Go Go.Abs
set_option linter.unusedSimpArgs false
set_option linter.unusedVariables false
end Go.Proofs

/- Little water stays little, also if dams let some of theirs go. No program. -/
namespace Go.Proofs
open Go Go.Abs
set_option linter.unusedSimpArgs false
set_option linter.unusedVariables false
end Go.Proofs

/- The water of a cascade that a deck makes is little. No program. -/
namespace Go.Proofs
open Go Go.Abs
set_option linter.unusedSimpArgs false
set_option linter.unusedVariables false
end Go.Proofs

/- A run of a cascade: what arrives is what is told for what left its sites. No program. -/
namespace Go.Proofs
open Go Go.Abs
set_option linter.unusedSimpArgs false
set_option linter.unusedVariables false
theorem runsC.len {c : Cs} {s : Fl} {l : List Su} {xs : List Pd} {b : Fl} (h : runsC c s l xs b) : xs.length = l.length:=by
  induction h with
  | nil=>rfl
  | snoc _ _ ih=>simp [ih]
end Go.Proofs

/- What passes in a run is little. No program. -/
namespace Go.Proofs
open Go Go.Abs
set_option linter.unusedSimpArgs false
set_option linter.unusedVariables false
structure pdOk (c : Cs) (x : Pd) : Prop where
  lr : x.re.length = c.si.length
  lc : x.came.length = c.rv.ls.length
  r : ∀ r ∈ x.re,(0≤r.tur∧0≤r.spi∧0≤r.ovr)∧floR r≤100000000
  c : ∀ v ∈ x.came,0≤v∧v≤1125899906842624
end Go.Proofs

namespace Go.Proofs
open Go Go.Abs
set_option linter.unusedSimpArgs false
set_option linter.unusedVariables false
set_option maxRecDepth 40000
def R_l34 : RT:=fun args k=>∃ l : Ls,args = [.c (.lst (eL l))]∧l.length≤9223372036854775807∧k (Bo true)
end Go.Proofs

/- Sites above a node and nodes below a site. No program. -/
namespace Go.Proofs
open Go Go.Abs
set_option linter.unusedSimpArgs false
set_option linter.unusedVariables false
theorem cutS_pre (si : List Si) : ∀ l : Ls,cutS si l = l.take (cutS si l).length
  | []=>rfl
  | x :: r=>by
    rw [cutS]
    split
    · simp
    · rw [List.length_cons,List.take_succ_cons,← cutS_pre si r]
theorem cutS_no (si : List Si) : ∀ (l : Ls) (k : Nat) (z : Int),k + 1 < (cutS si l).length→(cutS si l)[k]? = some z→snA si z < 0
  | [],k,z,h,_=>by simp [cutS] at h
  | x :: r,k,z,h,e=>by
    rw [cutS] at h e
    split at h
    · simp at h
    · rename_i hx
      rw [if_neg hx] at e
      cases k with
      | zero =>
        simp at e
        subst e
        omega
      | succ k =>
        rw [List.length_cons] at h
        exact cutS_no si r k z (by omega) (by simpa using e)
theorem snA_no {si : List Si} {z : Int} (h : snA si z < 0) : ∀ y ∈ si,y.nd ≠ z:=by
  rcases snGo_is (x:=z) (l:=si) (i:=0) with ⟨_,h1⟩ | ⟨j,s,_,_,h3⟩
  · exact h1
  · unfold snA at h
    omega
theorem hitN_any (n : Int) (j i : Nat) : ∀ l : Ls,(hitN n j l).any (fun y=>decide (y = (i : Int))) = (decide (j = i) && l.any (fun y=>decide (y = n)))
  | []=>by simp [hitN]
  | x :: r=>by
    have ih:=hitN_any n j i r
    have e : hitN n j (x :: r) = if x = n then (j : Int) :: hitN n j r else hitN n j r:=by
      unfold hitN
      rw [List.filter_cons]
      by_cases h : x = n <;> simp [h]
    rw [e]
    by_cases h : x = n
    · rw [if_pos h,List.any_cons,List.any_cons,ih]
      by_cases hj : j = i
      · simp [hj,h]
      · have : ¬ (j : Int) = i:=by omega
        simp [hj,this]
    · rw [if_neg h,List.any_cons,ih]
      simp [h]
theorem abG_any (c : Cs) (n : Int) (i : Nat) : ∀ j,(abG c n j).any (fun y=>decide (y = (i : Int))) = (decide (i < j) && (belF c i).any (fun y=>decide (y = n)))
  | 0=>by simp [abG]
  | j + 1=>by
    rw [abG,List.any_append,abG_any c n i j,hitN_any]
    by_cases h : j = i
    · subst h;simp
    · by_cases h2 : i < j
      · have : i < j + 1:=by omega
        simp [h,h2,this]
      · have : ¬ i < j + 1:=by omega
        simp [h,h2,this]
/-- A site is above a node just when the node is below it. -/
theorem abv_law {c : Cs} {n : Int} (hc : CsOk c) (h0 : 0≤n) (h1 : n < c.rv.n) {i : Nat} (hi : i < c.si.length) : (abS c n).2 = 0∧(abS c n).1.any (fun y=>decide (y = (i : Int))) = (belF c i).any (fun y=>decide (y = n)):=by
  have e : abS c n = (abG c n c.si.length,0):=by rw [abS,if_neg (by simp [csE_of hc]),if_neg (by omega),if_neg (by omega)]
  rw [e]
  refine ⟨rfl,?_⟩
  dsimp only
  rw [abG_any]
  simp [hi]
theorem bel_path {c : Cs} (hc : CsOk c) {i : Nat} {x : Si} (hx : c.si[i]? = some x) : belF c i = ((pathR c.rv x.nd).drop 1).take (belF c i).length∧(belF c i).length≤(pathR c.rv x.nd).length - 1:=by
  have e : belF c i = cutS c.si (pathR c.rv x.nd).tail:=by unfold belF;rw [hx];rfl
  rw [e]
  have h1:=cutS_pre c.si (pathR c.rv x.nd).tail
  have h2:=cutS_len c.si (pathR c.rv x.nd).tail
  rw [List.length_tail] at h2
  refine ⟨?_,h2⟩
  rw [List.drop_one]
  exact h1
theorem bel_last {c : Cs} {i : Nat} {k : Nat} {z : Int} (hk : k + 1 < (belF c i).length) (hz : (belF c i)[k]? = some z) : ∀ y ∈ c.si,y.nd ≠ z:=by
  cases hx : c.si[i]? with
  | none=>rw [belF,hx] at hk;simp at hk
  | some x =>
    rw [belF,hx] at hk hz
    exact snA_no (cutS_no c.si _ k z hk hz)
end Go.Proofs

namespace Go.Proofs
open Go Go.Abs
set_option linter.unusedSimpArgs false
set_option linter.unusedVariables false
set_option maxRecDepth 40000
set_option maxHeartbeats 4000000 in
theorem tabv_ok : FunR Tryz.prog 5 R_l34:=by
  intro args k h
  obtain ⟨l,rfl,hl,hk⟩:=h
  refine does_ex (qc:=qc1) (np:=[]) (CK:=ckK [(9,cSc R_tt),(10,cSc R_few),(11,cN R_new),(12,cB R_mkRi),(20,cPu R_bw),(21,cPu R_pth),(22,cSc R_ints),(23,cPu R_abv),(24,cSc R_has)]) mixed Tryz.func5 rfl rfl Tryz.ntmps5 Tryz.results5 τ_ok (by kernel_rfl) (ckK_ok ⟨cSc_ok sane_ok,cSc_ok few_ok,cN_ok new_ok rfl,cB_ok mkRi_ok rfl,cPu_ok bel_ok rfl,cPu_ok rpth_ok rfl,cSc_ok ints_ok,cPu_ok abv_ok rfl,cSc_ok has_ok,trivial⟩) (by simp) ?_
  conv=>whnf
  refine ⟨rfl,?_⟩
  conv=>whnf
  refine Fork.mk (fun h=>by cases h) (fun _=>?_)
  conv=>whnf
  refine ⟨l,rfl,?_⟩
  conv=>whnf
  refine Fork.mk (fun h=>?_) (fun h=>?_)
  · conv=>whnf
    exact hk
  clear h
  conv=>whnf
  refine ⟨l,rfl,?_⟩
  conv=>whnf
  refine ⟨⟨l,0⟩,rfl,rfl,⟨Nat.zero_le _,hl⟩,fun c ds0 w n d hd hm hn hw=>?_⟩
  have hc:=hm.k
  have hcf:=hm.fin
  have hr:=hc.r
  have hrl:=hr.len
  have hrn:=hr.n
  have hcn:=hc.n
  have hcm:=hc.m
  have hmx:=eX_len c.si
  have hce:=csE_of hc
  conv=>whnf
  refine ⟨Nat,fun i=>([(3,.c (.ptr (.l 3 1) 0)),(30,.c (.lst (eX c.si))),(31,I (eX c.si).length),(32,I i)],⟨[(.l 3 1,.blk (csC c))],9,[]⟩),
    fun i=>i≤c.si.length,fun i=>c.si.length - i,0,Nat.zero_le _,Shift.rename [] ⟨rfl,rfl,rfl,rfl,trivial⟩ ⟨rfl,trivial⟩ rfl rfl rfl,fun i hi=>?_⟩
  dsimp only
  conv=>whnf
  refine Fork.mk (fun h=>?_) (fun h=>?_)
  rotate_left
  · conv=>whnf
    exact hk
  have hi2 : i < c.si.length:=by simp at h;omega
  clear h
  have hwi:=wr_succ (i:=i) (by omega)
  have hcx:=List.getElem?_eq_getElem hi2
  have hxn:=(hc.s _ (List.getElem_mem hi2)).1
  generalize c.si[i] = x at hcx hxn
  have hB : bwS c i = (belF c i,0):=by rw [bwS,if_neg (by simp [hce]),if_neg (by omega),if_neg (by omega),Int.toNat_natCast]
  have hP : pthS c.rv x.nd = (pathR c.rv x.nd,0):=by rw [pthS,if_neg (by simp [rvE_of hr]),if_neg (by simp [inN];omega)]
  obtain ⟨hb1,hb2⟩:=bel_path hc hcx
  have hbl:=belF_len hc i
  have hpl : (pathR c.rv x.nd).length≤41:=by
    have:=path_len hr hxn
    rw [pathR,List.length_cons,List.length_map]
    omega
  conv=>whnf
  refine ⟨by omega,siC x,by rw [Int.toNat_natCast,List.getElem?_map,hcx];rfl,rfl,?_⟩
  conv=>whnf
  refine ⟨c,i,rfl,hcf,?_⟩
  have hp1 : 1≤(pathR c.rv x.nd).length:=by rw [pathR,List.length_cons];omega
  have hAb : ∀ m : Int,0≤m→m < c.rv.n→(abS c m).2 = 0∧(abS c m).1.any (fun y=>decide (y = (i : Int))) = (belF c i).any (fun y=>decide (y = m)):=fun m h0 h1=>abv_law hc h0 h1 hi2
  have hAk : ∀ m : Int,0≤m→m < c.rv.n→(abS c m).1.length≤240:=fun m h0 h1=>by
    have e : abS c m = (abG c m c.si.length,0):=by rw [abS,if_neg (by simp [hce]),if_neg (by omega),if_neg (by omega)]
    have:=abG_len hc m c.si.length
    rw [e]
    dsimp only
    omega
  have hLa : ∀ (k : Nat) (z : Int),k + 1 < (belF c i).length→(belF c i)[k]? = some z→∀ y ∈ c.si,y.nd ≠ z:=fun k z h1 h2=>bel_last h1 h2
  rw [hB]
  generalize belF c i = L0 at hb1 hb2 hbl hAb hLa
  dsimp only
  conv=>whnf
  refine Fork.mk (fun h=>absurd h (by decide)) (fun _=>?_)
  conv=>whnf
  refine ⟨c.rv,x.nd,rfl,hcf.r,?_⟩
  rw [hP]
  generalize pathR c.rv x.nd = P0 at hb1 hb2 hpl hp1
  dsimp only
  have hml:=eL_len L0
  have hmp:=eL_len P0
  have e1 : IntKind.i64.wrap ((((eL P0).length : Nat) : Int) - 1) = (P0.length : Int) - 1:=by rw [hmp];exact wrap_in (by omega) (by omega)
  have e2 : IntKind.i64.wrap (1 + (((eL L0).length : Nat) : Int)) = ((1 + L0.length : Nat) : Int):=by rw [hml,wrap_in (by omega) (by omega)];simp
  conv=>whnf
  rw [e1]
  refine Fork.mk (fun h=>?_) (fun _=>?_)
  · rw [decide_eq_true_eq] at h
    omega
  conv=>whnf
  rw [e2]
  have hsl : List.drop ((1 : Int)).toNat (List.take (((1 + L0.length : Nat) : Int)).toNat (eL P0)) = eL L0:=by
    rw [Int.toNat_natCast,show ((1 : Int)).toNat = 1 from rfl,List.drop_take,Nat.add_sub_cancel_left]
    show List.take L0.length (List.drop 1 (P0.map eI)) = L0.map eI
    rw [← List.map_drop,← List.map_take,← hb1]
  refine ⟨by omega,?_⟩
  conv=>whnf
  refine ⟨eL_all _,?_⟩
  rw [hsl]
  conv=>whnf
  refine ⟨L0,L0,rfl,by omega,?_⟩
  conv=>whnf
  rw [show decide (L0 = L0) = true by simp]
  refine Fork.mk (fun h=>absurd h (by decide)) (fun _=>?_)
  conv=>whnf
  refine ⟨Nat,fun m=>([(3,.c (.ptr (.l 3 1) 0)),(5,I i),(7,.c (.lst (eL L0))),(11,I m),(30,.c (.lst (eX c.si))),(31,I (eX c.si).length),(32,I i)],⟨[(.l 3 1,.blk (csC c))],20,[]⟩),
    fun m=>(m : Int)≤c.rv.n,fun m=>(c.rv.n - m).toNat,0,by dsimp only;omega,Shift.rename [] ⟨rfl,rfl,rfl,rfl,rfl,rfl,rfl,trivial⟩ ⟨rfl,trivial⟩ rfl rfl rfl,fun m hm2=>?_⟩
  dsimp only
  conv=>whnf
  refine Fork.mk (fun h=>?_) (fun h=>?_)
  · have hm3 : (m : Int) < c.rv.n:=by simpa using h
    clear h
    have hwm:=wr_succ (i:=m) (by omega)
    obtain ⟨g1,g2⟩:=hAb m (by omega) hm3
    conv=>whnf
    refine ⟨c,m,rfl,hcf,?_⟩
    rw [g1]
    have hAl:=hAk m (by omega) hm3
    generalize (abS c m).1 = A at g2 hAl
    conv=>whnf
    refine Fork.mk (fun h=>absurd h (by decide)) (fun _=>?_)
    conv=>whnf
    refine ⟨A,i,rfl,by omega,?_⟩
    conv=>whnf
    refine ⟨L0,m,rfl,by omega,?_⟩
    rw [g2]
    conv=>whnf
    refine Fork.mk (fun h=>?_) (fun _=>?_)
    · revert h
      cases L0.any (fun y=>decide (y = (m : Int))) <;> intro h <;> cases h
    conv=>whnf
    rw [hwm]
    exact ⟨m + 1,by omega,Shift.reset ⟨rfl,rfl,rfl,rfl,rfl,rfl,rfl,trivial⟩ ⟨rfl,trivial⟩ rfl rfl,by omega⟩
  have hme : (m : Int) = c.rv.n:=by simp at h;omega
  clear h
  conv=>whnf
  refine ⟨Nat,fun k=>([(3,.c (.ptr (.l 3 1) 0)),(7,.c (.lst (eL L0))),(30,.c (.lst (eX c.si))),(31,I (eX c.si).length),(32,I i),(93,.c (.lst (eL L0))),(94,I (eL L0).length),(95,I k)],⟨[(.l 3 1,.blk (csC c))],20,[]⟩),
    fun k=>k≤L0.length,fun k=>L0.length - k,0,Nat.zero_le _,Shift.rename [] ⟨rfl,rfl,rfl,rfl,rfl,rfl,rfl,rfl,trivial⟩ ⟨rfl,trivial⟩ rfl rfl rfl,fun k hk2=>?_⟩
  dsimp only
  conv=>whnf
  refine Fork.mk (fun h=>?_) (fun h=>?_)
  · have hk3 : k < L0.length:=by simp at h;omega
    clear h
    have hwk:=wr_succ (i:=k) (by omega)
    have hck:=List.getElem?_eq_getElem hk3
    have hno:=fun h=>hLa k _ h hck
    generalize L0[k] = z at hck hno
    have e3 : IntKind.i64.wrap ((((eL L0).length : Nat) : Int) - 1) = (L0.length : Int) - 1:=by rw [hml];exact wrap_in (by omega) (by omega)
    conv=>whnf
    refine ⟨by omega,eI z,by rw [Int.toNat_natCast,List.getElem?_map,hck];rfl,rfl,?_⟩
    conv=>whnf
    refine ⟨Nat,fun j=>([(3,.c (.ptr (.l 3 1) 0)),(7,.c (.lst (eL L0))),(14,I k),(15,I z),(30,.c (.lst (eX c.si))),(31,I (eX c.si).length),(32,I i),(93,.c (.lst (eL L0))),(94,I (eL L0).length),(95,I k),(101,.c (.lst (eX c.si))),(102,I (eX c.si).length),(103,I j)],⟨[(.l 3 1,.blk (csC c))],20,[]⟩),
      fun j=>j≤c.si.length,fun j=>c.si.length - j,0,Nat.zero_le _,Shift.rename [] ⟨rfl,rfl,rfl,rfl,rfl,rfl,rfl,rfl,rfl,rfl,rfl,rfl,rfl,trivial⟩ ⟨rfl,trivial⟩ rfl rfl rfl,fun j hj=>?_⟩
    dsimp only
    conv=>whnf
    refine Fork.mk (fun h=>?_) (fun h=>?_)
    rotate_left
    · conv=>whnf
      rw [hwk]
      exact ⟨k + 1,hk3,Shift.reset ⟨rfl,rfl,rfl,rfl,rfl,rfl,rfl,rfl,trivial⟩ ⟨rfl,trivial⟩ rfl rfl,by omega⟩
    have hj2 : j < c.si.length:=by simp at h;omega
    clear h
    have hwj:=wr_succ (i:=j) (by omega)
    have hcj:=List.getElem?_eq_getElem hj2
    have hny:=fun h=>hno h _ (List.getElem_mem hj2)
    generalize c.si[j] = y at hcj hny
    conv=>whnf
    refine ⟨by omega,siC y,by rw [Int.toNat_natCast,List.getElem?_map,hcj];rfl,rfl,?_⟩
    conv=>whnf
    refine Fork.mk (fun h=>?_) (fun h=>?_)
    · have hz : y.nd = z:=by simpa using h
      have hkl : ¬ k + 1 < L0.length:=fun h=>hny h hz
      conv=>whnf
      rw [e3]
      refine Fork.mk (fun h=>?_) (fun _=>?_)
      · rw [decide_eq_true_eq] at h
        omega
      conv=>whnf
      rw [hwj]
      exact ⟨j + 1,hj2,Shift.reset ⟨rfl,rfl,rfl,rfl,rfl,rfl,rfl,rfl,rfl,rfl,rfl,rfl,rfl,trivial⟩ ⟨rfl,trivial⟩ rfl rfl,by omega⟩
    conv=>whnf
    refine Fork.mk (fun h=>by cases h) (fun _=>?_)
    conv=>whnf
    rw [hwj]
    exact ⟨j + 1,hj2,Shift.reset ⟨rfl,rfl,rfl,rfl,rfl,rfl,rfl,rfl,rfl,rfl,rfl,rfl,rfl,trivial⟩ ⟨rfl,trivial⟩ rfl rfl,by omega⟩
  conv=>whnf
  rw [hwi]
  exact ⟨i + 1,hi2,Shift.reset ⟨rfl,rfl,rfl,rfl,trivial⟩ ⟨rfl,trivial⟩ rfl rfl,by omega⟩
end Go.Proofs
