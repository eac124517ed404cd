/- Proved here: what functions of the given program come to, for the statements of this chapter; no condition but those in the theorems. -/
import Derived.Test.YtnmijdmpbpnjhaaL05d
namespace Go.Proofs
open Go.Abs
set_option linter.unusedSimpArgs false
set_option linter.unusedVariables false
set_option maxRecDepth 4000
theorem map_at0 {α β : Type} (e : α → β) (l : List α) {j : Nat} (h : j < l.length) : (l.map e)[0 + j]? = some (e l[j]) := by
  rw [Nat.zero_add, List.getElem?_map, List.getElem?_eq_getElem h]; rfl
theorem set_x (l : List Pt) {i : Nat} (hi : i < l.length) (v : Int) : (l.map ePt).set (0 + (i : Int).toNat) [IC v, IC l[i].2] = (l.set i (v, l[i].2)).map ePt := by
  rw [Nat.zero_add, Int.toNat_natCast, List.map_set]; rfl
theorem set_y (l : List Pt) {i : Nat} (hi : i < l.length) (v : Int) : (l.map ePt).set (0 + (i : Int).toNat) [IC l[i].1, IC v] = (l.set i (l[i].1, v)).map ePt := by
  rw [Nat.zero_add, Int.toNat_natCast, List.map_set]; rfl
theorem leaf_l {k : AV → List Cell → Prop} (l : List Pt) {n : Nat} {cs : List Cell} (h : n = l.length) (hc : noCs cs = true) (hk : k (.c (.lst (l.map ePt))) cs) :
    noA (oneOf [.c (.lst (List.take n (List.drop 0 (l.map ePt))))]) = true ∧ noCs cs = true ∧ k (oneOf [.c (.lst (List.take n (List.drop 0 (l.map ePt))))]) cs := by
  rw [List.drop_zero, List.take_of_length_le (by rw [List.length_map, h]; exact Nat.le_refl _)]
  exact ⟨rfl, hc, hk⟩
def R_made : RB := fun cs args k => match args with
  | [] => ∃ d : Dk, cs = dkC d ∧ d.ok ∧ ∀ (l : List Pt) d', Dk.ok d' → 1 ≤ l.length → l.length ≤ 6 → (∀ p ∈ l, -1 ≤ p.1 ∧ p.1 ≤ 365 ∧ -1 ≤ p.2 ∧ p.2 ≤ 16777217) → k (.c (.lst (l.map ePt))) (dkC d')
  | _ => False
theorem made_ok : FunB Try.prog 9 R_made := by
  intro cs args k h
  unfold R_made at h
  split at h
  case h_2 => exact h.elim
  obtain ⟨d, rfl, hd, hk⟩ := h
  refine doesB_ex (qc := qc0) (CK := ckK [(21, cB R_next)]) mixed Try.func9 rfl rfl Try.ntmps9 Try.results9 τ_ok (by kernel_rfl) (ckK_ok ⟨cB_ok next_ok rfl, trivial⟩) (by simp) rfl rfl ?_
  conv => whnf
  refine ⟨d, rfl, hd, by omega, fun x d hd hx1 hx2 => ?_⟩
  conv => whnf
  refine ⟨d, rfl, hd, by omega, fun n d hd hn1 hn2 => ?_⟩
  conv => whnf
  refine ⟨List Pt × Dk × Int × Int, fun s => ([(0, .c (.ptr (.x 0) 0)), (3, .c (.view (.l 25 0) 0 s.1.length)), (4, I s.2.2.1), (5, I s.2.2.2)], ⟨[(.x 0, .blk (dkC s.2.1)), (.l 25 0, .arr 32 2 (s.1.map ePt) false)], 1⟩),
    fun s => s.2.1.ok ∧ (∀ p ∈ s.1, 0 ≤ p.1 ∧ p.1 ≤ 364 ∧ 0 ≤ p.2 ∧ p.2 ≤ 1000) ∧ 0 ≤ s.2.2.1 ∧ s.2.2.1 ≤ 1000 ∧ -1 ≤ s.2.2.2 ∧ (s.1.length : Int) + s.2.2.2 ≤ 4 ∧ (s.1 = [] → s.2.2.1 ≤ 364 ∧ 0 ≤ s.2.2.2), fun s => (s.2.2.2 + 1).toNat, ([], d, x, n),
    ⟨hd, by simp, by dsimp only; omega, by dsimp only; omega, by dsimp only; omega, by simp; omega, fun _ => by dsimp only; omega⟩,
    Shift.trans (Shift.rename [] ⟨rfl, rfl, rfl, rfl, trivial⟩ ⟨rfl, rfl, trivial⟩ rfl rfl rfl) (Shift.nilArr (t := 3) rfl 25 32 2), fun s hs => ?_⟩
  obtain ⟨l, d, x, n⟩ := s
  obtain ⟨h1, h2, h3, h4, h5, h6, h7⟩ := hs
  dsimp only at h1 h2 h3 h4 h5 h6 h7 ⊢
  conv => whnf
  repeat' (refine Fork.mk (fun h => ?_) (fun h => ?_) <;> first | (cases h; done) | (conv => whnf))
  · simp at h
    rename_i h0
    simp at h0
    refine ⟨d, rfl, h1, by omega, fun y d hd hy1 hy2 => ?_⟩
    conv => whnf
    rw [wrap_in (z := 80 + y) (by omega) (by omega)]
    have hln : (l.map ePt).length = l.length := by simp
    have hma : l.map ePt ++ [ePt (x, 80 + y)] = (l ++ [(x, 80 + y)]).map ePt := by simp
    have hle : (l ++ [(x, 80 + y)]).length = l.length + 1 := by simp
    refine ⟨by simp, ?_⟩
    conv => whnf
    refine ⟨rfl, ?_⟩
    conv => whnf
    refine ⟨⟨rfl, rfl, rfl, hln.symm, by rw [hln]; simp; omega⟩, ?_⟩
    conv => whnf
    refine ⟨d, rfl, hd, by omega, fun z d hd hz1 hz2 => ?_⟩
    conv => whnf
    rw [wrap_in (z := 1 + z) (by omega) (by omega), wrap_in (z := x + (1 + z)) (by omega) (by omega), wrap_in (z := n - 1) (by omega) (by omega)]
    refine ⟨(l ++ [(x, 80 + y)], d, x + (1 + z), n - 1), ⟨hd, ?_, by dsimp only; omega, by dsimp only; omega, by dsimp only; omega, by simp; omega, fun h => by simp at h⟩, Shift.rename [(.l 25 0, .l 25 2)] ⟨rfl, ?_, rfl, rfl, trivial⟩ ⟨rfl, ?_, trivial⟩ rfl rfl rfl, ?_⟩
    · intro p hp
      rcases List.mem_append.1 hp with hp | hp
      · exact h2 p hp
      · simp at hp; subst hp; dsimp only; omega
    · dsimp only
      rw [hle, ← hln]; rfl
    · dsimp only
      rw [← hma]; rfl
    · show (n - 1 + 1).toNat < (n + 1).toNat
      omega
  all_goals
    have hl1 : 1 ≤ l.length := by
      cases l with
      | nil => simp at *; omega
      | cons _ _ => simp
    have hl6 : l.length ≤ 5 := by omega
    refine ⟨d, rfl, h1, by omega, fun c d hd hc1 hc2 => ?_⟩
    clear h1 h3 h4 h5 h6 h7
    conv => whnf
    refine Fork.mk (fun h => ?_) (fun h => ?_)
    · conv => whnf
      have hln : (l.map ePt).length = l.length := by simp
      refine ⟨d, rfl, hd, by omega, fun i d hd hi1 hi2 => ?_⟩
      conv => whnf
      refine ⟨d, rfl, hd, by omega, fun j d hd hj1 hj2 => ?_⟩
      conv => whnf
      obtain ⟨i, rfl⟩ := Int.eq_ofNat_of_zero_le hi1
      have hi : i < l.length := by omega
      have hv : ∃ v, -1 ≤ v ∧ v ≤ 365 ∧ [[IC (-1)], [IC 364], [IC 365]][j.toNat]? = some [IC v] := by
        obtain rfl | rfl | rfl : j = 0 ∨ j = 1 ∨ j = 2 := by omega
        · exact ⟨(-1), by omega, by omega, rfl⟩
        · exact ⟨364, by omega, by omega, rfl⟩
        · exact ⟨365, by omega, by omega, rfl⟩
      obtain ⟨v, hv1, hv2, hv⟩ := hv
      refine ⟨by omega, rfl, ?_⟩
      conv => whnf
      refine ⟨[IC v], by rw [Nat.zero_add]; exact hv, ?_⟩
      conv => whnf
      refine ⟨by omega, rfl, ?_⟩
      conv => whnf
      refine ⟨_, map_at0 ePt l hi, by show 0 + 0 + 1 ≤ 2; omega, ?_⟩
      conv => whnf
      have hp := h2 l[i] (List.getElem_mem _)
      have hset := set_x l hi v
      have hmem : ∀ p ∈ l.set i (v, l[i].2), -1 ≤ p.1 ∧ p.1 ≤ 365 ∧ -1 ≤ p.2 ∧ p.2 ≤ 16777217 := fun p hp' => by
        rcases List.mem_or_eq_of_mem_set hp' with h | rfl
        · have := h2 p h; omega
        · dsimp only; omega
      have hlen : (l.set i (v, l[i].2)).length = l.length := by simp
      have hk := hk (l.set i (v, l[i].2)) d hd (by omega) (by omega) hmem
      rw [show [nrm (Value.int IntKind.i64 v), IC l[i].2] = [IC v, IC l[i].2] from rfl, hset]
      generalize l.set i (v, l[i].2) = l' at *
      refine ⟨by simp; omega, ?_⟩
      conv => whnf
      exact leaf_l l' hlen.symm rfl hk
    · conv => whnf
      refine Fork.mk (fun h => ?_) (fun h => ?_)
      rotate_left
      · conv => whnf
        refine Fork.mk (fun h => ?_) (fun h => ?_)
        · conv => whnf
          have hln : (l.map ePt).length = l.length := by simp
          refine ⟨by omega, rfl, ?_⟩
          conv => whnf
          refine ⟨_, map_at0 ePt l hl1, ?_⟩
          conv => whnf
          refine ⟨by simp, ?_⟩
          conv => whnf
          refine ⟨rfl, ?_⟩
          conv => whnf
          refine ⟨⟨rfl, rfl, rfl, hln.symm, by rw [hln]; simp; omega⟩, ?_⟩
          conv => whnf
          refine ⟨by simp, ?_⟩
          conv => whnf
          have hma : l.map ePt ++ [[IC l[0].1, IC l[0].2]] = (l ++ [l[0]]).map ePt := by simp [ePt]
          have hlen : (l ++ [l[0]]).length = l.length + 1 := by simp
          have hk := hk (l ++ [l[0]]) d hd (by omega) (by omega) (fun p hp => by
            rcases List.mem_append.1 hp with hp | hp
            · have := h2 p hp; omega
            · simp at hp
              have := h2 l[0] (List.getElem_mem _)
              rw [hp]; omega)
          rw [show List.take 1 (List.drop 0 [[nrm (Value.int IntKind.i64 l[0].1), nrm (Value.int IntKind.i64 l[0].2)]]) = [[IC l[0].1, IC l[0].2]] from rfl, hma]
          exact leaf_l _ (by rw [hlen, hln]; rfl) rfl hk
        · conv => whnf
          refine ⟨by simp, ?_⟩
          conv => whnf
          exact leaf_l l rfl rfl (hk l d hd hl1 (by omega) (fun p hp => by have := h2 p hp; omega))
      · conv => whnf
        have hln : (l.map ePt).length = l.length := by simp
        refine ⟨d, rfl, hd, by omega, fun i d hd hi1 hi2 => ?_⟩
        conv => whnf
        refine ⟨d, rfl, hd, by omega, fun j d hd hj1 hj2 => ?_⟩
        conv => whnf
        obtain ⟨i, rfl⟩ := Int.eq_ofNat_of_zero_le hi1
        have hi : i < l.length := by omega
        have hv : ∃ v, -1 ≤ v ∧ v ≤ 16777217 ∧ [[IC (-1)], [IC 16777216], [IC 16777217]][j.toNat]? = some [IC v] := by
          obtain rfl | rfl | rfl : j = 0 ∨ j = 1 ∨ j = 2 := by omega
          · exact ⟨(-1), by omega, by omega, rfl⟩
          · exact ⟨16777216, by omega, by omega, rfl⟩
          · exact ⟨16777217, by omega, by omega, rfl⟩
        obtain ⟨v, hv1, hv2, hv⟩ := hv
        refine ⟨by omega, rfl, ?_⟩
        conv => whnf
        refine ⟨[IC v], by rw [Nat.zero_add]; exact hv, ?_⟩
        conv => whnf
        refine ⟨by omega, rfl, ?_⟩
        conv => whnf
        refine ⟨_, map_at0 ePt l hi, by show 0 + 1 + 1 ≤ 2; omega, ?_⟩
        conv => whnf
        have hp := h2 l[i] (List.getElem_mem _)
        have hset := set_y l hi v
        have hmem : ∀ p ∈ l.set i (l[i].1, v), -1 ≤ p.1 ∧ p.1 ≤ 365 ∧ -1 ≤ p.2 ∧ p.2 ≤ 16777217 := fun p hp' => by
          rcases List.mem_or_eq_of_mem_set hp' with h | rfl
          · have := h2 p h; omega
          · dsimp only; omega
        have hlen : (l.set i (l[i].1, v)).length = l.length := by simp
        have hk := hk (l.set i (l[i].1, v)) d hd (by omega) (by omega) hmem
        rw [show [IC l[i].1, nrm (Value.int IntKind.i64 v)] = [IC l[i].1, IC v] from rfl, hset]
        generalize l.set i (l[i].1, v) = l' at *
        refine ⟨by simp; omega, ?_⟩
        conv => whnf
        exact leaf_l l' hlen.symm rfl hk

end Go.Proofs
