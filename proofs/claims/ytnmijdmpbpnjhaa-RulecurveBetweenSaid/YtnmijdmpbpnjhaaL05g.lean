/- Proved here: what functions of the given program come to, for the statements of this chapter; no condition but those in the theorems. -/
import Derived.Test.YtnmijdmpbpnjhaaL05f
namespace Go.Proofs
open Go.Abs
set_option linter.unusedSimpArgs false
set_option linter.unusedVariables false
set_option maxRecDepth 4000
def R_true : RT := fun args k => match args with
  | [] => k (Bo true)
  | _ => False
theorem awake_ok : FunR Try.prog 11 R_true := by
  intro args k h
  unfold R_true at h
  split at h
  case h_2 => exact h.elim
  have hk := h
  refine does_ex (qc := qc2) (CK := ckK [(13, cSc R_at)]) mixed Try.func11 rfl rfl Try.ntmps11 Try.results11 τ_ok (by kernel_rfl) (ckK_ok ⟨cSc_ok at_ok, trivial⟩) (by simp) ?_
  conv => whnf
  refine ⟨by decide, ?_⟩
  conv => whnf
  refine ⟨[(0, 100), (100, 200)], rfl, ?_⟩
  rw [show rcAt [(0, 100), (100, 200)] 50 = (150, 0) by decide]
  conv => whnf
  refine ⟨by decide, ?_⟩
  conv => whnf
  refine ⟨[(0, 100), (100, 200)], rfl, ?_⟩
  rw [show rcAt [(0, 100), (100, 200)] 232 = (150, 0) by decide]
  conv => whnf
  repeat' (refine Fork.mk (fun h => ?_) (fun h => ?_) <;> first | (cases h; done) | (conv => whnf))
  exact hk
/-- The points that are moved into the next year, and the others. -/
def turnA (n : Int) (l : List Pt) : List Pt := (l.filter fun p => decide (365 ≤ p.1 + n)).map fun p => (p.1 + n - 365, p.2)
def turnB (n : Int) (l : List Pt) : List Pt := (l.filter fun p => !decide (365 ≤ p.1 + n)).map fun p => (p.1 + n, p.2)
/-- The law's argument: numbers. -/
theorem turnA_snoc (n : Int) (l : List Pt) (p : Pt) : turnA n (l ++ [p]) = turnA n l ++ if 365 ≤ p.1 + n then [(p.1 + n - 365, p.2)] else [] := by
  unfold turnA
  rw [List.filter_append, List.map_append]
  congr 1
  split <;> rename_i h <;> simp [h]
theorem turnB_snoc (n : Int) (l : List Pt) (p : Pt) : turnB n (l ++ [p]) = turnB n l ++ if 365 ≤ p.1 + n then [] else [(p.1 + n, p.2)] := by
  unfold turnB
  rw [List.filter_append, List.map_append]
  congr 1
  split <;> rename_i h <;> simp [h]
theorem turnA_len (n : Int) (l : List Pt) : (turnA n l).length ≤ l.length := by
  unfold turnA
  rw [List.length_map]; exact List.length_filter_le _ _
theorem turnB_len (n : Int) (l : List Pt) : (turnB n l).length ≤ l.length := by
  unfold turnB
  rw [List.length_map]; exact List.length_filter_le _ _
theorem snoc_len (l : List Pt) (p : Pt) : (l ++ [p]).length = (l.map ePt).length + 1 := by simp
theorem map_snoc (l : List Pt) (a b : Int) : l.map ePt ++ [[IC a, IC b]] = (l ++ [(a, b)]).map ePt := by simp [ePt]
def R_law1 (n : Nat) : RT := fun args k => match args with
  | .c (.lst es) :: rest => (∃ l : List Int, es = l.map (fun x => [IC x]) ∧ l.length ≤ 9223372036854775807) ∧ (∃ xs : List Int, rest = xs.map (fun x => I x) ∧ xs.length = n) ∧ k (Bo true)
  | _ => False
theorem turns_ok (law : ∀ l n d, rcValid l → 0 ≤ n → n ≤ 364 → 0 ≤ d → d ≤ 364 → ∃ a, rcAt l d = (a, 0) ∧ rcAt (turnA n l ++ turnB n l) ((d + n) % 365) = (a, 0)) : FunR Try.prog 3 (R_law1 2) := by
  intro args k h
  unfold R_law1 at h
  split at h
  case h_2 => exact h.elim
  obtain ⟨⟨l, rfl, hl⟩, ⟨xs, rfl, hx⟩, hk⟩ := h
  obtain ⟨by_, day, rfl⟩ : ∃ a b, xs = [a, b] := by
    match xs, hx with
    | [a, b], _ => exact ⟨a, b, rfl⟩
  refine does_ex (qc := qc2) (CK := ckK [(8, cN R_new), (9, cB R_made), (10, cSc R_rcCheck), (11, cSc R_true), (12, cSc R_mod), (13, cSc R_at)]) mixed Try.func3 rfl rfl Try.ntmps3 Try.results3 τ_ok (by kernel_rfl) (ckK_ok ⟨cN_ok new_ok rfl, cB_ok made_ok rfl, cSc_ok rCheck_ok, cSc_ok awake_ok, cSc_ok mod_ok, cSc_ok at_ok, trivial⟩) (by simp) ?_
  conv => whnf
  refine ⟨l, rfl, ?_⟩
  conv => whnf
  refine ⟨⟨l, 0⟩, rfl, ⟨Nat.zero_le _, hl⟩, fun c d hd hc1 hc2 hc3 => ?_⟩
  conv => whnf
  refine ⟨c, rfl, ?_⟩
  conv => whnf
  refine Fork.mk (fun h => ?_) (fun h => ?_)
  · conv => whnf
    exact hk
  have hv : rcValid c := by simpa [rcValid] using h
  conv => whnf
  refine ⟨by decide, ?_⟩
  conv => whnf
  have hn1 : 0 ≤ by_ % 365 := Int.emod_nonneg _ (by omega)
  have hn2 : by_ % 365 < 365 := Int.emod_lt_of_pos _ (by omega)
  generalize by_ % 365 = n at *
  have hp := rcValid_pts hv
  refine ⟨Nat, fun i => ([(2, I day), (8, .c (.lst (c.map ePt))), (9, I n), (10, .c (.view (.l 50 0) 0 (turnA n (c.take i)).length)), (11, .c (.view (.l 54 1) 0 (turnB n (c.take i)).length)), (29, .c (.lst (c.map ePt))), (30, I (c.map ePt).length), (31, I i)],
      ⟨[(.l 50 0, .arr 32 2 ((turnA n (c.take i)).map ePt) false), (.l 54 1, .arr 32 2 ((turnB n (c.take i)).map ePt) false)], 2⟩),
    fun i => i ≤ c.length, fun i => c.length - i, 0, Nat.zero_le _,
    Shift.trans (Shift.rename [(.l 50 0, .l 50 1), (.l 54 1, .l 54 2)] ⟨rfl, rfl, rfl, rfl, rfl, rfl, rfl, rfl, trivial⟩ ⟨rfl, rfl, trivial⟩ rfl rfl rfl) (Shift.trans (Shift.nilArr (t := 11) rfl 54 32 2) (Shift.nilArr (t := 10) rfl 50 32 2)), fun i hi => ?_⟩
  dsimp only at hi ⊢
  conv => whnf
  refine Fork.mk (fun h1 => ?_) (fun h1 => ?_)
  · have hi : i < c.length := by simpa using h1
    have htk : c.take (i + 1) = c.take i ++ [c[i]] := (List.take_append_getElem hi).symm
    conv => whnf
    refine ⟨by omega, ePt c[i], by simp [hi], rfl, ?_⟩
    have hpi := hp.2 c[i] (List.getElem_mem _)
    generalize hpp : c[i] = p at *
    conv => whnf
    rw [wrap_in (z := p.1 + n) (by omega) (by omega)]
    refine Fork.mk (fun h2 => ?_) (fun h2 => ?_)
    · have h2 : 365 ≤ p.1 + n := by simpa using h2
      conv => whnf
      have hA : turnA n (c.take (i + 1)) = turnA n (c.take i) ++ [(p.1 + n - 365, p.2)] := by rw [htk, turnA_snoc, if_pos h2]
      have hB : turnB n (c.take (i + 1)) = turnB n (c.take i) := by rw [htk, turnB_snoc, if_pos h2, List.append_nil]
      have hlA := turnA_len n (c.take i)
      rw [List.length_take_of_le (by omega)] at hlA
      rw [wrap_in (z := p.1 + n - 365) (by omega) (by omega)]
      refine ⟨by simp, ?_⟩
      conv => whnf
      refine ⟨rfl, ?_⟩
      conv => whnf
      refine ⟨⟨rfl, rfl, rfl, (List.length_map _).symm, by rw [List.length_map]; simp; omega⟩, ?_⟩
      conv => whnf
      refine ⟨i + 1, hi, Shift.rename [(.l 50 0, .l 50 4)] ⟨rfl, rfl, rfl, ?_, ?_, rfl, rfl, ?_, trivial⟩ ⟨?_, ?_, trivial⟩ rfl rfl rfl, ?_⟩
      · dsimp only
        rw [hA, snoc_len]; rfl
      · dsimp only
        rw [hB]; rfl
      · have hw1 : IntKind.i64.wrap ((i : Int) + 1) = ((i + 1 : Nat) : Int) := by rw [wrap_in (by omega) (by omega)]; omega
        show some (I _) = some (I _)
        rw [hw1]
      · dsimp only
        rw [hA, ← map_snoc]; rfl
      · dsimp only
        rw [hB]; rfl
      · show c.length - (i + 1) < c.length - i
        omega
    · have h2 : ¬ 365 ≤ p.1 + n := by simpa using h2
      conv => whnf
      have hA : turnB n (c.take (i + 1)) = turnB n (c.take i) ++ [(p.1 + n, p.2)] := by rw [htk, turnB_snoc, if_neg h2]
      have hB : turnA n (c.take (i + 1)) = turnA n (c.take i) := by rw [htk, turnA_snoc, if_neg h2, List.append_nil]
      have hlA := turnB_len n (c.take i)
      rw [List.length_take_of_le (by omega)] at hlA
      refine ⟨by simp, ?_⟩
      conv => whnf
      refine ⟨rfl, ?_⟩
      conv => whnf
      refine ⟨⟨rfl, rfl, rfl, (List.length_map _).symm, by rw [List.length_map]; simp; omega⟩, ?_⟩
      conv => whnf
      refine ⟨i + 1, hi, Shift.rename [(.l 54 1, .l 54 4)] ⟨rfl, rfl, rfl, ?_, ?_, rfl, rfl, ?_, trivial⟩ ⟨?_, ?_, trivial⟩ rfl rfl rfl, ?_⟩
      · dsimp only
        rw [hB]; rfl
      · dsimp only
        rw [hA, snoc_len]; rfl
      · have hw1 : IntKind.i64.wrap ((i : Int) + 1) = ((i + 1 : Nat) : Int) := by rw [wrap_in (by omega) (by omega)]; omega
        show some (I _) = some (I _)
        rw [hw1]
      · dsimp only
        rw [hB]; rfl
      · dsimp only
        rw [hA, ← map_snoc]; rfl
      · show c.length - (i + 1) < c.length - i
        omega
  · have hie : i = c.length := by simp at h1; omega
    subst hie
    rw [List.take_length]
    conv => whnf
    refine ⟨by decide, ?_⟩
    conv => whnf
    have hx1 : 0 ≤ day % 365 := Int.emod_nonneg _ (by omega)
    have hx2 : day % 365 < 365 := Int.emod_lt_of_pos _ (by omega)
    generalize day % 365 = x at *
    obtain ⟨a, ha1, ha2⟩ := law c n x hv hn1 (by omega) hx1 (by omega)
    refine ⟨c, rfl, ?_⟩
    rw [ha1]
    conv => whnf
    have hlA := turnA_len n c
    have hlB := turnB_len n c
    have hml : ∀ l : List Pt, (l.map ePt).length = l.length := fun l => List.length_map _
    have htk : ∀ (l : List Pt), List.take l.length (List.drop 0 (l.map ePt)) = l.map ePt := fun l => by rw [List.drop_zero, List.take_of_length_le (by rw [hml]; exact Nat.le_refl _)]
    refine ⟨by rw [hml]; omega, ?_⟩
    rw [htk]
    conv => whnf
    refine ⟨all_pts _, ?_⟩
    conv => whnf
    refine ⟨⟨rfl, rfl, rfl, (hml _).symm, by simp only [hml]; omega⟩, ?_⟩
    conv => whnf
    rw [wrap_in (by omega) (by omega)]
    refine ⟨by omega, ?_⟩
    conv => whnf
    refine ⟨by rw [List.length_append]; omega, ?_⟩
    conv => whnf
    rw [hml, hml, ← List.map_append, ← List.length_append, htk, Int.tmod_eq_emod_of_nonneg (by omega)]
    refine ⟨_, rfl, ?_⟩
    rw [ha2]
    conv => whnf
    repeat' (refine Fork.mk (fun h => ?_) (fun h => ?_) <;> first | (cases h; done) | (conv => whnf))
    · exact hk
    · simp at h
end Go.Proofs
