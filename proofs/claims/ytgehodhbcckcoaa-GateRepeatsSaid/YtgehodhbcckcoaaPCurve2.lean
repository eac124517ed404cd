/- Curves whose values are doubled, and the end of a curve. No program. -/
import Derived.Test.YtgehodhbcckcoaaPRating
namespace Go.Proofs
open Go Go.Abs
set_option linter.unusedSimpArgs false
set_option linter.unusedVariables false
def dbl (c : List Pt) : List Pt := c.map fun p => (p.1, 2 * p.2)
theorem div_dbl (n : Int) {d : Int} (h : 0 < d) : 2 * (n / d) ≤ 2 * n / d ∧ 2 * n / d ≤ 2 * (n / d) + 1 := by
  have h1 := Int.mul_ediv_add_emod n d
  have h2 := Int.emod_nonneg n (show d ≠ 0 by omega)
  have h3 := Int.emod_lt_of_pos n h
  have e : 2 * n = 2 * (n % d) + d * (2 * (n / d)) := by rw [Int.mul_left_comm]; omega
  rw [e, Int.add_mul_ediv_left _ _ (by omega)]
  have h4 : 0 ≤ 2 * (n % d) / d := Int.ediv_nonneg (by omega) (by omega)
  have h5 : 2 * (n % d) / d < 2 := Int.ediv_lt_of_lt_mul h (by omega)
  omega
theorem vGo_dbl : ∀ {r : List Pt} {p : Pt} {x : Int}, ckGo p r = 0 → 2 * vGo p r x ≤ vGo (p.1, 2 * p.2) (dbl r) x ∧ vGo (p.1, 2 * p.2) (dbl r) x ≤ 2 * vGo p r x + 1
  | [], p, x, _ => by simp [vGo, dbl]; omega
  | q :: r, p, x, h => by
    obtain ⟨_, h2, h3, _, h5⟩ := ckGo_cons.1 h
    show 2 * vGo p (q :: r) x ≤ vGo (p.1, 2 * p.2) ((q.1, 2 * q.2) :: dbl r) x ∧ _
    unfold vGo
    by_cases hx : x ≤ q.1
    · simp only [if_pos hx, dbl, List.map_cons]
      have := div_dbl ((q.2 - p.2) * (x - p.1)) (show 0 < q.1 - p.1 by omega)
      rw [show (2 * q.2 - 2 * p.2) * (x - p.1) = 2 * ((q.2 - p.2) * (x - p.1)) by rw [← Int.mul_sub, Int.mul_assoc]]
      omega
    · simp only [if_neg hx, dbl, List.map_cons]
      exact vGo_dbl h5
theorem valC_dbl {c : List Pt} (h : ckC c = 0) (x : Int) : 2 * valC c x ≤ valC (dbl c) x ∧ valC (dbl c) x ≤ 2 * valC c x + 1 := by
  cases c with
  | nil => simp [ckC] at h
  | cons p r =>
    show 2 * valC (p :: r) x ≤ valC ((p.1, 2 * p.2) :: dbl r) x ∧ valC ((p.1, 2 * p.2) :: dbl r) x ≤ 2 * valC (p :: r) x + 1
    rw [valC_eq, valC_eq]
    by_cases hx : x ≤ p.1
    · simp only [if_pos hx]; omega
    · simp only [if_neg hx]; exact vGo_dbl (ckC_cons.1 h).2.2
theorem vGo_end : ∀ {r : List Pt} {p : Pt} {x : Int}, ckGo p r = 0 → (endP p r).1 ≤ x → vGo p r x = (endP p r).2
  | [], p, x, _, _ => rfl
  | q :: r, p, x, h, hx => by
    obtain ⟨_, h2, h3, _, h5⟩ := ckGo_cons.1 h
    have hx : (endP q r).1 ≤ x := hx
    have hq : q.1 ≤ (endP q r).1 := by
      have : ∀ {r : List Pt} {q : Pt}, ckGo q r = 0 → q.1 ≤ (endP q r).1 := fun {r} => by
        induction r with
        | nil => intro q _; exact Int.le_refl _
        | cons a r ih =>
          intro q h
          obtain ⟨_, h2, _, _, h5⟩ := ckGo_cons.1 h
          have := ih h5
          show q.1 ≤ (endP a r).1
          omega
      exact this h5
    show vGo p (q :: r) x = (endP q r).2
    unfold vGo
    by_cases hxq : x ≤ q.1
    · rw [if_pos hxq, ← vGo_end h5 hx]
      have e : x = q.1 := by omega
      have e2 : q.1 = (endP q r).1 := by omega
      rw [e, Int.mul_ediv_cancel _ (by omega)]
      have : vGo q r q.1 = q.2 := by
        cases r with
        | nil => rfl
        | cons a r =>
          obtain ⟨_, g2, _, _, g5⟩ := ckGo_cons.1 h5
          have : a.1 ≤ (endP a r).1 := by
            have h6 : ∀ {r : List Pt} {q : Pt}, ckGo q r = 0 → q.1 ≤ (endP q r).1 := fun {r} => by
              induction r with
              | nil => intro q _; exact Int.le_refl _
              | cons a r ih =>
                intro q h
                obtain ⟨_, h2, _, _, h5⟩ := ckGo_cons.1 h
                have := ih h5
                show q.1 ≤ (endP a r).1
                omega
            exact h6 g5
          have e3 : q.1 = (endP a r).1 := e2
          omega
      rw [this]
      omega
    · rw [if_neg hxq]
      exact vGo_end h5 hx
theorem endP_at : ∀ (p : Pt) (r : List Pt), (p :: r)[r.length]? = some (endP p r)
  | _, [] => rfl
  | _, q :: r => by
    show (q :: r)[r.length]? = some (endP q r)
    exact endP_at q r
theorem dbl_len (c : List Pt) : (dbl c).length = c.length := List.length_map _
theorem dbl_take (c : List Pt) {i : Nat} (h : i < c.length) : dbl (c.take (i + 1)) = dbl (c.take i) ++ [(c[i].1, 2 * c[i].2)] := by
  rw [show c.take (i + 1) = c.take i ++ [c[i]] from (List.take_append_getElem h).symm]
  unfold dbl
  rw [List.map_append]; rfl
theorem dbl_ck {p : Pt} {r : List Pt} (h1 : 0 ≤ p.1 ∧ p.1 < 20) (h2 : 0 ≤ p.2 ∧ p.2 < 10) (h3 : 1 ≤ r.length ∧ r.length ≤ 4) (h4 : chainP 60 0 99 p r) : ckC (dbl (p :: r)) = 0 := by
  have hin := (rating_ok' h1 h2 h3 h4).2
  have hch : ∀ {r : List Pt} {p : Pt}, chainP 60 0 99 p r → chainP 60 0 198 (p.1, 2 * p.2) (dbl r) := fun {r} => by
    induction r with
    | nil => intro p _; trivial
    | cons q r ih =>
      intro p h
      refine ⟨h.1, ?_, ih h.2.2⟩
      have := h.2.1
      dsimp only
      omega
  refine ckC_cons.2 ⟨by rw [List.length_map]; omega, okPt_of (by dsimp only; omega), chain_ck (by omega) (by omega) (hch h4) fun q hq => ?_⟩
  obtain ⟨a, ha, rfl⟩ := List.mem_map.1 hq
  exact okPt_of (by have := hin a (by simp [ha]); dsimp only; omega)
end Go.Proofs
