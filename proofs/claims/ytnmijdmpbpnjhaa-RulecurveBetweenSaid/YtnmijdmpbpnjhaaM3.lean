/- Proved here: what functions of the given program come to, for the statements of this chapter; no condition but those in the theorems. -/
import Derived.Test.YtnmijdmpbpnjhaaM2
namespace Go.Proofs
open Go.Abs
set_option linter.unusedSimpArgs false
set_option linter.unusedVariables false
theorem frac_in {a x z : Int} (hx : 0 ≤ x) (hz : 1 ≤ z) : (0 ≤ a → 0 ≤ a * x / (x + z) ∧ a * x / (x + z) ≤ a) ∧ (a ≤ 0 → a ≤ a * x / (x + z) ∧ a * x / (x + z) ≤ 0) := by
  refine ⟨fun h => ⟨Int.ediv_nonneg (Int.mul_nonneg h hx) (by omega), ?_⟩, fun h => ⟨?_, ?_⟩⟩
  · exact Int.ediv_le_of_le_mul (by omega) (Int.mul_le_mul_of_nonneg_left (by omega) h)
  · refine Int.le_ediv_of_mul_le (by omega) ?_
    exact Int.mul_le_mul_of_nonpos_left h (by omega)
  · have h1 : a * x ≤ 0 := Int.mul_nonpos_of_nonpos_of_nonneg h hx
    exact Int.ediv_le_of_le_mul (by omega) (by omega)
/-- A level lies between the two points. -/
theorem Lv_between {l : List Pt} {d v : Int} (h : Lv l d v) : ∃ a ∈ l, ∃ q ∈ l, (a.2 ≤ v ∧ v ≤ q.2) ∨ (q.2 ≤ v ∧ v ≤ a.2) := by
  obtain ⟨a, q, x, z, a1, q1, x1, z1, m1, m2, n1, rfl⟩ := h
  refine ⟨a, a1, q, q1, ?_⟩
  obtain ⟨h1, h2⟩ := frac_in (a := q.2 - a.2) x1 z1
  rcases Int.le_total 0 (q.2 - a.2) with h | h
  · have := h1 h; left; omega
  · have := h2 h; right; omega
theorem rcAt_in {l : List Pt} (hv : rcValid l) {d : Int} (h1 : 0 ≤ d) (h2 : d ≤ 364) : ∃ v, rcAt l d = (v, 0) ∧ 0 ≤ v ∧ v ≤ 16777216 ∧ Lv l d v := by
  obtain ⟨v, e1, e2⟩ := rcAt_valid hv h1 h2
  obtain ⟨a, ha, q, hq, h⟩ := Lv_between e2
  have := (rcValid_pts hv).2 a ha
  have := (rcValid_pts hv).2 q hq
  exact ⟨v, e1, by omega, by omega, e2⟩
def up (u : Int) (l : List Pt) : List Pt := l.map fun p => (p.1, p.2 + u)
theorem up_valid {u : Int} {l : List Pt} (hv : rcValid l) (h0 : 0 ≤ u) (h : ∀ p ∈ l, p.2 + u ≤ 16777216) : rcValid (up u l) := by
  obtain ⟨hlen, hp⟩ := rcValid_pts hv
  refine rcValid_of ?_ ?_ ?_ ?_
  · intro e
    unfold up at e
    exact rcValid_ne hv (List.map_eq_nil_iff.1 e)
  · unfold up; rw [List.length_map]; exact hlen
  · intro s hs
    obtain ⟨p, hpl, rfl⟩ := List.mem_map.1 hs
    have := hp p hpl; have := h p hpl; dsimp only; omega
  · exact List.pairwise_map.2 ((rcValid_asc hv).imp fun h => h)
theorem up_Lv {u : Int} {l : List Pt} {d v : Int} (h : Lv l d v) : Lv (up u l) d (v + u) := by
  obtain ⟨a, q, x, z, a1, q1, x1, z1, m1, m2, n1, rfl⟩ := h
  refine ⟨(a.1, a.2 + u), (q.1, q.2 + u), x, z, List.mem_map.2 ⟨a, a1, rfl⟩, List.mem_map.2 ⟨q, q1, rfl⟩, x1, z1, m1, m2, fun s hs t h1 h2 => ?_, ?_⟩
  · obtain ⟨p, hp, rfl⟩ := List.mem_map.1 hs
    exact n1 p hp t h1 h2
  · dsimp only
    rw [show q.2 + u - (a.2 + u) = q.2 - a.2 by omega]; omega
theorem up_at {u : Int} {l : List Pt} (hv : rcValid l) (h0 : 0 ≤ u) (h : ∀ p ∈ l, p.2 + u ≤ 16777216) {d v : Int} (h1 : 0 ≤ d) (h2 : d ≤ 364) (hl : Lv l d v) : rcAt (up u l) d = (v + u, 0) :=
  rcAt_eq (up_valid hv h0 h) h1 h2 (up_Lv hl)
/-- The level at a day from one point to the next. -/
theorem seg_Lv {l : List Pt} (hv : rcValid l) {i : Nat} (h0 : 1 ≤ i) (h : i < l.length) {t : Int} (h1 : l[i - 1].1 ≤ t) (h2 : t ≤ l[i].1) : ∃ v, rcAt l t = (v, 0) ∧ v = l[i - 1].2 + (l[i].2 - l[i - 1].2) * (t - l[i - 1].1) / (l[i].1 - l[i - 1].1) := by
  obtain ⟨hlen, hp⟩ := rcValid_pts hv
  have hs := rcValid_asc hv
  have hlt : l[i - 1].1 < l[i].1 := List.pairwise_iff_getElem.1 hs (i - 1) i (by omega) h (by omega)
  have ha := hp l[i - 1] (List.getElem_mem _)
  have hq := hp l[i] (List.getElem_mem _)
  have hno : ∀ s ∈ l, ¬ (l[i - 1].1 < s.1 ∧ s.1 < l[i].1) := fun s hs' hc => by
    obtain ⟨j, hj, rfl⟩ := List.getElem_of_mem hs'
    rcases Nat.lt_or_ge j i with hji | hji
    · rcases Nat.lt_or_ge j (i - 1) with h3 | h3
      · have := List.pairwise_iff_getElem.1 hs j (i - 1) hj (by omega) h3; omega
      · have : j = i - 1 := by omega
        subst this; omega
    · rcases Nat.lt_or_ge i j with h3 | h3
      · have := List.pairwise_iff_getElem.1 hs i j h hj h3; omega
      · have : j = i := by omega
        subst this; omega
  have hrange : ∀ s ∈ l, 0 ≤ s.1 ∧ s.1 ≤ 364 := fun s hs => (hp s hs).1
  generalize hA : l[i - 1] = a at *
  generalize hQ : l[i] = q at *
  have ham : a ∈ l := by rw [← hA]; exact List.getElem_mem _
  have hqm : q ∈ l := by rw [← hQ]; exact List.getElem_mem _
  by_cases hte : t < q.1
  · refine ⟨_, rcAt_eq hv (by omega) (by omega) (v := a.2 + (q.2 - a.2) * (t - a.1) / ((t - a.1) + (q.1 - t))) ⟨a, q, t - a.1, q.1 - t, ham, hqm, by omega, by omega, by omega, by omega, fun s hs t' k1 k2 hm => ?_, rfl⟩, by rw [show t - a.1 + (q.1 - t) = q.1 - a.1 by omega]⟩
    have := hno s hs; have := hrange s hs; omega
  · have hte : t = q.1 := by omega
    subst hte
    obtain ⟨v, e1, e2⟩ := rcAt_valid hv hq.1.1 hq.1.2
    refine ⟨v, e1, ?_⟩
    obtain ⟨a', q', x, z, a1, q1, x1, z1, m1, m2, n1, rfl⟩ := e2
    have hx : x = 0 := by
      rcases Int.lt_or_le 0 x with hx | hx
      · exact absurd (show (q.1 + 0 - q.1) % 365 = 0 by omega) (n1 q hqm 0 (by omega) (by omega))
      · omega
    subst hx
    have e : a' = q := asc_inj hs a1 hqm (by have := hrange a' a1; omega)
    subst e
    rw [Int.mul_zero, Int.zero_ediv, Int.mul_ediv_cancel _ (by omega)]
    omega
theorem pt_at {l : List Pt} (hv : rcValid l) {p : Pt} (hp : p ∈ l) : rcAt l p.1 = (p.2, 0) := by
  have hr := (rcValid_pts hv).2
  obtain ⟨v, e1, e2⟩ := rcAt_valid hv (hr p hp).1.1 (hr p hp).1.2
  obtain ⟨a', q', x, z, a1, q1, x1, z1, m1, m2, n1, rfl⟩ := e2
  have hx : x = 0 := by
    rcases Int.lt_or_le 0 x with hx | hx
    · exact absurd (show (p.1 + 0 - p.1) % 365 = 0 by omega) (n1 p hp 0 (by omega) (by omega))
    · omega
  subst hx
  have e : a' = p := asc_inj (rcValid_asc hv) a1 hp (by have := hr a' a1; have := hr p hp; omega)
  subst e
  rw [e1, Int.mul_zero, Int.zero_ediv, Int.add_zero]
theorem slope {l : List Pt} (hv : rcValid l) {i : Nat} (h0 : 1 ≤ i) (h : i < l.length) {t : Int} (h1 : l[i - 1].1 ≤ t) (h2 : t < l[i].1) :
    ∃ p q, rcAt l t = (p, 0) ∧ rcAt l (t + 1) = (q, 0) ∧ 0 ≤ (l[i].2 - l[i - 1].2) * (q - p) ∧ (0 ≤ p ∧ p ≤ 16777216) ∧ (0 ≤ q ∧ q ≤ 16777216) := by
  obtain ⟨p, e1, f1⟩ := seg_Lv hv h0 h h1 (by omega)
  obtain ⟨q, e2, f2⟩ := seg_Lv hv h0 h (t := t + 1) (by omega) (by omega)
  have hp := (rcValid_pts hv).2
  have ha := hp l[i - 1] (List.getElem_mem _)
  have hq := hp l[i] (List.getElem_mem _)
  obtain ⟨p', e3, b1, b2, _⟩ := rcAt_in hv (d := t) (by omega) (by omega)
  obtain ⟨q', e4, b3, b4, _⟩ := rcAt_in hv (d := t + 1) (by omega) (by omega)
  rw [e3] at e1; cases e1
  rw [e4] at e2; cases e2
  refine ⟨p, q, e3, e4, ?_, ⟨b1, b2⟩, b3, b4⟩
  have hd : 0 < l[i].1 - l[i - 1].1 := by omega
  rcases Int.le_total 0 (l[i].2 - l[i - 1].2) with hh | hh
  · refine Int.mul_nonneg hh ?_
    have := Int.ediv_le_ediv hd (Int.mul_le_mul_of_nonneg_left (show t - l[i - 1].1 ≤ t + 1 - l[i - 1].1 by omega) hh)
    omega
  · refine Int.mul_nonneg_of_nonpos_of_nonpos hh ?_
    have := Int.ediv_le_ediv hd (Int.mul_le_mul_of_nonpos_left hh (show t - l[i - 1].1 ≤ t + 1 - l[i - 1].1 by omega))
    omega
end Go.Proofs
