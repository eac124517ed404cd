/- Proved here: what functions of the given program come to, for the statements of this chapter; no condition but those in the theorems. -/
import Derived.Test.YtnmijdmpbpnjhaaL05g
namespace Go.Proofs
open Go.Abs
set_option linter.unusedSimpArgs false
set_option linter.unusedVariables false
/-- The level of a day d, told by the neighbours: a point a that is x days back, the next point q that is z days ahead, and none between. -/
def Lv (l : List Pt) (d v : Int) : Prop := ∃ a q : Pt, ∃ x z : Int, a ∈ l ∧ q ∈ l ∧ 0 ≤ x ∧ 1 ≤ z ∧ (d - x - a.1) % 365 = 0 ∧ (d + z - q.1) % 365 = 0 ∧ (∀ p ∈ l, ∀ t, -x < t → t < z → (d + t - p.1) % 365 ≠ 0) ∧ v = a.2 + (q.2 - a.2) * x / (x + z)

theorem lv_next (d : Int) : ∀ (r : List Pt) (a : Pt), (a :: r).Pairwise (·.1 < ·.1) → a.1 ≤ d → (∃ p ∈ r, d < p.1) → ∃ b q pre post, a :: r = pre ++ b :: q :: post ∧ b.1 ≤ d ∧ d < q.1 ∧ lv d a r = some (b.2 + (q.2 - b.2) * (d - b.1) / (q.1 - b.1))
  | [], a, _, _, h => by obtain ⟨p, hp, _⟩ := h; simp at hp
  | q :: r, a, hs, ha, h => by
    by_cases hq : d < q.1
    · exact ⟨a, q, [], r, rfl, ha, hq, by rw [lv, if_pos hq]⟩
    · obtain ⟨b, q', pre, post, h1, h2, h3, h4⟩ := lv_next d r q (List.pairwise_cons.1 hs).2 (by omega) (by
        obtain ⟨p, hp, hp2⟩ := h
        rcases List.mem_cons.1 hp with rfl | hp
        · exact absurd hp2 hq
        · exact ⟨p, hp, hp2⟩)
      exact ⟨b, q', a :: pre, post, by rw [h1]; rfl, h2, h3, by rw [lv, if_neg hq]; exact h4⟩

theorem level_Lv {p : Pt} {r : List Pt} {day : Int} (hv : rcValid (p :: r)) (h1 : 0 ≤ day) (h2 : day ≤ 364) : Lv (p :: r) day (rcLevel p r day) := by
  have hpts := (rcValid_pts hv).2
  obtain ⟨hr1, hr2⟩ := ring_facts hv rfl
  have hp := hpts p (by simp)
  unfold rcLevel
  have hd : ∃ d, (if day < p.1 then day + 365 else day) = d ∧ (d = day ∨ d = day + 365) ∧ p.1 ≤ d ∧ d < p.1 + 365 := by
    refine ⟨_, rfl, ?_⟩
    split <;> omega
  obtain ⟨d, e, hd1, hd2, hd3⟩ := hd
  rw [e]
  obtain ⟨a, q, pre, post, k1, k2, k3, k4⟩ := lv_next d (r ++ [(p.1 + 365, p.2)]) p hr2 hd2 ⟨(p.1 + 365, p.2), by simp, hd3⟩
  rw [k4]
  rw [List.cons_append] at hr1 hr2
  have hmem : ∀ s ∈ p :: (r ++ [(p.1 + 365, p.2)]), ∃ s' ∈ p :: r, s.2 = s'.2 ∧ (s.1 = s'.1 ∨ s.1 = s'.1 + 365) := fun s hs => by
    rw [← List.cons_append] at hs
    rcases List.mem_append.1 hs with hs | hs
    · exact ⟨s, hs, rfl, .inl rfl⟩
    · simp at hs; subst hs; exact ⟨p, by simp, rfl, .inr rfl⟩
  obtain ⟨a', ha1, ha2, ha3⟩ := hmem a (by rw [k1]; simp)
  obtain ⟨q', hq1, hq2, hq3⟩ := hmem q (by rw [k1]; simp)
  refine ⟨a', q', d - a.1, q.1 - d, ha1, hq1, by omega, by omega, by omega, by omega, fun s hs t ht1 ht2 hm => ?_, ?_⟩
  · have hs1 := hpts s hs
    have hps : p.1 ≤ s.1 := by
      have : (p :: (r ++ [(p.1 + 365, p.2)])).Pairwise (·.1 < ·.1) := hr2
      rcases List.mem_cons.1 hs with rfl | hs
      · exact Int.le_refl _
      · have := (List.pairwise_cons.1 this).1 s (by simp [hs]); omega
    have hge : p.1 ≤ a.1 := by
      have := hr2
      rcases List.mem_cons.1 (show a ∈ p :: (r ++ [(p.1 + 365, p.2)]) by rw [k1]; simp) with rfl | h
      · exact Int.le_refl _
      · have := (List.pairwise_cons.1 this).1 a h; omega
    have hle : q.1 ≤ p.1 + 365 := by
      obtain ⟨s', _, _, _⟩ := hmem q (by rw [k1]; simp)
      have := List.pairwise_append.1 (show (p :: r ++ [(p.1 + 365, p.2)]).Pairwise (·.1 < ·.1) by rw [List.cons_append]; exact hr2)
      rcases List.mem_append.1 (show q ∈ p :: r ++ [(p.1 + 365, p.2)] by rw [List.cons_append, k1]; simp) with h | h
      · have := this.2.2 q h (p.1 + 365, p.2) (by simp); exact Int.le_of_lt this
      · simp at h; rw [h]; exact Int.le_refl _
    have hst : a.1 < s.1 ∧ s.1 < q.1 := by omega
    have hs2 : s ∈ pre ++ a :: q :: post := by
      rw [← k1, ← List.cons_append]; exact List.mem_append.2 (.inl hs)
    rw [k1] at hr2
    have hpw := List.pairwise_append.1 hr2
    rcases List.mem_append.1 hs2 with h | h
    · have := hpw.2.2 s h a (by simp); omega
    · rcases List.mem_cons.1 h with rfl | h
      · omega
      · rcases List.mem_cons.1 h with rfl | h
        · omega
        · have := (List.pairwise_cons.1 (List.pairwise_cons.1 hpw.2.1).2).1 s h; omega
  · simp only [Option.getD_some]
    rw [ha2, hq2, show d - a.1 + (q.1 - d) = q.1 - a.1 by omega]

theorem asc_inj {l : List Pt} (h : l.Pairwise (·.1 < ·.1)) {a b : Pt} (ha : a ∈ l) (hb : b ∈ l) (e : a.1 = b.1) : a = b := by
  induction l with
  | nil => simp at ha
  | cons c r ih =>
    obtain ⟨h1, h2⟩ := List.pairwise_cons.1 h
    rcases List.mem_cons.1 ha with ea | ha' <;> rcases List.mem_cons.1 hb with eb | hb'
    · rw [ea, eb]
    · have := h1 b hb'; rw [ea] at e; omega
    · have := h1 a ha'; rw [eb] at e; omega
    · exact ih h2 ha' hb'

theorem rcValid_asc {l : List Pt} (hv : rcValid l) : l.Pairwise (·.1 < ·.1) := by
  have := hv
  unfold rcValid rcCheck at this
  split at this
  · cases this
  · split at this
    · cases this
    · exact (rcGo_asc _ _ this).2

theorem Lv_one {l : List Pt} (hv : rcValid l) {d v v' : Int} (h : Lv l d v) (h' : Lv l d v') : v = v' := by
  obtain ⟨a, q, x, z, a1, q1, x1, z1, m1, m2, n1, rfl⟩ := h
  obtain ⟨a', q', x', z', a1', q1', x1', z1', m1', m2', n1', rfl⟩ := h'
  have hp := (rcValid_pts hv).2
  have hs := rcValid_asc hv
  have hx : x = x' := by
    rcases Int.lt_trichotomy x x' with h | h | h
    · exact absurd (by rw [show d + -x - a.1 = d - x - a.1 by omega]; exact m1) (n1' a a1 (-x) (by omega) (by omega))
    · exact h
    · exact absurd (by rw [show d + -x' - a'.1 = d - x' - a'.1 by omega]; exact m1') (n1 a' a1' (-x') (by omega) (by omega))
  have hz : z = z' := by
    rcases Int.lt_trichotomy z z' with h | h | h
    · exact absurd m2 (n1' q q1 z (by omega) (by omega))
    · exact h
    · exact absurd m2' (n1 q' q1' z' (by omega) (by omega))
  subst hx; subst hz
  have e1 : a = a' := asc_inj hs a1 a1' (by have := hp a a1; have := hp a' a1'; omega)
  have e2 : q = q' := asc_inj hs q1 q1' (by have := hp q q1; have := hp q' q1'; omega)
  rw [e1, e2]

theorem rcGo_of : ∀ (l : List Pt) (q : Option Pt), (∀ p ∈ l, (0 ≤ p.1 ∧ p.1 ≤ 364) ∧ (0 ≤ p.2 ∧ p.2 ≤ 16777216)) → l.Pairwise (·.1 < ·.1) → (∀ a, q = some a → ∀ p ∈ l, a.1 < p.1) → rcGo q l = 0
  | [], q, _, _, _ => by cases q <;> rfl
  | p :: r, q, h1, h2, h3 => by
    obtain ⟨k1, k2⟩ := List.pairwise_cons.1 h2
    have ih := rcGo_of r (some p) (fun s hs => h1 s (by simp [hs])) k2 (fun a ha s hs => by cases ha; exact k1 s hs)
    rw [rcGo_cons, if_pos (h1 p (by simp))]
    cases q with
    | none => exact ih
    | some q =>
      have := h3 q rfl p (by simp)
      simp only
      rw [if_neg (by omega)]
      exact ih
theorem rcValid_of {l : List Pt} (h0 : l ≠ []) (h : l.length ≤ 100) (h1 : ∀ p ∈ l, (0 ≤ p.1 ∧ p.1 ≤ 364) ∧ (0 ≤ p.2 ∧ p.2 ≤ 16777216)) (h2 : l.Pairwise (·.1 < ·.1)) : rcValid l := by
  unfold rcValid rcCheck
  rw [if_neg (by simpa using h0), if_neg (by omega)]
  exact rcGo_of l none h1 h2 (fun a ha => by cases ha)
theorem rcValid_ne {l : List Pt} (h : rcValid l) : l ≠ [] := by
  rintro rfl
  simp [rcValid, rcCheck] at h

theorem rcAt_valid {l : List Pt} (hv : rcValid l) {d : Int} (h1 : 0 ≤ d) (h2 : d ≤ 364) : ∃ v, rcAt l d = (v, 0) ∧ Lv l d v := by
  cases l with
  | nil => exact absurd rfl (rcValid_ne hv)
  | cons p r =>
    have hv' : rcCheck (p :: r) = 0 := hv
    refine ⟨rcLevel p r d, by unfold rcAt; rw [if_neg (by rw [hv']; simp), if_pos ⟨h1, h2⟩], level_Lv hv h1 h2⟩
theorem rcAt_eq {l : List Pt} (hv : rcValid l) {d v : Int} (h1 : 0 ≤ d) (h2 : d ≤ 364) (h : Lv l d v) : rcAt l d = (v, 0) := by
  obtain ⟨v', e1, e2⟩ := rcAt_valid hv h1 h2
  rw [Lv_one hv h e2]; exact e1
theorem filter_both {α : Type} (f : α → Bool) : ∀ l : List α, (l.filter f).length + (l.filter fun p => !f p).length = l.length
  | [] => rfl
  | a :: r => by
    have := filter_both f r
    cases h : f a <;> simp [List.filter_cons, h] <;> omega
theorem mem_turn {n : Int} {l : List Pt} (h0 : 0 ≤ n) (h1 : n ≤ 364) (hp : ∀ p ∈ l, (0 ≤ p.1 ∧ p.1 ≤ 364) ∧ (0 ≤ p.2 ∧ p.2 ≤ 16777216)) :
    (∀ s ∈ turnA n l, ∃ p ∈ l, s = (p.1 + n - 365, p.2) ∧ 365 ≤ p.1 + n) ∧ (∀ s ∈ turnB n l, ∃ p ∈ l, s = (p.1 + n, p.2) ∧ p.1 + n < 365) ∧ ∀ p ∈ l, ∃ s ∈ turnA n l ++ turnB n l, s.2 = p.2 ∧ (s.1 = p.1 + n - 365 ∨ s.1 = p.1 + n) := by
  refine ⟨fun s hs => ?_, fun s hs => ?_, fun p hpl => ?_⟩
  · unfold turnA at hs
    obtain ⟨p, hp, rfl⟩ := List.mem_map.1 hs
    obtain ⟨h1, h2⟩ := List.mem_filter.1 hp
    exact ⟨p, h1, rfl, by simpa using h2⟩
  · unfold turnB at hs
    obtain ⟨p, hp, rfl⟩ := List.mem_map.1 hs
    obtain ⟨h1, h2⟩ := List.mem_filter.1 hp
    exact ⟨p, h1, rfl, by simpa using h2⟩
  · by_cases h : 365 ≤ p.1 + n
    · exact ⟨(p.1 + n - 365, p.2), List.mem_append.2 (.inl (List.mem_map.2 ⟨p, List.mem_filter.2 ⟨hpl, by simpa using h⟩, rfl⟩)), rfl, .inl rfl⟩
    · exact ⟨(p.1 + n, p.2), List.mem_append.2 (.inr (List.mem_map.2 ⟨p, List.mem_filter.2 ⟨hpl, by simpa using h⟩, rfl⟩)), rfl, .inr rfl⟩
theorem turn_valid {n : Int} {l : List Pt} (hv : rcValid l) (h0 : 0 ≤ n) (h1 : n ≤ 364) : rcValid (turnA n l ++ turnB n l) := by
  obtain ⟨hlen, hp⟩ := rcValid_pts hv
  have hs := rcValid_asc hv
  obtain ⟨mA, mB, mC⟩ := mem_turn h0 h1 hp
  refine rcValid_of ?_ ?_ ?_ ?_
  · intro e
    cases l with
    | nil => exact rcValid_ne hv rfl
    | cons p r =>
      obtain ⟨s, hs, _⟩ := mC p (by simp)
      rw [e] at hs; simp at hs
  · have : (turnA n l).length + (turnB n l).length = l.length := by
      unfold turnA turnB
      rw [List.length_map, List.length_map]
      exact filter_both _ l
    rw [List.length_append]; omega
  · intro s hs
    rcases List.mem_append.1 hs with h | h
    · obtain ⟨p, hpl, rfl, h2⟩ := mA s h
      have := hp p hpl; dsimp only; omega
    · obtain ⟨p, hpl, rfl, h2⟩ := mB s h
      have := hp p hpl; dsimp only; omega
  · refine List.pairwise_append.2 ⟨?_, ?_, fun a ha b hb => ?_⟩
    · unfold turnA
      refine List.pairwise_map.2 ((hs.filter _).imp fun h => ?_)
      dsimp only; omega
    · unfold turnB
      refine List.pairwise_map.2 ((hs.filter _).imp fun h => ?_)
      dsimp only; omega
    · obtain ⟨p, hpl, rfl, h2⟩ := mA a ha
      obtain ⟨q, hql, rfl, h3⟩ := mB b hb
      have := hp p hpl; have := hp q hql; dsimp only; omega
theorem turn_Lv {n : Int} {l : List Pt} (hv : rcValid l) (h0 : 0 ≤ n) (h1 : n ≤ 364) {d v : Int} (h : Lv l d v) : Lv (turnA n l ++ turnB n l) ((d + n) % 365) v := by
  obtain ⟨hlen, hp⟩ := rcValid_pts hv
  obtain ⟨mA, mB, mC⟩ := mem_turn h0 h1 hp
  obtain ⟨a, q, x, z, a1, q1, x1, z1, m1, m2, n1, rfl⟩ := h
  obtain ⟨a', b1, b2, b3⟩ := mC a a1
  obtain ⟨q', c1, c2, c3⟩ := mC q q1
  refine ⟨a', q', x, z, b1, c1, x1, z1, by omega, by omega, fun s hs t ht1 ht2 hm => ?_, by rw [b2, c2]⟩
  rcases List.mem_append.1 hs with h | h
  · obtain ⟨p, hpl, rfl, h2⟩ := mA s h
    exact n1 p hpl t ht1 ht2 (by dsimp only at hm; omega)
  · obtain ⟨p, hpl, rfl, h2⟩ := mB s h
    exact n1 p hpl t ht1 ht2 (by dsimp only at hm; omega)
theorem turns_law : ∀ l n d, rcValid l → 0 ≤ n → n ≤ 364 → 0 ≤ d → d ≤ 364 → ∃ a, rcAt l d = (a, 0) ∧ rcAt (turnA n l ++ turnB n l) ((d + n) % 365) = (a, 0) := fun l n d hv h0 h1 h2 h3 => by
  obtain ⟨v, e1, e2⟩ := rcAt_valid hv h2 h3
  exact ⟨v, e1, rcAt_eq (turn_valid hv h0 h1) (Int.emod_nonneg _ (by omega)) (by have := Int.emod_lt_of_pos (d + n) (b := 365) (by omega); omega) (turn_Lv hv h0 h1 e2)⟩
end Go.Proofs
