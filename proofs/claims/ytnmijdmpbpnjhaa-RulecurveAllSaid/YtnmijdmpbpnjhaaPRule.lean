/- Levels by the day: what the functions answer. No program. -/
import Derived.Test.YtnmijdmpbpnjhaaPStorage2
namespace Go.Proofs
open Go Go.Abs
set_option linter.unusedSimpArgs false
set_option linter.unusedVariables false
set_option maxRecDepth 4000
def rcGo : Option Pt → List Pt → Int
  | _, [] => 0
  | q, p :: r => if (0 ≤ p.1 ∧ p.1 ≤ 364) ∧ (0 ≤ p.2 ∧ p.2 ≤ 16777216) then
      match q with
      | none => rcGo (some p) r
      | some q => if p.1 ≤ q.1 then 4 else rcGo (some p) r
    else 1
theorem rcGo_cons (q : Option Pt) (p : Pt) (r : List Pt) : rcGo q (p :: r) = if (0 ≤ p.1 ∧ p.1 ≤ 364) ∧ (0 ≤ p.2 ∧ p.2 ≤ 16777216) then
      (match q with
      | none => rcGo (some p) r
      | some q => if p.1 ≤ q.1 then 4 else rcGo (some p) r)
    else 1 := by cases q <;> simp only [rcGo]
def rcCheck (l : List Pt) : Int := if l.length = 0 then 3 else if 100 < l.length then 10 else rcGo none l
def prev (l : List Pt) (i : Nat) : Option Pt := if i = 0 then none else l[i - 1]?
theorem rcGo_asc : ∀ (l : List Pt) (q : Option Pt), rcGo q l = 0 → (∀ a, q = some a → ∀ p ∈ l, a.1 < p.1) ∧ l.Pairwise (·.1 < ·.1)
  | [], _, _ => ⟨fun _ _ p h => (by simp at h), .nil⟩
  | p :: r, q, h => by
    rw [rcGo_cons] at h
    split at h
    · cases q with
      | none =>
        obtain ⟨h1, h2⟩ := rcGo_asc r _ h
        exact ⟨fun a ha => (by cases ha), List.pairwise_cons.2 ⟨fun b hb => h1 p rfl b hb, h2⟩⟩
      | some q =>
        simp only at h
        split at h
        · cases h
        · rename_i hlt
          obtain ⟨h1, h2⟩ := rcGo_asc r _ h
          refine ⟨fun a ha b hb => ?_, List.pairwise_cons.2 ⟨fun b hb => h1 p rfl b hb, h2⟩⟩
          cases ha
          rcases List.mem_cons.1 hb with rfl | hb
          · omega
          · have := h1 p rfl b hb; omega
    · cases h
def rcValid (l : List Pt) : Prop := rcCheck l = 0
theorem rcGo_valid : ∀ (l : List Pt) (q : Option Pt), rcGo q l = 0 → ∀ p ∈ l, (0 ≤ p.1 ∧ p.1 ≤ 364) ∧ (0 ≤ p.2 ∧ p.2 ≤ 16777216)
  | [], _, _, p, h => by simp at h
  | p :: r, q, h, x, hx => by
    rw [rcGo_cons] at h
    split at h
    · rename_i hp
      rcases List.mem_cons.1 hx with rfl | hx
      · exact hp
      · cases q with
        | none => exact rcGo_valid r _ h x hx
        | some q =>
          simp only at h
          split at h
          · cases h
          · exact rcGo_valid r _ h x hx
    · cases h
theorem rcValid_pts {l : List Pt} (h : rcValid l) : l.length ≤ 100 ∧ ∀ p ∈ l, (0 ≤ p.1 ∧ p.1 ≤ 364) ∧ (0 ≤ p.2 ∧ p.2 ≤ 16777216) := by
  unfold rcValid rcCheck at h
  split at h
  · cases h
  · split at h
    · cases h
    · exact ⟨by omega, rcGo_valid _ _ h⟩

theorem ring_facts {p : Pt} {r : List Pt} (hv : rcValid (p :: r)) {rs : List Pt} (hrs : p :: r ++ [(p.1 + 365, p.2)] = rs) :
    (∀ x ∈ rs, (0 ≤ x.1 ∧ x.1 ≤ 729) ∧ (0 ≤ x.2 ∧ x.2 ≤ 16777216)) ∧ rs.Pairwise (·.1 < ·.1) := by
  have hp := (rcValid_pts hv).2
  have hv' : rcGo none (p :: r) = 0 := by
    have := hv
    unfold rcValid rcCheck at this
    split at this
    · cases this
    · split at this
      · cases this
      · exact this
  have ha := (rcGo_asc _ _ hv').2
  subst hrs
  refine ⟨fun x hx => ?_, ?_⟩
  · rcases List.mem_append.1 hx with hx | hx
    · have := hp x hx; omega
    · have := hp p (by simp)
      simp at hx
      subst hx
      simp only; omega
  · refine List.pairwise_append.2 ⟨ha, by simp, fun a ha b hb => ?_⟩
    simp at hb
    subst hb
    have h1 := hp a ha
    have h2 := hp p (by simp)
    simp only; omega
theorem tdiv_floor (a : Int) {b : Int} (h : 0 < b) : (a.tmod b < 0 → a.tdiv b - 1 = a / b) ∧ (¬ a.tmod b < 0 → a.tdiv b = a / b) := by
  have h1 := Int.mul_tdiv_add_tmod a b
  have h2 := tmod_lo a h
  have h3 := Int.tmod_lt_of_pos a h
  refine ⟨fun hm => ?_, fun hm => ?_⟩
  · have e : a = (a.tmod b + b) + b * (a.tdiv b - 1) := by rw [Int.mul_sub, Int.mul_one]; omega
    rw [e, Int.add_mul_ediv_left _ _ (by omega), Int.ediv_eq_zero_of_lt (by omega) (by omega)]
    rw [← e]; omega
  · have e : a = a.tmod b + b * a.tdiv b := by omega
    rw [e, Int.add_mul_ediv_left _ _ (by omega), Int.ediv_eq_zero_of_lt (by omega) (by omega)]
    rw [← e]; omega
theorem tdiv_in (a : Int) {b : Int} (h : 0 < b) (h1 : -4611686018427387904 ≤ a) (h2 : a ≤ 4611686018427387904) : -4611686018427387904 ≤ a.tdiv b ∧ a.tdiv b ≤ 4611686018427387904 := by
  have k1 : (a.tdiv b).natAbs ≤ a.natAbs := by rw [Int.natAbs_tdiv]; exact Nat.div_le_self _ _
  omega
def lv (d : Int) : Pt → List Pt → Option Int
  | _, [] => none
  | p, q :: r => if d < q.1 then some (p.2 + (q.2 - p.2) * (d - p.1) / (q.1 - p.1)) else lv d q r
def rcLevel (p : Pt) (r : List Pt) (day : Int) : Int := (lv (if day < p.1 then day + 365 else day) p (r ++ [(p.1 + 365, p.2)])).getD p.2
/-- The level of a day, or the error. -/
def rcAt (l : List Pt) (day : Int) : Int × Int :=
  if rcCheck l ≠ 0 then (0, rcCheck l) else if 0 ≤ day ∧ day ≤ 364 then (match l with | [] => 0 | p :: r => rcLevel p r day, 0) else (0, 1)
/-- The level of a day d, told by the neighbours: a point a that is x days back, the next point q that is z days ahead, and none between. -/
def Lv (l : List Pt) (d v : Int) : Prop := ∃ a q : Pt, ∃ x z : Int, a ∈ l ∧ q ∈ l ∧ 0 ≤ x ∧ 1 ≤ z ∧ (d - x - a.1) % 365 = 0 ∧ (d + z - q.1) % 365 = 0 ∧ (∀ p ∈ l, ∀ t, -x < t → t < z → (d + t - p.1) % 365 ≠ 0) ∧ v = a.2 + (q.2 - a.2) * x / (x + z)

theorem lv_next (d : Int) : ∀ (r : List Pt) (a : Pt), (a :: r).Pairwise (·.1 < ·.1) → a.1 ≤ d → (∃ p ∈ r, d < p.1) → ∃ b q pre post, a :: r = pre ++ b :: q :: post ∧ b.1 ≤ d ∧ d < q.1 ∧ lv d a r = some (b.2 + (q.2 - b.2) * (d - b.1) / (q.1 - b.1))
  | [], a, _, _, h => by obtain ⟨p, hp, _⟩ := h; simp at hp
  | q :: r, a, hs, ha, h => by
    by_cases hq : d < q.1
    · exact ⟨a, q, [], r, rfl, ha, hq, by rw [lv, if_pos hq]⟩
    · obtain ⟨b, q', pre, post, h1, h2, h3, h4⟩ := lv_next d r q (List.pairwise_cons.1 hs).2 (by omega) (by
        obtain ⟨p, hp, hp2⟩ := h
        rcases List.mem_cons.1 hp with rfl | hp
        · exact absurd hp2 hq
        · exact ⟨p, hp, hp2⟩)
      exact ⟨b, q', a :: pre, post, by rw [h1]; rfl, h2, h3, by rw [lv, if_neg hq]; exact h4⟩

theorem level_Lv {p : Pt} {r : List Pt} {day : Int} (hv : rcValid (p :: r)) (h1 : 0 ≤ day) (h2 : day ≤ 364) : Lv (p :: r) day (rcLevel p r day) := by
  have hpts := (rcValid_pts hv).2
  obtain ⟨hr1, hr2⟩ := ring_facts hv rfl
  have hp := hpts p (by simp)
  unfold rcLevel
  have hd : ∃ d, (if day < p.1 then day + 365 else day) = d ∧ (d = day ∨ d = day + 365) ∧ p.1 ≤ d ∧ d < p.1 + 365 := by
    refine ⟨_, rfl, ?_⟩
    split <;> omega
  obtain ⟨d, e, hd1, hd2, hd3⟩ := hd
  rw [e]
  obtain ⟨a, q, pre, post, k1, k2, k3, k4⟩ := lv_next d (r ++ [(p.1 + 365, p.2)]) p hr2 hd2 ⟨(p.1 + 365, p.2), by simp, hd3⟩
  rw [k4]
  rw [List.cons_append] at hr1 hr2
  have hmem : ∀ s ∈ p :: (r ++ [(p.1 + 365, p.2)]), ∃ s' ∈ p :: r, s.2 = s'.2 ∧ (s.1 = s'.1 ∨ s.1 = s'.1 + 365) := fun s hs => by
    rw [← List.cons_append] at hs
    rcases List.mem_append.1 hs with hs | hs
    · exact ⟨s, hs, rfl, .inl rfl⟩
    · simp at hs; subst hs; exact ⟨p, by simp, rfl, .inr rfl⟩
  obtain ⟨a', ha1, ha2, ha3⟩ := hmem a (by rw [k1]; simp)
  obtain ⟨q', hq1, hq2, hq3⟩ := hmem q (by rw [k1]; simp)
  refine ⟨a', q', d - a.1, q.1 - d, ha1, hq1, by omega, by omega, by omega, by omega, fun s hs t ht1 ht2 hm => ?_, ?_⟩
  · have hs1 := hpts s hs
    have hps : p.1 ≤ s.1 := by
      have : (p :: (r ++ [(p.1 + 365, p.2)])).Pairwise (·.1 < ·.1) := hr2
      rcases List.mem_cons.1 hs with rfl | hs
      · exact Int.le_refl _
      · have := (List.pairwise_cons.1 this).1 s (by simp [hs]); omega
    have hge : p.1 ≤ a.1 := by
      have := hr2
      rcases List.mem_cons.1 (show a ∈ p :: (r ++ [(p.1 + 365, p.2)]) by rw [k1]; simp) with rfl | h
      · exact Int.le_refl _
      · have := (List.pairwise_cons.1 this).1 a h; omega
    have hle : q.1 ≤ p.1 + 365 := by
      obtain ⟨s', _, _, _⟩ := hmem q (by rw [k1]; simp)
      have := List.pairwise_append.1 (show (p :: r ++ [(p.1 + 365, p.2)]).Pairwise (·.1 < ·.1) by rw [List.cons_append]; exact hr2)
      rcases List.mem_append.1 (show q ∈ p :: r ++ [(p.1 + 365, p.2)] by rw [List.cons_append, k1]; simp) with h | h
      · have := this.2.2 q h (p.1 + 365, p.2) (by simp); exact Int.le_of_lt this
      · simp at h; rw [h]; exact Int.le_refl _
    have hst : a.1 < s.1 ∧ s.1 < q.1 := by omega
    have hs2 : s ∈ pre ++ a :: q :: post := by
      rw [← k1, ← List.cons_append]; exact List.mem_append.2 (.inl hs)
    rw [k1] at hr2
    have hpw := List.pairwise_append.1 hr2
    rcases List.mem_append.1 hs2 with h | h
    · have := hpw.2.2 s h a (by simp); omega
    · rcases List.mem_cons.1 h with rfl | h
      · omega
      · rcases List.mem_cons.1 h with rfl | h
        · omega
        · have := (List.pairwise_cons.1 (List.pairwise_cons.1 hpw.2.1).2).1 s h; omega
  · simp only [Option.getD_some]
    rw [ha2, hq2, show d - a.1 + (q.1 - d) = q.1 - a.1 by omega]

theorem asc_inj {l : List Pt} (h : l.Pairwise (·.1 < ·.1)) {a b : Pt} (ha : a ∈ l) (hb : b ∈ l) (e : a.1 = b.1) : a = b := by
  induction l with
  | nil => simp at ha
  | cons c r ih =>
    obtain ⟨h1, h2⟩ := List.pairwise_cons.1 h
    rcases List.mem_cons.1 ha with ea | ha' <;> rcases List.mem_cons.1 hb with eb | hb'
    · rw [ea, eb]
    · have := h1 b hb'; rw [ea] at e; omega
    · have := h1 a ha'; rw [eb] at e; omega
    · exact ih h2 ha' hb'

theorem rcValid_asc {l : List Pt} (hv : rcValid l) : l.Pairwise (·.1 < ·.1) := by
  have := hv
  unfold rcValid rcCheck at this
  split at this
  · cases this
  · split at this
    · cases this
    · exact (rcGo_asc _ _ this).2

theorem Lv_one {l : List Pt} (hv : rcValid l) {d v v' : Int} (h : Lv l d v) (h' : Lv l d v') : v = v' := by
  obtain ⟨a, q, x, z, a1, q1, x1, z1, m1, m2, n1, rfl⟩ := h
  obtain ⟨a', q', x', z', a1', q1', x1', z1', m1', m2', n1', rfl⟩ := h'
  have hp := (rcValid_pts hv).2
  have hs := rcValid_asc hv
  have hx : x = x' := by
    rcases Int.lt_trichotomy x x' with h | h | h
    · exact absurd (by rw [show d + -x - a.1 = d - x - a.1 by omega]; exact m1) (n1' a a1 (-x) (by omega) (by omega))
    · exact h
    · exact absurd (by rw [show d + -x' - a'.1 = d - x' - a'.1 by omega]; exact m1') (n1 a' a1' (-x') (by omega) (by omega))
  have hz : z = z' := by
    rcases Int.lt_trichotomy z z' with h | h | h
    · exact absurd m2 (n1' q q1 z (by omega) (by omega))
    · exact h
    · exact absurd m2' (n1 q' q1' z' (by omega) (by omega))
  subst hx; subst hz
  have e1 : a = a' := asc_inj hs a1 a1' (by have := hp a a1; have := hp a' a1'; omega)
  have e2 : q = q' := asc_inj hs q1 q1' (by have := hp q q1; have := hp q' q1'; omega)
  rw [e1, e2]

theorem rcGo_of : ∀ (l : List Pt) (q : Option Pt), (∀ p ∈ l, (0 ≤ p.1 ∧ p.1 ≤ 364) ∧ (0 ≤ p.2 ∧ p.2 ≤ 16777216)) → l.Pairwise (·.1 < ·.1) → (∀ a, q = some a → ∀ p ∈ l, a.1 < p.1) → rcGo q l = 0
  | [], q, _, _, _ => by cases q <;> rfl
  | p :: r, q, h1, h2, h3 => by
    obtain ⟨k1, k2⟩ := List.pairwise_cons.1 h2
    have ih := rcGo_of r (some p) (fun s hs => h1 s (by simp [hs])) k2 (fun a ha s hs => by cases ha; exact k1 s hs)
    rw [rcGo_cons, if_pos (h1 p (by simp))]
    cases q with
    | none => exact ih
    | some q =>
      have := h3 q rfl p (by simp)
      simp only
      rw [if_neg (by omega)]
      exact ih
theorem rcValid_of {l : List Pt} (h0 : l ≠ []) (h : l.length ≤ 100) (h1 : ∀ p ∈ l, (0 ≤ p.1 ∧ p.1 ≤ 364) ∧ (0 ≤ p.2 ∧ p.2 ≤ 16777216)) (h2 : l.Pairwise (·.1 < ·.1)) : rcValid l := by
  unfold rcValid rcCheck
  rw [if_neg (by simpa using h0), if_neg (by omega)]
  exact rcGo_of l none h1 h2 (fun a ha => by cases ha)
theorem rcValid_ne {l : List Pt} (h : rcValid l) : l ≠ [] := by
  rintro rfl
  simp [rcValid, rcCheck] at h

theorem rcAt_valid {l : List Pt} (hv : rcValid l) {d : Int} (h1 : 0 ≤ d) (h2 : d ≤ 364) : ∃ v, rcAt l d = (v, 0) ∧ Lv l d v := by
  cases l with
  | nil => exact absurd rfl (rcValid_ne hv)
  | cons p r =>
    have hv' : rcCheck (p :: r) = 0 := hv
    refine ⟨rcLevel p r d, by unfold rcAt; rw [if_neg (by rw [hv']; simp), if_pos ⟨h1, h2⟩], level_Lv hv h1 h2⟩
theorem rcAt_eq {l : List Pt} (hv : rcValid l) {d v : Int} (h1 : 0 ≤ d) (h2 : d ≤ 364) (h : Lv l d v) : rcAt l d = (v, 0) := by
  obtain ⟨v', e1, e2⟩ := rcAt_valid hv h1 h2
  rw [Lv_one hv h e2]; exact e1
theorem frac_in {a x z : Int} (hx : 0 ≤ x) (hz : 1 ≤ z) : (0 ≤ a → 0 ≤ a * x / (x + z) ∧ a * x / (x + z) ≤ a) ∧ (a ≤ 0 → a ≤ a * x / (x + z) ∧ a * x / (x + z) ≤ 0) := by
  refine ⟨fun h => ⟨Int.ediv_nonneg (Int.mul_nonneg h hx) (by omega), ?_⟩, fun h => ⟨?_, ?_⟩⟩
  · exact Int.ediv_le_of_le_mul (by omega) (Int.mul_le_mul_of_nonneg_left (by omega) h)
  · refine Int.le_ediv_of_mul_le (by omega) ?_
    exact Int.mul_le_mul_of_nonpos_left h (by omega)
  · have h1 : a * x ≤ 0 := Int.mul_nonpos_of_nonpos_of_nonneg h hx
    exact Int.ediv_le_of_le_mul (by omega) (by omega)
/-- A level lies between the two points. -/
theorem Lv_between {l : List Pt} {d v : Int} (h : Lv l d v) : ∃ a ∈ l, ∃ q ∈ l, (a.2 ≤ v ∧ v ≤ q.2) ∨ (q.2 ≤ v ∧ v ≤ a.2) := by
  obtain ⟨a, q, x, z, a1, q1, x1, z1, m1, m2, n1, rfl⟩ := h
  refine ⟨a, a1, q, q1, ?_⟩
  obtain ⟨h1, h2⟩ := frac_in (a := q.2 - a.2) x1 z1
  rcases Int.le_total 0 (q.2 - a.2) with h | h
  · have := h1 h; left; omega
  · have := h2 h; right; omega
theorem rcAt_in {l : List Pt} (hv : rcValid l) {d : Int} (h1 : 0 ≤ d) (h2 : d ≤ 364) : ∃ v, rcAt l d = (v, 0) ∧ 0 ≤ v ∧ v ≤ 16777216 ∧ Lv l d v := by
  obtain ⟨v, e1, e2⟩ := rcAt_valid hv h1 h2
  obtain ⟨a, ha, q, hq, h⟩ := Lv_between e2
  have := (rcValid_pts hv).2 a ha
  have := (rcValid_pts hv).2 q hq
  exact ⟨v, e1, by omega, by omega, e2⟩
def up (u : Int) (l : List Pt) : List Pt := l.map fun p => (p.1, p.2 + u)
theorem up_valid {u : Int} {l : List Pt} (hv : rcValid l) (h0 : 0 ≤ u) (h : ∀ p ∈ l, p.2 + u ≤ 16777216) : rcValid (up u l) := by
  obtain ⟨hlen, hp⟩ := rcValid_pts hv
  refine rcValid_of ?_ ?_ ?_ ?_
  · intro e
    unfold up at e
    exact rcValid_ne hv (List.map_eq_nil_iff.1 e)
  · unfold up; rw [List.length_map]; exact hlen
  · intro s hs
    obtain ⟨p, hpl, rfl⟩ := List.mem_map.1 hs
    have := hp p hpl; have := h p hpl; dsimp only; omega
  · exact List.pairwise_map.2 ((rcValid_asc hv).imp fun h => h)
theorem up_Lv {u : Int} {l : List Pt} {d v : Int} (h : Lv l d v) : Lv (up u l) d (v + u) := by
  obtain ⟨a, q, x, z, a1, q1, x1, z1, m1, m2, n1, rfl⟩ := h
  refine ⟨(a.1, a.2 + u), (q.1, q.2 + u), x, z, List.mem_map.2 ⟨a, a1, rfl⟩, List.mem_map.2 ⟨q, q1, rfl⟩, x1, z1, m1, m2, fun s hs t h1 h2 => ?_, ?_⟩
  · obtain ⟨p, hp, rfl⟩ := List.mem_map.1 hs
    exact n1 p hp t h1 h2
  · dsimp only
    rw [show q.2 + u - (a.2 + u) = q.2 - a.2 by omega]; omega
theorem up_at {u : Int} {l : List Pt} (hv : rcValid l) (h0 : 0 ≤ u) (h : ∀ p ∈ l, p.2 + u ≤ 16777216) {d v : Int} (h1 : 0 ≤ d) (h2 : d ≤ 364) (hl : Lv l d v) : rcAt (up u l) d = (v + u, 0) :=
  rcAt_eq (up_valid hv h0 h) h1 h2 (up_Lv hl)
/-- The level at a day from one point to the next. -/
theorem seg_Lv {l : List Pt} (hv : rcValid l) {i : Nat} (h0 : 1 ≤ i) (h : i < l.length) {t : Int} (h1 : l[i - 1].1 ≤ t) (h2 : t ≤ l[i].1) : ∃ v, rcAt l t = (v, 0) ∧ v = l[i - 1].2 + (l[i].2 - l[i - 1].2) * (t - l[i - 1].1) / (l[i].1 - l[i - 1].1) := by
  obtain ⟨hlen, hp⟩ := rcValid_pts hv
  have hs := rcValid_asc hv
  have hlt : l[i - 1].1 < l[i].1 := List.pairwise_iff_getElem.1 hs (i - 1) i (by omega) h (by omega)
  have ha := hp l[i - 1] (List.getElem_mem _)
  have hq := hp l[i] (List.getElem_mem _)
  have hno : ∀ s ∈ l, ¬ (l[i - 1].1 < s.1 ∧ s.1 < l[i].1) := fun s hs' hc => by
    obtain ⟨j, hj, rfl⟩ := List.getElem_of_mem hs'
    rcases Nat.lt_or_ge j i with hji | hji
    · rcases Nat.lt_or_ge j (i - 1) with h3 | h3
      · have := List.pairwise_iff_getElem.1 hs j (i - 1) hj (by omega) h3; omega
      · have : j = i - 1 := by omega
        subst this; omega
    · rcases Nat.lt_or_ge i j with h3 | h3
      · have := List.pairwise_iff_getElem.1 hs i j h hj h3; omega
      · have : j = i := by omega
        subst this; omega
  have hrange : ∀ s ∈ l, 0 ≤ s.1 ∧ s.1 ≤ 364 := fun s hs => (hp s hs).1
  generalize hA : l[i - 1] = a at *
  generalize hQ : l[i] = q at *
  have ham : a ∈ l := by rw [← hA]; exact List.getElem_mem _
  have hqm : q ∈ l := by rw [← hQ]; exact List.getElem_mem _
  by_cases hte : t < q.1
  · refine ⟨_, rcAt_eq hv (by omega) (by omega) (v := a.2 + (q.2 - a.2) * (t - a.1) / ((t - a.1) + (q.1 - t))) ⟨a, q, t - a.1, q.1 - t, ham, hqm, by omega, by omega, by omega, by omega, fun s hs t' k1 k2 hm => ?_, rfl⟩, by rw [show t - a.1 + (q.1 - t) = q.1 - a.1 by omega]⟩
    have := hno s hs; have := hrange s hs; omega
  · have hte : t = q.1 := by omega
    subst hte
    obtain ⟨v, e1, e2⟩ := rcAt_valid hv hq.1.1 hq.1.2
    refine ⟨v, e1, ?_⟩
    obtain ⟨a', q', x, z, a1, q1, x1, z1, m1, m2, n1, rfl⟩ := e2
    have hx : x = 0 := by
      rcases Int.lt_or_le 0 x with hx | hx
      · exact absurd (show (q.1 + 0 - q.1) % 365 = 0 by omega) (n1 q hqm 0 (by omega) (by omega))
      · omega
    subst hx
    have e : a' = q := asc_inj hs a1 hqm (by have := hrange a' a1; omega)
    subst e
    rw [Int.mul_zero, Int.zero_ediv, Int.mul_ediv_cancel _ (by omega)]
    omega
theorem pt_at {l : List Pt} (hv : rcValid l) {p : Pt} (hp : p ∈ l) : rcAt l p.1 = (p.2, 0) := by
  have hr := (rcValid_pts hv).2
  obtain ⟨v, e1, e2⟩ := rcAt_valid hv (hr p hp).1.1 (hr p hp).1.2
  obtain ⟨a', q', x, z, a1, q1, x1, z1, m1, m2, n1, rfl⟩ := e2
  have hx : x = 0 := by
    rcases Int.lt_or_le 0 x with hx | hx
    · exact absurd (show (p.1 + 0 - p.1) % 365 = 0 by omega) (n1 p hp 0 (by omega) (by omega))
    · omega
  subst hx
  have e : a' = p := asc_inj (rcValid_asc hv) a1 hp (by have := hr a' a1; have := hr p hp; omega)
  subst e
  rw [e1, Int.mul_zero, Int.zero_ediv, Int.add_zero]
theorem slope {l : List Pt} (hv : rcValid l) {i : Nat} (h0 : 1 ≤ i) (h : i < l.length) {t : Int} (h1 : l[i - 1].1 ≤ t) (h2 : t < l[i].1) :
    ∃ p q, rcAt l t = (p, 0) ∧ rcAt l (t + 1) = (q, 0) ∧ 0 ≤ (l[i].2 - l[i - 1].2) * (q - p) ∧ (0 ≤ p ∧ p ≤ 16777216) ∧ (0 ≤ q ∧ q ≤ 16777216) := by
  obtain ⟨p, e1, f1⟩ := seg_Lv hv h0 h h1 (by omega)
  obtain ⟨q, e2, f2⟩ := seg_Lv hv h0 h (t := t + 1) (by omega) (by omega)
  have hp := (rcValid_pts hv).2
  have ha := hp l[i - 1] (List.getElem_mem _)
  have hq := hp l[i] (List.getElem_mem _)
  obtain ⟨p', e3, b1, b2, _⟩ := rcAt_in hv (d := t) (by omega) (by omega)
  obtain ⟨q', e4, b3, b4, _⟩ := rcAt_in hv (d := t + 1) (by omega) (by omega)
  rw [e3] at e1; cases e1
  rw [e4] at e2; cases e2
  refine ⟨p, q, e3, e4, ?_, ⟨b1, b2⟩, b3, b4⟩
  have hd : 0 < l[i].1 - l[i - 1].1 := by omega
  rcases Int.le_total 0 (l[i].2 - l[i - 1].2) with hh | hh
  · refine Int.mul_nonneg hh ?_
    have := Int.ediv_le_ediv hd (Int.mul_le_mul_of_nonneg_left (show t - l[i - 1].1 ≤ t + 1 - l[i - 1].1 by omega) hh)
    omega
  · refine Int.mul_nonneg_of_nonpos_of_nonpos hh ?_
    have := Int.ediv_le_ediv hd (Int.mul_le_mul_of_nonpos_left hh (show t - l[i - 1].1 ≤ t + 1 - l[i - 1].1 by omega))
    omega

/-- The first day with the highest level, and the level. -/
def HiOf (f : Int → Int) (x n : Int) : Prop := (0 ≤ x ∧ x ≤ 364) ∧ n = f x ∧ (∀ d, 0 ≤ d → d ≤ 364 → f d ≤ n) ∧ ∀ d, 0 ≤ d → d < x → f d < n
def lev (l : List Pt) (d : Int) : Int := (rcAt l d).1
theorem lev_eq {p : Pt} {r : List Pt} (hv : rcValid (p :: r)) {d : Int} (h1 : 0 ≤ d) (h2 : d ≤ 364) : lev (p :: r) d = rcLevel p r d := by
  have hv' : rcCheck (p :: r) = 0 := hv
  unfold lev rcAt
  rw [if_neg (by rw [hv']; simp), if_pos ⟨h1, h2⟩]
end Go.Proofs
