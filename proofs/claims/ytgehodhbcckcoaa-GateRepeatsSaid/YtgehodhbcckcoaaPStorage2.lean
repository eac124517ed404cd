/- More of curves and reservoirs: what the document's answer needs. No program. -/
import Derived.Test.YtgehodhbcckcoaaPStorage
namespace Go.Proofs
open Go Go.Abs
set_option linter.unusedSimpArgs false
set_option linter.unusedVariables false
theorem ck_end : ∀ {r : List Pt} {q : Pt}, ckGo q r = 0 → q.1 ≤ (endP q r).1
  | [], _, _ => Int.le_refl _
  | a :: r, q, h => by
    obtain ⟨_, h2, _, _, h5⟩ := ckGo_cons.1 h
    have := ck_end h5
    show q.1 ≤ (endP a r).1
    omega
theorem lGo_in' : ∀ {r : List Pt} {p : Pt} {y : Int}, ckGo p r = 0 → p.2 ≤ y → p.1 ≤ lGo p r y ∧ lGo p r y ≤ (endP p r).1
  | [], p, y, _, _ => ⟨Int.le_refl _, Int.le_refl _⟩
  | q :: r, p, y, h, hy => by
    obtain ⟨_, h2, h3, _, h5⟩ := ckGo_cons.1 h
    have hq := ck_end h5
    show p.1 ≤ lGo p (q :: r) y ∧ lGo p (q :: r) y ≤ (endP q r).1
    unfold lGo
    split
    · rename_i h6
      have := seg_l h2 (by omega) hy h6
      omega
    · have := lGo_in' (y := y) h5 (by omega)
      omega
theorem gal_go' : ∀ {r : List Pt} {p : Pt} {x y : Int}, ckGo p r = 0 → p.2 ≤ y → p.1 ≤ x → x ≤ (endP p r).1 → (x ≤ lGo p r y ↔ vGo p r x ≤ y)
  | [], p, x, y, _, hy, hx, hx2 => by
    have : x ≤ p.1 := hx2
    unfold lGo vGo
    omega
  | q :: r, p, x, y, h, hy, hx, hx2 => by
    obtain ⟨_, h2, h3, _, h5⟩ := ckGo_cons.1 h
    have hx2 : x ≤ (endP q r).1 := hx2
    unfold lGo vGo
    by_cases h6 : y < q.2
    · rw [if_pos h6]
      have hs := seg_l h2 (by omega) hy h6
      by_cases h7 : x ≤ q.1
      · rw [if_pos h7]
        have a1 : (q.2 - p.2) * (x - p.1) / (q.1 - p.1) < y - p.2 + 1 ↔ (q.2 - p.2) * (x - p.1) < (y - p.2 + 1) * (q.1 - p.1) := Int.ediv_lt_iff_lt_mul (by omega)
        have a2 : x - p.1 ≤ ((y - p.2 + 1) * (q.1 - p.1) - 1) / (q.2 - p.2) ↔ (x - p.1) * (q.2 - p.2) ≤ (y - p.2 + 1) * (q.1 - p.1) - 1 := Int.le_ediv_iff_mul_le (by omega)
        rw [Int.mul_comm (x - p.1)] at a2
        omega
      · rw [if_neg h7]
        have := vGo_ge (x := x) h5 (by omega)
        omega
    · rw [if_neg h6]
      have := (lGo_in' (y := y) h5 (by omega)).1
      by_cases h7 : x ≤ q.1
      · rw [if_pos h7]
        have := seg_in h2 h3 hx h7
        omega
      · rw [if_neg h7]
        exact gal_go' h5 (by omega) (by omega) hx2
theorem hgt_in' {c : List Pt} (h : ckC c = 0) (y : Int) : (c.headD (0, 0)).1 ≤ hgt c y ∧ hgt c y ≤ (lastP c).1 := by
  cases c with
  | nil => simp [ckC] at h
  | cons p r =>
    have hc := (ckC_cons.1 h).2.2
    show p.1 ≤ hgt (p :: r) y ∧ hgt (p :: r) y ≤ (endP p r).1
    unfold hgt
    dsimp only
    split
    · have := ck_end hc
      omega
    · exact lGo_in' hc (by omega)
theorem hgt_gal' {c : List Pt} (h : ckC c = 0) {x y : Int} (hy : (c.headD (0, 0)).2 ≤ y) (hx : (c.headD (0, 0)).1 ≤ x) (hx2 : x ≤ (lastP c).1) : x ≤ hgt c y ↔ valC c x ≤ y := by
  cases c with
  | nil => simp [ckC] at h
  | cons p r =>
    have hc := (ckC_cons.1 h).2.2
    have hy : p.2 ≤ y := hy
    have hx : p.1 ≤ x := hx
    rw [valC_eq, show hgt (p :: r) y = lGo p r y from if_neg (by omega), gal_go' hc hy hx hx2]
    by_cases h1 : x ≤ p.1
    · rw [if_pos h1]
      have e : x = p.1 := by omega
      have := (gal_go' hc hy hx hx2).1 (by have := lGo_in' hc hy; omega)
      constructor <;> intro <;> assumption
    · rw [if_neg h1]
/-- The value at a point. -/
theorem vGo_at {r : List Pt} {q : Pt} (h : ckGo q r = 0) : vGo q r q.1 = q.2 := by
  cases r with
  | nil => rfl
  | cons a r =>
    obtain ⟨_, h2, _, _, _⟩ := ckGo_cons.1 h
    unfold vGo
    rw [if_pos (by omega), Int.sub_self, Int.mul_zero, Int.zero_ediv, Int.add_zero]
theorem vGo_next {r : List Pt} {q p : Pt} {x : Int} (h : ckGo q (p :: r) = 0) (hx : ¬ x < p.1) : vGo q (p :: r) x = vGo p r x := by
  obtain ⟨_, h2, _, _, h5⟩ := ckGo_cons.1 h
  by_cases e : x = p.1
  · subst e
    rw [vGo_at h5]
    unfold vGo
    rw [if_pos (Int.le_refl _), Int.mul_ediv_cancel _ (by omega)]
    omega
  · show (if x ≤ p.1 then _ else _) = _
    rw [if_neg (by omega)]
def atV (c : List Pt) (x : Int) : Int × Int := if ckC c ≠ 0 then (0, ckC c) else (valC c x, 0)
def R_at : RT := fun args k => match args with
  | [.c (.lst es), .c (.sc (.int .i64 x))] => ∃ c : List Pt, es = eP c ∧ c.length ≤ 9223372036854775807 ∧ k (.tup [I (atV c x).1, I (atV c x).2])
  | _ => False
def rAt (c : List Pt) (x : Int) (i : Nat) : Prop := ∃ q, c[i - 1]? = some q ∧ q.1 ≤ x ∧ valC c x = vGo q (c.drop i) x ∧ ckGo q (c.drop i) = 0 ∧ okPt q = true
def R_rsI (f : Rs → Int → Int) : RT := fun args k => match args with
  | [.agg [.lst es, .sc (.int .i64 a), .sc (.int .i64 b), .sc (.int .i64 c), .sc (.int .i64 d), .sc (.int .i64 e)], .c (.sc (.int .i64 x))] => ∃ st : List Pt, es = eP st ∧ st.length ≤ 9223372036854775807 ∧ k (I (f ⟨st, a, b, c, d, e⟩ x))
  | _ => False
/-- All points of a curve lie up to the last one. -/
theorem ck_le_end : ∀ {r : List Pt} {q : Pt}, ckGo q r = 0 → ∀ a ∈ q :: r, a.1 ≤ (endP q r).1
  | [], q, _, a, ha => by simp at ha; subst ha; exact Int.le_refl _
  | b :: r, q, h, a, ha => by
    rcases List.mem_cons.1 ha with rfl | ha
    · exact ck_end h
    · exact ck_le_end (ckGo_cons.1 h).2.2.2.2 a ha
theorem le_last {c : List Pt} (h : ckC c = 0) : ∀ a ∈ c, a.1 ≤ (lastP c).1 := by
  cases c with
  | nil => simp [ckC] at h
  | cons p r => exact ck_le_end (ckC_cons.1 h).2.2
theorem last_mem {c : List Pt} (h : c ≠ []) : lastP c ∈ c := List.mem_of_getElem? (lastP_at h)
theorem srt_lv {r : Rs} (h : ckS r = 0) : (r.st.headD (0, 0)).1 ≤ r.dead ∧ r.dead ≤ r.low ∧ r.low ≤ r.full ∧ r.full ≤ r.sur ∧ r.sur ≤ r.crest ∧ r.crest ≤ (lastP r.st).1 := by
  have := (ckS_ok h).2.2.2.2
  unfold Rs.lv at this
  simp only [srt_cons] at this
  obtain ⟨a, b, c, d, e, f, _⟩ := this
  exact ⟨a, b, c, d, e, f⟩
theorem dead_in {r : Rs} (h : ckS r = 0) : 0 ≤ r.dead ∧ r.dead ≤ 16777216 := by
  have a := srt_lv h
  obtain ⟨h1, _, h3, _, _⟩ := ckS_ok h
  have hc0 := (ckC_ne h1).1
  have := okPt_in (ckC_ok h1 _ (List.mem_of_getElem? (head_at hc0)))
  omega
end Go.Proofs
