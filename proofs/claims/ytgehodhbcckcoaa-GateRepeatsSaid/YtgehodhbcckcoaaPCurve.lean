/- Curves: what is said of a list of points, and the value at a place. No program. -/
import Derived.Test.YtgehodhbcckcoaaPBase
namespace Go.Proofs
open Go Go.Abs
set_option linter.unusedSimpArgs false
set_option linter.unusedVariables false
def okPt (p : Pt) : Bool := (decide (0 ≤ p.1) && decide (p.1 ≤ 1073741824)) && (decide (0 ≤ p.2) && decide (p.2 ≤ 274877906944))
def steepB (dx dy : Int) : Bool := decide (0 < dx) && decide (4611686018427387904 / dx < dy)
def ckGo : Pt → List Pt → Int
  | _, [] => 0
  | q, p :: r => if okPt p = false then 1 else if p.1 ≤ q.1 ∨ p.2 < q.2 then 4 else if steepB (p.1 - q.1) (p.2 - q.2) = true then 1 else ckGo p r
def ckC : List Pt → Int
  | [] => 3
  | p :: r => if 100 < (p :: r).length then 10 else if okPt p = false then 1 else ckGo p r
def vGo : Pt → List Pt → Int → Int
  | p, [], _ => p.2
  | p, q :: r, x => if x ≤ q.1 then p.2 + (q.2 - p.2) * (x - p.1) / (q.1 - p.1) else vGo q r x
def valC : List Pt → Int → Int
  | [], _ => 0
  | p :: r, x => if x ≤ p.1 then p.2 else vGo p r x
theorem okPt_in {p : Pt} (h : okPt p = true) : (0 ≤ p.1 ∧ p.1 ≤ 1073741824) ∧ 0 ≤ p.2 ∧ p.2 ≤ 274877906944 := by simpa [okPt] using h
theorem okPt_of {p : Pt} (h : (0 ≤ p.1 ∧ p.1 ≤ 1073741824) ∧ 0 ≤ p.2 ∧ p.2 ≤ 274877906944) : okPt p = true := by simp [okPt]; omega
theorem steep_f {dx dy : Int} (h0 : 0 < dx) (h : steepB dx dy = false) : dy * dx ≤ 4611686018427387904 := by
  simp [steepB, h0] at h
  exact Int.le_trans (Int.mul_le_mul_of_nonneg_right h (by omega)) (Int.ediv_mul_le _ (by omega))
theorem steep_of {dx dy : Int} (h0 : 0 < dx) (h : dy * dx ≤ 4611686018427387904) : steepB dx dy = false := by
  simp [steepB, h0]
  exact Int.le_ediv_of_mul_le h0 h
theorem ckGo_eq (q p : Pt) (r : List Pt) : ckGo q (p :: r) = if okPt p = false then 1 else if p.1 ≤ q.1 ∨ p.2 < q.2 then 4 else if steepB (p.1 - q.1) (p.2 - q.2) = true then 1 else ckGo p r := rfl
theorem ckC_eq (p : Pt) (r : List Pt) : ckC (p :: r) = if 100 < (p :: r).length then 10 else if okPt p = false then 1 else ckGo p r := rfl
theorem ckGo_cons {q p : Pt} {r : List Pt} : ckGo q (p :: r) = 0 ↔ okPt p = true ∧ q.1 < p.1 ∧ q.2 ≤ p.2 ∧ (p.2 - q.2) * (p.1 - q.1) ≤ 4611686018427387904 ∧ ckGo p r = 0 := by
  rw [ckGo_eq]
  constructor
  · intro h
    split at h
    · cases h
    · rename_i h1
      split at h
      · cases h
      · rename_i h2
        split at h
        · cases h
        · rename_i h3
          refine ⟨by simpa using h1, by omega, by omega, steep_f (by omega) (by simpa using h3), h⟩
  · rintro ⟨h1, h2, h3, h4, h5⟩
    rw [if_neg (by rw [h1]; simp), if_neg (by omega), if_neg (by rw [steep_of (by omega) h4]; simp)]
    exact h5
theorem ckC_cons {p : Pt} {r : List Pt} : ckC (p :: r) = 0 ↔ r.length ≤ 99 ∧ okPt p = true ∧ ckGo p r = 0 := by
  rw [ckC_eq]
  constructor
  · intro h
    split at h
    · cases h
    · rename_i h1
      split at h
      · cases h
      · rename_i h2
        exact ⟨by simp at h1; omega, by simpa using h2, h⟩
  · rintro ⟨h1, h2, h3⟩
    rw [if_neg (by simp; omega), if_neg (by rw [h2]; simp)]
    exact h3
theorem ckC_ne {c : List Pt} (h : ckC c = 0) : c ≠ [] ∧ c.length ≤ 100 := by
  cases c with
  | nil => simp [ckC] at h
  | cons p r => exact ⟨by simp, by have := (ckC_cons.1 h).1; simp; omega⟩
theorem ckGo_ok {p : Pt} : ∀ {r : List Pt}, ckGo p r = 0 → ∀ q ∈ r, okPt q = true
  | [], _, q, hq => by simp at hq
  | a :: r, h, q, hq => by
    obtain ⟨h1, _, _, _, h5⟩ := ckGo_cons.1 h
    rcases List.mem_cons.1 hq with rfl | hq
    · exact h1
    · exact ckGo_ok h5 q hq
theorem ckC_ok {c : List Pt} (h : ckC c = 0) : ∀ q ∈ c, okPt q = true := by
  cases c with
  | nil => simp [ckC] at h
  | cons p r =>
    obtain ⟨_, h2, h3⟩ := ckC_cons.1 h
    intro q hq
    rcases List.mem_cons.1 hq with rfl | hq
    · exact h2
    · exact ckGo_ok h3 q hq
theorem seg_in {p q : Pt} {x : Int} (h1 : p.1 < q.1) (h2 : p.2 ≤ q.2) (hx : p.1 ≤ x) (hx2 : x ≤ q.1) : 0 ≤ (q.2 - p.2) * (x - p.1) ∧ (q.2 - p.2) * (x - p.1) ≤ (q.2 - p.2) * (q.1 - p.1) ∧ 0 ≤ (q.2 - p.2) * (x - p.1) / (q.1 - p.1) ∧ (q.2 - p.2) * (x - p.1) / (q.1 - p.1) ≤ q.2 - p.2 := by
  have e1 : 0 ≤ (q.2 - p.2) * (x - p.1) := Int.mul_nonneg (by omega) (by omega)
  have e2 : (q.2 - p.2) * (x - p.1) ≤ (q.2 - p.2) * (q.1 - p.1) := Int.mul_le_mul_of_nonneg_left (by omega) (by omega)
  refine ⟨e1, e2, Int.ediv_nonneg e1 (by omega), ?_⟩
  have := Int.ediv_le_ediv (show 0 < q.1 - p.1 by omega) e2
  rwa [Int.mul_ediv_cancel _ (by omega)] at this
theorem vGo_ge : ∀ {r : List Pt} {p : Pt} {x : Int}, ckGo p r = 0 → p.1 ≤ x → p.2 ≤ vGo p r x
  | [], p, x, _, _ => Int.le_refl _
  | q :: r, p, x, h, hx => by
    obtain ⟨_, h2, h3, _, h5⟩ := ckGo_cons.1 h
    unfold vGo
    split
    · rename_i hq
      have := (seg_in h2 h3 hx hq).2.2.1
      omega
    · have := vGo_ge (x := x) h5 (by omega)
      omega
theorem vGo_mono : ∀ {r : List Pt} {p : Pt} {x y : Int}, ckGo p r = 0 → p.1 ≤ x → x ≤ y → vGo p r x ≤ vGo p r y
  | [], p, x, y, _, _, _ => Int.le_refl _
  | q :: r, p, x, y, h, hx, hxy => by
    obtain ⟨_, h2, h3, _, h5⟩ := ckGo_cons.1 h
    unfold vGo
    by_cases h1 : x ≤ q.1
    · by_cases hy : y ≤ q.1
      · rw [if_pos h1, if_pos hy]
        have := Int.ediv_le_ediv (show 0 < q.1 - p.1 by omega) (Int.mul_le_mul_of_nonneg_left (show x - p.1 ≤ y - p.1 by omega) (show 0 ≤ q.2 - p.2 by omega))
        omega
      · rw [if_pos h1, if_neg hy]
        have := (seg_in h2 h3 hx h1).2.2.2
        have := vGo_ge (x := y) h5 (by omega)
        omega
    · rw [if_neg h1, if_neg (by omega)]
      exact vGo_mono h5 (by omega) hxy
theorem valC_eq (p : Pt) (r : List Pt) (x : Int) : valC (p :: r) x = if x ≤ p.1 then p.2 else vGo p r x := rfl
theorem valC_mono {c : List Pt} (h : ckC c = 0) {x y : Int} (hxy : x ≤ y) : valC c x ≤ valC c y := by
  cases c with
  | nil => exact Int.le_refl _
  | cons p r =>
    obtain ⟨_, _, h3⟩ := ckC_cons.1 h
    rw [valC_eq, valC_eq]
    by_cases h1 : x ≤ p.1
    · rw [if_pos h1]
      split
      · exact Int.le_refl _
      · exact vGo_ge h3 (by omega)
    · rw [if_neg h1, if_neg (by omega)]
      exact vGo_mono h3 (by omega) hxy
theorem vGo_in : ∀ {r : List Pt} {p : Pt} {x : Int}, okPt p = true → ckGo p r = 0 → p.1 ≤ x → 0 ≤ vGo p r x ∧ vGo p r x ≤ 274877906944
  | [], p, x, hp, _, _ => by have := okPt_in hp; unfold vGo; omega
  | q :: r, p, x, hp, h, hx => by
    obtain ⟨h1, h2, h3, _, h5⟩ := ckGo_cons.1 h
    have a := okPt_in hp
    have b := okPt_in h1
    unfold vGo
    split
    · rename_i hq
      have := seg_in h2 h3 hx hq
      omega
    · exact vGo_in h1 h5 (by omega)
theorem valC_in {c : List Pt} (h : ckC c = 0) (x : Int) : 0 ≤ valC c x ∧ valC c x ≤ 274877906944 := by
  cases c with
  | nil => simp [ckC] at h
  | cons p r =>
    obtain ⟨_, h2, h3⟩ := ckC_cons.1 h
    have a := okPt_in h2
    rw [valC_eq]
    split
    · omega
    · exact vGo_in h2 h3 (by omega)
/-- Points as the program's functions are given them. -/
def R_ckC : RT := fun args k => match args with
  | [.c (.lst es)] => ∃ c : List Pt, es = eP c ∧ c.length ≤ 9223372036854775807 ∧ k (I (ckC c))
  | _ => False
def R_val : RT := fun args k => match args with
  | [.c (.lst es), .c (.sc (.int .i64 x))] => ∃ c : List Pt, es = eP c ∧ ckC c = 0 ∧ k (I (valC c x))
  | _ => False
def R_steep : RT := fun args k => match args with
  | [.c (.sc (.int .i64 dx)), .c (.sc (.int .i64 dy))] => k (Bo (steepB dx dy))
  | _ => False
/-- Where the walk over the points is. -/
def ckAt (c : List Pt) (i : Nat) : Prop := i = 0 ∨ ∃ q, c[i - 1]? = some q ∧ okPt q = true ∧ ckC c = ckGo q (c.drop i)
def vAt (c : List Pt) (x : Int) (i : Nat) : Prop := i = 0 ∨ ∃ q, c[i - 1]? = some q ∧ q.1 < x ∧ valC c x = vGo q (c.drop i) x ∧ ckGo q (c.drop i) = 0 ∧ okPt q = true
theorem eP_at (c : List Pt) {i : Nat} {p : Pt} (h : c[i]? = some p) : (eP c)[i]? = some (ePt p) := by rw [List.getElem?_map, h]; rfl
theorem drop_of {α : Type} {c : List α} {i : Nat} {p : α} (h : c[i]? = some p) : c.drop i = p :: c.drop (i + 1) := by
  obtain ⟨hi, rfl⟩ := List.getElem?_eq_some_iff.1 h
  exact List.drop_eq_getElem_cons hi
end Go.Proofs
