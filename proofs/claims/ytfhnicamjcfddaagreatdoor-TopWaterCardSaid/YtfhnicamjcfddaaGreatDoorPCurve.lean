/- Proved here: what functions of the given program come to, and the plain laws of it; no condition but those in the theorems. -/
import Derived.Test.YtfhnicamjcfddaaGreatDoorAbsP
import Derived.KernelRfl
/- Numbers, lists of numbers, decks: what they look like and what is asked of the functions that all chapters use. No program. -/
namespace Go.Proofs
open Go Go.Abs
set_option linter.unusedSimpArgs false
set_option linter.unusedVariables false
abbrev IC (n : Int) : Cell := .sc (.int .i64 n)
/-- A number as a slice's element. -/
def eI (x : Int) : List Cell := [IC x]
abbrev I (n : Int) : AV := .c (.sc (.int .i64 n))
abbrev Bo (b : Bool) : AV := .c (.sc (.bool b))
abbrev BC (b : Bool) : Cell := .sc (.bool b)
abbrev Ls := List Int
abbrev eL (l : Ls) : List (List Cell) := l.map eI
theorem eL_len (l : Ls) : (eL l).length = l.length := List.length_map _
theorem map_at {α β : Type} (e : α → β) (l : List α) {j : Nat} (h : j < l.length) : (l.map e)[(j : Int).toNat]? = some (e l[j]) := by
  rw [Int.toNat_natCast, List.getElem?_map, List.getElem?_eq_getElem h]; rfl
theorem map_at0 {α β : Type} (e : α → β) (l : List α) {j : Nat} (h : j < l.length) : (l.map e)[0 + j]? = some (e l[j]) := by
  rw [Nat.zero_add, List.getElem?_map, List.getElem?_eq_getElem h]; rfl
theorem wr0 : IntKind.i64.wrap 0 = 0 := by rw [wrap_in (by omega) (by omega)]
theorem wr00 : IntKind.i64.wrap (0 + 0) = 0 := wr0
theorem wr_succ {i : Nat} (h : i < 9223372036854775807) : IntKind.i64.wrap ((i : Int) + 1) = ((i + 1 : Nat) : Int) := by rw [wrap_in (by omega) (by omega)]; omega
def R_within : RT := fun args k => match args with
  | [.c (.sc (.int .i64 x)), .c (.sc (.int .i64 most))] => k (Bo (decide (0 ≤ x) && decide (x ≤ most)))
  | _ => False
theorem tmod_lo (x : Int) {n : Int} (h : 0 < n) : -n < x.tmod n := by
  rcases Int.le_total 0 x with hx | hx
  · have := Int.tmod_nonneg n hx; omega
  · have h1 := Int.neg_tmod (a := -x) (b := n)
    have h2 := Int.tmod_lt_of_pos (-x) h
    rw [Int.neg_neg] at h1
    omega
theorem mod_val (x : Int) {n : Int} (h : 0 < n) (h2 : n ≤ 4611686018427387904) : (IntKind.i64.wrap (x.tmod n + n)).tmod n = x % n := by
  have a := tmod_lo x h
  have b := Int.tmod_lt_of_pos x h
  rw [Go.Abs.wrap_in (by omega) (by omega), Int.tmod_eq_emod_of_nonneg (by omega), Int.tmod_def, show x - n * x.tdiv n + n = x + n * (1 - x.tdiv n) by rw [Int.mul_sub]; omega, Int.add_mul_emod_self_left]
/-- n modulo k. -/
def R_mod : RT := fun args k => match args with
  | [.c (.sc (.int .i64 x)), .c (.sc (.int .i64 n))] => (0 < n ∧ n ≤ 4611686018427387904) ∧ k (I (x % n))
  | _ => False
/-- A deck. -/
structure Dk where
  L : List Int
  at_ : Nat
def Dk.ok (d : Dk) : Prop := d.at_ ≤ d.L.length ∧ d.L.length ≤ 9223372036854775807
def dkC (d : Dk) : List Cell := [.lst (d.L.map eI), IC d.at_]
def R_next : RB := fun cs args k => match args with
  | [.c (.sc (.int .i64 n))] => ∃ d : Dk, cs = dkC d ∧ d.ok ∧ n ≤ 4611686018427387904 ∧ ∀ v d', Dk.ok d' → 0 ≤ v → (v < n ∨ v = 0) → k (I v) (dkC d')
  | _ => False
/-- A new deck. -/
def R_new : RN := fun args k => match args with
  | [.c (.lst es)] => ∃ l : List Int, es = l.map eI ∧ k (dkC ⟨l, 0⟩)
  | _ => False
def R_true : RT := fun args k => match args with
  | [] => k (Bo true)
  | _ => False
/-- A law of a slice of numbers and n numbers. -/
def R_law1 (n : Nat) : RT := fun args k => match args with
  | .c (.lst es) :: rest => (∃ l : Ls, es = eL l ∧ l.length ≤ 9223372036854775807) ∧ (∃ xs : Ls, rest = xs.map (fun x => I x) ∧ xs.length = n) ∧ k (Bo true)
  | _ => False
theorem sum_take {l : Ls} {i : Nat} (h : i < l.length) : (l.take (i + 1)).sum = (l.take i).sum + l[i] := by
  rw [show l.take (i + 1) = l.take i ++ [l[i]] from (List.take_append_getElem h).symm, List.sum_append]; simp
theorem sum_in {l : Ls} {a : Int} (ha : 0 ≤ a) (h : ∀ x ∈ l, 0 ≤ x ∧ x ≤ a) : 0 ≤ l.sum ∧ l.sum ≤ a * l.length := by
  induction l with
  | nil => simp
  | cons x r ih =>
    have h1 := h x (by simp)
    have h2 := ih fun y hy => h y (by simp [hy])
    rw [List.sum_cons, List.length_cons]
    have : a * ((r.length + 1 : Nat) : Int) = a * r.length + a := by rw [Int.natCast_add, Int.mul_add]; simp
    omega
theorem eL_all (l : Ls) : (eL l).all (fun e => e.length == 1) = true := by simp [List.all_eq_true, eL, eI]
theorem eL_take (l : Ls) (n : Nat) : (eL l).take n = eL (l.take n) := (List.map_take ..).symm
theorem eL_drop (l : Ls) (n : Nat) : (eL l).drop n = eL (l.drop n) := (List.map_drop ..).symm
theorem eL_snoc (l : Ls) (a : Int) : eL l ++ [[IC a]] = eL (l ++ [a]) := by simp [eL, eI]
theorem eL_set (l : Ls) (i : Nat) (v : Int) : (eL l).set i (eI v) = eL (l.set i v) := (List.map_set ..).symm
/-- A list of numbers in front of a law's end. -/
theorem leaf_l {k : AV → List Cell → Prop} (l : Ls) {n : Nat} {cs : List Cell} (h : n = l.length) (hc : noCs cs = true) (hk : k (.c (.lst (eL l))) cs) :
    noA (.c (.lst (List.take n (List.drop 0 (eL l))))) = true ∧ noCs cs = true ∧ k (.c (.lst (List.take n (List.drop 0 (eL l))))) cs := by
  subst h
  rw [List.drop_zero, List.take_of_length_le (by rw [eL_len]; exact Nat.le_refl _)]
  exact ⟨rfl, hc, hk⟩
/-! Points. -/
abbrev Pt := Int × Int
def ePt (p : Pt) : List Cell := [IC p.1, IC p.2]
abbrev eP (l : List Pt) : List (List Cell) := l.map ePt
theorem eP_len (l : List Pt) : (eP l).length = l.length := List.length_map _
theorem eP_all (l : List Pt) : (eP l).all (fun e => e.length == 2) = true := by simp [List.all_eq_true, ePt]
theorem eP_snoc (l : List Pt) (p : Pt) : eP l ++ [[IC p.1, IC p.2]] = eP (l ++ [p]) := by simp [ePt]
theorem leaf_p {k : AV → List Cell → Prop} (l : List Pt) {n : Nat} {cs : List Cell} (h : n = l.length) (hc : noCs cs = true) (hk : k (.c (.lst (eP l))) cs) :
    noA (.c (.lst (List.take n (List.drop 0 (eP l))))) = true ∧ noCs cs = true ∧ k (.c (.lst (List.take n (List.drop 0 (eP l))))) cs := by
  subst h
  rw [List.drop_zero, List.take_of_length_le (by rw [eP_len]; exact Nat.le_refl _)]
  exact ⟨rfl, hc, hk⟩
theorem mul_in {a b A B : Int} (h1 : -A ≤ a) (h2 : a ≤ A) (h3 : -B ≤ b) (h4 : b ≤ B) : -(A * B) ≤ a * b ∧ a * b ≤ A * B := by
  have hA : 0 ≤ A := by omega
  have hB : 0 ≤ B := by omega
  have h : (a * b).natAbs ≤ (A * B).natAbs := by
    rw [Int.natAbs_mul, Int.natAbs_mul]
    exact Nat.mul_le_mul (by omega) (by omega)
  have := Int.mul_nonneg hA hB
  omega
end Go.Proofs

/- Curves: what is said of a list of points, and the value at a place. No program. -/
namespace Go.Proofs
open Go Go.Abs
set_option linter.unusedSimpArgs false
set_option linter.unusedVariables false
def okPt (p : Pt) : Bool := (decide (0 ≤ p.1) && decide (p.1 ≤ 1073741824)) && (decide (0 ≤ p.2) && decide (p.2 ≤ 274877906944))
def steepB (dx dy : Int) : Bool := decide (0 < dx) && decide (4611686018427387904 / dx < dy)
def ckGo : Pt → List Pt → Int
  | _, [] => 0
  | q, p :: r => if okPt p = false then 1 else if p.1 ≤ q.1 ∨ p.2 < q.2 then 4 else if steepB (p.1 - q.1) (p.2 - q.2) = true then 1 else ckGo p r
def ckC : List Pt → Int
  | [] => 3
  | p :: r => if 100 < (p :: r).length then 10 else if okPt p = false then 1 else ckGo p r
def vGo : Pt → List Pt → Int → Int
  | p, [], _ => p.2
  | p, q :: r, x => if x ≤ q.1 then p.2 + (q.2 - p.2) * (x - p.1) / (q.1 - p.1) else vGo q r x
def valC : List Pt → Int → Int
  | [], _ => 0
  | p :: r, x => if x ≤ p.1 then p.2 else vGo p r x
theorem okPt_in {p : Pt} (h : okPt p = true) : (0 ≤ p.1 ∧ p.1 ≤ 1073741824) ∧ 0 ≤ p.2 ∧ p.2 ≤ 274877906944 := by simpa [okPt] using h
theorem okPt_of {p : Pt} (h : (0 ≤ p.1 ∧ p.1 ≤ 1073741824) ∧ 0 ≤ p.2 ∧ p.2 ≤ 274877906944) : okPt p = true := by simp [okPt]; omega
theorem steep_f {dx dy : Int} (h0 : 0 < dx) (h : steepB dx dy = false) : dy * dx ≤ 4611686018427387904 := by
  simp [steepB, h0] at h
  exact Int.le_trans (Int.mul_le_mul_of_nonneg_right h (by omega)) (Int.ediv_mul_le _ (by omega))
theorem steep_of {dx dy : Int} (h0 : 0 < dx) (h : dy * dx ≤ 4611686018427387904) : steepB dx dy = false := by
  simp [steepB, h0]
  exact Int.le_ediv_of_mul_le h0 h
theorem ckGo_eq (q p : Pt) (r : List Pt) : ckGo q (p :: r) = if okPt p = false then 1 else if p.1 ≤ q.1 ∨ p.2 < q.2 then 4 else if steepB (p.1 - q.1) (p.2 - q.2) = true then 1 else ckGo p r := rfl
theorem ckC_eq (p : Pt) (r : List Pt) : ckC (p :: r) = if 100 < (p :: r).length then 10 else if okPt p = false then 1 else ckGo p r := rfl
theorem ckGo_cons {q p : Pt} {r : List Pt} : ckGo q (p :: r) = 0 ↔ okPt p = true ∧ q.1 < p.1 ∧ q.2 ≤ p.2 ∧ (p.2 - q.2) * (p.1 - q.1) ≤ 4611686018427387904 ∧ ckGo p r = 0 := by
  rw [ckGo_eq]
  constructor
  · intro h
    split at h
    · cases h
    · rename_i h1
      split at h
      · cases h
      · rename_i h2
        split at h
        · cases h
        · rename_i h3
          refine ⟨by simpa using h1, by omega, by omega, steep_f (by omega) (by simpa using h3), h⟩
  · rintro ⟨h1, h2, h3, h4, h5⟩
    rw [if_neg (by rw [h1]; simp), if_neg (by omega), if_neg (by rw [steep_of (by omega) h4]; simp)]
    exact h5
theorem ckC_cons {p : Pt} {r : List Pt} : ckC (p :: r) = 0 ↔ r.length ≤ 99 ∧ okPt p = true ∧ ckGo p r = 0 := by
  rw [ckC_eq]
  constructor
  · intro h
    split at h
    · cases h
    · rename_i h1
      split at h
      · cases h
      · rename_i h2
        exact ⟨by simp at h1; omega, by simpa using h2, h⟩
  · rintro ⟨h1, h2, h3⟩
    rw [if_neg (by simp; omega), if_neg (by rw [h2]; simp)]
    exact h3
theorem ckC_ne {c : List Pt} (h : ckC c = 0) : c ≠ [] ∧ c.length ≤ 100 := by
  cases c with
  | nil => simp [ckC] at h
  | cons p r => exact ⟨by simp, by have := (ckC_cons.1 h).1; simp; omega⟩
theorem ckGo_ok {p : Pt} : ∀ {r : List Pt}, ckGo p r = 0 → ∀ q ∈ r, okPt q = true
  | [], _, q, hq => by simp at hq
  | a :: r, h, q, hq => by
    obtain ⟨h1, _, _, _, h5⟩ := ckGo_cons.1 h
    rcases List.mem_cons.1 hq with rfl | hq
    · exact h1
    · exact ckGo_ok h5 q hq
theorem ckC_ok {c : List Pt} (h : ckC c = 0) : ∀ q ∈ c, okPt q = true := by
  cases c with
  | nil => simp [ckC] at h
  | cons p r =>
    obtain ⟨_, h2, h3⟩ := ckC_cons.1 h
    intro q hq
    rcases List.mem_cons.1 hq with rfl | hq
    · exact h2
    · exact ckGo_ok h3 q hq
theorem seg_in {p q : Pt} {x : Int} (h1 : p.1 < q.1) (h2 : p.2 ≤ q.2) (hx : p.1 ≤ x) (hx2 : x ≤ q.1) : 0 ≤ (q.2 - p.2) * (x - p.1) ∧ (q.2 - p.2) * (x - p.1) ≤ (q.2 - p.2) * (q.1 - p.1) ∧ 0 ≤ (q.2 - p.2) * (x - p.1) / (q.1 - p.1) ∧ (q.2 - p.2) * (x - p.1) / (q.1 - p.1) ≤ q.2 - p.2 := by
  have e1 : 0 ≤ (q.2 - p.2) * (x - p.1) := Int.mul_nonneg (by omega) (by omega)
  have e2 : (q.2 - p.2) * (x - p.1) ≤ (q.2 - p.2) * (q.1 - p.1) := Int.mul_le_mul_of_nonneg_left (by omega) (by omega)
  refine ⟨e1, e2, Int.ediv_nonneg e1 (by omega), ?_⟩
  have := Int.ediv_le_ediv (show 0 < q.1 - p.1 by omega) e2
  rwa [Int.mul_ediv_cancel _ (by omega)] at this
theorem vGo_ge : ∀ {r : List Pt} {p : Pt} {x : Int}, ckGo p r = 0 → p.1 ≤ x → p.2 ≤ vGo p r x
  | [], p, x, _, _ => Int.le_refl _
  | q :: r, p, x, h, hx => by
    obtain ⟨_, h2, h3, _, h5⟩ := ckGo_cons.1 h
    unfold vGo
    split
    · rename_i hq
      have := (seg_in h2 h3 hx hq).2.2.1
      omega
    · have := vGo_ge (x := x) h5 (by omega)
      omega
theorem vGo_mono : ∀ {r : List Pt} {p : Pt} {x y : Int}, ckGo p r = 0 → p.1 ≤ x → x ≤ y → vGo p r x ≤ vGo p r y
  | [], p, x, y, _, _, _ => Int.le_refl _
  | q :: r, p, x, y, h, hx, hxy => by
    obtain ⟨_, h2, h3, _, h5⟩ := ckGo_cons.1 h
    unfold vGo
    by_cases h1 : x ≤ q.1
    · by_cases hy : y ≤ q.1
      · rw [if_pos h1, if_pos hy]
        have := Int.ediv_le_ediv (show 0 < q.1 - p.1 by omega) (Int.mul_le_mul_of_nonneg_left (show x - p.1 ≤ y - p.1 by omega) (show 0 ≤ q.2 - p.2 by omega))
        omega
      · rw [if_pos h1, if_neg hy]
        have := (seg_in h2 h3 hx h1).2.2.2
        have := vGo_ge (x := y) h5 (by omega)
        omega
    · rw [if_neg h1, if_neg (by omega)]
      exact vGo_mono h5 (by omega) hxy
theorem valC_eq (p : Pt) (r : List Pt) (x : Int) : valC (p :: r) x = if x ≤ p.1 then p.2 else vGo p r x := rfl
theorem valC_mono {c : List Pt} (h : ckC c = 0) {x y : Int} (hxy : x ≤ y) : valC c x ≤ valC c y := by
  cases c with
  | nil => exact Int.le_refl _
  | cons p r =>
    obtain ⟨_, _, h3⟩ := ckC_cons.1 h
    rw [valC_eq, valC_eq]
    by_cases h1 : x ≤ p.1
    · rw [if_pos h1]
      split
      · exact Int.le_refl _
      · exact vGo_ge h3 (by omega)
    · rw [if_neg h1, if_neg (by omega)]
      exact vGo_mono h3 (by omega) hxy
theorem vGo_in : ∀ {r : List Pt} {p : Pt} {x : Int}, okPt p = true → ckGo p r = 0 → p.1 ≤ x → 0 ≤ vGo p r x ∧ vGo p r x ≤ 274877906944
  | [], p, x, hp, _, _ => by have := okPt_in hp; unfold vGo; omega
  | q :: r, p, x, hp, h, hx => by
    obtain ⟨h1, h2, h3, _, h5⟩ := ckGo_cons.1 h
    have a := okPt_in hp
    have b := okPt_in h1
    unfold vGo
    split
    · rename_i hq
      have := seg_in h2 h3 hx hq
      omega
    · exact vGo_in h1 h5 (by omega)
theorem valC_in {c : List Pt} (h : ckC c = 0) (x : Int) : 0 ≤ valC c x ∧ valC c x ≤ 274877906944 := by
  cases c with
  | nil => simp [ckC] at h
  | cons p r =>
    obtain ⟨_, h2, h3⟩ := ckC_cons.1 h
    have a := okPt_in h2
    rw [valC_eq]
    split
    · omega
    · exact vGo_in h2 h3 (by omega)
/-- Points as the program's functions are given them. -/
def R_ckC : RT := fun args k => match args with
  | [.c (.lst es)] => ∃ c : List Pt, es = eP c ∧ c.length ≤ 9223372036854775807 ∧ k (I (ckC c))
  | _ => False
def R_val : RT := fun args k => match args with
  | [.c (.lst es), .c (.sc (.int .i64 x))] => ∃ c : List Pt, es = eP c ∧ ckC c = 0 ∧ k (I (valC c x))
  | _ => False
def R_steep : RT := fun args k => match args with
  | [.c (.sc (.int .i64 dx)), .c (.sc (.int .i64 dy))] => k (Bo (steepB dx dy))
  | _ => False
/-- Where the walk over the points is. -/
def ckAt (c : List Pt) (i : Nat) : Prop := i = 0 ∨ ∃ q, c[i - 1]? = some q ∧ okPt q = true ∧ ckC c = ckGo q (c.drop i)
def vAt (c : List Pt) (x : Int) (i : Nat) : Prop := i = 0 ∨ ∃ q, c[i - 1]? = some q ∧ q.1 < x ∧ valC c x = vGo q (c.drop i) x ∧ ckGo q (c.drop i) = 0 ∧ okPt q = true
theorem eP_at (c : List Pt) {i : Nat} {p : Pt} (h : c[i]? = some p) : (eP c)[i]? = some (ePt p) := by rw [List.getElem?_map, h]; rfl
theorem drop_of {α : Type} {c : List α} {i : Nat} {p : α} (h : c[i]? = some p) : c.drop i = p :: c.drop (i + 1) := by
  obtain ⟨hi, rfl⟩ := List.getElem?_eq_some_iff.1 h
  exact List.drop_eq_getElem_cons hi
end Go.Proofs
