/- Numbers, lists of numbers, decks: what they look like and what is asked of the functions that all chapters use. No program. -/
import Derived.Test.YtgehodhbcckcoaaAbsP
import Derived.KernelRfl
namespace Go.Proofs
open Go Go.Abs
set_option linter.unusedSimpArgs false
set_option linter.unusedVariables false
abbrev IC (n : Int) : Cell := .sc (.int .i64 n)
/-- A number as a slice's element. -/
def eI (x : Int) : List Cell := [IC x]
abbrev I (n : Int) : AV := .c (.sc (.int .i64 n))
abbrev Bo (b : Bool) : AV := .c (.sc (.bool b))
abbrev BC (b : Bool) : Cell := .sc (.bool b)
abbrev Ls := List Int
abbrev eL (l : Ls) : List (List Cell) := l.map eI
theorem eL_len (l : Ls) : (eL l).length = l.length := List.length_map _
theorem map_at {α β : Type} (e : α → β) (l : List α) {j : Nat} (h : j < l.length) : (l.map e)[(j : Int).toNat]? = some (e l[j]) := by
  rw [Int.toNat_natCast, List.getElem?_map, List.getElem?_eq_getElem h]; rfl
theorem map_at0 {α β : Type} (e : α → β) (l : List α) {j : Nat} (h : j < l.length) : (l.map e)[0 + j]? = some (e l[j]) := by
  rw [Nat.zero_add, List.getElem?_map, List.getElem?_eq_getElem h]; rfl
theorem wr0 : IntKind.i64.wrap 0 = 0 := by rw [wrap_in (by omega) (by omega)]
theorem wr00 : IntKind.i64.wrap (0 + 0) = 0 := wr0
theorem wr_succ {i : Nat} (h : i < 9223372036854775807) : IntKind.i64.wrap ((i : Int) + 1) = ((i + 1 : Nat) : Int) := by rw [wrap_in (by omega) (by omega)]; omega
def R_within : RT := fun args k => match args with
  | [.c (.sc (.int .i64 x)), .c (.sc (.int .i64 most))] => k (Bo (decide (0 ≤ x) && decide (x ≤ most)))
  | _ => False
theorem tmod_lo (x : Int) {n : Int} (h : 0 < n) : -n < x.tmod n := by
  rcases Int.le_total 0 x with hx | hx
  · have := Int.tmod_nonneg n hx; omega
  · have h1 := Int.neg_tmod (a := -x) (b := n)
    have h2 := Int.tmod_lt_of_pos (-x) h
    rw [Int.neg_neg] at h1
    omega
theorem mod_val (x : Int) {n : Int} (h : 0 < n) (h2 : n ≤ 4611686018427387904) : (IntKind.i64.wrap (x.tmod n + n)).tmod n = x % n := by
  have a := tmod_lo x h
  have b := Int.tmod_lt_of_pos x h
  rw [Go.Abs.wrap_in (by omega) (by omega), Int.tmod_eq_emod_of_nonneg (by omega), Int.tmod_def, show x - n * x.tdiv n + n = x + n * (1 - x.tdiv n) by rw [Int.mul_sub]; omega, Int.add_mul_emod_self_left]
/-- n modulo k. -/
def R_mod : RT := fun args k => match args with
  | [.c (.sc (.int .i64 x)), .c (.sc (.int .i64 n))] => (0 < n ∧ n ≤ 4611686018427387904) ∧ k (I (x % n))
  | _ => False
/-- A deck. -/
structure Dk where
  L : List Int
  at_ : Nat
def Dk.ok (d : Dk) : Prop := d.at_ ≤ d.L.length ∧ d.L.length ≤ 9223372036854775807
def dkC (d : Dk) : List Cell := [.lst (d.L.map eI), IC d.at_]
def R_next : RB := fun cs args k => match args with
  | [.c (.sc (.int .i64 n))] => ∃ d : Dk, cs = dkC d ∧ d.ok ∧ n ≤ 4611686018427387904 ∧ ∀ v d', Dk.ok d' → 0 ≤ v → (v < n ∨ v = 0) → k (I v) (dkC d')
  | _ => False
/-- A new deck. -/
def R_new : RN := fun args k => match args with
  | [.c (.lst es)] => ∃ l : List Int, es = l.map eI ∧ k (dkC ⟨l, 0⟩)
  | _ => False
def R_true : RT := fun args k => match args with
  | [] => k (Bo true)
  | _ => False
/-- A law of a slice of numbers and n numbers. -/
def R_law1 (n : Nat) : RT := fun args k => match args with
  | .c (.lst es) :: rest => (∃ l : Ls, es = eL l ∧ l.length ≤ 9223372036854775807) ∧ (∃ xs : Ls, rest = xs.map (fun x => I x) ∧ xs.length = n) ∧ k (Bo true)
  | _ => False
theorem sum_take {l : Ls} {i : Nat} (h : i < l.length) : (l.take (i + 1)).sum = (l.take i).sum + l[i] := by
  rw [show l.take (i + 1) = l.take i ++ [l[i]] from (List.take_append_getElem h).symm, List.sum_append]; simp
theorem sum_in {l : Ls} {a : Int} (ha : 0 ≤ a) (h : ∀ x ∈ l, 0 ≤ x ∧ x ≤ a) : 0 ≤ l.sum ∧ l.sum ≤ a * l.length := by
  induction l with
  | nil => simp
  | cons x r ih =>
    have h1 := h x (by simp)
    have h2 := ih fun y hy => h y (by simp [hy])
    rw [List.sum_cons, List.length_cons]
    have : a * ((r.length + 1 : Nat) : Int) = a * r.length + a := by rw [Int.natCast_add, Int.mul_add]; simp
    omega
theorem eL_all (l : Ls) : (eL l).all (fun e => e.length == 1) = true := by simp [List.all_eq_true, eL, eI]
theorem eL_take (l : Ls) (n : Nat) : (eL l).take n = eL (l.take n) := (List.map_take ..).symm
theorem eL_drop (l : Ls) (n : Nat) : (eL l).drop n = eL (l.drop n) := (List.map_drop ..).symm
theorem eL_snoc (l : Ls) (a : Int) : eL l ++ [[IC a]] = eL (l ++ [a]) := by simp [eL, eI]
theorem eL_set (l : Ls) (i : Nat) (v : Int) : (eL l).set i (eI v) = eL (l.set i v) := (List.map_set ..).symm
/-- A list of numbers in front of a law's end. -/
theorem leaf_l {k : AV → List Cell → Prop} (l : Ls) {n : Nat} {cs : List Cell} (h : n = l.length) (hc : noCs cs = true) (hk : k (.c (.lst (eL l))) cs) :
    noA (.c (.lst (List.take n (List.drop 0 (eL l))))) = true ∧ noCs cs = true ∧ k (.c (.lst (List.take n (List.drop 0 (eL l))))) cs := by
  subst h
  rw [List.drop_zero, List.take_of_length_le (by rw [eL_len]; exact Nat.le_refl _)]
  exact ⟨rfl, hc, hk⟩
/-! Points. -/
abbrev Pt := Int × Int
def ePt (p : Pt) : List Cell := [IC p.1, IC p.2]
abbrev eP (l : List Pt) : List (List Cell) := l.map ePt
theorem eP_len (l : List Pt) : (eP l).length = l.length := List.length_map _
theorem eP_all (l : List Pt) : (eP l).all (fun e => e.length == 2) = true := by simp [List.all_eq_true, ePt]
theorem eP_snoc (l : List Pt) (p : Pt) : eP l ++ [[IC p.1, IC p.2]] = eP (l ++ [p]) := by simp [ePt]
theorem leaf_p {k : AV → List Cell → Prop} (l : List Pt) {n : Nat} {cs : List Cell} (h : n = l.length) (hc : noCs cs = true) (hk : k (.c (.lst (eP l))) cs) :
    noA (.c (.lst (List.take n (List.drop 0 (eP l))))) = true ∧ noCs cs = true ∧ k (.c (.lst (List.take n (List.drop 0 (eP l))))) cs := by
  subst h
  rw [List.drop_zero, List.take_of_length_le (by rw [eP_len]; exact Nat.le_refl _)]
  exact ⟨rfl, hc, hk⟩
theorem mul_in {a b A B : Int} (h1 : -A ≤ a) (h2 : a ≤ A) (h3 : -B ≤ b) (h4 : b ≤ B) : -(A * B) ≤ a * b ∧ a * b ≤ A * B := by
  have hA : 0 ≤ A := by omega
  have hB : 0 ≤ B := by omega
  have h : (a * b).natAbs ≤ (A * B).natAbs := by
    rw [Int.natAbs_mul, Int.natAbs_mul]
    exact Nat.mul_le_mul (by omega) (by omega)
  have := Int.mul_nonneg hA hB
  omega
end Go.Proofs
