/- Proved here: what functions of the given program come to, and the plain laws of it; no condition but those in the theorems. -/
import Derived.Test.YthkimpoeiighoaaAbsP
import Derived.KernelRfl
import Derived.Test.YthkimpoeiighoaaProg
/- Numbers, lists of numbers, decks: what they look like and what is asked of the functions that all chapters use. No program. -/
namespace Go.Proofs
open Go Go.Abs
set_option linter.unusedSimpArgs false
set_option linter.unusedVariables false
abbrev IC (n : Int) : Cell := .sc (.int .i64 n)
/-- A number as a slice's element. -/
def eI (x : Int) : List Cell := [IC x]
abbrev I (n : Int) : AV := .c (.sc (.int .i64 n))
abbrev Bo (b : Bool) : AV := .c (.sc (.bool b))
abbrev BC (b : Bool) : Cell := .sc (.bool b)
abbrev Ls := List Int
abbrev eL (l : Ls) : List (List Cell) := l.map eI
theorem eL_len (l : Ls) : (eL l).length = l.length := List.length_map _
theorem map_at {α β : Type} (e : α → β) (l : List α) {j : Nat} (h : j < l.length) : (l.map e)[(j : Int).toNat]? = some (e l[j]) := by
  rw [Int.toNat_natCast, List.getElem?_map, List.getElem?_eq_getElem h]; rfl
theorem map_at0 {α β : Type} (e : α → β) (l : List α) {j : Nat} (h : j < l.length) : (l.map e)[0 + j]? = some (e l[j]) := by
  rw [Nat.zero_add, List.getElem?_map, List.getElem?_eq_getElem h]; rfl
theorem wr0 : IntKind.i64.wrap 0 = 0 := by rw [wrap_in (by omega) (by omega)]
theorem wr00 : IntKind.i64.wrap (0 + 0) = 0 := wr0
theorem wr_succ {i : Nat} (h : i < 9223372036854775807) : IntKind.i64.wrap ((i : Int) + 1) = ((i + 1 : Nat) : Int) := by rw [wrap_in (by omega) (by omega)]; omega
def R_within : RT := fun args k => match args with
  | [.c (.sc (.int .i64 x)), .c (.sc (.int .i64 most))] => k (Bo (decide (0 ≤ x) && decide (x ≤ most)))
  | _ => False
theorem tmod_lo (x : Int) {n : Int} (h : 0 < n) : -n < x.tmod n := by
  rcases Int.le_total 0 x with hx | hx
  · have := Int.tmod_nonneg n hx; omega
  · have h1 := Int.neg_tmod (a := -x) (b := n)
    have h2 := Int.tmod_lt_of_pos (-x) h
    rw [Int.neg_neg] at h1
    omega
theorem mod_val (x : Int) {n : Int} (h : 0 < n) (h2 : n ≤ 4611686018427387904) : (IntKind.i64.wrap (x.tmod n + n)).tmod n = x % n := by
  have a := tmod_lo x h
  have b := Int.tmod_lt_of_pos x h
  rw [Go.Abs.wrap_in (by omega) (by omega), Int.tmod_eq_emod_of_nonneg (by omega), Int.tmod_def, show x - n * x.tdiv n + n = x + n * (1 - x.tdiv n) by rw [Int.mul_sub]; omega, Int.add_mul_emod_self_left]
/-- n modulo k. -/
def R_mod : RT := fun args k => match args with
  | [.c (.sc (.int .i64 x)), .c (.sc (.int .i64 n))] => (0 < n ∧ n ≤ 4611686018427387904) ∧ k (I (x % n))
  | _ => False
/-- A deck. -/
structure Dk where
  L : List Int
  at_ : Nat
def Dk.ok (d : Dk) : Prop := d.at_ ≤ d.L.length ∧ d.L.length ≤ 9223372036854775807
def dkC (d : Dk) : List Cell := [.lst (d.L.map eI), IC d.at_]
def R_next : RB := fun cs args k => match args with
  | [.c (.sc (.int .i64 n))] => ∃ d : Dk, cs = dkC d ∧ d.ok ∧ n ≤ 4611686018427387904 ∧ ∀ v d', Dk.ok d' → 0 ≤ v → (v < n ∨ v = 0) → k (I v) (dkC d')
  | _ => False
/-- A new deck. -/
def R_new : RN := fun args k => match args with
  | [.c (.lst es)] => ∃ l : List Int, es = l.map eI ∧ k (dkC ⟨l, 0⟩)
  | _ => False
def R_true : RT := fun args k => match args with
  | [] => k (Bo true)
  | _ => False
/-- A law of a slice of numbers and n numbers. -/
def R_law1 (n : Nat) : RT := fun args k => match args with
  | .c (.lst es) :: rest => (∃ l : Ls, es = eL l ∧ l.length ≤ 9223372036854775807) ∧ (∃ xs : Ls, rest = xs.map (fun x => I x) ∧ xs.length = n) ∧ k (Bo true)
  | _ => False
theorem sum_take {l : Ls} {i : Nat} (h : i < l.length) : (l.take (i + 1)).sum = (l.take i).sum + l[i] := by
  rw [show l.take (i + 1) = l.take i ++ [l[i]] from (List.take_append_getElem h).symm, List.sum_append]; simp
theorem sum_in {l : Ls} {a : Int} (ha : 0 ≤ a) (h : ∀ x ∈ l, 0 ≤ x ∧ x ≤ a) : 0 ≤ l.sum ∧ l.sum ≤ a * l.length := by
  induction l with
  | nil => simp
  | cons x r ih =>
    have h1 := h x (by simp)
    have h2 := ih fun y hy => h y (by simp [hy])
    rw [List.sum_cons, List.length_cons]
    have : a * ((r.length + 1 : Nat) : Int) = a * r.length + a := by rw [Int.natCast_add, Int.mul_add]; simp
    omega
theorem eL_all (l : Ls) : (eL l).all (fun e => e.length == 1) = true := by simp [List.all_eq_true, eL, eI]
theorem eL_take (l : Ls) (n : Nat) : (eL l).take n = eL (l.take n) := (List.map_take ..).symm
theorem eL_drop (l : Ls) (n : Nat) : (eL l).drop n = eL (l.drop n) := (List.map_drop ..).symm
theorem eL_snoc (l : Ls) (a : Int) : eL l ++ [[IC a]] = eL (l ++ [a]) := by simp [eL, eI]
theorem eL_set (l : Ls) (i : Nat) (v : Int) : (eL l).set i (eI v) = eL (l.set i v) := (List.map_set ..).symm
/-- A list of numbers in front of a law's end. -/
theorem leaf_l {k : AV → List Cell → Prop} (l : Ls) {n : Nat} {cs : List Cell} (h : n = l.length) (hc : noCs cs = true) (hk : k (.c (.lst (eL l))) cs) :
    noA (.c (.lst (List.take n (List.drop 0 (eL l))))) = true ∧ noCs cs = true ∧ k (.c (.lst (List.take n (List.drop 0 (eL l))))) cs := by
  subst h
  rw [List.drop_zero, List.take_of_length_le (by rw [eL_len]; exact Nat.le_refl _)]
  exact ⟨rfl, hc, hk⟩
/-! Points. -/
abbrev Pt := Int × Int
def ePt (p : Pt) : List Cell := [IC p.1, IC p.2]
abbrev eP (l : List Pt) : List (List Cell) := l.map ePt
theorem eP_len (l : List Pt) : (eP l).length = l.length := List.length_map _
theorem eP_all (l : List Pt) : (eP l).all (fun e => e.length == 2) = true := by simp [List.all_eq_true, ePt]
theorem eP_snoc (l : List Pt) (p : Pt) : eP l ++ [[IC p.1, IC p.2]] = eP (l ++ [p]) := by simp [ePt]
theorem leaf_p {k : AV → List Cell → Prop} (l : List Pt) {n : Nat} {cs : List Cell} (h : n = l.length) (hc : noCs cs = true) (hk : k (.c (.lst (eP l))) cs) :
    noA (.c (.lst (List.take n (List.drop 0 (eP l))))) = true ∧ noCs cs = true ∧ k (.c (.lst (List.take n (List.drop 0 (eP l))))) cs := by
  subst h
  rw [List.drop_zero, List.take_of_length_le (by rw [eP_len]; exact Nat.le_refl _)]
  exact ⟨rfl, hc, hk⟩
theorem mul_in {a b A B : Int} (h1 : -A ≤ a) (h2 : a ≤ A) (h3 : -B ≤ b) (h4 : b ≤ B) : -(A * B) ≤ a * b ∧ a * b ≤ A * B := by
  have hA : 0 ≤ A := by omega
  have hB : 0 ≤ B := by omega
  have h : (a * b).natAbs ≤ (A * B).natAbs := by
    rw [Int.natAbs_mul, Int.natAbs_mul]
    exact Nat.mul_le_mul (by omega) (by omega)
  have := Int.mul_nonneg hA hB
  omega
end Go.Proofs

namespace Go.Proofs
open Go Go.Abs
set_option linter.unusedSimpArgs false
set_option linter.unusedVariables false
set_option maxRecDepth 4000
def τ : List (Nat × TI) := [
 (3, { agg := false, size := 1, bytes := 8, zero := [.int .i64 0], d := .int .i64 }),
 (4, { agg := false, size := 1, bytes := 1, zero := [.bool false], d := .bool }),
 (22, { agg := false, size := 1, bytes := 24, zero := [.slice none 0 0], d := .slice 3 }),
 (23, { agg := false, size := 1, bytes := 8, zero := [.pointer none], d := .other }),
 (25, { agg := false, size := 1, bytes := 24, zero := [.slice none 0 0], d := .slice 38 }),
 (27, { agg := true, size := 2, bytes := 32, zero := [.int .i64 0, .slice none 0 0], d := .struct [(0, 3), (1, 25)] }),
 (29, { agg := false, size := 1, bytes := 24, zero := [.slice none 0 0], d := .slice 41 }),
 (32, { agg := false, size := 1, bytes := 8, zero := [.int .i64 0], d := .int .i64 }),
 (36, { agg := true, size := 2, bytes := 32, zero := [.slice none 0 0, .int .i64 0], d := .struct [(0, 22), (1, 3)] }),
 (38, { agg := true, size := 4, bytes := 48, zero := [.int .i64 0, .int .i64 0, .slice none 0 0, .int .i64 0], d := .struct [(0, 3), (1, 3), (2, 36)] }),
 (41, { agg := true, size := 1, bytes := 24, zero := [.slice none 0 0], d := .struct [(0, 22)] }),
 (49, { agg := false, size := 1, bytes := 24, zero := [.slice none 0 0], d := .slice 22 }),
 (57, { agg := false, size := 1, bytes := 24, zero := [.slice none 0 0], d := .slice 27 }),
 (60, { agg := false, size := 1, bytes := 24, zero := [.slice none 0 0], d := .slice 29 }),
 (67, { agg := false, size := 1, bytes := 24, zero := [.slice none 0 0], d := .slice 4 }),
 (72, { agg := true, size := 2, bytes := 32, zero := [.slice none 0 0, .int .i64 0], d := .struct [(0, 22), (1, 3)] }),
 (87, { agg := false, size := 1, bytes := 8, zero := [.nilFunc], d := .other }),
 (90, { agg := false, size := 1, bytes := 8, zero := [.nilFunc], d := .other })]
theorem τ_ok : TyOk Try.prog τ := ⟨by kernel_rfl, by kernel_rfl, by kernel_rfl, by kernel_rfl, by kernel_rfl, by kernel_rfl, by kernel_rfl, by kernel_rfl, by kernel_rfl, by kernel_rfl, by kernel_rfl, by kernel_rfl, by kernel_rfl, by kernel_rfl, by kernel_rfl, by kernel_rfl, by kernel_rfl, by kernel_rfl, trivial⟩
theorem mixed : Try.prog.follows .mixedOrders = true := by kernel_rfl
def qc1 : Nat → Bool := fun f => match f with
  | 34 | 57 | 39 | 54 | 46 | 38 | 60 | 15 | 50 | 14 | 16 | 22 | 43 | 55 | 27 | 28 | 45 | 40 | 47 | 48 | 58 | 26 | 33 | 36 | 17 => true
  | _ => false
theorem within_ok : FunR Try.prog 57 R_within := by
  intro args k h
  unfold R_within at h
  split at h
  case h_2 => exact h.elim
  rename_i x most
  refine does_ex (qc := qc1) (np := []) (CK := ckK []) mixed Try.func57 rfl rfl Try.ntmps57 Try.results57 τ_ok (by kernel_rfl) (ckK_ok trivial) (by simp) ?_
  conv => whnf
  repeat' (refine Fork.mk (fun h => ?_) (fun h => ?_) <;> first | (cases h; done) | (conv => whnf))
  all_goals simp_all [oneOf, nrm]
theorem rin_ok : FunR Try.prog 54 R_within := by
  intro args k h
  unfold R_within at h
  split at h
  case h_2 => exact h.elim
  rename_i x most
  refine does_ex (qc := qc1) (np := []) (CK := ckK []) mixed Try.func54 rfl rfl Try.ntmps54 Try.results54 τ_ok (by kernel_rfl) (ckK_ok trivial) (by simp) ?_
  conv => whnf
  repeat' (refine Fork.mk (fun h => ?_) (fun h => ?_) <;> first | (cases h; done) | (conv => whnf))
  all_goals simp_all [oneOf, nrm]
theorem rIn_ok : FunR Try.prog 39 R_within := by
  intro args k h
  unfold R_within at h
  split at h
  case h_2 => exact h.elim
  rename_i x most
  refine does_ex (qc := qc1) (np := []) (CK := ckK [(54, cSc R_within)]) mixed Try.func39 rfl rfl Try.ntmps39 Try.results39 τ_ok (by kernel_rfl) (ckK_ok ⟨cSc_ok rin_ok, trivial⟩) (by simp) ?_
  conv => whnf
  exact h
theorem mod_ok : FunR Try.prog 34 R_mod := by
  intro args k h
  unfold R_mod at h
  split at h
  case h_2 => exact h.elim
  rename_i x n
  obtain ⟨⟨h1, h2⟩, h⟩ := h
  refine does_ex (qc := qc1) (np := []) (CK := ckK []) mixed Try.func34 rfl rfl Try.ntmps34 Try.results34 τ_ok (by kernel_rfl) (ckK_ok trivial) (by simp) ?_
  conv => whnf
  refine ⟨by omega, ?_⟩
  conv => whnf
  refine ⟨by omega, ?_⟩
  conv => whnf
  rw [mod_val x h1 h2]
  exact h
theorem next_ok : FunB Try.prog 23 R_next := by
  intro cs args k h
  unfold R_next at h
  split at h
  case h_2 => exact h.elim
  rename_i n
  obtain ⟨d, rfl, ⟨hd1, hd2⟩, hn, hk⟩ := h
  refine doesB_ex (qc := qc1) (np := []) (CK := ckK [(34, cSc R_mod)]) mixed Try.func23 rfl rfl Try.ntmps23 Try.results23 τ_ok (by kernel_rfl) (ckK_ok ⟨cSc_ok mod_ok, trivial⟩) (by simp) rfl rfl ?_
  conv => whnf
  repeat' (refine Fork.mk (fun h => ?_) (fun h => ?_) <;> first | (cases h; done) | (conv => whnf))
  · exact ⟨rfl, rfl, hk 0 d ⟨hd1, hd2⟩ (by omega) (.inr rfl)⟩
  · exact ⟨rfl, rfl, hk 0 d ⟨hd1, hd2⟩ (by omega) (.inr rfl)⟩
  · rename_i h0
    simp at h h0
    refine ⟨by omega, [IC d.L[d.at_]], by simp [h, eI], rfl, ?_⟩
    conv => whnf
    refine ⟨⟨by omega, hn⟩, ?_⟩
    conv => whnf
    refine ⟨rfl, rfl, ?_⟩
    have e : IntKind.i64.wrap ((d.at_ : Int) + 1) = ((d.at_ + 1 : Nat) : Int) := by rw [wrap_in (by omega) (by omega)]; omega
    have := hk (d.L[d.at_] % n) ⟨d.L, d.at_ + 1⟩ ⟨h, hd2⟩ (Int.emod_nonneg _ (by omega)) (.inl (Int.emod_lt_of_pos _ (by omega)))
    unfold dkC at this
    rw [← e] at this
    exact this
theorem new_ok : FunN Try.prog 9 R_new := by
  intro args k h
  unfold R_new at h
  split at h
  case h_2 => exact h.elim
  obtain ⟨l, rfl, hk⟩ := h
  refine ⟨_, ?_, hk⟩
  refine doesN_of (qc := qc1) (np := []) (CK := ckK []) mixed Try.func9 rfl rfl Try.ntmps9 Try.results9 τ_ok (by kernel_rfl) (ckK_ok trivial) (by simp) ⟨rfl, rfl⟩ ?_
  conv => whnf
  rfl
end Go.Proofs
