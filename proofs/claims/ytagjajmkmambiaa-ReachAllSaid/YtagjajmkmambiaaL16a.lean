/- Proved here: what functions of the given program come to, for the statements of this chapter; no condition but those in the theorems. -/
import Derived.Test.YtagjajmkmambiaaAbsR
import Derived.Test.YtagjajmkmambiaaProg
import Derived.KernelRfl
namespace Go.Proofs
open Go.Abs
set_option linter.unusedSimpArgs false
set_option linter.unusedVariables false
set_option maxRecDepth 4000
def τ : List (Nat × TI) := [
 (3, { agg := false, size := 1, bytes := 8, zero := [.int .i64 0], d := .int .i64 }),
 (4, { agg := false, size := 1, bytes := 1, zero := [.bool false], d := .bool }),
 (22, { agg := false, size := 1, bytes := 24, zero := [.slice none 0 0], d := .slice 3 }),
 (23, { agg := false, size := 1, bytes := 8, zero := [.pointer none], d := .other }),
 (26, { agg := true, size := 2, bytes := 32, zero := [.slice none 0 0, .int .i64 0], d := .struct [(0, 22), (1, 3)] }),
 (29, { agg := true, size := 1, bytes := 24, zero := [.slice none 0 0], d := .struct [(0, 22)] }),
 (31, { agg := false, size := 1, bytes := 8, zero := [.int .i64 0], d := .int .i64 }),
 (52, { agg := false, size := 1, bytes := 24, zero := [.slice none 0 0], d := .slice 26 }),
 (54, { agg := false, size := 1, bytes := 24, zero := [.slice none 0 0], d := .slice 29 }),
 (55, { agg := false, size := 1, bytes := 24, zero := [.slice none 0 0], d := .slice 22 }),
 (58, { agg := true, size := 2, bytes := 32, zero := [.slice none 0 0, .int .i64 0], d := .struct [(0, 22), (1, 3)] })]
theorem τ_ok : TyOk Try.prog τ := ⟨by kernel_rfl, by kernel_rfl, by kernel_rfl, by kernel_rfl, by kernel_rfl, by kernel_rfl, by kernel_rfl, by kernel_rfl, by kernel_rfl, by kernel_rfl, by kernel_rfl, trivial⟩
theorem mixed : Try.prog.follows .mixedOrders = true := by kernel_rfl
abbrev IC (n : Int) : Cell := .sc (.int .i64 n)
/-- A number as a slice's element. -/
def eI (x : Int) : List Cell := [IC x]
abbrev I (n : Int) : AV := .c (.sc (.int .i64 n))
abbrev Bo (b : Bool) : AV := .c (.sc (.bool b))
def qc0 : Nat → Bool := fun _ => false

def R_within : RT := fun args k => match args with
  | [.c (.sc (.int .i64 x)), .c (.sc (.int .i64 most))] => k (Bo (decide (0 ≤ x) && decide (x ≤ most)))
  | _ => False
theorem within_ok : FunR Try.prog 35 R_within := by
  intro args k h
  unfold R_within at h
  split at h
  case h_2 => exact h.elim
  rename_i x most
  refine does_ex (qc := qc0) (np := []) (CK := ckK []) mixed Try.func35 rfl rfl Try.ntmps35 Try.results35 τ_ok (by kernel_rfl) (ckK_ok trivial) (by simp) ?_
  conv => whnf
  repeat' (refine Fork.mk (fun h => ?_) (fun h => ?_) <;> first | (cases h; done) | (conv => whnf))
  all_goals simp_all [oneOf, nrm]
theorem tmod_lo (x : Int) {n : Int} (h : 0 < n) : -n < x.tmod n := by
  rcases Int.le_total 0 x with hx | hx
  · have := Int.tmod_nonneg n hx; omega
  · have h1 := Int.neg_tmod (a := -x) (b := n)
    have h2 := Int.tmod_lt_of_pos (-x) h
    rw [Int.neg_neg] at h1
    omega
theorem mod_val (x : Int) {n : Int} (h : 0 < n) (h2 : n ≤ 4611686018427387904) : (IntKind.i64.wrap (x.tmod n + n)).tmod n = x % n := by
  have a := tmod_lo x h
  have b := Int.tmod_lt_of_pos x h
  rw [Go.Abs.wrap_in (by omega) (by omega), Int.tmod_eq_emod_of_nonneg (by omega), Int.tmod_def, show x - n * x.tdiv n + n = x + n * (1 - x.tdiv n) by rw [Int.mul_sub]; omega, Int.add_mul_emod_self_left]

/-- n modulo k. -/
def R_mod : RT := fun args k => match args with
  | [.c (.sc (.int .i64 x)), .c (.sc (.int .i64 n))] => (0 < n ∧ n ≤ 4611686018427387904) ∧ k (I (x % n))
  | _ => False
theorem mod_ok : FunR Try.prog 18 R_mod := by
  intro args k h
  unfold R_mod at h
  split at h
  case h_2 => exact h.elim
  rename_i x n
  obtain ⟨⟨h1, h2⟩, h⟩ := h
  refine does_ex (qc := qc0) (np := []) (CK := ckK []) mixed Try.func18 rfl rfl Try.ntmps18 Try.results18 τ_ok (by kernel_rfl) (ckK_ok trivial) (by simp) ?_
  conv => whnf
  refine ⟨by omega, ?_⟩
  conv => whnf
  refine ⟨by omega, ?_⟩
  conv => whnf
  rw [mod_val x h1 h2]
  exact h

/-- A deck. -/
structure Dk where
  L : List Int
  at_ : Nat
def Dk.ok (d : Dk) : Prop := d.at_ ≤ d.L.length ∧ d.L.length ≤ 9223372036854775807
def dkC (d : Dk) : List Cell := [.lst (d.L.map eI), IC d.at_]
def R_next : RB := fun cs args k => match args with
  | [.c (.sc (.int .i64 n))] => ∃ d : Dk, cs = dkC d ∧ d.ok ∧ n ≤ 4611686018427387904 ∧ ∀ v d', Dk.ok d' → 0 ≤ v → (v < n ∨ v = 0) → k (I v) (dkC d')
  | _ => False
theorem next_ok : FunB Try.prog 20 R_next := by
  intro cs args k h
  unfold R_next at h
  split at h
  case h_2 => exact h.elim
  rename_i n
  obtain ⟨d, rfl, ⟨hd1, hd2⟩, hn, hk⟩ := h
  refine doesB_ex (qc := qc0) (np := []) (CK := ckK [(18, cSc R_mod)]) mixed Try.func20 rfl rfl Try.ntmps20 Try.results20 τ_ok (by kernel_rfl) (ckK_ok ⟨cSc_ok mod_ok, trivial⟩) (by simp) rfl rfl ?_
  conv => whnf
  repeat' (refine Fork.mk (fun h => ?_) (fun h => ?_) <;> first | (cases h; done) | (conv => whnf))
  · exact ⟨rfl, rfl, hk 0 d ⟨hd1, hd2⟩ (by omega) (.inr rfl)⟩
  · exact ⟨rfl, rfl, hk 0 d ⟨hd1, hd2⟩ (by omega) (.inr rfl)⟩
  · rename_i h0
    simp at h h0
    refine ⟨by omega, [IC d.L[d.at_]], by simp [h, eI], rfl, ?_⟩
    conv => whnf
    refine ⟨⟨by omega, hn⟩, ?_⟩
    conv => whnf
    refine ⟨rfl, rfl, ?_⟩
    have e : IntKind.i64.wrap ((d.at_ : Int) + 1) = ((d.at_ + 1 : Nat) : Int) := by rw [wrap_in (by omega) (by omega)]; omega
    have := hk (d.L[d.at_] % n) ⟨d.L, d.at_ + 1⟩ ⟨h, hd2⟩ (Int.emod_nonneg _ (by omega)) (.inl (Int.emod_lt_of_pos _ (by omega)))
    unfold dkC at this
    rw [← e] at this
    exact this

/-- A new deck. -/
def R_new : RN := fun args k => match args with
  | [.c (.lst es)] => ∃ l : List Int, es = l.map eI ∧ k (dkC ⟨l, 0⟩)
  | _ => False
theorem new_ok : FunN Try.prog 10 R_new := by
  intro args k h
  unfold R_new at h
  split at h
  case h_2 => exact h.elim
  obtain ⟨l, rfl, hk⟩ := h
  refine ⟨_, ?_, hk⟩
  refine doesN_of (qc := qc0) (np := []) (CK := ckK []) mixed Try.func10 rfl rfl Try.ntmps10 Try.results10 τ_ok (by kernel_rfl) (ckK_ok trivial) (by simp) ⟨rfl, rfl⟩ ?_
  conv => whnf
  rfl

theorem rin_ok : FunR Try.prog 40 R_within := by
  intro args k h
  unfold R_within at h
  split at h
  case h_2 => exact h.elim
  rename_i x most
  refine does_ex (qc := qc0) (np := []) (CK := ckK []) mixed Try.func40 rfl rfl Try.ntmps40 Try.results40 τ_ok (by kernel_rfl) (ckK_ok trivial) (by simp) ?_
  conv => whnf
  repeat' (refine Fork.mk (fun h => ?_) (fun h => ?_) <;> first | (cases h; done) | (conv => whnf))
  all_goals simp_all [oneOf, nrm]
theorem rIn_ok : FunR Try.prog 37 R_within := by
  intro args k h
  unfold R_within at h
  split at h
  case h_2 => exact h.elim
  rename_i x most
  refine does_ex (qc := qc0) (np := []) (CK := ckK [(40, cSc R_within)]) mixed Try.func37 rfl rfl Try.ntmps37 Try.results37 τ_ok (by kernel_rfl) (ckK_ok ⟨cSc_ok rin_ok, trivial⟩) (by simp) ?_
  conv => whnf
  exact h
theorem map_at {α β : Type} (e : α → β) (l : List α) {j : Nat} (h : j < l.length) : (l.map e)[(j : Int).toNat]? = some (e l[j]) := by
  rw [Int.toNat_natCast, List.getElem?_map, List.getElem?_eq_getElem h]; rfl
theorem map_at0 {α β : Type} (e : α → β) (l : List α) {j : Nat} (h : j < l.length) : (l.map e)[0 + j]? = some (e l[j]) := by
  rw [Nat.zero_add, List.getElem?_map, List.getElem?_eq_getElem h]; rfl
def qc1 : Nat → Bool := fun f => match f with
  | 18 | 35 | 37 | 40 | 27 | 28 | 34 | 29 | 14 | 30 | 19 | 15 | 24 | 26 | 38 | 16 | 22 => true
  | _ => false
theorem wr00 : IntKind.i64.wrap (0 + 0) = 0 := by rw [wrap_in (by omega) (by omega)]; rfl
end Go.Proofs
