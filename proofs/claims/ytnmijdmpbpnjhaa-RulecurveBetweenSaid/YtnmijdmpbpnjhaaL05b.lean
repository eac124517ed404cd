/- Proved here: what functions of the given program come to, for the statements of this chapter; no condition but those in the theorems. -/
import Derived.Test.YtnmijdmpbpnjhaaAbsR
import Derived.Test.YtnmijdmpbpnjhaaProg
import Derived.KernelRfl
namespace Go.Proofs
open Go.Abs
set_option linter.unusedSimpArgs false
set_option linter.unusedVariables false
set_option maxRecDepth 4000
def τ : List (Nat × TI) := [
 (3, { agg := false, size := 1, bytes := 8, zero := [.int .i64 0], d := .int .i64 }),
 (4, { agg := false, size := 1, bytes := 1, zero := [.bool false], d := .bool }),
 (22, { agg := false, size := 1, bytes := 24, zero := [.slice none 0 0], d := .slice 3 }),
 (23, { agg := false, size := 1, bytes := 8, zero := [.pointer none], d := .other }),
 (25, { agg := false, size := 1, bytes := 24, zero := [.slice none 0 0], d := .slice 32 }),
 (27, { agg := false, size := 1, bytes := 8, zero := [.int .i64 0], d := .int .i64 }),
 (32, { agg := true, size := 2, bytes := 16, zero := [.int .i64 0, .int .i64 0], d := .struct [(0, 3), (1, 3)] }),
 (40, { agg := true, size := 6, bytes := 64, zero := [.slice none 0 0, .int .i64 0, .int .i64 0, .int .i64 0, .int .i64 0, .int .i64 0], d := .struct [(0, 25), (1, 3), (2, 3), (3, 3), (4, 3), (5, 3)] }),
 (45, { agg := false, size := 1, bytes := 24, zero := [.slice none 0 0], d := .slice 25 }),
 (47, { agg := false, size := 1, bytes := 24, zero := [.slice none 0 0], d := .slice 40 }),
 (50, { agg := true, size := 2, bytes := 32, zero := [.slice none 0 0, .int .i64 0], d := .struct [(0, 22), (1, 3)] }),
 (55, { agg := true, size := 5, bytes := 40, zero := [.int .i64 0, .int .i64 0, .int .i64 0, .int .i64 0, .int .i64 0], d := .array 5 3 }),
 (58, { agg := true, size := 7, bytes := 56, zero := [.int .i64 0, .int .i64 0, .int .i64 0, .int .i64 0, .int .i64 0, .int .i64 0, .int .i64 0], d := .array 7 3 })]
theorem τ_ok : TyOk Try.prog τ := ⟨by kernel_rfl, by kernel_rfl, by kernel_rfl, by kernel_rfl, by kernel_rfl, by kernel_rfl, by kernel_rfl, by kernel_rfl, by kernel_rfl, by kernel_rfl, by kernel_rfl, by kernel_rfl, by kernel_rfl, trivial⟩
theorem mixed : Try.prog.follows .mixedOrders = true := by kernel_rfl
abbrev IC (n : Int) : Cell := .sc (.int .i64 n)
abbrev I (n : Int) : AV := .c (.sc (.int .i64 n))
abbrev Bo (b : Bool) : AV := .c (.sc (.bool b))
def qc0 : Nat → Bool := fun _ => false

def R_within : RT := fun args k => match args with
  | [.c (.sc (.int .i64 x)), .c (.sc (.int .i64 most))] => k (Bo (decide (0 ≤ x) && decide (x ≤ most)))
  | _ => False
theorem within_ok : FunR Try.prog 32 R_within := by
  intro args k h
  unfold R_within at h
  split at h
  case h_2 => exact h.elim
  rename_i x most
  refine does_ex (qc := qc0) (CK := ckK []) mixed Try.func32 rfl rfl Try.ntmps32 Try.results32 τ_ok (by kernel_rfl) (ckK_ok trivial) (by simp) ?_
  conv => whnf
  repeat' (refine Fork.mk (fun h => ?_) (fun h => ?_) <;> first | (cases h; done) | (conv => whnf))
  all_goals simp_all [oneOf, nrm]
def R_is : RT := fun args k => match args with
  | [.c (.sc (.int .i64 x))] => k (Bo (decide (0 ≤ x) && decide (x ≤ 364)))
  | _ => False
theorem is_ok : FunR Try.prog 27 R_is := by
  intro args k h
  unfold R_is at h
  split at h
  case h_2 => exact h.elim
  rename_i x
  refine does_ex (qc := qc0) (CK := ckK [(32, cSc R_within)]) mixed Try.func27 rfl rfl Try.ntmps27 Try.results27 τ_ok (by kernel_rfl) (ckK_ok ⟨cSc_ok within_ok, trivial⟩) (by simp) ?_
  conv => whnf
  exact h
theorem tmod_lo (x : Int) {n : Int} (h : 0 < n) : -n < x.tmod n := by
  rcases Int.le_total 0 x with hx | hx
  · have := Int.tmod_nonneg n hx; omega
  · have h1 := Int.neg_tmod (a := -x) (b := n)
    have h2 := Int.tmod_lt_of_pos (-x) h
    rw [Int.neg_neg] at h1
    omega
theorem mod_val (x : Int) {n : Int} (h : 0 < n) (h2 : n ≤ 4611686018427387904) : (IntKind.i64.wrap (x.tmod n + n)).tmod n = x % n := by
  have a := tmod_lo x h
  have b := Int.tmod_lt_of_pos x h
  rw [Go.Abs.wrap_in (by omega) (by omega), Int.tmod_eq_emod_of_nonneg (by omega), Int.tmod_def, show x - n * x.tdiv n + n = x + n * (1 - x.tdiv n) by rw [Int.mul_sub]; omega, Int.add_mul_emod_self_left]

/-- n modulo k. -/
def R_mod : RT := fun args k => match args with
  | [.c (.sc (.int .i64 x)), .c (.sc (.int .i64 n))] => (0 < n ∧ n ≤ 4611686018427387904) ∧ k (I (x % n))
  | _ => False
theorem mod_ok : FunR Try.prog 12 R_mod := by
  intro args k h
  unfold R_mod at h
  split at h
  case h_2 => exact h.elim
  rename_i x n
  obtain ⟨⟨h1, h2⟩, h⟩ := h
  refine does_ex (qc := qc0) (CK := ckK []) mixed Try.func12 rfl rfl Try.ntmps12 Try.results12 τ_ok (by kernel_rfl) (ckK_ok trivial) (by simp) ?_
  conv => whnf
  refine ⟨by omega, ?_⟩
  conv => whnf
  refine ⟨by omega, ?_⟩
  conv => whnf
  rw [mod_val x h1 h2]
  exact h

/-- A deck. -/
structure Dk where
  L : List Int
  at_ : Nat
def Dk.ok (d : Dk) : Prop := d.at_ ≤ d.L.length ∧ d.L.length ≤ 9223372036854775807
def dkC (d : Dk) : List Cell := [.lst (d.L.map fun x => [IC x]), IC d.at_]
def R_next : RB := fun cs args k => match args with
  | [.c (.sc (.int .i64 n))] => ∃ d : Dk, cs = dkC d ∧ d.ok ∧ n ≤ 4611686018427387904 ∧ ∀ v d', Dk.ok d' → 0 ≤ v → (v < n ∨ v = 0) → k (I v) (dkC d')
  | _ => False
theorem next_ok : FunB Try.prog 21 R_next := by
  intro cs args k h
  unfold R_next at h
  split at h
  case h_2 => exact h.elim
  rename_i n
  obtain ⟨d, rfl, ⟨hd1, hd2⟩, hn, hk⟩ := h
  refine doesB_ex (qc := qc0) (CK := ckK [(12, cSc R_mod)]) mixed Try.func21 rfl rfl Try.ntmps21 Try.results21 τ_ok (by kernel_rfl) (ckK_ok ⟨cSc_ok mod_ok, trivial⟩) (by simp) rfl rfl ?_
  conv => whnf
  repeat' (refine Fork.mk (fun h => ?_) (fun h => ?_) <;> first | (cases h; done) | (conv => whnf))
  · exact ⟨rfl, rfl, hk 0 d ⟨hd1, hd2⟩ (by omega) (.inr rfl)⟩
  · exact ⟨rfl, rfl, hk 0 d ⟨hd1, hd2⟩ (by omega) (.inr rfl)⟩
  · rename_i h0
    simp at h h0
    refine ⟨by omega, [IC d.L[d.at_]], by simp [h], rfl, ?_⟩
    conv => whnf
    refine ⟨⟨by omega, hn⟩, ?_⟩
    conv => whnf
    refine ⟨rfl, rfl, ?_⟩
    have e : IntKind.i64.wrap ((d.at_ : Int) + 1) = ((d.at_ + 1 : Nat) : Int) := by rw [wrap_in (by omega) (by omega)]; omega
    have := hk (d.L[d.at_] % n) ⟨d.L, d.at_ + 1⟩ ⟨h, hd2⟩ (Int.emod_nonneg _ (by omega)) (.inl (Int.emod_lt_of_pos _ (by omega)))
    unfold dkC at this
    rw [← e] at this
    exact this

/-- A new deck. -/
def R_new : RN := fun args k => match args with
  | [.c (.lst es)] => ∃ l : List Int, es = l.map (fun x => [IC x]) ∧ k (dkC ⟨l, 0⟩)
  | _ => False
theorem new_ok : FunN Try.prog 8 R_new := by
  intro args k h
  unfold R_new at h
  split at h
  case h_2 => exact h.elim
  obtain ⟨l, rfl, hk⟩ := h
  refine ⟨_, ?_, hk⟩
  refine doesN_of (qc := qc0) (CK := ckK []) mixed Try.func8 rfl rfl Try.ntmps8 Try.results8 τ_ok (by kernel_rfl) (ckK_ok trivial) (by simp) ⟨rfl, rfl⟩ ?_
  conv => whnf
  rfl

theorem map_at {α β : Type} (e : α → β) (l : List α) {j : Nat} (h : j < l.length) : (l.map e)[(j : Int).toNat]? = some (e l[j]) := by
  rw [Int.toNat_natCast, List.getElem?_map, List.getElem?_eq_getElem h]; rfl
abbrev Pt := Int × Int
def ePt (p : Pt) : List Cell := [IC p.1, IC p.2]
def rcGo : Option Pt → List Pt → Int
  | _, [] => 0
  | q, p :: r => if (0 ≤ p.1 ∧ p.1 ≤ 364) ∧ (0 ≤ p.2 ∧ p.2 ≤ 16777216) then
      match q with
      | none => rcGo (some p) r
      | some q => if p.1 ≤ q.1 then 4 else rcGo (some p) r
    else 1
theorem rcGo_cons (q : Option Pt) (p : Pt) (r : List Pt) : rcGo q (p :: r) = if (0 ≤ p.1 ∧ p.1 ≤ 364) ∧ (0 ≤ p.2 ∧ p.2 ≤ 16777216) then
      (match q with
      | none => rcGo (some p) r
      | some q => if p.1 ≤ q.1 then 4 else rcGo (some p) r)
    else 1 := by cases q <;> simp only [rcGo]
def rcCheck (l : List Pt) : Int := if l.length = 0 then 3 else if 100 < l.length then 10 else rcGo none l
def prev (l : List Pt) (i : Nat) : Option Pt := if i = 0 then none else l[i - 1]?
def R_rcCheck : RT := fun args k => match args with
  | [.c (.lst es)] => ∃ l : List Pt, es = l.map ePt ∧ k (I (rcCheck l))
  | _ => False
theorem rcCheck_ok : FunR Try.prog 19 R_rcCheck := by
  intro args k h
  unfold R_rcCheck at h
  split at h
  case h_2 => exact h.elim
  obtain ⟨l, rfl, hk⟩ := h
  refine does_ex (qc := qc0) (CK := ckK [(32, cSc R_within), (27, cSc R_is)]) mixed Try.func19 rfl rfl Try.ntmps19 Try.results19 τ_ok (by kernel_rfl) (ckK_ok ⟨cSc_ok within_ok, cSc_ok is_ok, trivial⟩) (by simp) ?_
  conv => whnf
  repeat' (refine Fork.mk (fun h => ?_) (fun h => ?_) <;> first | (cases h; done) | (conv => whnf))
  · simp at h
    simpa [rcCheck, h, oneOf, nrm] using hk
  · rename_i h0
    simp at h h0
    have e : rcCheck l = 10 := by unfold rcCheck; rw [if_neg (by simpa using h0), if_pos (by omega)]
    rw [e] at hk
    exact hk
  · rename_i h0
    simp at h h0
    have e : rcCheck l = rcGo none l := by unfold rcCheck; rw [if_neg (by simpa using h0), if_neg (by omega)]
    rw [e] at hk
    refine ⟨Nat, fun i => ([(0, .c (.lst (l.map ePt))), (2, I 0), (13, .c (.lst (l.map ePt))), (14, I (l.map ePt).length), (15, I i)], ⟨[], 0⟩), fun i => i ≤ l.length ∧ rcGo (prev l i) (l.drop i) = rcGo none l, fun i => l.length - i, 0,
      ⟨Nat.zero_le _, rfl⟩, Shift.reset ⟨rfl, rfl, rfl, rfl, rfl, trivial⟩ trivial rfl rfl, fun i hi => ?_⟩
    obtain ⟨hi1, hi2⟩ := hi
    conv => whnf
    refine Fork.mk (fun h1 => ?_) (fun h1 => ?_)
    · have hi : i < l.length := by simpa using h1
      have hd : l.drop i = l[i] :: l.drop (i + 1) := List.drop_eq_getElem_cons hi
      rw [hd] at hi2
      conv => whnf
      refine ⟨by omega, ePt l[i], by simp [hi], rfl, ?_⟩
      generalize hp : l[i] = p at *
      conv => whnf
      repeat' (refine Fork.mk (fun h => ?_) (fun h => ?_) <;> first | (cases h; done) | (conv => whnf))
      · have hp2 : ¬ (0 ≤ p.1 ∧ p.1 ≤ 364) := by rename_i h2; simp at h2; omega
        rw [rcGo_cons, if_neg (fun h => hp2 h.1)] at hi2
        rw [← hi2] at hk
        exact hk
      · have hp2 : ¬ (0 ≤ p.2 ∧ p.2 ≤ 16777216) := by simp at h; omega
        rw [rcGo_cons, if_neg (fun h => hp2 h.2)] at hi2
        rw [← hi2] at hk
        exact hk
      · rename_i h2 h3
        have hp2 : (0 ≤ p.1 ∧ p.1 ≤ 364) ∧ (0 ≤ p.2 ∧ p.2 ≤ 16777216) := by simp at h2 h3; omega
        have hi0 : 0 < i := by simpa using h
        have hw : IntKind.i64.wrap ((i : Int) - 1) = ((i - 1 : Nat) : Int) := by rw [wrap_in (by omega) (by omega)]; omega
        have hq : prev l i = some l[i - 1] := by unfold prev; rw [if_neg (by omega)]; exact List.getElem?_eq_getElem _
        rw [rcGo_cons, if_pos hp2, hq] at hi2
        rw [hw]
        refine ⟨by omega, ePt l[i - 1], map_at ePt l (by omega), rfl, ?_⟩
        generalize hqq : l[i - 1] = q at *
        simp only at hi2
        conv => whnf
        repeat' (refine Fork.mk (fun h => ?_) (fun h => ?_) <;> first | (cases h; done) | (conv => whnf))
        · rw [if_pos (by simpa using h)] at hi2
          rw [← hi2] at hk
          exact hk
        · rw [if_neg (by simpa using h)] at hi2
          refine ⟨i + 1, ⟨hi, ?_⟩, Shift.reset ⟨rfl, rfl, rfl, rfl, ?_, trivial⟩ trivial rfl rfl, ?_⟩
          · have : prev l (i + 1) = some p := by unfold prev; rw [if_neg (by omega), ← hp]; exact List.getElem?_eq_getElem _
            rw [this]; exact hi2
          · have : IntKind.i64.wrap ((i : Int) + 1) = ((i + 1 : Nat) : Int) := by rw [wrap_in (by omega) (by omega)]; omega
            show some (I _) = _
            rw [this]
          · show l.length - (i + 1) < l.length - i
            omega
      · rename_i h2 h3 h4
        have hp2 : (0 ≤ p.1 ∧ p.1 ≤ 364) ∧ (0 ≤ p.2 ∧ p.2 ≤ 16777216) := by simp at h2 h3; omega
        have hi0 : i = 0 := by simpa using h4
        subst hi0
        rw [rcGo_cons, if_pos hp2] at hi2
        simp only [prev, if_true] at hi2
        refine ⟨1, ⟨hi, ?_⟩, Shift.reset ⟨rfl, rfl, rfl, rfl, ?_, trivial⟩ trivial rfl rfl, ?_⟩
        · have : prev l 1 = some p := by unfold prev; rw [if_neg (by omega), ← hp]; exact List.getElem?_eq_getElem _
          show rcGo (prev l 1) (l.drop 1) = _
          rw [this]; exact hi2
        · show some (I _) = _
          have : IntKind.i64.wrap (((0 : Nat) : Int) + 1) = ((0 + 1 : Nat) : Int) := by rw [wrap_in (by omega) (by omega)]; rfl
          rw [this]
        · show l.length - (0 + 1) < l.length - 0
          omega
    · have hi : i = l.length := by simp at h1; omega
      subst hi
      rw [List.drop_length] at hi2
      conv => whnf
      rw [← hi2] at hk
      exact hk
end Go.Proofs
