/- Proved here: what functions of the given program come to, for the statements of this chapter; no condition but those in the theorems. -/
import Derived.Test.YtagjajmkmambiaaL16c
namespace Go.Proofs
open Go.Abs
set_option linter.unusedSimpArgs false
set_option linter.unusedVariables false
set_option maxRecDepth 4000
def inH (p : Int) : Prop := -36028797018963968 ≤ p ∧ p ≤ 36028797018963968
theorem sum_abs {l : Ls} (h : ∀ x ∈ l, inH x) : -(36028797018963968 * (l.length : Int)) ≤ l.sum ∧ l.sum ≤ 36028797018963968 * l.length := by
  induction l with
  | nil => simp
  | cons x r ih =>
    have := ih (fun y hy => h y (by simp [hy]))
    have h1 := h x (by simp)
    unfold inH at h1
    rw [List.sum_cons, List.length_cons, Int.natCast_add, Int.mul_add]
    omega
def R_held : RT := fun args k => match args with
  | [.agg [.lst es]] => ∃ ps, es = eL ps ∧ ps.length ≤ 128 ∧ (∀ p ∈ ps, inH p) ∧ k (I ps.sum)
  | _ => False
theorem held_ok : FunR Try.prog 14 R_held := by
  intro args k h
  unfold R_held at h
  split at h
  case h_2 => exact h.elim
  obtain ⟨ps, rfl, hl, hp, hk⟩ := h
  have hmp := eL_len ps
  refine does_ex (qc := qc1) (np := []) (CK := ckK []) mixed Try.func14 rfl rfl Try.ntmps14 Try.results14 τ_ok (by kernel_rfl) (ckK_ok trivial) (by simp) ?_
  conv => whnf
  refine ⟨Nat, fun i => ([(3, I (ps.take i).sum), (7, .c (.lst (eL ps))), (8, I (eL ps).length), (9, I i)], ⟨[], 0, []⟩), fun i => i ≤ ps.length, fun i => ps.length - i, 0, Nat.zero_le _,
    Shift.reset ⟨rfl, rfl, rfl, rfl, trivial⟩ trivial rfl rfl, fun i hi => ?_⟩
  dsimp only at hi ⊢
  have hsb := sum_abs (l := ps.take i) (fun x hx => hp x (List.mem_of_mem_take hx))
  rw [List.length_take_of_le hi] at hsb
  conv => whnf
  refine Fork.mk (fun h => ?_) (fun h => ?_)
  · have hi : i < ps.length := by simp at h; omega
    have hsum := sum_take hi
    have hat := map_at eI ps hi
    have hv1 := hp _ (List.getElem_mem hi)
    unfold inH at hv1
    generalize hv : ps[i] = v at *
    conv => whnf
    refine ⟨by omega, eI v, hat, rfl, ?_⟩
    conv => whnf
    have hw1 : IntKind.i64.wrap ((i : Int) + 1) = ((i + 1 : Nat) : Int) := by rw [wrap_in (by omega) (by omega)]; omega
    rw [wrap_in (z := (ps.take i).sum + v) (by omega) (by omega), ← hsum, hw1]
    refine ⟨i + 1, hi, Shift.reset ⟨rfl, rfl, rfl, rfl, trivial⟩ trivial rfl rfl, ?_⟩
    show ps.length - (i + 1) < ps.length - i
    omega
  · have hie : i = ps.length := by simp at h; omega
    subst hie
    rw [List.take_length]
    conv => whnf
    exact hk
theorem rheld_ok : FunR Try.prog 30 R_held := by
  intro args k h
  unfold R_held at h
  split at h
  case h_2 => exact h.elim
  obtain ⟨ps, rfl, hl, hp, hk⟩ := h
  have hmp := eL_len ps
  refine does_ex (qc := qc1) (np := []) (CK := ckK []) mixed Try.func30 rfl rfl Try.ntmps30 Try.results30 τ_ok (by kernel_rfl) (ckK_ok trivial) (by simp) ?_
  conv => whnf
  refine ⟨Nat, fun i => ([(3, I (ps.take i).sum), (7, .c (.lst (eL ps))), (8, I (eL ps).length), (9, I i)], ⟨[], 0, []⟩), fun i => i ≤ ps.length, fun i => ps.length - i, 0, Nat.zero_le _,
    Shift.reset ⟨rfl, rfl, rfl, rfl, trivial⟩ trivial rfl rfl, fun i hi => ?_⟩
  dsimp only at hi ⊢
  have hsb := sum_abs (l := ps.take i) (fun x hx => hp x (List.mem_of_mem_take hx))
  rw [List.length_take_of_le hi] at hsb
  conv => whnf
  refine Fork.mk (fun h => ?_) (fun h => ?_)
  · have hi : i < ps.length := by simp at h; omega
    have hsum := sum_take hi
    have hat := map_at eI ps hi
    have hv1 := hp _ (List.getElem_mem hi)
    unfold inH at hv1
    generalize hv : ps[i] = v at *
    conv => whnf
    refine ⟨by omega, eI v, hat, rfl, ?_⟩
    conv => whnf
    have hw1 : IntKind.i64.wrap ((i : Int) + 1) = ((i + 1 : Nat) : Int) := by rw [wrap_in (by omega) (by omega)]; omega
    rw [wrap_in (z := (ps.take i).sum + v) (by omega) (by omega), ← hsum, hw1]
    refine ⟨i + 1, hi, Shift.reset ⟨rfl, rfl, rfl, rfl, trivial⟩ trivial rfl rfl, ?_⟩
    show ps.length - (i + 1) < ps.length - i
    omega
  · have hie : i = ps.length := by simp at h; omega
    subst hie
    rw [List.take_length]
    conv => whnf
    exact hk
def R_same : RT := fun args k => match args with
  | [.c (.lst es), .c (.lst es2)] => ∃ a b : Ls, es = eL a ∧ es2 = eL b ∧ a.length ≤ 9223372036854775807 ∧ k (Bo (decide (a = b)))
  | _ => False
theorem same_ok : FunR Try.prog 19 R_same := by
  intro args k h
  unfold R_same at h
  split at h
  case h_2 => exact h.elim
  obtain ⟨a, b, rfl, rfl, hl, hk⟩ := h
  have hma := eL_len a
  have hmb := eL_len b
  refine does_ex (qc := qc1) (np := []) (CK := ckK []) mixed Try.func19 rfl rfl Try.ntmps19 Try.results19 τ_ok (by kernel_rfl) (ckK_ok trivial) (by simp) ?_
  conv => whnf
  refine Fork.mk (fun h => ?_) (fun h => ?_)
  · have h1 : a ≠ b := fun e => by subst e; simp at h
    conv => whnf
    rw [decide_eq_false h1] at hk
    exact hk
  · have h1 : a.length = b.length := by simp at h; omega
    conv => whnf
    refine ⟨Nat, fun i => ([(0, .c (.lst (eL a))), (1, .c (.lst (eL b))), (12, I (eL a).length), (13, I i)], ⟨[], 0, []⟩), fun i => i ≤ a.length ∧ a.take i = b.take i, fun i => a.length - i, 0, ⟨Nat.zero_le _, rfl⟩,
      Shift.reset ⟨rfl, rfl, rfl, rfl, trivial⟩ trivial rfl rfl, fun i hi => ?_⟩
    obtain ⟨hi1, hi2⟩ := hi
    dsimp only
    conv => whnf
    refine Fork.mk (fun h => ?_) (fun h => ?_)
    · have hi : i < a.length := by simp at h; omega
      have hib : i < b.length := by omega
      have hata := map_at eI a hi
      have hatb := map_at eI b hib
      have e1 : a.take (i + 1) = a.take i ++ [a[i]] := (List.take_append_getElem hi).symm
      have e2 : b.take (i + 1) = b.take i ++ [b[i]] := (List.take_append_getElem hib).symm
      have hx : a[i] ≠ b[i] → a ≠ b := fun h e => by subst e; exact h rfl
      generalize a[i] = x at *
      generalize b[i] = y at *
      conv => whnf
      refine ⟨by omega, eI x, hata, rfl, ?_⟩
      conv => whnf
      refine ⟨by omega, eI y, hatb, rfl, ?_⟩
      conv => whnf
      refine Fork.mk (fun h => ?_) (fun h => ?_)
      · have hxy : x ≠ y := by simpa using h
        conv => whnf
        rw [decide_eq_false (hx hxy)] at hk
        exact hk
      · have hxy : x = y := by simpa using h
        conv => whnf
        have hw1 : IntKind.i64.wrap ((i : Int) + 1) = ((i + 1 : Nat) : Int) := by rw [wrap_in (by omega) (by omega)]; omega
        rw [hw1]
        refine ⟨i + 1, ⟨hi, by rw [e1, e2, hi2, hxy]⟩, Shift.reset ⟨rfl, rfl, rfl, rfl, trivial⟩ trivial rfl rfl, ?_⟩
        show a.length - (i + 1) < a.length - i
        omega
    · have hie : i = a.length := by simp at h; omega
      subst hie
      rw [List.take_length, h1, List.take_length] at hi2
      rw [decide_eq_true hi2] at hk
      conv => whnf
      exact hk
def R_wsame : RT := fun args k => match args with
  | [.agg [.lst es], .agg [.lst es2]] => ∃ a b : Ls, es = eL a ∧ es2 = eL b ∧ a.length ≤ 9223372036854775807 ∧ k (Bo (decide (a = b)))
  | _ => False
theorem wsame_ok : FunR Try.prog 15 R_wsame := by
  intro args k h
  unfold R_wsame at h
  split at h
  case h_2 => exact h.elim
  obtain ⟨a, b, rfl, rfl, hl, hk⟩ := h
  refine does_ex (qc := qc1) (np := []) (CK := ckK [(19, cSc R_same)]) mixed Try.func15 rfl rfl Try.ntmps15 Try.results15 τ_ok (by kernel_rfl) (ckK_ok ⟨cSc_ok same_ok, trivial⟩) (by simp) ?_
  conv => whnf
  refine ⟨a, b, rfl, rfl, hl, ?_⟩
  conv => whnf
  exact hk
def R_flows : RB := fun cs args k => match args with
  | [.c (.sc (.int .i64 n)), .c (.sc (.int .i64 most))] => ∃ d : Dk, ∃ N : Nat, cs = dkC d ∧ d.ok ∧ n = N ∧ N ≤ 1000 ∧ (1 ≤ most ∧ most ≤ 1000) ∧ ∀ (l : Ls) d', Dk.ok d' → l.length = N → (∀ x ∈ l, 0 ≤ x ∧ x < most) → k (.c (.lst (eL l))) (dkC d')
  | _ => False
theorem leaf_l {k : AV → List Cell → Prop} (l : Ls) {n : Nat} {cs : List Cell} (h : n = l.length) (hc : noCs cs = true) (hk : k (.c (.lst (eL l))) cs) :
    noA (oneOf [.c (.lst (List.take n (List.drop 0 (eL l))))]) = true ∧ noCs cs = true ∧ k (oneOf [.c (.lst (List.take n (List.drop 0 (eL l))))]) cs := by
  rw [List.drop_zero, List.take_of_length_le (by rw [eL_len, h]; exact Nat.le_refl _)]
  exact ⟨rfl, hc, hk⟩
theorem snoc_len (l : Ls) (p : Int) : (l ++ [p]).length = (eL l).length + 1 := by simp [eL]
theorem eL_snoc (l : Ls) (a : Int) : eL l ++ [[IC a]] = eL (l ++ [a]) := by simp [eL, eI]
theorem flows_ok : FunB Try.prog 17 R_flows := by
  intro cs args k h
  unfold R_flows at h
  split at h
  case h_2 => exact h.elim
  rename_i n most
  obtain ⟨d, N, rfl, hd, rfl, hN, hm, hk⟩ := h
  refine doesB_ex (qc := qc1) (np := []) (CK := ckK [(20, cB R_next)]) mixed Try.func17 rfl rfl Try.ntmps17 Try.results17 τ_ok (by kernel_rfl) (ckK_ok ⟨cB_ok next_ok rfl, trivial⟩) (by simp) rfl rfl ?_
  conv => whnf
  refine ⟨Ls × Dk, fun s => ([(0, .c (.ptr (.x 0) 0)), (2, I most), (7, .c (.view (.l 16 0) 0 s.1.length)), (8, I N), (9, I s.1.length)], ⟨[(.x 0, .blk (dkC s.2)), (.l 16 0, .arr 3 1 (eL s.1) false)], 1, []⟩),
    fun s => s.2.ok ∧ s.1.length ≤ N ∧ ∀ x ∈ s.1, 0 ≤ x ∧ x < most, fun s => N - s.1.length, ([], d), ⟨hd, Nat.zero_le _, by simp⟩,
    Shift.trans (Shift.rename [] ⟨rfl, rfl, rfl, rfl, rfl, trivial⟩ ⟨rfl, rfl, trivial⟩ rfl rfl rfl) (Shift.nilArr (t := 7) rfl 16 3 1), fun s hs => ?_⟩
  obtain ⟨l, d⟩ := s
  obtain ⟨h1, h2, h3⟩ := hs
  dsimp only at h1 h2 h3 ⊢
  conv => whnf
  refine Fork.mk (fun h => ?_) (fun h => ?_)
  · have h4 : l.length < N := by simp at h; omega
    conv => whnf
    refine ⟨d, rfl, h1, by omega, fun v d hd hv1 hv2 => ?_⟩
    conv => whnf
    refine ⟨by simp, ?_⟩
    conv => whnf
    refine ⟨rfl, ?_⟩
    conv => whnf
    refine ⟨⟨rfl, rfl, rfl, (eL_len l).symm, by rw [eL_len]; simp; omega⟩, ?_⟩
    conv => whnf
    have hw1 : IntKind.i64.wrap ((l.length : Int) + 1) = (((l ++ [v]).length : Nat) : Int) := by rw [wrap_in (by omega) (by omega)]; simp
    rw [hw1]
    refine ⟨(l ++ [v], d), ⟨hd, by simp; omega, fun x hx => ?_⟩, Shift.rename [(.l 16 0, .l 16 2)] ⟨rfl, rfl, ?_, rfl, rfl, trivial⟩ ⟨rfl, ?_, trivial⟩ rfl rfl rfl, ?_⟩
    · rcases List.mem_append.1 hx with hx | hx
      · exact h3 x hx
      · simp at hx; subst hx; omega
    · dsimp only
      rw [snoc_len]; rfl
    · dsimp only
      rw [← eL_snoc]; rfl
    · show N - (l ++ [v]).length < N - l.length
      simp; omega
  · have h4 : l.length = N := by simp at h; omega
    conv => whnf
    refine ⟨by rw [eL_len]; omega, ?_⟩
    conv => whnf
    exact leaf_l l rfl rfl (hk l d h1 h4 h3)
end Go.Proofs
