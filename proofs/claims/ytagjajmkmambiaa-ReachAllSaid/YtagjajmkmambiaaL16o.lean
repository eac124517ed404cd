/- Proved here: what functions of the given program come to, for the statements of this chapter; no condition but those in the theorems. -/
import Derived.Test.YtagjajmkmambiaaL16n
namespace Go.Proofs
open Go.Abs
set_option linter.unusedSimpArgs false
set_option linter.unusedVariables false
set_option maxRecDepth 4000
theorem pvalid_ok : FunR Try.prog 22 R_valid := by
  intro args k h
  unfold R_valid at h
  split at h
  case h_2 => exact h.elim
  rename_i den _
  obtain ⟨ws, ps, rfl, rfl, hlw, hlp, hk⟩ := h
  refine does_ex (qc := qc1) (np := []) (CK := ckK [(27, cSc R_rk), (34, cSc R_fits)]) mixed Try.func22 rfl rfl Try.ntmps22 Try.results22 τ_ok (by kernel_rfl) (ckK_ok ⟨cSc_ok rk_ok, cSc_ok fits_ok, trivial⟩) (by simp) ?_
  conv => whnf
  refine ⟨ws, rfl, hlw, ?_⟩
  conv => whnf
  refine Fork.mk (fun h => ?_) (fun h => ?_)
  · have h1 : rkCheck ws den = 0 := by simpa using h
    conv => whnf
    refine ⟨ws, ps, rfl, rfl, hlw, hlp, ?_⟩
    conv => whnf
    rw [decide_eq_true h1, Bool.true_and] at hk
    exact hk
  · have h1 : rkCheck ws den ≠ 0 := by simpa using h
    conv => whnf
    rw [decide_eq_false h1] at hk
    exact hk
theorem keep_law {ws : Ls} {den : Int} (hr : rkCheck ws den = 0) {ps : Ls} (hf : fitsB ws.length ps = true) {q : Int} (h0 : 0 ≤ q) (h1 : q < 50) (hb : ps.sum ≤ 500000000) :
    ∃ p o, rkStep ws den ps q = (p, o, 0) ∧ fitsB ws.length p = true ∧ p.sum = ps.sum + den * (q - o) ∧ 0 ≤ o ∧ o ≤ 1125899906842624 ∧ p.sum ≤ ps.sum + 12000000 ∧ 0 ≤ p.sum := by
  obtain ⟨a1, a2, _, a4, a5, a6, _⟩ := rk_facts hr
  have hdq : den * q ≤ 240000 * 50 := Int.mul_le_mul a5 (by omega) h0 (by omega)
  have hps := fits_sum hf
  obtain ⟨p, o, r1, r2, r3, r4, r5⟩ := runGo_ok hr [q] ps hf (fun x hx => by simp at hx; omega) (by simp; omega)
  have hR := rkRun_ok hr hf (by simp) r1
  cases o with
  | nil => simp at r2
  | cons y t =>
    have ht : t = [] := by simpa using r2
    subst ht
    have hy := r5 y (by simp)
    have hp := fits_sum r3
    simp at r4
    have hdy : y ≤ den * y := by
      have := Int.mul_le_mul_of_nonneg_right a4 hy
      omega
    refine ⟨p, y, by unfold rkStep; rw [hR]; rfl, r3, by rw [Int.mul_sub]; omega, hy, by omega, by have := Int.mul_nonneg (show 0 ≤ den by omega) hy; omega, hp⟩
theorem keeps_ok : FunR Try.prog 7 (R_law1 0) := by
  intro args k h
  unfold R_law1 at h
  split at h
  case h_2 => exact h.elim
  obtain ⟨⟨l, rfl, hl⟩, ⟨xs, rfl, hx⟩, hk⟩ := h
  obtain rfl : xs = [] := List.eq_nil_of_length_eq_zero hx
  refine does_ex (qc := qc1) (np := []) (CK := ckK [(10, cN R_new), (11, cB R_reach), (12, cB R_wave), (20, cB R_next), (21, cPu R_stepA), (14, cSc R_held), (22, cSc R_valid), (16, cSc R_true)]) mixed Try.func7 rfl rfl Try.ntmps7 Try.results7 τ_ok (by kernel_rfl) (ckK_ok ⟨cN_ok new_ok rfl, cB_ok reach_ok rfl, cB_ok wave_ok rfl, cB_ok next_ok rfl, cPu_ok stepA_ok rfl, cSc_ok held_ok, cSc_ok pvalid_ok, cSc_ok awake_ok, trivial⟩) (by simp) ?_
  conv => whnf
  refine ⟨l, rfl, ?_⟩
  conv => whnf
  refine ⟨⟨l, 0⟩, rfl, ⟨Nat.zero_le _, hl⟩, fun ws den d hd hr hw5 hw => ?_⟩
  conv => whnf
  refine ⟨d, ws, rfl, rfl, hd, hr, fun ps d hd hf hs => ?_⟩
  conv => whnf
  obtain ⟨a1, a2, _, a4, a5, a6, _⟩ := rk_facts hr
  refine ⟨Nat × Ls × Dk, fun s => ([(3, .c (.ptr (.l 11 0) 0)), (4, .c (.ptr (.l 4 1) 0)), (5, .c (.ptr (.l 5 2) 0)), (17, I s.1)], ⟨[(.l 11 0, .blk (dkC s.2.2)), (.l 4 1, .blk (RcC ws den)), (.l 5 2, .blk (WvC s.2.1))], 3, []⟩),
    fun s => s.1 ≤ 8 ∧ s.2.2.ok ∧ fitsB ws.length s.2.1 = true ∧ s.2.1.sum ≤ 24000000 + 12000000 * s.1, fun s => 8 - s.1, (0, ps, d), ⟨by omega, hd, hf, by simpa using hs⟩,
    Shift.rename [] ⟨rfl, rfl, rfl, rfl, trivial⟩ ⟨rfl, rfl, rfl, trivial⟩ rfl rfl rfl, fun s hs => ?_⟩
  obtain ⟨i, ps, d⟩ := s
  obtain ⟨h1, h2, h3, h4⟩ := hs
  dsimp only at h1 h2 h3 h4 ⊢
  conv => whnf
  refine Fork.mk (fun h => ?_) (fun h => ?_)
  · have hi : i < 8 := by simp at h; omega
    conv => whnf
    refine ⟨d, rfl, h2, by omega, fun q d hd hq1 hq2 => ?_⟩
    obtain ⟨p, o, e1, f1, f2, f3, f4, f5, f6⟩ := keep_law hr h3 hq1 (by omega : q < 50) (by omega)
    obtain ⟨g1, _, g3, _⟩ := fits_facts h3
    obtain ⟨k1, _, k3, _⟩ := fits_facts f1
    conv => whnf
    refine ⟨ws, ps, rfl, rfl, by omega, by omega, ?_⟩
    rw [e1]
    conv => whnf
    refine Fork.mk (fun h => (by simp at h)) (fun h => ?_)
    conv => whnf
    refine ⟨p, rfl, by omega, fun x hx => (by have := k3 x hx; unfold inH; omega), ?_⟩
    conv => whnf
    refine ⟨ps, rfl, by omega, fun x hx => (by have := g3 x hx; unfold inH; omega), ?_⟩
    conv => whnf
    have hps := fits_sum h3
    rw [show IntKind.i64.wrap (q - o) = q - o from wrap_in (by omega) (by omega), show IntKind.i64.wrap (den * (q - o)) = den * (q - o) from wrap_in (by omega) (by omega), show IntKind.i64.wrap (ps.sum + den * (q - o)) = p.sum from by rw [wrap_in (by omega) (by omega)]; omega]
    refine Fork.mk (fun h => (by simp at h)) (fun h => ?_)
    conv => whnf
    refine ⟨ws, p, rfl, rfl, by omega, by omega, ?_⟩
    rw [f1, hr]
    conv => whnf
    refine Fork.mk (fun h => (by simp at h)) (fun h => ?_)
    conv => whnf
    refine Fork.mk (fun h => (by simp at h; omega)) (fun h => ?_)
    conv => whnf
    have hw1 : IntKind.i64.wrap ((i : Int) + 1) = ((i + 1 : Nat) : Int) := by rw [wrap_in (by omega) (by omega)]; omega
    rw [hw1]
    refine ⟨(i + 1, p, d), ⟨hi, hd, f1, by dsimp only; omega⟩, Shift.rename [] ⟨rfl, rfl, rfl, rfl, trivial⟩ ⟨rfl, rfl, rfl, trivial⟩ rfl rfl rfl, ?_⟩
    show 8 - (i + 1) < 8 - i
    omega
  · conv => whnf
    exact hk
end Go.Proofs
