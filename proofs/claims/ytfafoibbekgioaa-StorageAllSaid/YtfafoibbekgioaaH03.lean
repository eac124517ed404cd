/- Proved here: what functions of the given program come to, for the statements of this chapter; no condition but those in the theorems. -/
import Derived.Test.YtfafoibbekgioaaG03
namespace Go.Proofs
open Go Go.Abs
set_option linter.unusedSimpArgs false
set_option linter.unusedVariables false
set_option maxRecDepth 4000
theorem awake_ok : FunR Try.prog 13 R_true := by
  intro args k h
  unfold R_true at h
  split at h
  case h_2 => exact h.elim
  have hk := h
  refine does_ex (qc := qc1) (np := []) (CK := ckK [(11, cSc (R_rs1 volS)), (12, cSc (R_rs1 levS)), (18, cSc (R_rs ckS))]) mixed Try.func13 rfl rfl Try.ntmps13 Try.results13 τ_ok (by kernel_rfl) (ckK_ok ⟨cSc_ok volS_ok, cSc_ok levS_ok, cSc_ok ckS_ok', trivial⟩) (by simp) ?_
  conv => whnf
  refine ⟨by simp, ?_⟩
  conv => whnf
  refine ⟨[(100, 0), (200, 1000)], rfl, by simp, ?_⟩
  rw [show volS ⟨[(100, 0), (200, 1000)], 100, 120, 150, 180, 200⟩ 150 = (500, 0) by decide]
  conv => whnf
  refine ⟨by simp, ?_⟩
  conv => whnf
  refine ⟨[(100, 0), (200, 1000)], rfl, by simp, ?_⟩
  rw [show levS ⟨[(100, 0), (200, 1000)], 100, 120, 150, 180, 200⟩ 509 = (150, 0) by decide]
  conv => whnf
  refine fork_t ?_
  conv => whnf
  refine fork_t ?_
  conv => whnf
  refine fork_t ?_
  conv => whnf
  refine fork_t ?_
  conv => whnf
  refine ⟨by simp, ?_⟩
  conv => whnf
  refine ⟨[(100, 0), (200, 1000)], rfl, by simp, ?_⟩
  rw [show ckS ⟨[(100, 0), (200, 1000)], 100, 120, 150, 180, 200⟩ = 0 by decide]
  conv => whnf
  exact hk
/-- A made reservoir's facts. -/
theorem Rs.made.all {r : Rs} (h : r.made) : ckC r.st = 0 ∧ riseB r.st = true := ⟨(ckS_ok h.ck).1, (ckS_ok h.ck).2.2.2.1⟩
end Go.Proofs
