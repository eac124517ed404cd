/- Proved here: what functions of the given program come to, for the statements of this chapter; no condition but those in the theorems. -/
import Derived.Test.YtnaggkcpagbolaaK18
namespace Go.Proofs
open Go Go.Abs
set_option linter.unusedSimpArgs false
set_option linter.unusedVariables false
set_option maxRecDepth 4000
def sU : Un := ⟨[(0, 0), (30, 60)], 10, 30, [(15, 20)], 0, 0⟩
def R_sU : RT := fun args k => args = [] ∧ k (.agg (unC sU))
theorem sU_ok : ckU sU = 0 := by decide
theorem sU_fl : flS sU 5 = ([10, 15, 20, 25, 30], 0) := by
  rw [flS, if_neg (by simp [sU_ok]), if_neg (by omega), show flT sU 5 (sU.mo + 1) = [10, 15, 20, 25, 30] by decide, if_neg (by decide)]
theorem sU_fin : sU.fin := ⟨by decide, by decide⟩
theorem sample_ok : FunR Try.prog 22 R_sU := by
  intro args k h
  obtain ⟨rfl, hk⟩ := h
  refine does_ex (qc := qc1) (np := []) (CK := ckK []) mixed Try.func22 rfl rfl Try.ntmps22 Try.results22 τ_ok (by kernel_rfl) (ckK_ok trivial) (by simp) ?_
  conv => whnf
  refine ⟨by simp, ?_⟩
  conv => whnf
  refine ⟨by simp, ?_⟩
  conv => whnf
  exact hk
theorem awake_ok : FunR Try.prog 8 R_tt := by
  intro args k h
  obtain ⟨rfl, hk⟩ := h
  refine does_ex (qc := qc1) (np := []) (CK := ckK [(22, cPq R_sU), (21, cPq R_flS), (27, cSc (R_unQB runS)), (32, cSc R_same)]) mixed Try.func8 rfl rfl Try.ntmps8 Try.results8 τ_ok (by kernel_rfl) (ckK_ok ⟨cPq_ok sample_ok, cPq_ok flows_ok, cSc_ok Runs_ok, cSc_ok same_ok, trivial⟩) (by simp) ?_
  conv => whnf
  refine ⟨rfl, ?_⟩
  conv => whnf
  refine ⟨sU, 5, rfl, sU_fin, ?_⟩
  rw [sU_fl]
  conv => whnf
  refine ⟨sU, 15, rfl, sU_fin, ?_⟩
  rw [show runS sU 15 = true by decide]
  conv => whnf
  refine fork_t ?_
  conv => whnf
  refine ⟨sU, 20, rfl, sU_fin, ?_⟩
  rw [show runS sU 20 = true by decide]
  conv => whnf
  refine fork_t ?_
  conv => whnf
  refine ⟨sU, 16, rfl, sU_fin, ?_⟩
  rw [show runS sU 16 = false by decide]
  conv => whnf
  refine fork_t ?_
  conv => whnf
  refine fork_t ?_
  conv => whnf
  refine ⟨by simp, ?_⟩
  conv => whnf
  refine ⟨[10, 15, 20, 25, 30], [10, 15, 20, 25, 30], rfl, ⟨by simp, by simp⟩, ?_⟩
  conv => whnf
  exact hk
end Go.Proofs
