/- Proved here: what functions of the given program come to, for the statements of this chapter; no condition but those in the theorems. -/
import Derived.Test.YtknjncmgohjpkaaK25
namespace Go.Proofs
open Go Go.Abs
set_option linter.unusedSimpArgs false
set_option linter.unusedVariables false
set_option maxRecDepth 4000
theorem rule_ok : FunB Try.prog 11 R_mkF := by
  intro cs args k h
  obtain ⟨d, r, rfl, rfl, hd, hr, hk⟩ := h
  refine doesB_ex (qc := qc1) (np := [(2, [(1, 9)]), (3, [(1, 7)])]) (CK := ckK [(23, cB R_next), (31, cB R_mkT)]) mixed Try.func11 rfl rfl Try.ntmps11 Try.results11 τ_ok (by kernel_rfl) (ckK_ok ⟨cB_ok next_ok rfl, cB_ok table_ok rfl, trivial⟩) (by simp) rfl rfl ?_
  conv => whnf
  refine ⟨d, rfl, rfl, hd, fun t d hd ht => ?_⟩
  conv => whnf
  refine ⟨d, rfl, hd, by omega, fun c d hd hc1 hc2 => ?_⟩
  have e1 : IntKind.i64.wrap (1 + c) = 1 + c := wrap_in (by omega) (by omega)
  have e2 : IntKind.i64.wrap (r.sur - r.dead) = r.sur - r.dead := wrap_in (by omega) (by omega)
  have e3 : IntKind.i64.wrap (r.sur - r.dead + 1) = r.sur - r.dead + 1 := wrap_in (by omega) (by omega)
  conv => whnf
  rw [e1, e2, e3]
  refine ⟨d, rfl, hd, by omega, fun v d hd hv1 hv2 => ?_⟩
  have e4 : IntKind.i64.wrap (r.sur - v) = r.sur - v := wrap_in (by omega) (by omega)
  conv => whnf
  rw [e4]
  have hb : ∀ b, (if 1 < r.sur - v then r.sur - v else 1) = b → 1 ≤ b ∧ b ≤ r.sur := fun b e => by subst e; split <;> omega
  generalize (if 1 < r.sur - v then r.sur - v else 1) = b at hb
  have hb := hb b rfl
  have hm : ∀ m, (if b < 20 then b else 20) = m → 1 ≤ m ∧ m ≤ b := fun m e => by subst e; split <;> omega
  generalize (if b < 20 then b else 20) = m at hm
  have hm := hm m rfl
  refine ⟨d, rfl, hd, by omega, fun w d hd hw1 hw2 => ?_⟩
  have e5 : IntKind.i64.wrap (b - 1) = b - 1 := wrap_in (by omega) (by omega)
  have e6 : IntKind.i64.wrap (b - 1 - w) = b - 1 - w := wrap_in (by omega) (by omega)
  conv => whnf
  rw [e5, e6]
  exact ⟨rfl, rfl, hk ⟨t, b, b - 1 - w, 1 + c⟩ d hd ⟨ht, by dsimp only; omega, by dsimp only; omega, by dsimp only; omega, by dsimp only; omega⟩⟩
end Go.Proofs
