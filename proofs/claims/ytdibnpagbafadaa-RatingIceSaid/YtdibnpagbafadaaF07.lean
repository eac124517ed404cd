/- Proved here: what functions of the given program come to, for the statements of this chapter; no condition but those in the theorems. -/
import Derived.Test.YtdibnpagbafadaaE07
namespace Go.Proofs
open Go Go.Abs
set_option linter.unusedSimpArgs false
set_option linter.unusedVariables false
set_option maxRecDepth 4000
theorem ice_ok : FunR Try.prog 3 (R_law1 1) := by
  intro args k h
  unfold R_law1 at h
  split at h
  case h_2 => exact h.elim
  obtain ⟨⟨l, rfl, hl⟩, ⟨xs, rfl, hx⟩, hk⟩ := h
  obtain ⟨vv, rfl⟩ : ∃ a, xs = [a] := by
    match xs, hx with
    | [a], _ => exact ⟨a, rfl⟩
  refine does_ex (qc := qc1) (np := []) (CK := ckK [(8, cN R_new), (7, cB R_rating), (9, cSc R_mod), (10, cSc R_flow1), (11, cSc R_true)]) mixed Try.func3 rfl rfl Try.ntmps3 Try.results3 τ_ok (by kernel_rfl) (ckK_ok ⟨cN_ok new_ok rfl, cB_ok mkrating_ok rfl, cSc_ok mod_ok, cSc_ok flow1_ok, cSc_ok awake_ok, trivial⟩) (by simp) ?_
  conv => whnf
  refine ⟨l, rfl, ?_⟩
  conv => whnf
  refine ⟨⟨l, 0⟩, rfl, ⟨Nat.zero_le _, hl⟩, fun p r ice d hd hp1 hp2 hr hch hi => ?_⟩
  obtain ⟨hc, hin⟩ := rating_ok' hp1 hp2 hr hch
  generalize hcc : p :: r = c at *
  have hcl : c.length ≤ 100 := (ckC_ne hc).2
  have hrk := rkR_of hc hi.1 (show ice ≤ 16777216 by omega)
  conv => whnf
  refine ⟨by decide, ?_⟩
  conv => whnf
  have hv1 : 0 ≤ vv % 300 ∧ vv % 300 < 300 := by omega
  generalize vv % 300 = v at *
  have hrd : ∀ f, 0 ≤ f → f ≤ 2 → ckRd ⟨0, 0, v, f⟩ = 0 := fun f h1 h2 => by
    unfold ckRd
    rw [if_neg (by simp [inB]), if_neg (by simp [inB]), if_neg (by simp [inB]; omega), if_neg (by simp [inB]; omega)]
  refine ⟨c, rfl, by omega, ?_⟩
  rw [flow1_good hrk (hrd 0 (by omega) (by omega)), show flowV c ice ⟨0, 0, v, 0⟩ = (tAt c v, true) from rfl]
  conv => whnf
  refine ⟨c, rfl, by omega, ?_⟩
  rw [flow1_good hrk (hrd 1 (by omega) (by omega)), show flowV c ice ⟨0, 0, v, 1⟩ = (tAt c (v - ice), true) from rfl]
  conv => whnf
  refine ⟨c, rfl, by omega, ?_⟩
  rw [flow1_good hrk (hrd 2 (by omega) (by omega)), show flowV c ice ⟨0, 0, v, 2⟩ = (0, false) from rfl]
  have hle : tAt c (v - ice) ≤ tAt c v := valC_mono hc (by split <;> split <;> omega)
  have heq : ice = 0 → tAt c v = tAt c (v - ice) := fun e => by rw [e]; congr 1; omega
  conv => whnf
  refine Fork.mk (fun h => ?_) (fun h => (by simp [wr0] at h))
  conv => whnf
  refine fork_t ?_
  conv => whnf
  refine fork_t ?_
  conv => whnf
  refine fork_t ?_
  conv => whnf
  refine fork_t ?_
  conv => whnf
  refine Fork.mk (fun h => ?_) (fun h => (by simp at h; omega))
  conv => whnf
  refine Fork.mk (fun h => ?_) (fun h => ?_)
  · conv => whnf
    refine Fork.mk (fun h => ?_) (fun h => (by simp at h))
    conv => whnf
    exact hk
  · have h0 : ice = 0 := by simp at h; omega
    have e := heq h0
    conv => whnf
    refine Fork.mk (fun h => ?_) (fun h => (by simp at h; omega))
    conv => whnf
    exact hk
end Go.Proofs
