/- Proved here: what functions of the given program come to, for the statements of this chapter; no condition but those in the theorems. -/
import Derived.Test.YtagjajmkmambiaaL16m
namespace Go.Proofs
open Go.Abs
set_option linter.unusedSimpArgs false
set_option linter.unusedVariables false
set_option maxRecDepth 4000
/-- A wave, made by a run of a few flows. -/
def R_wave : RB := fun cs args k => match args with
  | [.agg [.lst es, .sc (.int .i64 den)]] => ∃ d : Dk, ∃ ws : Ls, es = eL ws ∧ cs = dkC d ∧ d.ok ∧ rkCheck ws den = 0 ∧ ∀ (ps : Ls) d', Dk.ok d' → fitsB ws.length ps = true → ps.sum ≤ 24000000 → k (.agg [.lst (eL ps)]) (dkC d')
  | _ => False
theorem wave_law {ws : Ls} {den : Int} (hr : rkCheck ws den = 0) {qs : Ls} (hq : ∀ q ∈ qs, 0 ≤ q ∧ q < 20) (hl : qs.length ≤ 5) : ∃ p o, rkRun ws den [] qs = (p, o, 0) ∧ fitsB ws.length p = true ∧ p.sum ≤ 24000000 := by
  obtain ⟨a1, a2, _, a4, a5, a6, _⟩ := rk_facts hr
  have hqs := sum_in (l := qs) (a := 20) (by omega) (fun q h => by have := hq q h; omega)
  have hqb : qs.sum ≤ 100 := by omega
  have hdq : den * qs.sum ≤ 240000 * 100 := Int.mul_le_mul a5 hqb hqs.1 (by omega)
  obtain ⟨p, o, r1, r2, r3, r4, r5⟩ := runGo_ok hr qs [] (fits_nil _) (fun q h => by have := hq q h; omega) (by simp; omega)
  have hos := (sum_nn r5).1
  have := Int.mul_nonneg (show 0 ≤ den by omega) hos
  simp at r4
  exact ⟨p, o, rkRun_ok hr (fits_nil _) (by omega) r1, r3, by omega⟩
theorem wave_ok : FunB Try.prog 12 R_wave := by
  intro cs args k h
  unfold R_wave at h
  split at h
  case h_2 => exact h.elim
  rename_i den
  obtain ⟨d, ws, rfl, rfl, hd, hr, hk⟩ := h
  obtain ⟨a1, a2, _, a4, a5, a6, _⟩ := rk_facts hr
  refine doesB_ex (qc := qc1) (np := [(1, [(0, 4), (0, 5), (0, 11), (4, 11), (5, 11), (6, 11)])]) (CK := ckK [(20, cB R_next), (17, cB R_flows), (32, cPu R_run)]) mixed Try.func12 rfl rfl Try.ntmps12 Try.results12 τ_ok (by kernel_rfl) (ckK_ok ⟨cB_ok next_ok rfl, cB_ok flows_ok rfl, cPu_ok rrun_ok rfl, trivial⟩) (by simp) rfl rfl ?_
  conv => whnf
  refine ⟨d, rfl, hd, by omega, fun n d hd hn1 hn2 => ?_⟩
  conv => whnf
  obtain ⟨n, rfl⟩ := Int.eq_ofNat_of_zero_le hn1
  refine ⟨d, n, rfl, hd, rfl, by omega, by omega, fun qs d hd hl hq => ?_⟩
  obtain ⟨p, o, e1, f1, f2⟩ := wave_law hr hq (by omega)
  conv => whnf
  refine ⟨ws, [], qs, rfl, rfl, rfl, by omega, by simp, by omega, ?_⟩
  rw [e1]
  conv => whnf

  exact ⟨rfl, rfl, hk p d hd f1 f2⟩
end Go.Proofs
