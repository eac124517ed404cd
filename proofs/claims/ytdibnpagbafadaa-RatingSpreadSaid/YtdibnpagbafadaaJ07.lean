/- Proved here: what functions of the given program come to, for the statements of this chapter; no condition but those in the theorems. -/
import Derived.Test.YtdibnpagbafadaaE07
namespace Go.Proofs
open Go Go.Abs
set_option linter.unusedSimpArgs false
set_option linter.unusedVariables false
set_option maxRecDepth 4000
def spreadV (c : List Pt) (ice st w : Int) : Int × Int × Int := if rkR c ice ≠ 0 then (0, 0, rkR c ice) else if inB 0 16777216 st = true ∧ inB 0 16777216 w = true then (tAt c (st - w), tAt c (st + w), 0) else (0, 0, 1)
def R_spread : RT := fun args k => match args with
  | [.agg [.lst es, .sc (.int .i64 ice)], .c (.sc (.int .i64 x)), .c (.sc (.int .i64 y))] => ∃ c : List Pt, es = eP c ∧ c.length ≤ 9223372036854775807 ∧ k (.tup [.agg [IC (spreadV c ice x y).1, IC (spreadV c ice x y).2.1], I (spreadV c ice x y).2.2])
  | _ => False
theorem tAt_mono {c : List Pt} (h : ckC c = 0) {x y : Int} (hxy : x ≤ y) : tAt c x ≤ tAt c y := valC_mono h (by split <;> split <;> omega)
theorem spread_ok : FunR Try.prog 12 R_spread := by
  intro args k h
  unfold R_spread at h
  split at h
  case h_2 => exact h.elim
  rename_i ice x y
  obtain ⟨c, rfl, hl, hk⟩ := h
  refine does_ex (qc := qc1) (np := []) (CK := ckK [(19, cSc R_rkR), (20, cSc R_within), (21, cSc R_tAt)]) mixed Try.func12 rfl rfl Try.ntmps12 Try.results12 τ_ok (by kernel_rfl) (ckK_ok ⟨cSc_ok rkR_ok', cSc_ok within_ok, cSc_ok tAt_ok, trivial⟩) (by simp) ?_
  conv => whnf
  refine ⟨c, rfl, hl, ?_⟩
  conv => whnf
  refine Fork.mk (fun h => ?_) (fun h => ?_)
  · have h1 : rkR c ice ≠ 0 := by simpa using h
    rw [show spreadV c ice x y = (0, 0, rkR c ice) from if_pos h1] at hk
    conv => whnf
    exact hk
  have h1 : rkR c ice = 0 := by simpa using h
  obtain ⟨hc, _⟩ := rkR_ok h1
  have bad : ¬ (inB 0 16777216 x = true ∧ inB 0 16777216 y = true) → spreadV c ice x y = (0, 0, 1) := fun g => by unfold spreadV; rw [if_neg (by rw [h1]; simp), if_neg g]
  clear h
  conv => whnf
  refine Fork.mk (fun h => ?_) (fun h => ?_)
  · rw [bad (by simp [inB] at h ⊢; omega)] at hk
    conv => whnf
    refine fork_t ?_
    conv => whnf
    exact hk
  have hx : 0 ≤ x ∧ x ≤ 16777216 := by simp at h; omega
  clear h
  conv => whnf
  refine Fork.mk (fun h => ?_) (fun h => ?_)
  · rw [bad (by simp [inB] at h ⊢; omega)] at hk
    conv => whnf
    exact hk
  have hy : 0 ≤ y ∧ y ≤ 16777216 := by simp at h; omega
  clear h
  rw [show spreadV c ice x y = (tAt c (x - y), tAt c (x + y), 0) by unfold spreadV; rw [if_neg (by rw [h1]; simp), if_pos (by simp [inB]; omega)]] at hk
  conv => whnf
  rw [show IntKind.i64.wrap (x - y) = x - y from wrap_in (by omega) (by omega)]
  refine ⟨c, rfl, hc, ?_⟩
  conv => whnf
  rw [show IntKind.i64.wrap (x + y) = x + y from wrap_in (by omega) (by omega)]
  refine ⟨c, rfl, hc, ?_⟩
  conv => whnf
  exact hk
theorem spreadlaw_ok : FunR Try.prog 5 (R_law1 2) := by
  intro args k h
  unfold R_law1 at h
  split at h
  case h_2 => exact h.elim
  obtain ⟨⟨l, rfl, hl⟩, ⟨xs, rfl, hx⟩, hk⟩ := h
  obtain ⟨v0, v1, rfl⟩ : ∃ v0 v1, xs = [v0, v1] := by
    match xs, hx with
    | [v0, v1], _ => exact ⟨v0, v1, rfl⟩
  refine does_ex (qc := qc1) (np := []) (CK := ckK [(8, cN R_new), (7, cB R_rating), (9, cSc R_mod), (10, cSc R_flow1), (12, cSc R_spread), (11, cSc R_true)]) mixed Try.func5 rfl rfl Try.ntmps5 Try.results5 τ_ok (by kernel_rfl) (ckK_ok ⟨cN_ok new_ok rfl, cB_ok mkrating_ok rfl, cSc_ok mod_ok, cSc_ok flow1_ok, cSc_ok spread_ok, cSc_ok awake_ok, trivial⟩) (by simp) ?_
  conv => whnf
  refine ⟨l, rfl, ?_⟩
  conv => whnf
  refine ⟨⟨l, 0⟩, rfl, ⟨Nat.zero_le _, hl⟩, fun p r ice d hd hp1 hp2 hr hch hi => ?_⟩
  obtain ⟨hc, hin⟩ := rating_ok' hp1 hp2 hr hch
  generalize hcc : p :: r = c at *
  have hcl : c.length ≤ 100 := (ckC_ne hc).2
  have hrk := rkR_of hc hi.1 (show ice ≤ 16777216 by omega)
  conv => whnf
  refine ⟨by decide, ?_⟩
  have hb1 : 0 ≤ v0 % 300 ∧ v0 % 300 < 300 := by omega
  generalize v0 % 300 = x at *
  conv => whnf
  refine ⟨by decide, ?_⟩
  have hb2 : 0 ≤ v1 % 80 ∧ v1 % 80 < 80 := by omega
  generalize v1 % 80 = n at *
  have hrd : ckRd ⟨0, 0, x, 0⟩ = 0 := by
    unfold ckRd
    rw [if_neg (by simp [inB]), if_neg (by simp [inB]), if_neg (by simp [inB]; omega), if_neg (by simp [inB])]
  have sp : ∀ w, 0 ≤ w → w ≤ 100 → spreadV c ice x w = (tAt c (x - w), tAt c (x + w), 0) := fun w g1 g2 => by
    unfold spreadV; rw [if_neg (by rw [hrk]; simp), if_pos (by simp [inB]; omega)]
  conv => whnf
  refine ⟨c, rfl, by omega, ?_⟩
  rw [flow1_good hrk hrd, show flowV c ice ⟨0, 0, x, 0⟩ = (tAt c x, true) from rfl]
  conv => whnf
  refine ⟨c, rfl, by omega, ?_⟩
  rw [sp n (by omega) (by omega)]
  conv => whnf
  rw [show IntKind.i64.wrap (n + 1) = n + 1 from wrap_in (by omega) (by omega)]
  refine ⟨c, rfl, by omega, ?_⟩
  rw [sp (n + 1) (by omega) (by omega)]
  conv => whnf
  refine ⟨c, rfl, by omega, ?_⟩
  rw [sp 0 (by omega) (by omega), show x - 0 = x by omega, show x + 0 = x by omega]
  have m1 := tAt_mono hc (show x - n ≤ x by omega)
  have m2 := tAt_mono hc (show x ≤ x + n by omega)
  have m3 := tAt_mono hc (show x - (n + 1) ≤ x - n by omega)
  have m4 := tAt_mono hc (show x + n ≤ x + (n + 1) by omega)
  generalize tAt c x = q at *
  generalize tAt c (x - n) = a1 at *
  generalize tAt c (x + n) = a2 at *
  generalize tAt c (x - (n + 1)) = b1 at *
  generalize tAt c (x + (n + 1)) = b2 at *
  conv => whnf
  refine fork_t ?_
  conv => whnf
  refine Fork.mk (fun h => ?_) (fun h => (by simp at h; omega))
  conv => whnf
  refine Fork.mk (fun h => ?_) (fun h => (by simp at h; omega))
  conv => whnf
  refine Fork.mk (fun h => ?_) (fun h => (by simp at h; omega))
  conv => whnf
  refine Fork.mk (fun h => ?_) (fun h => (by simp at h; omega))
  conv => whnf
  refine Fork.mk (fun h => ?_) (fun h => (by simp at h))
  conv => whnf
  exact hk
end Go.Proofs
