/- Proved here: what functions of the given program come to, for the statements of this chapter; no condition but those in the theorems. -/
import Derived.Test.YtfafoibbekgioaaE03
namespace Go.Proofs
open Go Go.Abs
set_option linter.unusedSimpArgs false
set_option linter.unusedVariables false
set_option maxRecDepth 4000
theorem asked_ok : FunR Try.prog 27 R_asked := by
  intro args k h
  unfold R_asked at h
  split at h
  case h_2 => exact h.elim
  rename_i a b cc d e x y
  obtain ⟨c, rfl, hl, hk⟩ := h
  refine does_ex (qc := qc1) (np := []) (CK := ckK [(18, cSc (R_rs ckS)), (36, cSc R_within)]) mixed Try.func27 rfl rfl Try.ntmps27 Try.results27 τ_ok (by kernel_rfl) (ckK_ok ⟨cSc_ok ckS_ok', cSc_ok within_ok, trivial⟩) (by simp) ?_
  conv => whnf
  refine ⟨c, rfl, hl, ?_⟩
  conv => whnf
  refine Fork.mk (fun h => ?_) (fun h => ?_)
  · have h1 : ckS ⟨c, a, b, cc, d, e⟩ ≠ 0 := by simpa using h
    rw [show askS ⟨c, a, b, cc, d, e⟩ x y = ckS ⟨c, a, b, cc, d, e⟩ from if_pos h1] at hk
    conv => whnf
    exact hk
  have h1 : ckS ⟨c, a, b, cc, d, e⟩ = 0 := by simpa using h
  have f1 : askS ⟨c, a, b, cc, d, e⟩ x y = if inB 0 274877906944 x = true ∧ inB 0 16777216 y = true then 0 else 1 := by unfold askS; rw [if_neg (by rw [h1]; simp)]
  have bad : ¬ (inB 0 274877906944 x = true ∧ inB 0 16777216 y = true) → askS ⟨c, a, b, cc, d, e⟩ x y = 1 := fun h => by rw [f1, if_neg h]
  have good : (inB 0 274877906944 x = true ∧ inB 0 16777216 y = true) → askS ⟨c, a, b, cc, d, e⟩ x y = 0 := fun h => by rw [f1, if_pos h]
  conv => whnf
  refine Fork.mk (fun h => ?_) (fun h => ?_)
  · rw [bad (by simp [inB] at h ⊢; omega)] at hk
    conv => whnf
    refine fork_t ?_
    conv => whnf
    exact hk
  have h2 : 0 ≤ x ∧ x ≤ 274877906944 := by simp at h; omega
  conv => whnf
  refine Fork.mk (fun h => ?_) (fun h => ?_)
  · rw [bad (by simp [inB] at h ⊢; omega)] at hk
    conv => whnf
    exact hk
  · rw [good (by simp [inB] at h ⊢; omega)] at hk
    conv => whnf
    exact hk
theorem volS_ok : FunR Try.prog 11 (R_rs1 volS) := by
  intro args k h
  unfold R_rs1 at h
  split at h
  case h_2 => exact h.elim
  rename_i a b cc d e x
  obtain ⟨c, rfl, hl, hk⟩ := h
  refine does_ex (qc := qc1) (np := []) (CK := ckK [(27, cSc R_asked), (28, cSc R_val)]) mixed Try.func11 rfl rfl Try.ntmps11 Try.results11 τ_ok (by kernel_rfl) (ckK_ok ⟨cSc_ok asked_ok, cSc_ok val_ok, trivial⟩) (by simp) ?_
  conv => whnf
  refine ⟨c, rfl, hl, ?_⟩
  conv => whnf
  refine Fork.mk (fun h => ?_) (fun h => ?_)
  · have h1 : askS ⟨c, a, b, cc, d, e⟩ 0 x ≠ 0 := by simpa using h
    rw [show volS ⟨c, a, b, cc, d, e⟩ x = (0, askS ⟨c, a, b, cc, d, e⟩ 0 x) from if_pos h1] at hk
    conv => whnf
    exact hk
  have h1 : askS ⟨c, a, b, cc, d, e⟩ 0 x = 0 := by simpa using h
  obtain ⟨hck, hv, hx⟩ := askS_ok h1
  obtain ⟨hc, hlen, hlast, hrise, hsrt⟩ := ckS_ok hck
  dsimp only at hc hlen hlast hrise
  rw [show volS ⟨c, a, b, cc, d, e⟩ x = (valC c x, 0) by unfold volS; exact if_neg (by rw [h1]; simp)] at hk
  conv => whnf
  refine ⟨c, rfl, hc, ?_⟩
  conv => whnf
  exact hk
theorem hgt_ok : FunR Try.prog 29 R_hgt := by
  intro args k h
  unfold R_hgt at h
  split at h
  case h_2 => exact h.elim
  rename_i a b cc d e y
  obtain ⟨c, rfl, hl, ⟨hc, hr⟩, hk⟩ := h
  obtain ⟨hc0, hcl⟩ := ckC_ne hc
  have hm := eP_len c
  have hh := head_at hc0
  refine does_ex (qc := qc1) (np := []) (CK := ckK [(37, cSc R_last)]) mixed Try.func29 rfl rfl Try.ntmps29 Try.results29 τ_ok (by kernel_rfl) (ckK_ok ⟨cSc_ok last_ok, trivial⟩) (by simp) ?_
  conv => whnf
  refine ⟨c, rfl, hl, ?_⟩
  rw [lastV_ok hc]
  by_cases h1 : y < (c.headD (0, 0)).2
  · rw [if_pos h1]
    rw [hgt_lo h1] at hk
    conv => whnf
    refine fork_t ?_
    conv => whnf
    refine ⟨by omega, ePt (c.headD (0, 0)), eP_at c hh, rfl, ?_⟩
    conv => whnf
    exact hk
  · rw [if_neg h1]
    conv => whnf
    refine fork_f ?_
    conv => whnf
    exact hk
theorem levS_ok : FunR Try.prog 12 (R_rs1 levS) := by
  intro args k h
  unfold R_rs1 at h
  split at h
  case h_2 => exact h.elim
  rename_i a b cc d e x
  obtain ⟨c, rfl, hl, hk⟩ := h
  refine does_ex (qc := qc1) (np := []) (CK := ckK [(27, cSc R_asked), (29, cSc R_hgt)]) mixed Try.func12 rfl rfl Try.ntmps12 Try.results12 τ_ok (by kernel_rfl) (ckK_ok ⟨cSc_ok asked_ok, cSc_ok hgt_ok, trivial⟩) (by simp) ?_
  conv => whnf
  refine ⟨c, rfl, hl, ?_⟩
  conv => whnf
  refine Fork.mk (fun h => ?_) (fun h => ?_)
  · have h1 : askS ⟨c, a, b, cc, d, e⟩ x 0 ≠ 0 := by simpa using h
    rw [show levS ⟨c, a, b, cc, d, e⟩ x = (0, askS ⟨c, a, b, cc, d, e⟩ x 0) from if_pos h1] at hk
    conv => whnf
    exact hk
  have h1 : askS ⟨c, a, b, cc, d, e⟩ x 0 = 0 := by simpa using h
  obtain ⟨hck, hv, hx⟩ := askS_ok h1
  obtain ⟨hc, hlen, hlast, hrise, hsrt⟩ := ckS_ok hck
  dsimp only at hc hlen hlast hrise
  rw [show levS ⟨c, a, b, cc, d, e⟩ x = (hgt c x, 0) by unfold levS; exact if_neg (by rw [h1]; simp)] at hk
  conv => whnf
  refine ⟨c, rfl, hl, ⟨hc, hrise⟩, ?_⟩
  conv => whnf
  exact hk
theorem zonS_ok : FunR Try.prog 16 (R_rs1 zonS) := by
  intro args k h
  unfold R_rs1 at h
  split at h
  case h_2 => exact h.elim
  rename_i a b cc d e x
  obtain ⟨c, rfl, hl, hk⟩ := h
  refine does_ex (qc := qc1) (np := []) (CK := ckK [(27, cSc R_asked)]) mixed Try.func16 rfl rfl Try.ntmps16 Try.results16 τ_ok (by kernel_rfl) (ckK_ok ⟨cSc_ok asked_ok, trivial⟩) (by simp) ?_
  conv => whnf
  refine ⟨c, rfl, hl, ?_⟩
  conv => whnf
  refine Fork.mk (fun h => ?_) (fun h => ?_)
  · have h1 : askS ⟨c, a, b, cc, d, e⟩ 0 x ≠ 0 := by simpa using h
    rw [show zonS ⟨c, a, b, cc, d, e⟩ x = (0, askS ⟨c, a, b, cc, d, e⟩ 0 x) from if_pos h1] at hk
    conv => whnf
    exact hk
  have h1 : askS ⟨c, a, b, cc, d, e⟩ 0 x = 0 := by simpa using h
  obtain ⟨hck, hv, hx⟩ := askS_ok h1
  obtain ⟨hc, hlen, hlast, hrise, hsrt⟩ := ckS_ok hck
  dsimp only at hc hlen hlast hrise
  rw [show zonS ⟨c, a, b, cc, d, e⟩ x = (zonV ⟨c, a, b, cc, d, e⟩ x, 0) by unfold zonS; exact if_neg (by rw [h1]; simp)] at hk
  unfold zonV at hk
  dsimp only at hk
  clear h1 h
  conv => whnf
  refine Fork.mk (fun h => ?_) (fun h => ?_)
  · rw [if_pos (by simpa using h)] at hk
    conv => whnf
    exact hk
  rw [if_neg (by simpa using h)] at hk
  conv => whnf
  refine Fork.mk (fun h => ?_) (fun h => ?_)
  · rw [if_pos (by simpa using h)] at hk
    conv => whnf
    exact hk
  rw [if_neg (by simpa using h)] at hk
  conv => whnf
  refine Fork.mk (fun h => ?_) (fun h => ?_)
  · rw [if_pos (by simpa using h)] at hk
    conv => whnf
    exact hk
  rw [if_neg (by simpa using h)] at hk
  conv => whnf
  refine Fork.mk (fun h => ?_) (fun h => ?_)
  · rw [if_pos (by simpa using h)] at hk
    conv => whnf
    exact hk
  rw [if_neg (by simpa using h)] at hk
  conv => whnf
  refine Fork.mk (fun h => ?_) (fun h => ?_)
  · rw [if_pos (by simpa using h)] at hk
    conv => whnf
    exact hk
  rw [if_neg (by simpa using h)] at hk
  conv => whnf
  exact hk
theorem roomS_ok : FunR Try.prog 14 (R_rs2 roomS) := by
  intro args k h
  unfold R_rs2 at h
  split at h
  case h_2 => exact h.elim
  rename_i a b cc d e x y
  obtain ⟨c, rfl, hl, hk⟩ := h
  refine does_ex (qc := qc1) (np := []) (CK := ckK [(27, cSc R_asked), (28, cSc R_val)]) mixed Try.func14 rfl rfl Try.ntmps14 Try.results14 τ_ok (by kernel_rfl) (ckK_ok ⟨cSc_ok asked_ok, cSc_ok val_ok, trivial⟩) (by simp) ?_
  conv => whnf
  refine ⟨c, rfl, hl, ?_⟩
  conv => whnf
  refine Fork.mk (fun h => ?_) (fun h => ?_)
  · have h1 : askS ⟨c, a, b, cc, d, e⟩ x y ≠ 0 := by simpa using h
    rw [show roomS ⟨c, a, b, cc, d, e⟩ x y = (0, askS ⟨c, a, b, cc, d, e⟩ x y) from if_pos h1] at hk
    conv => whnf
    exact hk
  have h1 : askS ⟨c, a, b, cc, d, e⟩ x y = 0 := by simpa using h
  obtain ⟨hck, hv, hx⟩ := askS_ok h1
  obtain ⟨hc, hlen, hlast, hrise, hsrt⟩ := ckS_ok hck
  dsimp only at hc hlen hlast hrise
  rw [show roomS ⟨c, a, b, cc, d, e⟩ x y = (mx (valC c y - x) 0, 0) by unfold roomS; exact if_neg (by rw [h1]; simp)] at hk
  conv => whnf
  refine ⟨c, rfl, hc, ?_⟩
  have hvi := valC_in hc y
  conv => whnf
  rw [show IntKind.i64.wrap (valC c y - x) = valC c y - x from wrap_in (by omega) (by omega)]
  exact hk
theorem usS_ok : FunR Try.prog 15 (R_rs1 usS) := by
  intro args k h
  unfold R_rs1 at h
  split at h
  case h_2 => exact h.elim
  rename_i a b cc d e x
  obtain ⟨c, rfl, hl, hk⟩ := h
  refine does_ex (qc := qc1) (np := []) (CK := ckK [(27, cSc R_asked), (28, cSc R_val)]) mixed Try.func15 rfl rfl Try.ntmps15 Try.results15 τ_ok (by kernel_rfl) (ckK_ok ⟨cSc_ok asked_ok, cSc_ok val_ok, trivial⟩) (by simp) ?_
  conv => whnf
  refine ⟨c, rfl, hl, ?_⟩
  conv => whnf
  refine Fork.mk (fun h => ?_) (fun h => ?_)
  · have h1 : askS ⟨c, a, b, cc, d, e⟩ x 0 ≠ 0 := by simpa using h
    rw [show usS ⟨c, a, b, cc, d, e⟩ x = (0, askS ⟨c, a, b, cc, d, e⟩ x 0) from if_pos h1] at hk
    conv => whnf
    exact hk
  have h1 : askS ⟨c, a, b, cc, d, e⟩ x 0 = 0 := by simpa using h
  obtain ⟨hck, hv, hx⟩ := askS_ok h1
  obtain ⟨hc, hlen, hlast, hrise, hsrt⟩ := ckS_ok hck
  dsimp only at hc hlen hlast hrise
  rw [show usS ⟨c, a, b, cc, d, e⟩ x = (mx (x - valC c a) 0, 0) by unfold usS; exact if_neg (by rw [h1]; simp)] at hk
  conv => whnf
  refine ⟨c, rfl, hc, ?_⟩
  have hvi := valC_in hc a
  conv => whnf
  rw [show IntKind.i64.wrap (x - valC c a) = x - valC c a from wrap_in (by omega) (by omega)]
  exact hk
end Go.Proofs
