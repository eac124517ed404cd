/- Proved here: what functions of the given program come to, for the statements of this chapter; no condition but those in the theorems. -/
import Derived.Test.YtfafoibbekgioaaH03
namespace Go.Proofs
open Go Go.Abs
set_option linter.unusedSimpArgs false
set_option linter.unusedVariables false
set_option maxRecDepth 4000
theorem rises_ok : FunR Try.prog 5 (R_law1 2) := by
  intro args k h
  unfold R_law1 at h
  split at h
  case h_2 => exact h.elim
  obtain ⟨⟨l, rfl, hl⟩, ⟨xs, rfl, hx⟩, hk⟩ := h
  obtain ⟨v0, v1, rfl⟩ : ∃ v0 v1, xs = [v0, v1] := by
    match xs, hx with
    | [v0, v1], _ => exact ⟨v0, v1, rfl⟩
  refine does_ex (qc := qc1) (np := []) (CK := ckK [(9, cN R_new), (8, cB R_resv), (10, cSc R_mod), (11, cSc (R_rs1 volS)), (12, cSc (R_rs1 levS)), (16, cSc (R_rs1 zonS)), (13, cSc R_true)]) mixed Try.func5 rfl rfl Try.ntmps5 Try.results5 τ_ok (by kernel_rfl) (ckK_ok ⟨cN_ok new_ok rfl, cB_ok resv_ok rfl, cSc_ok mod_ok, cSc_ok volS_ok, cSc_ok levS_ok, cSc_ok zonS_ok, cSc_ok awake_ok, trivial⟩) (by simp) ?_
  conv => whnf
  refine ⟨l, rfl, ?_⟩
  conv => whnf
  refine ⟨⟨l, 0⟩, rfl, ⟨Nat.zero_le _, hl⟩, fun r d hd hm hst => ?_⟩
  obtain ⟨hck, ⟨hlo1, hlo2⟩, hhi, ⟨hvlo1, hvlo2⟩, hlv⟩ := hm
  obtain ⟨hc, hlen, hlast, hrise, hsrt⟩ := ckS_ok hck
  obtain ⟨c, dead, low, full, sur, crest⟩ := r
  dsimp only at *
  obtain ⟨hc0, hcl⟩ := ckC_ne hc
  have hm := eP_len c
  have hh := head_at hc0
  have hval := valC_in hc
  conv => whnf
  refine ⟨by decide, ?_⟩
  have hb1 : 0 ≤ v0 % 400 ∧ v0 % 400 < 400 := by omega
  generalize v0 % 400 = a at *
  conv => whnf
  refine ⟨by decide, ?_⟩
  have hb2 : 0 ≤ v1 % 400 ∧ v1 % 400 < 400 := by omega
  generalize v1 % 400 = b at *
  conv => whnf
  refine Fork.mk (fun h => ?_) (fun h => ?_)
  · have hxy : b ≤ a := by simp at h; omega
    clear h
    have h1 := hgt_mono hc hrise (show 2 * b ≤ 2 * a by omega)
    have h2 := valC_mono hc hxy
    have h3 := zonV_mono (r := ⟨c, dead, low, full, sur, crest⟩) hxy
    conv => whnf
    rw [show IntKind.i64.wrap (2 * b) = 2 * b from wrap_in (by omega) (by omega)]
    refine ⟨c, rfl, by omega, ?_⟩
    rw [levS_of hck ⟨by first | omega | (dsimp only; omega), by first | omega | (dsimp only; omega)⟩]
    conv => whnf
    rw [show IntKind.i64.wrap (2 * a) = 2 * a from wrap_in (by omega) (by omega)]
    refine ⟨c, rfl, by omega, ?_⟩
    rw [levS_of hck ⟨by first | omega | (dsimp only; omega), by first | omega | (dsimp only; omega)⟩]
    conv => whnf
    refine ⟨c, rfl, by omega, ?_⟩
    rw [volS_of hck ⟨by first | omega | (dsimp only; omega), by first | omega | (dsimp only; omega)⟩]
    conv => whnf
    refine ⟨c, rfl, by omega, ?_⟩
    rw [volS_of hck ⟨by first | omega | (dsimp only; omega), by first | omega | (dsimp only; omega)⟩]
    conv => whnf
    refine ⟨c, rfl, by omega, ?_⟩
    rw [zonS_of hck ⟨by first | omega | (dsimp only; omega), by first | omega | (dsimp only; omega)⟩]
    conv => whnf
    refine ⟨c, rfl, by omega, ?_⟩
    rw [zonS_of hck ⟨by first | omega | (dsimp only; omega), by first | omega | (dsimp only; omega)⟩]
    conv => whnf
    refine fork_t ?_
    conv => whnf
    refine Fork.mk (fun h => ?_) (fun h => (by simp at h; omega))
    conv => whnf
    refine Fork.mk (fun h => ?_) (fun h => (by simp at h; omega))
    conv => whnf
    refine Fork.mk (fun h => ?_) (fun h => (by simp at h; omega))
    conv => whnf
    exact hk
  · have hxy : a ≤ b := by simp at h; omega
    clear h
    have h1 := hgt_mono hc hrise (show 2 * a ≤ 2 * b by omega)
    have h2 := valC_mono hc hxy
    have h3 := zonV_mono (r := ⟨c, dead, low, full, sur, crest⟩) hxy
    conv => whnf
    rw [show IntKind.i64.wrap (2 * a) = 2 * a from wrap_in (by omega) (by omega)]
    refine ⟨c, rfl, by omega, ?_⟩
    rw [levS_of hck ⟨by first | omega | (dsimp only; omega), by first | omega | (dsimp only; omega)⟩]
    conv => whnf
    rw [show IntKind.i64.wrap (2 * b) = 2 * b from wrap_in (by omega) (by omega)]
    refine ⟨c, rfl, by omega, ?_⟩
    rw [levS_of hck ⟨by first | omega | (dsimp only; omega), by first | omega | (dsimp only; omega)⟩]
    conv => whnf
    refine ⟨c, rfl, by omega, ?_⟩
    rw [volS_of hck ⟨by first | omega | (dsimp only; omega), by first | omega | (dsimp only; omega)⟩]
    conv => whnf
    refine ⟨c, rfl, by omega, ?_⟩
    rw [volS_of hck ⟨by first | omega | (dsimp only; omega), by first | omega | (dsimp only; omega)⟩]
    conv => whnf
    refine ⟨c, rfl, by omega, ?_⟩
    rw [zonS_of hck ⟨by first | omega | (dsimp only; omega), by first | omega | (dsimp only; omega)⟩]
    conv => whnf
    refine ⟨c, rfl, by omega, ?_⟩
    rw [zonS_of hck ⟨by first | omega | (dsimp only; omega), by first | omega | (dsimp only; omega)⟩]
    conv => whnf
    refine fork_t ?_
    conv => whnf
    refine Fork.mk (fun h => ?_) (fun h => (by simp at h; omega))
    conv => whnf
    refine Fork.mk (fun h => ?_) (fun h => (by simp at h; omega))
    conv => whnf
    refine Fork.mk (fun h => ?_) (fun h => (by simp at h; omega))
    conv => whnf
    exact hk
end Go.Proofs
