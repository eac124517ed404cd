/- Proved here: what functions of the given program come to, for the statements of this chapter; no condition but those in the theorems. -/
import Derived.Test.YtfafoibbekgioaaH03
namespace Go.Proofs
open Go Go.Abs
set_option linter.unusedSimpArgs false
set_option linter.unusedVariables false
set_option maxRecDepth 4000
theorem back_ok : FunR Try.prog 3 (R_law1 2) := by
  intro args k h
  unfold R_law1 at h
  split at h
  case h_2 => exact h.elim
  obtain ⟨⟨l, rfl, hl⟩, ⟨xs, rfl, hx⟩, hk⟩ := h
  obtain ⟨v0, v1, rfl⟩ : ∃ v0 v1, xs = [v0, v1] := by
    match xs, hx with
    | [v0, v1], _ => exact ⟨v0, v1, rfl⟩
  refine does_ex (qc := qc1) (np := [(2, [(1, 12), (1, 13), (2, 12), (2, 13), (3, 12), (3, 13), (5, 12), (5, 13), (5, 14), (7, 12), (7, 13), (7, 14), (10, 12), (10, 13), (10, 14), (11, 12), (11, 13), (11, 14), (12, 13)])]) (CK := ckK [(9, cN R_new), (8, cB R_resv), (10, cSc R_mod), (11, cSc (R_rs1 volS)), (12, cSc (R_rs1 levS)), (13, cSc R_true)]) mixed Try.func3 rfl rfl Try.ntmps3 Try.results3 τ_ok (by kernel_rfl) (ckK_ok ⟨cN_ok new_ok rfl, cB_ok resv_ok rfl, cSc_ok mod_ok, cSc_ok volS_ok, cSc_ok levS_ok, cSc_ok awake_ok, trivial⟩) (by simp) ?_
  conv => whnf
  refine ⟨l, rfl, ?_⟩
  conv => whnf
  refine ⟨⟨l, 0⟩, rfl, ⟨Nat.zero_le _, hl⟩, fun r d hd hm hst => ?_⟩
  obtain ⟨hck, ⟨hlo1, hlo2⟩, hhi, ⟨hvlo1, hvlo2⟩, hlv⟩ := hm
  obtain ⟨hc, hlen, hlast, hrise, hsrt⟩ := ckS_ok hck
  obtain ⟨c, dead, low, full, sur, crest⟩ := r
  dsimp only at *
  obtain ⟨hc0, hcl⟩ := ckC_ne hc
  have hm := eP_len c
  have hh := head_at hc0
  have hla := lastP_at hc0
  have hw2 : IntKind.i64.wrap (((eP c).length : Int) - 1) = ((c.length - 1 : Nat) : Int) := by rw [eP_len, wrap_in (by omega) (by omega)]; omega
  conv => whnf
  refine ⟨by omega, ePt (c.headD (0, 0)), eP_at c hh, rfl, ?_⟩
  conv => whnf
  rw [hw2]
  refine ⟨by omega, ePt (lastP c), by rw [Int.toNat_natCast]; exact eP_at c hla, rfl, ?_⟩
  conv => whnf
  have hFL : (c.headD (0, 0)).1 ≤ (lastP c).1 := by omega
  have hval := valC_in hc
  rw [show IntKind.i64.wrap ((lastP c).1 - (c.headD (0, 0)).1) = (lastP c).1 - (c.headD (0, 0)).1 from wrap_in (by omega) (by omega), show IntKind.i64.wrap ((lastP c).1 - (c.headD (0, 0)).1 + 1) = (lastP c).1 - (c.headD (0, 0)).1 + 1 from wrap_in (by omega) (by omega)]
  refine ⟨⟨by omega, by omega⟩, ?_⟩
  have hm1 := Int.emod_nonneg v0 (show (lastP c).1 - (c.headD (0, 0)).1 + 1 ≠ 0 by omega)
  have hm2 := Int.emod_lt_of_pos v0 (show 0 < (lastP c).1 - (c.headD (0, 0)).1 + 1 by omega)
  conv => whnf
  rw [show IntKind.i64.wrap ((c.headD (0, 0)).1 + v0 % ((lastP c).1 - (c.headD (0, 0)).1 + 1)) = (c.headD (0, 0)).1 + v0 % ((lastP c).1 - (c.headD (0, 0)).1 + 1) from wrap_in (by omega) (by omega)]
  obtain ⟨x, hx, hx1, hx2⟩ : ∃ x, (c.headD (0, 0)).1 + v0 % ((lastP c).1 - (c.headD (0, 0)).1 + 1) = x ∧ (c.headD (0, 0)).1 ≤ x ∧ x ≤ (lastP c).1 := ⟨_, rfl, by omega, by omega⟩
  rw [hx]
  clear hx hm1 hm2
  refine ⟨c, rfl, by omega, ?_⟩
  rw [volS_of hck ⟨by first | omega | (dsimp only; omega), by first | omega | (dsimp only; omega)⟩]
  conv => whnf
  refine ⟨c, rfl, by omega, ?_⟩
  rw [levS_of hck (hval x)]
  conv => whnf
  refine ⟨by decide, ?_⟩
  have hw : 0 ≤ v1 % 1000 ∧ v1 % 1000 < 1000 := by omega
  generalize v1 % 1000 = ww at *
  conv => whnf
  rw [show IntKind.i64.wrap ((c.headD (0, 0)).2 + ww) = (c.headD (0, 0)).2 + ww from wrap_in (by omega) (by omega)]
  obtain ⟨w, hww, hw1, hw3⟩ : ∃ w, (c.headD (0, 0)).2 + ww = w ∧ (c.headD (0, 0)).2 ≤ w ∧ w < 2000 := ⟨_, rfl, by omega, by omega⟩
  rw [hww]
  clear hww
  refine ⟨c, rfl, by omega, ?_⟩
  rw [levS_of hck ⟨by first | omega | (dsimp only; omega), by first | omega | (dsimp only; omega)⟩]
  have hz := hgt_in hc hrise w
  have hz1 := hgt_val hc hrise hw1
  have hz2 := hgt_next hc hrise hw1
  have hz3 := val_hgt hc hrise hx1 hx2
  generalize hgt c w = z at *
  conv => whnf
  refine ⟨c, rfl, by omega, ?_⟩
  rw [volS_of hck ⟨by first | omega | (dsimp only; omega), by first | omega | (dsimp only; omega)⟩]
  conv => whnf
  rw [show IntKind.i64.wrap (z + 1) = z + 1 from wrap_in (by omega) (by omega)]
  refine ⟨c, rfl, by omega, ?_⟩
  rw [volS_of hck ⟨by first | omega | (dsimp only; omega), by first | omega | (dsimp only; omega)⟩]
  conv => whnf
  refine fork_t ?_
  conv => whnf
  refine Fork.mk (fun h => ?_) (fun h => (by simp at h; omega))
  conv => whnf
  refine Fork.mk (fun h => ?_) (fun h => (by simp at h; omega))
  conv => whnf
  refine Fork.mk (fun h => ?_) (fun h => ?_)
  · conv => whnf
    refine fork_t ?_
    conv => whnf
    exact hk
  conv => whnf
  refine Fork.mk (fun h => ?_) (fun h2 => (by simp at h h2; omega))
  conv => whnf
  exact hk
end Go.Proofs
