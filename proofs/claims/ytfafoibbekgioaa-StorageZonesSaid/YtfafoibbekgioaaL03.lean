/- Proved here: what functions of the given program come to, for the statements of this chapter; no condition but those in the theorems. -/
import Derived.Test.YtfafoibbekgioaaH03
namespace Go.Proofs
open Go Go.Abs
set_option linter.unusedSimpArgs false
set_option linter.unusedVariables false
set_option maxRecDepth 4000
theorem zones_ok : FunR Try.prog 6 (R_law1 1) := by
  intro args k h
  unfold R_law1 at h
  split at h
  case h_2 => exact h.elim
  obtain ⟨⟨l, rfl, hl⟩, ⟨xs, rfl, hx⟩, hk⟩ := h
  obtain ⟨v0, rfl⟩ : ∃ v0, xs = [v0] := by
    match xs, hx with
    | [v0], _ => exact ⟨v0, rfl⟩
  refine does_ex (qc := qc1) (np := []) (CK := ckK [(9, cN R_new), (8, cB R_resv), (10, cSc R_mod), (11, cSc (R_rs1 volS)), (12, cSc (R_rs1 levS)), (16, cSc (R_rs1 zonS)), (13, cSc R_true)]) mixed Try.func6 rfl rfl Try.ntmps6 Try.results6 τ_ok (by kernel_rfl) (ckK_ok ⟨cN_ok new_ok rfl, cB_ok resv_ok rfl, cSc_ok mod_ok, cSc_ok volS_ok, cSc_ok levS_ok, cSc_ok zonS_ok, cSc_ok awake_ok, trivial⟩) (by simp) ?_
  conv => whnf
  refine ⟨l, rfl, ?_⟩
  conv => whnf
  refine ⟨⟨l, 0⟩, rfl, ⟨Nat.zero_le _, hl⟩, fun r d hd hm hst => ?_⟩
  obtain ⟨hck, ⟨hlo1, hlo2⟩, hhi, ⟨hvlo1, hvlo2⟩, hlv⟩ := hm
  obtain ⟨hc, hlen, hlast, hrise, hsrt⟩ := ckS_ok hck
  obtain ⟨c, dead, low, full, sur, crest⟩ := r
  dsimp only at *
  obtain ⟨hc0, hcl⟩ := ckC_ne hc
  have hm := eP_len c
  have hh := head_at hc0
  have hval := valC_in hc
  have z1 : zonV ⟨c, dead, low, full, sur, crest⟩ sur = 3 := by unfold zonV; dsimp only; repeat' split
                                                                all_goals omega
  have z2 : 4 ≤ zonV ⟨c, dead, low, full, sur, crest⟩ (sur + 1) := by unfold zonV; dsimp only; repeat' split
                                                                      all_goals omega
  have z3 : zonV ⟨c, dead, low, full, sur, crest⟩ (crest + 1) = 5 := by unfold zonV; dsimp only; repeat' split
                                                                        all_goals omega
  have z4 : zonV ⟨c, dead, low, full, sur, crest⟩ (dead - 1) = 0 := by unfold zonV; dsimp only; repeat' split
                                                                       all_goals omega
  conv => whnf
  refine ⟨c, rfl, by omega, ?_⟩
  rw [show zonS ⟨c, dead, low, full, sur, crest⟩ sur = (3, 0) by rw [zonS_of hck ⟨by omega, by omega⟩, z1]]
  conv => whnf
  rw [show IntKind.i64.wrap (sur + 1) = sur + 1 from wrap_in (by omega) (by omega)]
  refine ⟨c, rfl, by omega, ?_⟩
  rw [show zonS ⟨c, dead, low, full, sur, crest⟩ (sur + 1) = (zonV ⟨c, dead, low, full, sur, crest⟩ (sur + 1), 0) by rw [zonS_of hck ⟨by omega, by omega⟩]]
  generalize zonV ⟨c, dead, low, full, sur, crest⟩ (sur + 1) = bb at *
  conv => whnf
  rw [show IntKind.i64.wrap (crest + 1) = crest + 1 from wrap_in (by omega) (by omega)]
  refine ⟨c, rfl, by omega, ?_⟩
  rw [show zonS ⟨c, dead, low, full, sur, crest⟩ (crest + 1) = (5, 0) by rw [zonS_of hck ⟨by omega, by omega⟩, z3]]
  conv => whnf
  rw [show IntKind.i64.wrap (dead - 1) = dead - 1 from wrap_in (by omega) (by omega), if_pos (show 0 < dead - 1 by omega)]
  refine ⟨c, rfl, by omega, ?_⟩
  rw [show zonS ⟨c, dead, low, full, sur, crest⟩ (dead - 1) = (0, 0) by rw [zonS_of hck ⟨by omega, by omega⟩, z4]]
  conv => whnf
  refine fork_f ?_
  conv => whnf
  refine fork_f ?_
  conv => whnf
  refine Fork.mk (fun h => (by simp at h; omega)) (fun h => ?_)
  conv => whnf
  refine fork_f ?_
  conv => whnf
  refine fork_f ?_
  conv => whnf
  refine ⟨by decide, ?_⟩
  have hb2 : 0 ≤ v0 % 900 ∧ v0 % 900 < 900 := by omega
  generalize v0 % 900 = v at *
  conv => whnf
  refine ⟨c, rfl, by omega, ?_⟩
  rw [levS_of hck ⟨by first | omega | (dsimp only; omega), by first | omega | (dsimp only; omega)⟩]
  have hz := hgt_in hc hrise v
  have hfin : 3 < zonV ⟨c, dead, low, full, sur, crest⟩ (hgt c v) → ¬ valC c sur ≤ v → hgt c v = (c.headD (0, 0)).1 := fun g1 g2 => by
    by_cases g3 : v < (c.headD (0, 0)).2
    · exact hgt_lo g3
    · exfalso
      have g4 := hgt_val hc hrise (show (c.headD (0, 0)).2 ≤ v by omega)
      have g5 : sur ≤ hgt c v := by
        unfold zonV at g1
        dsimp only at g1
        split at g1
        · omega
        · split at g1
          · omega
          · split at g1
            · omega
            · split at g1
              · omega
              · omega
      have := valC_mono hc g5
      omega
  generalize hgt c v = x at *
  conv => whnf
  refine ⟨c, rfl, by omega, ?_⟩
  rw [zonS_of hck ⟨by first | omega | (dsimp only; omega), by first | omega | (dsimp only; omega)⟩]
  generalize zonV ⟨c, dead, low, full, sur, crest⟩ x = zz at *
  conv => whnf
  refine ⟨c, rfl, by omega, ?_⟩
  rw [show volS ⟨c, dead, low, full, sur, crest⟩ sur = (valC c sur, 0) by rw [volS_of hck ⟨by omega, by omega⟩]]
  generalize valC c sur = vs at *
  conv => whnf
  refine fork_t ?_
  conv => whnf
  refine Fork.mk (fun h => ?_) (fun h => ?_)
  · conv => whnf
    refine fork_t ?_
    conv => whnf
    refine fork_t ?_
    conv => whnf
    exact hk
  have h1 : 3 < zz := by simp at h; omega
  conv => whnf
  refine Fork.mk (fun h => ?_) (fun h => ?_)
  · conv => whnf
    refine fork_t ?_
    conv => whnf
    exact hk
  have h2 : ¬ vs ≤ v := by simpa using h
  have h3 := hfin h1 h2
  conv => whnf
  refine ⟨by omega, ePt (c.headD (0, 0)), eP_at c hh, rfl, ?_⟩
  conv => whnf
  refine Fork.mk (fun h => ?_) (fun h => absurd h3 (of_decide_eq_false h))
  conv => whnf
  exact hk
end Go.Proofs
