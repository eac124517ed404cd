/- Proved here: what functions of the given program come to, for the statements of this chapter; no condition but those in the theorems. -/
import Derived.Test.YtfafoibbekgioaaH03
namespace Go.Proofs
open Go Go.Abs
set_option linter.unusedSimpArgs false
set_option linter.unusedVariables false
set_option maxRecDepth 4000
theorem room_ok : FunR Try.prog 4 (R_law1 2) := by
  intro args k h
  unfold R_law1 at h
  split at h
  case h_2 => exact h.elim
  obtain ⟨⟨l, rfl, hl⟩, ⟨xs, rfl, hx⟩, hk⟩ := h
  obtain ⟨v0, v1, rfl⟩ : ∃ v0 v1, xs = [v0, v1] := by
    match xs, hx with
    | [v0, v1], _ => exact ⟨v0, v1, rfl⟩
  refine does_ex (qc := qc1) (np := []) (CK := ckK [(9, cN R_new), (8, cB R_resv), (10, cSc R_mod), (11, cSc (R_rs1 volS)), (14, cSc (R_rs2 roomS)), (15, cSc (R_rs1 usS)), (13, cSc R_true)]) mixed Try.func4 rfl rfl Try.ntmps4 Try.results4 τ_ok (by kernel_rfl) (ckK_ok ⟨cN_ok new_ok rfl, cB_ok resv_ok rfl, cSc_ok mod_ok, cSc_ok volS_ok, cSc_ok roomS_ok, cSc_ok usS_ok, cSc_ok awake_ok, trivial⟩) (by simp) ?_
  conv => whnf
  refine ⟨l, rfl, ?_⟩
  conv => whnf
  refine ⟨⟨l, 0⟩, rfl, ⟨Nat.zero_le _, hl⟩, fun r d hd hm hst => ?_⟩
  obtain ⟨hck, ⟨hlo1, hlo2⟩, hhi, ⟨hvlo1, hvlo2⟩, hlv⟩ := hm
  obtain ⟨hc, hlen, hlast, hrise, hsrt⟩ := ckS_ok hck
  obtain ⟨c, dead, low, full, sur, crest⟩ := r
  dsimp only at *
  obtain ⟨hc0, hcl⟩ := ckC_ne hc
  have hm := eP_len c
  have hh := head_at hc0
  have hval := valC_in hc
  conv => whnf
  refine ⟨by decide, ?_⟩
  have hb1 : 0 ≤ v0 % 200 ∧ v0 % 200 < 200 := by omega
  generalize v0 % 200 = a at *
  conv => whnf
  rw [show IntKind.i64.wrap (100 + a) = 100 + a from wrap_in (by omega) (by omega)]
  refine ⟨by decide, ?_⟩
  have hb2 : 0 ≤ v1 % 900 ∧ v1 % 900 < 900 := by omega
  generalize v1 % 900 = b at *
  conv => whnf
  have h1 := hval (100 + a)
  have h2 := hval dead
  refine ⟨c, rfl, by omega, ?_⟩
  rw [roomS_of hck ⟨by omega, by omega⟩ ⟨by first | omega | (dsimp only; omega), by first | omega | (dsimp only; omega)⟩]
  conv => whnf
  refine ⟨c, rfl, by omega, ?_⟩
  rw [usS_of hck ⟨by first | omega | (dsimp only; omega), by first | omega | (dsimp only; omega)⟩]
  conv => whnf
  refine ⟨c, rfl, by omega, ?_⟩
  rw [volS_of hck ⟨by first | omega | (dsimp only; omega), by first | omega | (dsimp only; omega)⟩]
  conv => whnf
  refine ⟨c, rfl, by omega, ?_⟩
  rw [volS_of hck ⟨by first | omega | (dsimp only; omega), by first | omega | (dsimp only; omega)⟩]
  dsimp only
  generalize valC c (100 + a) = p at *
  generalize valC c dead = q at *
  have e1 : IntKind.i64.wrap (b + mx (p - b) 0) = b + mx (p - b) 0 := by unfold mx; split <;> exact wrap_in (by omega) (by omega)
  have e2 : IntKind.i64.wrap (b - mx (b - q) 0) = b - mx (b - q) 0 := by unfold mx; split <;> exact wrap_in (by omega) (by omega)
  have e3 : (if b < p then p else b) = b + mx (p - b) 0 := by unfold mx; split <;> split <;> omega
  have e4 : (if q < b then q else b) = b - mx (b - q) 0 := by unfold mx; split <;> split <;> omega
  generalize hP : mx (p - b) 0 = P at *
  generalize hQ : mx (b - q) 0 = Q at *
  conv => whnf
  refine fork_t ?_
  conv => whnf
  rw [e1]
  refine Fork.mk (fun h => ?_) (fun h => (by simp at h; omega))
  conv => whnf
  rw [e2]
  refine Fork.mk (fun h => ?_) (fun h => (by simp at h; omega))
  conv => whnf
  exact hk
end Go.Proofs
