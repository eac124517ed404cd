/- Proved here: what functions of the given program come to, for the statements of this chapter; no condition but those in the theorems. -/
import Derived.Test.YtnmijdmpbpnjhaaX5i
namespace Go.Proofs
open Go Go.Abs
set_option linter.unusedSimpArgs false
set_option linter.unusedVariables false
set_option maxRecDepth 4000
theorem awake_ok : FunR Try.prog 11 R_true := by
  intro args k h
  unfold R_true at h
  split at h
  case h_2 => exact h.elim
  have hk := h
  refine does_ex (qc := qc1) (np := []) (CK := ckK [(13, cSc R_rcAt)]) mixed Try.func11 rfl rfl Try.ntmps11 Try.results11 τ_ok (by kernel_rfl) (ckK_ok ⟨cSc_ok at_ok, trivial⟩) (by simp) ?_
  conv => whnf
  refine ⟨by simp, ?_⟩
  conv => whnf
  refine ⟨[(0, 100), (100, 200)], rfl, ?_⟩
  rw [show rcAt [(0, 100), (100, 200)] 50 = (150, 0) by decide]
  conv => whnf
  refine ⟨by simp, ?_⟩
  conv => whnf
  refine ⟨[(0, 100), (100, 200)], rfl, ?_⟩
  rw [show rcAt [(0, 100), (100, 200)] 232 = (150, 0) by decide]
  conv => whnf
  repeat' ((first | refine fork_t ?_ | refine fork_f ?_ | (refine Fork.mk (fun h => ?_) (fun h => ?_); focus (simp at h; done)) | (refine Fork.mk (fun h => ?_) (fun h => ?_); rotate_left; focus (simp at h; done))  | fail) <;> (conv => whnf))
  exact hk
theorem surplus_ok : FunR Try.prog 6 (R_law1 2) := by
  intro args k h
  unfold R_law1 at h
  split at h
  case h_2 => exact h.elim
  obtain ⟨⟨l, rfl, hl⟩, ⟨xs, rfl, hx⟩, hk⟩ := h
  obtain ⟨v0, v1, rfl⟩ : ∃ v0 v1, xs = [v0, v1] := by
    match xs, hx with
    | [v0, v1], _ => exact ⟨v0, v1, rfl⟩
  refine does_ex (qc := qc1) (np := []) (CK := ckK [(8, cN R_new), (15, cB R_resv), (9, cB R_made), (10, cSc R_rcCheck), (12, cSc R_mod), (13, cSc R_rcAt), (16, cSc R_tgt), (17, cSc R_sur), (18, cSc (R_rs1 volS)), (11, cSc R_true)]) mixed Try.func6 rfl rfl Try.ntmps6 Try.results6 τ_ok (by kernel_rfl) (ckK_ok ⟨cN_ok new_ok rfl, cB_ok resv_ok rfl, cB_ok made_ok rfl, cSc_ok rCheck_ok, cSc_ok mod_ok, cSc_ok at_ok, cSc_ok tgt_ok, cSc_ok sur_ok, cSc_ok rvolS_ok, cSc_ok awake_ok, trivial⟩) (by simp) ?_
  conv => whnf
  refine ⟨l, rfl, ?_⟩
  conv => whnf
  refine ⟨⟨l, 0⟩, rfl, ⟨Nat.zero_le _, hl⟩, fun r d hd hm hst => ?_⟩
  conv => whnf
  refine ⟨d, rfl, hd, fun c d hd hc1 hc2 hc3 => ?_⟩
  conv => whnf
  refine ⟨c, rfl, ?_⟩
  conv => whnf
  refine Fork.mk (fun h => ?_) (fun h => ?_)
  · conv => whnf
    exact hk
  have hv : rcValid c := by simpa [rcValid] using h
  have hx0 := Int.emod_nonneg v0 (show (365 : Int) ≠ 0 by omega)
  have hx1 := Int.emod_lt_of_pos v0 (show (0 : Int) < 365 by omega)
  have hy0 := Int.emod_nonneg v1 (show (900 : Int) ≠ 0 by omega)
  have hy1 := Int.emod_lt_of_pos v1 (show (0 : Int) < 900 by omega)
  obtain ⟨y, hy, hya, hyb, _⟩ := rcAt_in hv hx0 (show v0 % 365 ≤ 364 by omega)
  have hck := hm.ck
  have hst2 := (ckS_ok hck).1
  have ht : tgtS r c (v0 % 365) = (valC r.st y, 0) := by rw [tgtS, if_neg (by simp [hck]), hy, if_neg (by simp)]
  have hs : surS r c (v0 % 365) (v1 % 900) = (v1 % 900 - valC r.st y, 0) := by rw [surS, ht, if_neg (by simp), if_neg (by omega)]
  have hin := valC_in hst2 y
  conv => whnf
  refine ⟨by omega, ?_⟩
  conv => whnf
  refine ⟨by omega, ?_⟩
  conv => whnf
  refine ⟨c, rfl, ?_⟩
  rw [show (rcAt c (v0 % 365)).1 = y by rw [hy], show (rcAt c (v0 % 365)).2 = 0 by rw [hy]]
  conv => whnf
  refine ⟨r, c, v0 % 365, rfl, by omega, ?_⟩
  rw [show (tgtS r c (v0 % 365)).1 = valC r.st y by rw [ht], show (tgtS r c (v0 % 365)).2 = 0 by rw [ht]]
  conv => whnf
  refine ⟨r, c, v0 % 365, v1 % 900, rfl, by omega, ?_⟩
  rw [show (surS r c (v0 % 365) (v1 % 900)).1 = v1 % 900 - valC r.st y by rw [hs], show (surS r c (v0 % 365) (v1 % 900)).2 = 0 by rw [hs]]
  conv => whnf
  refine ⟨r.st, rfl, by omega, ?_⟩
  have hvs : volS r y = (valC r.st y, 0) := volS_of hck ⟨hya, hyb⟩
  rw [show (volS ⟨r.st, r.dead, r.low, r.full, r.sur, r.crest⟩ y).1 = valC r.st y by rw [show (⟨r.st, r.dead, r.low, r.full, r.sur, r.crest⟩ : Rs) = r from rfl, hvs], show (volS ⟨r.st, r.dead, r.low, r.full, r.sur, r.crest⟩ y).2 = 0 by rw [show (⟨r.st, r.dead, r.low, r.full, r.sur, r.crest⟩ : Rs) = r from rfl, hvs]]
  conv => whnf
  have hw : IntKind.i64.wrap (v1 % 900 - valC r.st y) = v1 % 900 - valC r.st y := wrap_in (by omega) (by omega)
  have hw0 : IntKind.i64.wrap 0 = 0 := wr0
  have hw00 : IntKind.i64.wrap (0 + 0) = 0 := wr0
  repeat' ((first | refine fork_t ?_ | refine fork_f ?_ | (refine Fork.mk (fun h => ?_) (fun h => ?_); focus (simp at h; done)) | (refine Fork.mk (fun h => ?_) (fun h => ?_); rotate_left; focus (simp at h; done))  | rw [hw] | rw [hw00] | rw [hw0] | fail) <;> (conv => whnf))
  all_goals first | exact hk | trace_state
def R_all05 : RT := fun args k => ∃ (raw : List Pt) (rr : Rs) (l : Ls) (x v : Int), args = [.c (.lst (eP raw)), .agg (rsC rr), .c (.lst (eL l)), I x, I v] ∧ raw.length ≤ 9223372036854775807 ∧ rr.st.length ≤ 9223372036854775807 ∧ l.length ≤ 9223372036854775807 ∧ k (Bo true)
end Go.Proofs
