/- Proved here: what functions of the given program come to, for the statements of this chapter; no condition but those in the theorems. -/
import Derived.Test.YtnmijdmpbpnjhaaL05e
namespace Go.Proofs
open Go.Abs
set_option linter.unusedSimpArgs false
set_option linter.unusedVariables false
set_option maxRecDepth 4000
theorem rin_ok : FunR Try.prog 37 R_within := by
  intro args k h
  unfold R_within at h
  split at h
  case h_2 => exact h.elim
  rename_i x most
  refine does_ex (qc := qc0) (CK := ckK []) mixed Try.func37 rfl rfl Try.ntmps37 Try.results37 τ_ok (by kernel_rfl) (ckK_ok trivial) (by simp) ?_
  conv => whnf
  repeat' (refine Fork.mk (fun h => ?_) (fun h => ?_) <;> first | (cases h; done) | (conv => whnf))
  all_goals simp_all [oneOf, nrm]
theorem rIn_ok : FunR Try.prog 26 R_within := by
  intro args k h
  unfold R_within at h
  split at h
  case h_2 => exact h.elim
  rename_i x most
  refine does_ex (qc := qc0) (CK := ckK [(37, cSc R_within)]) mixed Try.func26 rfl rfl Try.ntmps26 Try.results26 τ_ok (by kernel_rfl) (ckK_ok ⟨cSc_ok rin_ok, trivial⟩) (by simp) ?_
  conv => whnf
  exact h
theorem risday_ok : FunR Try.prog 25 R_is := by
  intro args k h
  unfold R_is at h
  split at h
  case h_2 => exact h.elim
  rename_i x
  refine does_ex (qc := qc0) (CK := ckK [(26, cSc R_within)]) mixed Try.func25 rfl rfl Try.ntmps25 Try.results25 τ_ok (by kernel_rfl) (ckK_ok ⟨cSc_ok rIn_ok, trivial⟩) (by simp) ?_
  conv => whnf
  exact h
theorem rCheck_ok : FunR Try.prog 10 R_rcCheck := by
  intro args k h
  unfold R_rcCheck at h
  split at h
  case h_2 => exact h.elim
  obtain ⟨l, rfl, hk⟩ := h
  refine does_ex (qc := qc0) (CK := ckK [(26, cSc R_within), (25, cSc R_is)]) mixed Try.func10 rfl rfl Try.ntmps10 Try.results10 τ_ok (by kernel_rfl) (ckK_ok ⟨cSc_ok rIn_ok, cSc_ok risday_ok, trivial⟩) (by simp) ?_
  conv => whnf
  repeat' (refine Fork.mk (fun h => ?_) (fun h => ?_) <;> first | (cases h; done) | (conv => whnf))
  · simp at h
    simpa [rcCheck, h, oneOf, nrm] using hk
  · rename_i h0
    simp at h h0
    have e : rcCheck l = 10 := by unfold rcCheck; rw [if_neg (by simpa using h0), if_pos (by omega)]
    rw [e] at hk
    exact hk
  · rename_i h0
    simp at h h0
    have e : rcCheck l = rcGo none l := by unfold rcCheck; rw [if_neg (by simpa using h0), if_neg (by omega)]
    rw [e] at hk
    refine ⟨Nat, fun i => ([(0, .c (.lst (l.map ePt))), (2, I 0), (11, .c (.lst (l.map ePt))), (12, I (l.map ePt).length), (13, I i)], ⟨[], 0⟩), fun i => i ≤ l.length ∧ rcGo (prev l i) (l.drop i) = rcGo none l, fun i => l.length - i, 0,
      ⟨Nat.zero_le _, rfl⟩, Shift.reset ⟨rfl, rfl, rfl, rfl, rfl, trivial⟩ trivial rfl rfl, fun i hi => ?_⟩
    obtain ⟨hi1, hi2⟩ := hi
    conv => whnf
    refine Fork.mk (fun h1 => ?_) (fun h1 => ?_)
    · have hi : i < l.length := by simpa using h1
      have hd : l.drop i = l[i] :: l.drop (i + 1) := List.drop_eq_getElem_cons hi
      rw [hd] at hi2
      conv => whnf
      refine ⟨by omega, ePt l[i], by simp [hi], rfl, ?_⟩
      generalize hp : l[i] = p at *
      conv => whnf
      repeat' (refine Fork.mk (fun h => ?_) (fun h => ?_) <;> first | (cases h; done) | (conv => whnf))
      · have hp2 : ¬ (0 ≤ p.1 ∧ p.1 ≤ 364) := by rename_i h2; simp at h2; omega
        rw [rcGo_cons, if_neg (fun h => hp2 h.1)] at hi2
        rw [← hi2] at hk
        exact hk
      · have hp2 : ¬ (0 ≤ p.2 ∧ p.2 ≤ 16777216) := by simp at h; omega
        rw [rcGo_cons, if_neg (fun h => hp2 h.2)] at hi2
        rw [← hi2] at hk
        exact hk
      · rename_i h2 h3
        have hp2 : (0 ≤ p.1 ∧ p.1 ≤ 364) ∧ (0 ≤ p.2 ∧ p.2 ≤ 16777216) := by simp at h2 h3; omega
        have hi0 : 0 < i := by simpa using h
        have hw : IntKind.i64.wrap ((i : Int) - 1) = ((i - 1 : Nat) : Int) := by rw [wrap_in (by omega) (by omega)]; omega
        have hq : prev l i = some l[i - 1] := by unfold prev; rw [if_neg (by omega)]; exact List.getElem?_eq_getElem _
        rw [rcGo_cons, if_pos hp2, hq] at hi2
        rw [hw]
        refine ⟨by omega, ePt l[i - 1], map_at ePt l (by omega), rfl, ?_⟩
        generalize hqq : l[i - 1] = q at *
        simp only at hi2
        conv => whnf
        repeat' (refine Fork.mk (fun h => ?_) (fun h => ?_) <;> first | (cases h; done) | (conv => whnf))
        · rw [if_pos (by simpa using h)] at hi2
          rw [← hi2] at hk
          exact hk
        · rw [if_neg (by simpa using h)] at hi2
          refine ⟨i + 1, ⟨hi, ?_⟩, Shift.reset ⟨rfl, rfl, rfl, rfl, ?_, trivial⟩ trivial rfl rfl, ?_⟩
          · have : prev l (i + 1) = some p := by unfold prev; rw [if_neg (by omega), ← hp]; exact List.getElem?_eq_getElem _
            rw [this]; exact hi2
          · have : IntKind.i64.wrap ((i : Int) + 1) = ((i + 1 : Nat) : Int) := by rw [wrap_in (by omega) (by omega)]; omega
            show some (I _) = _
            rw [this]
          · show l.length - (i + 1) < l.length - i
            omega
      · rename_i h2 h3 h4
        have hp2 : (0 ≤ p.1 ∧ p.1 ≤ 364) ∧ (0 ≤ p.2 ∧ p.2 ≤ 16777216) := by simp at h2 h3; omega
        have hi0 : i = 0 := by simpa using h4
        subst hi0
        rw [rcGo_cons, if_pos hp2] at hi2
        simp only [prev, if_true] at hi2
        refine ⟨1, ⟨hi, ?_⟩, Shift.reset ⟨rfl, rfl, rfl, rfl, ?_, trivial⟩ trivial rfl rfl, ?_⟩
        · have : prev l 1 = some p := by unfold prev; rw [if_neg (by omega), ← hp]; exact List.getElem?_eq_getElem _
          show rcGo (prev l 1) (l.drop 1) = _
          rw [this]; exact hi2
        · show some (I _) = _
          have : IntKind.i64.wrap (((0 : Nat) : Int) + 1) = ((0 + 1 : Nat) : Int) := by rw [wrap_in (by omega) (by omega)]; rfl
          rw [this]
        · show l.length - (0 + 1) < l.length - 0
          omega
    · have hi : i = l.length := by simp at h1; omega
      subst hi
      rw [List.drop_length] at hi2
      conv => whnf
      rw [← hi2] at hk
      exact hk
end Go.Proofs
