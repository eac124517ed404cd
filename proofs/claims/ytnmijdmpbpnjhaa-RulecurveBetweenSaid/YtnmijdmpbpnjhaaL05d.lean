/- Proved here: what functions of the given program come to, for the statements of this chapter; no condition but those in the theorems. -/
import Derived.Test.YtnmijdmpbpnjhaaL05c
namespace Go.Proofs
open Go.Abs
set_option linter.unusedSimpArgs false
set_option linter.unusedVariables false
set_option maxRecDepth 4000
/-- The level of a day, or the error. -/
def rcAt (l : List Pt) (day : Int) : Int × Int :=
  if rcCheck l ≠ 0 then (0, rcCheck l) else if 0 ≤ day ∧ day ≤ 364 then (match l with | [] => 0 | p :: r => rcLevel p r day, 0) else (0, 1)
def R_at : RT := fun args k => match args with
  | [.c (.lst es), .c (.sc (.int .i64 day))] => ∃ l : List Pt, es = l.map ePt ∧ k (.tup [I (rcAt l day).1, I (rcAt l day).2])
  | _ => False
def qc2 : Nat → Bool := fun f => match f with
  | 12 | 32 | 27 | 38 | 19 | 28 | 13 => true
  | _ => false
theorem at_ok : FunR Try.prog 13 R_at := by
  intro args k h
  unfold R_at at h
  split at h
  case h_2 => exact h.elim
  rename_i day
  obtain ⟨l, rfl, hk⟩ := h
  refine does_ex (qc := qc2) (CK := ckK [(19, cSc R_rcCheck), (27, cSc R_is), (28, cSc R_level)]) mixed Try.func13 rfl rfl Try.ntmps13 Try.results13 τ_ok (by kernel_rfl) (ckK_ok ⟨cSc_ok rcCheck_ok, cSc_ok is_ok, cSc_ok level_ok, trivial⟩) (by simp) ?_
  conv => whnf
  refine ⟨l, rfl, ?_⟩
  conv => whnf
  refine Fork.mk (fun h => ?_) (fun h => ?_)
  · have h' : rcCheck l ≠ 0 := by simpa using h
    conv => whnf
    have e : rcAt l day = (0, rcCheck l) := by simp [rcAt, h']
    rw [e] at hk
    exact hk
  · have h' : rcCheck l = 0 := by simpa using h
    conv => whnf
    refine Fork.mk (fun h2 => ?_) (fun h2 => ?_)
    · conv => whnf
      simp at h2
      have e : rcAt l day = (0, 1) := by simp [rcAt, h']; omega
      rw [e] at hk
      exact hk
    · simp at h2
      cases l with
      | nil => simp [rcCheck] at h'
      | cons p r =>
        conv => whnf
        refine ⟨p, r, rfl, h', by omega, ?_⟩
        conv => whnf
        have e : rcAt (p :: r) day = (rcLevel p r day, 0) := by simp [rcAt, h']; omega
        rw [e] at hk
        exact hk
end Go.Proofs
