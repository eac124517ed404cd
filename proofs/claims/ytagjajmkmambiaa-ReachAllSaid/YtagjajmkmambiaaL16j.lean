/- Proved here: what functions of the given program come to, for the statements of this chapter; no condition but those in the theorems. -/
import Derived.Test.YtagjajmkmambiaaM16
namespace Go.Proofs
open Go.Abs
set_option linter.unusedSimpArgs false
set_option linter.unusedVariables false
set_option maxRecDepth 4000
def rkStep (ws : Ls) (den : Int) (ps : Ls) (q : Int) : Ls × Int × Int := if (rkRun ws den ps [q]).2.2 ≠ 0 then ([], 0, (rkRun ws den ps [q]).2.2) else ((rkRun ws den ps [q]).1, (rkRun ws den ps [q]).2.1.headD 0, 0)
def R_stepA : RT := fun args k => match args with
  | [.agg [.lst es, .sc (.int .i64 den)], .agg [.lst es2], .c (.sc (.int .i64 q))] => ∃ ws ps : Ls, es = eL ws ∧ es2 = eL ps ∧ ws.length ≤ 9223372036854775807 ∧ ps.length ≤ 9223372036854775807 ∧
      k (.tup [.agg [.lst (eL (rkStep ws den ps q).1)], I (rkStep ws den ps q).2.1, I (rkStep ws den ps q).2.2])
  | _ => False
theorem runGo_len {ws : Ls} {den : Int} : ∀ {qs ps p o : Ls}, runGo ws den ps qs = some (p, o) → o.length = qs.length
  | [], ps, p, o, h => by simp [runGo] at h; simp [← h.2]
  | q :: qs, ps, p, o, h => by
    by_cases hg : 0 ≤ q ∧ q ≤ 1073741824 ∧ stepOk ws ps q
    · rw [runGo_good hg] at h
      cases hr : runGo ws den (stepF ws den ps q) qs with
      | none => rw [hr] at h; cases h
      | some x =>
        rw [hr] at h
        simp [preO] at h
        rw [← h.2]
        simp [runGo_len hr]
    · rw [runGo_bad hg] at h; cases h
theorem rkRun_len {ws : Ls} {den : Int} {ps qs : Ls} (h : (rkRun ws den ps qs).2.2 = 0) : (rkRun ws den ps qs).2.1.length = qs.length := by
  unfold rkRun at h ⊢
  split at h
  · rename_i h1; exact absurd h h1
  · split at h
    · cases h
    · split at h
      · cases h
      · rename_i h1 h2 h3
        rw [if_neg h1, if_neg h2, if_neg h3]
        cases hr : runGo ws den ps qs with
        | none => rw [hr] at h; cases h
        | some x => exact runGo_len hr
theorem stepA_ok : FunR Try.prog 21 R_stepA := by
  intro args k h
  unfold R_stepA at h
  split at h
  case h_2 => exact h.elim
  rename_i den _ q
  obtain ⟨ws, ps, rfl, rfl, hlw, hlp, hk⟩ := h
  refine does_ex (qc := qc1) (np := [(4, [(2, 4), (3, 4)])]) (CK := ckK [(13, cPu R_run)]) mixed Try.func21 rfl rfl Try.ntmps21 Try.results21 τ_ok (by kernel_rfl) (ckK_ok ⟨cPu_ok run_ok rfl, trivial⟩) (by simp) ?_
  conv => whnf
  refine ⟨by simp, ?_⟩
  conv => whnf
  refine ⟨ws, ps, [q], rfl, rfl, rfl, hlw, hlp, by simp, ?_⟩
  conv => whnf
  have hlen := rkRun_len (ws := ws) (den := den) (ps := ps) (qs := [q])
  unfold rkStep at hk
  refine Fork.mk (fun h => ?_) (fun h => ?_)
  · have h1 : (rkRun ws den ps [q]).2.2 ≠ 0 := by simpa using h
    conv => whnf
    rw [if_pos h1] at hk
    exact hk
  · have h1 : (rkRun ws den ps [q]).2.2 = 0 := by simpa using h
    have h2 := hlen h1
    rw [if_neg (by rw [h1]; simp)] at hk
    conv => whnf
    cases ho : (rkRun ws den ps [q]).2.1 with
    | nil => rw [ho] at h2; simp at h2
    | cons o r =>
      rw [ho] at hk
      refine ⟨by omega, eI o, rfl, rfl, ?_⟩
      conv => whnf
      exact hk
def R_true : RT := fun args k => match args with
  | [] => k (Bo true)
  | _ => False
theorem awake_ok : FunR Try.prog 16 R_true := by
  intro args k h
  unfold R_true at h
  split at h
  case h_2 => exact h.elim
  have hk := h
  refine does_ex (qc := qc1) (np := []) (CK := ckK [(21, cPu R_stepA), (14, cSc R_held)]) mixed Try.func16 rfl rfl Try.ntmps16 Try.results16 τ_ok (by kernel_rfl) (ckK_ok ⟨cPu_ok stepA_ok rfl, cSc_ok held_ok, trivial⟩) (by simp) ?_
  conv => whnf
  refine ⟨by simp, ?_⟩
  conv => whnf
  refine ⟨[1, 1], [], rfl, rfl, by simp, by simp, ?_⟩
  rw [show rkStep [1, 1] 2 [] 5 = ([6], 2, 0) by decide]
  conv => whnf
  refine ⟨by simp, ?_⟩
  conv => whnf
  refine ⟨[1, 1], [6], rfl, rfl, by simp, by simp, ?_⟩
  rw [show rkStep [1, 1] 2 [6] 0 = ([], 3, 0) by decide]
  conv => whnf
  refine Fork.mk (fun h => ?_) (fun h => (by simp at h))
  conv => whnf
  refine Fork.mk (fun h => ?_) (fun h => (by simp at h))
  conv => whnf
  refine Fork.mk (fun h => ?_) (fun h => (by simp at h))
  conv => whnf
  refine Fork.mk (fun h => ?_) (fun h => (by simp at h))
  conv => whnf
  refine ⟨[6], rfl, by simp, fun p hp => (by simp at hp; subst hp; unfold inH; omega), ?_⟩
  conv => whnf
  exact hk
end Go.Proofs
