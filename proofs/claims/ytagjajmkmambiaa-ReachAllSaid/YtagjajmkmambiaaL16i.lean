/- Proved here: what functions of the given program come to, for the statements of this chapter; no condition but those in the theorems. -/
import Derived.Test.YtagjajmkmambiaaL16h
namespace Go.Proofs
open Go.Abs
set_option linter.unusedSimpArgs false
set_option linter.unusedVariables false
set_option maxRecDepth 4000
def R_wrong : RT := fun args k => match args with
  | [.agg [.lst es, .sc (.int .i64 den)], .agg [.lst es2]] => ∃ ws ps : Ls, es = eL ws ∧ es2 = eL ps ∧ ws.length ≤ 9223372036854775807 ∧ ps.length ≤ 9223372036854775807 ∧ k (I (if rkCheck ws den ≠ 0 then rkCheck ws den else if fitsB ws.length ps = false then 3 else 0))
  | _ => False
theorem wrong_ok : FunR Try.prog 38 R_wrong := by
  intro args k h
  unfold R_wrong at h
  split at h
  case h_2 => exact h.elim
  rename_i den _
  obtain ⟨ws, ps, rfl, rfl, hlw, hlp, hk⟩ := h
  refine does_ex (qc := qc1) (np := []) (CK := ckK [(28, cSc R_rk), (29, cSc R_valid)]) mixed Try.func38 rfl rfl Try.ntmps38 Try.results38 τ_ok (by kernel_rfl) (ckK_ok ⟨cSc_ok rrk_ok, cSc_ok valid_ok, trivial⟩) (by simp) ?_
  conv => whnf
  refine ⟨ws, rfl, hlw, ?_⟩
  conv => whnf
  refine Fork.mk (fun h => ?_) (fun h => ?_)
  · have h1 : rkCheck ws den ≠ 0 := by simpa using h
    conv => whnf
    rw [if_pos h1] at hk
    exact hk
  · have hr : rkCheck ws den = 0 := by simpa using h
    rw [if_neg (by rw [hr]; simp)] at hk
    conv => whnf
    refine ⟨ws, ps, rfl, rfl, hlw, hlp, ?_⟩
    conv => whnf
    refine Fork.mk (fun h => ?_) (fun h => ?_)
    · have h1 : fitsB ws.length ps = false := by simpa [hr] using h
      rw [if_pos h1] at hk
      conv => whnf
      exact hk
    · have h1 : fitsB ws.length ps = true := by simpa [hr] using h
      rw [if_neg (by rw [h1]; simp)] at hk
      conv => whnf
      exact hk
theorem rrun_ok : FunR Try.prog 32 R_run := by
  intro args k h
  unfold R_run at h
  split at h
  case h_2 => exact h.elim
  rename_i den _ _
  obtain ⟨ws, ps, qs, rfl, rfl, rfl, hlw, hlp, hlq, hk⟩ := h
  have hmq := eL_len qs
  have hmp := eL_len ps
  refine does_ex (qc := qc1) (np := [(14, [(0, 3), (0, 4)])]) (CK := ckK [(38, cSc R_wrong), (39, cPu R_step)]) mixed Try.func32 rfl rfl Try.ntmps32 Try.results32 τ_ok (by kernel_rfl) (ckK_ok ⟨cSc_ok wrong_ok, cPu_ok step_ok rfl, trivial⟩) (by simp) ?_
  conv => whnf
  refine ⟨ws, ps, rfl, rfl, hlw, hlp, ?_⟩
  by_cases hr' : rkCheck ws den ≠ 0
  · rw [if_pos hr']
    conv => whnf
    refine Fork.mk (fun h => ?_) (fun h => absurd (by simpa using h) hr')
    conv => whnf
    have e : rkRun ws den ps qs = ([], [], rkCheck ws den) := by unfold rkRun; rw [if_pos hr']
    rw [e] at hk
    exact hk
  have hr : rkCheck ws den = 0 := by simpa using hr'
  rw [if_neg hr']
  by_cases hf' : fitsB ws.length ps = false
  · rw [if_pos hf']
    conv => whnf
    refine Fork.mk (fun h => ?_) (fun h => (by simp at h))
    conv => whnf
    have e : rkRun ws den ps qs = ([], [], 3) := by unfold rkRun; rw [if_neg (by rw [hr]; simp), if_pos hf']
    rw [e] at hk
    exact hk
  have hf : fitsB ws.length ps = true := by simpa using hf'
  rw [if_neg hf']
  conv => whnf
  refine Fork.mk (fun h => (by simp at h)) (fun h => ?_)
  conv => whnf
  refine Fork.mk (fun h => ?_) (fun h => ?_)
  · have h1 : 4096 < qs.length := by simp at h; omega
    conv => whnf
    have e : rkRun ws den ps qs = ([], [], 10) := by unfold rkRun; rw [if_neg (by rw [hr]; simp), if_neg (by rw [hf]; simp), if_pos h1]
    rw [e] at hk
    exact hk
  have hq : ¬ 4096 < qs.length := by simp at h; omega
  have e : rkRun ws den ps qs = match runGo ws den ps qs with
    | some (p, o) => (p, o, 0)
    | none => ([], [], 1) := by unfold rkRun; rw [if_neg (by rw [hr]; simp), if_neg (by rw [hf]; simp), if_neg hq]; rfl
  rw [e] at hk
  clear e
  obtain ⟨hn1, hn2, _⟩ := rk_facts hr
  obtain ⟨hpl, _⟩ := fits_facts hf
  conv => whnf
  refine ⟨eL_all _, ?_⟩
  conv => whnf
  refine ⟨by rw [hmp]; simp; omega, ?_⟩
  conv => whnf
  refine ⟨Nat × Ls × Ls, fun s => ([(3, .c (.ptr (.l 3 0) 0)), (4, .c (.ptr (.l 4 1) 0)), (6, .c (.ptr (.l 6 2) 0)), (10, .c (.view (.l 53 4) 0 s.2.2.length)), (31, .c (.lst (eL qs))), (32, I (eL qs).length), (33, I s.1)],
      ⟨[(.l 3 0, .blk (RcC ws den)), (.l 4 1, .blk [.lst (eL s.2.1)]), (.l 6 2, .blk [.sc (.slice none 0 0)]), (.l 53 4, .arr 3 1 (eL s.2.2) false)], 5, []⟩),
    fun s => s.1 ≤ qs.length ∧ fitsB ws.length s.2.1 = true ∧ s.2.2.length = s.1 ∧ runGo ws den ps qs = preO s.2.2 (runGo ws den s.2.1 (qs.drop s.1)), fun s => qs.length - s.1, (0, ps, []),
    ⟨Nat.zero_le _, hf, rfl, by cases h : runGo ws den ps qs <;> simp [preO, h]⟩,
    Shift.trans (Shift.rename [] ⟨rfl, rfl, rfl, rfl, rfl, rfl, rfl, trivial⟩ ⟨rfl, ?_, rfl, rfl, trivial⟩ rfl rfl rfl) (Shift.trans (Shift.nilArr (t := 10) rfl 53 3 1) (Shift.purCell (i := .l 4 1) (j := 0) rfl rfl (if_pos (by rw [Nat.zero_add]; exact Nat.le_refl _)))), fun s hs => ?_⟩
  · show some (MObj.blk [Cell.lst (List.take (eL ps).length (List.drop 0 (eL ps)))]) = _
    rw [List.drop_zero, List.take_length]; rfl
  obtain ⟨i, p, out⟩ := s
  obtain ⟨hi, hfp, hol, hgo⟩ := hs
  dsimp only at hi hfp hol hgo ⊢
  conv => whnf
  refine Fork.mk (fun h => ?_) (fun h => ?_)
  · have hi : i < qs.length := by simp at h; omega
    have hat := map_at eI qs hi
    have hd : qs.drop i = qs[i] :: qs.drop (i + 1) := List.drop_eq_getElem_cons hi
    rw [hd] at hgo
    generalize qs[i] = q at *
    conv => whnf
    refine ⟨by omega, eI q, hat, rfl, ?_⟩
    conv => whnf
    refine ⟨ws, p, rfl, rfl, hr, hfp, fun hok => ?_, fun hbad => ?_⟩
    · rw [runGo_good hok, preO_app] at hgo
      have hf2 := step_fits hr hfp hok.1 hok.2.1 hok.2.2
      generalize stepF ws den p q = p2 at *
      generalize outF ws den p q = o at *
      conv => whnf
      refine Fork.mk (fun h => (by simp at h)) (fun h => ?_)
      conv => whnf
      refine ⟨by simp, ?_⟩
      conv => whnf
      refine ⟨rfl, ?_⟩
      conv => whnf
      refine ⟨⟨rfl, rfl, rfl, (eL_len out).symm, by rw [eL_len]; simp; omega⟩, ?_⟩
      conv => whnf
      have hw1 : IntKind.i64.wrap ((i : Int) + 1) = ((i + 1 : Nat) : Int) := by rw [wrap_in (by omega) (by omega)]; omega
      rw [hw1]
      refine ⟨(i + 1, p2, out ++ [o]), ⟨hi, hf2, by simp [hol], hgo⟩, Shift.rename [(.l 53 4, .l 53 6)] ⟨rfl, rfl, rfl, ?_, rfl, rfl, rfl, trivial⟩ ⟨rfl, rfl, rfl, ?_, trivial⟩ rfl rfl rfl, ?_⟩
      · dsimp only
        rw [snoc_len]; rfl
      · dsimp only
        rw [← eL_snoc]; rfl
      · show qs.length - (i + 1) < qs.length - i
        omega
    · conv => whnf
      refine Fork.mk (fun h => ?_) (fun h => (by simp at h))
      conv => whnf
      rw [hgo, runGo_bad hbad] at hk
      exact hk
  · have hie : i = qs.length := by simp at h; omega
    subst hie
    rw [List.drop_length, runGo] at hgo
    rw [hgo] at hk
    conv => whnf
    refine ⟨by rw [eL_len]; omega, ?_⟩
    conv => whnf
    have hl : List.take out.length (List.drop 0 (eL out)) = eL (out ++ []) := by rw [List.append_nil, List.drop_zero, List.take_of_length_le (by rw [eL_len]; exact Nat.le_refl _)]
    rw [hl]
    exact hk
end Go.Proofs
