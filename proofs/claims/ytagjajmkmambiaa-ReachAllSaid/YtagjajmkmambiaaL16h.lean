/- Proved here: what functions of the given program come to, for the statements of this chapter; no condition but those in the theorems. -/
import Derived.Test.YtagjajmkmambiaaL16g
namespace Go.Proofs
open Go.Abs
set_option linter.unusedSimpArgs false
set_option linter.unusedVariables false
set_option maxRecDepth 4000
theorem trim_spec : ∀ l : Ls, (∃ m, l = trimZ l ++ List.replicate m 0) ∧ (trimZ l).getLast? ≠ some 0
  | [] => ⟨⟨0, rfl⟩, by simp [trimZ]⟩
  | x :: r => by
    obtain ⟨⟨m, h1⟩, h2⟩ := trim_spec r
    rw [trimZ]
    cases ht : trimZ r with
    | nil =>
      rw [ht] at h1
      simp only
      by_cases hx : x = 0
      · rw [if_pos hx]
        exact ⟨⟨m + 1, by rw [hx, h1, List.replicate_succ]; simp⟩, by simp⟩
      · rw [if_neg hx]
        exact ⟨⟨m, by rw [h1]; simp⟩, by simp [hx]⟩
    | cons y t =>
      rw [ht] at h1 h2
      simp only
      exact ⟨⟨m, by rw [h1]; simp⟩, by simpa using h2⟩
theorem fP_trim (l : Ls) (k : Nat) : fP (trimZ l) k = fP l k := by
  obtain ⟨⟨m, h⟩, _⟩ := trim_spec l
  by_cases hk : k < (trimZ l).length
  · have hl : l.length = (trimZ l).length + m := by conv => lhs; rw [h]
                                                    simp
    have hz : l[k]? = some (trimZ l)[k] := by
      conv => lhs; lhs; rw [h]
      rw [List.getElem?_append_left hk, List.getElem?_eq_getElem hk]
    rw [fP_at hk, fP_at (by omega)]
    rw [List.getElem?_eq_getElem (by omega)] at hz
    simp at hz
    exact hz.symm
  · rw [fP_out (by omega)]
    by_cases hk2 : k < l.length
    · have hz : l[k]? = some 0 := by
        conv => lhs; lhs; rw [h]
        rw [List.getElem?_append_right (by omega), List.getElem?_replicate, if_pos]
        have hl : l.length = (trimZ l).length + m := by conv => lhs; rw [h]
                                                        simp
        omega
      rw [fP_at hk2]
      rw [List.getElem?_eq_getElem hk2] at hz
      simp at hz
      exact hz.symm
    · rw [fP_out (by omega)]
theorem fP_tab {n : Nat} {g : Nat → Int} (k : Nat) : fP (tab n g) k = if k < n then g k else 0 := by
  split
  · rename_i h
    unfold fP
    rw [List.getD_eq_getElem?_getD, tab_get h]; rfl
  · rename_i h
    exact fP_out (by rw [tab_len]; omega)
theorem trim_len (l : Ls) : (trimZ l).length ≤ l.length := by
  obtain ⟨⟨m, h⟩, _⟩ := trim_spec l
  conv => rhs; rw [h]
  simp
theorem fits_of {n : Nat} {ps : Ls} (h1 : ps.length ≤ n) (h2 : ps.getLast? ≠ some 0) (h3 : ∀ k, 0 ≤ fP ps k ∧ fP ps k ≤ 2251799813685248) : fitsB n ps = true := by
  unfold fitsB
  rw [decide_eq_true h1, decide_eq_false h2, Bool.true_and]
  refine List.all_eq_true.2 fun p hp => ?_
  obtain ⟨j, hj, rfl⟩ := List.getElem_of_mem hp
  have := h3 j
  rw [fP_at hj] at this
  simp [okP, this]
theorem step_fits {ws : Ls} {den : Int} {ps : Ls} {q : Int} (hr : rkCheck ws den = 0) (hf : fitsB ws.length ps = true) (h0 : 0 ≤ q) (h1 : q ≤ 1073741824) (hok : stepOk ws ps q) : fitsB ws.length (stepF ws den ps q) = true := by
  obtain ⟨hn1, hn2, hw, hd1, hd2, _, _⟩ := rk_facts hr
  obtain ⟨hpl, _, _, hp⟩ := fits_facts hf
  have hg := g_in hw hp h0 h1
  unfold stepF
  refine fits_of (Nat.le_trans (trim_len _) (by rw [tab_len]; exact Nat.le_refl _)) (trim_spec _).2 fun k => ?_
  rw [fP_trim, fP_tab]
  split
  · rename_i hk
    unfold hP
    have hg1 := hg (k + 1)
    have hb : gP ws ps q (k + 1) ≤ 1125899906842624 := by
      by_cases hk1 : k + 1 < ws.length
      · exact hok _ hk1
      · unfold gP
        rw [fP_out (l := ws) (by omega), fP_out (l := ps) (by omega)]; omega
    have hm := Int.emod_lt_of_pos (gP ws ps q 0) (show 0 < den by omega)
    have hm2 := Int.emod_nonneg (gP ws ps q 0) (show den ≠ 0 by omega)
    split <;> omega
  · omega
def stepB (ws ps : Ls) (q : Int) : Bool := (List.range ws.length).all fun k => decide (gP ws ps q k ≤ 1125899906842624)
theorem stepB_iff {ws ps : Ls} {q : Int} : stepB ws ps q = true ↔ stepOk ws ps q := by
  unfold stepB stepOk
  rw [List.all_eq_true]
  exact ⟨fun h k hk => by simpa using h k (List.mem_range.2 hk), fun h k hk => by simpa using h k (List.mem_range.1 hk)⟩
/-- The steps of a run. -/
def runGo (ws : Ls) (den : Int) : Ls → Ls → Option (Ls × Ls)
  | ps, [] => some (ps, [])
  | ps, q :: qs => match decide (0 ≤ q ∧ q ≤ 1073741824) && stepB ws ps q with
    | true => match runGo ws den (stepF ws den ps q) qs with
      | some (p, o) => some (p, outF ws den ps q :: o)
      | none => none
    | false => none
def preO (out : Ls) : Option (Ls × Ls) → Option (Ls × Ls)
  | some (p, o) => some (p, out ++ o)
  | none => none
theorem runGo_bad {ws : Ls} {den : Int} {ps : Ls} {q : Int} {qs : Ls} (h : ¬ (0 ≤ q ∧ q ≤ 1073741824 ∧ stepOk ws ps q)) : runGo ws den ps (q :: qs) = none := by
  rw [runGo]
  have e : (decide (0 ≤ q ∧ q ≤ 1073741824) && stepB ws ps q) = false := by
    cases hb : (decide (0 ≤ q ∧ q ≤ 1073741824) && stepB ws ps q) with
    | false => rfl
    | true =>
      rw [Bool.and_eq_true, decide_eq_true_eq, stepB_iff] at hb
      exact absurd ⟨hb.1.1, hb.1.2, hb.2⟩ h
  rw [e]
theorem runGo_good {ws : Ls} {den : Int} {ps : Ls} {q : Int} {qs : Ls} (h : 0 ≤ q ∧ q ≤ 1073741824 ∧ stepOk ws ps q) : runGo ws den ps (q :: qs) = preO [outF ws den ps q] (runGo ws den (stepF ws den ps q) qs) := by
  rw [runGo]
  have e : (decide (0 ≤ q ∧ q ≤ 1073741824) && stepB ws ps q) = true := by rw [Bool.and_eq_true, decide_eq_true_eq, stepB_iff]; exact ⟨⟨h.1, h.2.1⟩, h.2.2⟩
  rw [e]
  cases runGo ws den (stepF ws den ps q) qs <;> rfl
theorem preO_app (a b : Ls) (x : Option (Ls × Ls)) : preO a (preO b x) = preO (a ++ b) x := by cases x <;> simp [preO]
def rkRun (ws : Ls) (den : Int) (ps qs : Ls) : Ls × Ls × Int :=
  if rkCheck ws den ≠ 0 then ([], [], rkCheck ws den) else if fitsB ws.length ps = false then ([], [], 3) else if 4096 < qs.length then ([], [], 10) else match runGo ws den ps qs with
    | some (p, o) => (p, o, 0)
    | none => ([], [], 1)
abbrev runT (x : Ls × Ls × Int) : AV := .tup [.agg [.lst (eL x.1)], .c (.lst (eL x.2.1)), I x.2.2]
def R_run : RT := fun args k => match args with
  | [.agg [.lst es, .sc (.int .i64 den)], .agg [.lst es2], .c (.lst es3)] => ∃ ws ps qs : Ls, es = eL ws ∧ es2 = eL ps ∧ es3 = eL qs ∧ ws.length ≤ 9223372036854775807 ∧ ps.length ≤ 9223372036854775807 ∧ qs.length ≤ 9223372036854775807 ∧ k (runT (rkRun ws den ps qs))
  | _ => False
theorem run_ok : FunR Try.prog 13 R_run := by
  intro args k h
  unfold R_run at h
  split at h
  case h_2 => exact h.elim
  rename_i den _ _
  obtain ⟨ws, ps, qs, rfl, rfl, rfl, hlw, hlp, hlq, hk⟩ := h
  have hmq := eL_len qs
  have hmp := eL_len ps
  refine does_ex (qc := qc1) (np := [(18, [(0, 3), (0, 4)])]) (CK := ckK [(27, cSc R_rk), (34, cSc R_fits), (35, cSc R_within), (36, cPu R_pass)]) mixed Try.func13 rfl rfl Try.ntmps13 Try.results13 τ_ok (by kernel_rfl) (ckK_ok ⟨cSc_ok rk_ok, cSc_ok fits_ok, cSc_ok within_ok, cPu_ok pass_ok rfl, trivial⟩) (by simp) ?_
  conv => whnf
  refine ⟨ws, rfl, hlw, ?_⟩
  conv => whnf
  refine Fork.mk (fun h => ?_) (fun h => ?_)
  · have h1 : rkCheck ws den ≠ 0 := by simpa using h
    conv => whnf
    have e : rkRun ws den ps qs = ([], [], rkCheck ws den) := by unfold rkRun; rw [if_pos h1]
    rw [e] at hk
    exact hk
  have hr : rkCheck ws den = 0 := by simpa using h
  conv => whnf
  refine ⟨ws, ps, rfl, rfl, hlw, hlp, ?_⟩
  conv => whnf
  refine Fork.mk (fun h => ?_) (fun h => ?_)
  · have h1 : fitsB ws.length ps = false := by simpa using h
    conv => whnf
    have e : rkRun ws den ps qs = ([], [], 3) := by unfold rkRun; rw [if_neg (by rw [hr]; simp), if_pos h1]
    rw [e] at hk
    exact hk
  have hf : fitsB ws.length ps = true := by simpa using h
  conv => whnf
  refine Fork.mk (fun h => ?_) (fun h => ?_)
  · have h1 : 4096 < qs.length := by simp at h; omega
    conv => whnf
    have e : rkRun ws den ps qs = ([], [], 10) := by unfold rkRun; rw [if_neg (by rw [hr]; simp), if_neg (by rw [hf]; simp), if_pos h1]
    rw [e] at hk
    exact hk
  have hq : ¬ 4096 < qs.length := by simp at h; omega
  have e : rkRun ws den ps qs = match runGo ws den ps qs with
    | some (p, o) => (p, o, 0)
    | none => ([], [], 1) := by unfold rkRun; rw [if_neg (by rw [hr]; simp), if_neg (by rw [hf]; simp), if_neg hq]
  rw [e] at hk
  clear e
  obtain ⟨hn1, hn2, _⟩ := rk_facts hr
  obtain ⟨hpl, _⟩ := fits_facts hf
  conv => whnf
  refine ⟨eL_all _, ?_⟩
  conv => whnf
  refine ⟨by rw [hmp]; simp; omega, ?_⟩
  conv => whnf
  refine ⟨Nat × Ls × Ls, fun s => ([(3, .c (.ptr (.l 3 0) 0)), (6, .c (.ptr (.l 6 2) 0)), (10, .c (.ptr (.l 10 4) 0)), (11, .c (.view (.l 63 5) 0 s.2.2.length)), (38, .c (.lst (eL qs))), (39, I (eL qs).length), (40, I s.1)],
      ⟨[(.l 3 0, .blk (RcC ws den)), (.l 6 2, .blk [.sc (.slice none 0 0)]), (.l 10 4, .blk [.lst (eL s.2.1)]), (.l 63 5, .arr 3 1 (eL s.2.2) false)], 6, []⟩),
    fun s => s.1 ≤ qs.length ∧ fitsB ws.length s.2.1 = true ∧ s.2.2.length = s.1 ∧ runGo ws den ps qs = preO s.2.2 (runGo ws den s.2.1 (qs.drop s.1)), fun s => qs.length - s.1, (0, ps, []),
    ⟨Nat.zero_le _, hf, rfl, by cases h : runGo ws den ps qs <;> simp [preO, h]⟩,
    Shift.trans (Shift.rename [] ⟨rfl, rfl, rfl, rfl, rfl, rfl, rfl, trivial⟩ ⟨rfl, rfl, ?_, rfl, trivial⟩ rfl rfl rfl) (Shift.trans (Shift.nilArr (t := 11) rfl 63 3 1) (Shift.purCell (i := .l 10 4) (j := 0) rfl rfl (if_pos (by rw [Nat.zero_add]; exact Nat.le_refl _)))), fun s hs => ?_⟩
  · show some (MObj.blk [Cell.lst (List.take (eL ps).length (List.drop 0 (eL ps)))]) = _
    rw [List.drop_zero, List.take_length]; rfl
  obtain ⟨i, p, out⟩ := s
  obtain ⟨hi, hfp, hol, hgo⟩ := hs
  dsimp only at hi hfp hol hgo ⊢
  conv => whnf
  refine Fork.mk (fun h => ?_) (fun h => ?_)
  · have hi : i < qs.length := by simp at h; omega
    have hat := map_at eI qs hi
    have hd : qs.drop i = qs[i] :: qs.drop (i + 1) := List.drop_eq_getElem_cons hi
    rw [hd] at hgo
    generalize qs[i] = q at *
    conv => whnf
    refine ⟨by omega, eI q, hat, rfl, ?_⟩
    conv => whnf
    refine Fork.mk (fun h => ?_) (fun h => ?_)
    · have hqb : ¬ (0 ≤ q ∧ q ≤ 1073741824) := by simp at h; omega
      conv => whnf
      rw [hgo, runGo_bad (fun hh => hqb ⟨hh.1, hh.2.1⟩)] at hk
      exact hk
    · have hqb : 0 ≤ q ∧ q ≤ 1073741824 := by simpa using h
      conv => whnf
      refine ⟨ws, p, rfl, rfl, hr, hfp, hqb, fun hok => ?_, fun hbad => ?_⟩
      · rw [runGo_good ⟨hqb.1, hqb.2, hok⟩, preO_app] at hgo
        have hf2 := step_fits hr hfp hqb.1 hqb.2 hok
        generalize stepF ws den p q = p2 at *
        generalize outF ws den p q = o at *
        conv => whnf
        refine Fork.mk (fun h => (by cases h)) (fun h => ?_)
        conv => whnf
        refine ⟨by simp, ?_⟩
        conv => whnf
        refine ⟨rfl, ?_⟩
        conv => whnf
        refine ⟨⟨rfl, rfl, rfl, (eL_len out).symm, by rw [eL_len]; simp; omega⟩, ?_⟩
        conv => whnf
        have hw1 : IntKind.i64.wrap ((i : Int) + 1) = ((i + 1 : Nat) : Int) := by rw [wrap_in (by omega) (by omega)]; omega
        rw [hw1]
        refine ⟨(i + 1, p2, out ++ [o]), ⟨hi, hf2, by simp [hol], hgo⟩, Shift.rename [(.l 63 5, .l 63 7)] ⟨rfl, rfl, rfl, ?_, rfl, rfl, rfl, trivial⟩ ⟨rfl, rfl, rfl, ?_, trivial⟩ rfl rfl rfl, ?_⟩
        · dsimp only
          rw [snoc_len]; rfl
        · dsimp only
          rw [← eL_snoc]; rfl
        · show qs.length - (i + 1) < qs.length - i
          omega
      · conv => whnf
        refine Fork.mk (fun h => ?_) (fun h => (by cases h))
        conv => whnf
        rw [hgo, runGo_bad (fun hh => hbad hh.2.2)] at hk
        exact hk
  · have hie : i = qs.length := by simp at h; omega
    subst hie
    rw [List.drop_length, runGo] at hgo
    rw [hgo] at hk
    conv => whnf
    refine ⟨by rw [eL_len]; omega, ?_⟩
    conv => whnf
    have hl : List.take out.length (List.drop 0 (eL out)) = eL (out ++ []) := by rw [List.append_nil, List.drop_zero, List.take_of_length_le (by rw [eL_len]; exact Nat.le_refl _)]
    rw [hl]
    exact hk
end Go.Proofs
