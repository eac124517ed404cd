/- Proved here: what functions of the given program come to, for the statements of this chapter; no condition but those in the theorems. -/
import Derived.Test.YtagjajmkmambiaaL16u
import Derived.Test.YtagjajmkmambiaaL16o
namespace Go.Proofs
open Go Go.Abs
set_option linter.unusedSimpArgs false
set_option linter.unusedVariables false
set_option maxRecDepth 4000
def lagE (ws : Ls) (den : Int) : Int × Int × Int := if rkCheck ws den ≠ 0 then (0, 0, rkCheck ws den) else (lagN ws ws.length, den, 0)
def R_lagE : RT := fun args k => ∃ (ws : Ls) (den : Int), args = [.agg [.lst (eL ws), IC den]] ∧ ws.length ≤ 9223372036854775807 ∧ k (.tup [I (lagE ws den).1, I (lagE ws den).2.1, I (lagE ws den).2.2])
def mx1 (n : Nat) : Nat := if n = 0 then 0 else n - 1
def pulS (ws : Ls) (den q : Int) : Ls × Int := ((rkRun ws den [] (q :: List.replicate (mx1 ws.length) 0)).2.1, (rkRun ws den [] (q :: List.replicate (mx1 ws.length) 0)).2.2)
def R_pulS : RT := fun args k => ∃ (ws : Ls) (den q : Int), args = [.agg [.lst (eL ws), IC den], I q] ∧ ws.length ≤ 1000 ∧ k (.tup [.c (.lst (eL (pulS ws den q).1)), I (pulS ws den q).2])
theorem k3 {k : AV → Prop} {r : Int × Int × Int} {a b c : Int} (h : k (.tup [I r.1, I r.2.1, I r.2.2])) (e : r = (a, b, c)) : k (.tup [I a, I b, I c]) := by subst e; exact h
theorem kS {k : AV → Prop} {r : Ls × Int × Int} {a : Ls} {b c : Int} (h : k (.tup [.agg [.lst (eL r.1)], I r.2.1, I r.2.2])) (e : r = (a, b, c)) : k (.tup [.agg [.lst (eL a)], I b, I c]) := by subst e; exact h
theorem kLI {k : AV → Prop} {r : Ls × Int} {a : Ls} {c : Int} (h : k (.tup [.c (.lst (eL r.1)), I r.2])) (e : r = (a, c)) : k (.tup [.c (.lst (eL a)), I c]) := by subst e; exact h
theorem rep_set (n : Nat) (q : Int) : List.take (n + 1) (List.drop 0 ((List.replicate (n + 1) [IC 0]).set (0 + Int.toNat 0) [IC q])) = eL (q :: List.replicate n 0) := by
  rw [List.drop_zero, List.take_of_length_le (by simp), List.replicate_succ]
  simp [eL, eI]
theorem rkRun_err {ws : Ls} {den : Int} {ps qs : Ls} (h : rkCheck ws den ≠ 0) : rkRun ws den ps qs = ([], [], rkCheck ws den) := by rw [rkRun, if_pos h]
theorem rkRun_out {ws : Ls} {den : Int} {ps qs : Ls} : (rkRun ws den ps qs).2.1.length ≤ qs.length := by
  by_cases h : (rkRun ws den ps qs).2.2 = 0
  · rw [rkRun_len h]; exact Nat.le_refl _
  · unfold rkRun at h ⊢
    split
    · simp
    · split
      · simp
      · split
        · simp
        · split
          · rename_i h1 h2 h3 _ p o hr
            rw [if_neg h1, if_neg h2, if_neg h3, hr] at h
            exact absurd rfl h
          · simp
theorem runGo_par {ws : Ls} {den : Int} : ∀ {qs ps p o : Ls}, runGo ws den ps qs = some (p, o) → p.length ≤ ps.length + ws.length
  | [], ps, p, o, h => by simp [runGo] at h; rw [← h.1]; omega
  | q :: qs, ps, p, o, h => by
    simp only [runGo] at h
    split at h
    · split at h
      · rename_i hr
        simp at h
        have h1 := runGo_par hr
        rw [← h.1]
        have h2 : (stepF ws den ps q).length ≤ ws.length := by
          unfold stepF
          have := trim_len (tab ws.length (hP ws den ps q))
          rw [tab_len] at this
          exact this
        clear h1
        cases qs with
        | nil => simp [runGo] at hr; rw [← hr.1]; omega
        | cons q2 qs2 =>
          have h3 := runGo_last hr
          omega
      · cases h
    · cases h
where runGo_last {ws : Ls} {den : Int} : ∀ {qs ps p o : Ls} {q : Int}, runGo ws den ps (q :: qs) = some (p, o) → p.length ≤ ws.length
  | qs, ps, p, o, q, h => by
    have key : ∀ (qs ps p o : Ls), ps.length ≤ ws.length → runGo ws den ps qs = some (p, o) → p.length ≤ ws.length := by
      intro qs
      induction qs with
      | nil => intro ps p o hp h; simp [runGo] at h; rw [← h.1]; exact hp
      | cons q qs ih =>
        intro ps p o hp h
        simp only [runGo] at h
        split at h
        · split at h
          · rename_i hr
            simp at h
            rw [← h.1]
            refine ih _ _ _ ?_ hr
            unfold stepF
            have := trim_len (tab ws.length (hP ws den ps q))
            rw [tab_len] at this
            exact this
          · cases h
        · cases h
    simp only [runGo] at h
    split at h
    · split at h
      · rename_i hr
        simp at h
        rw [← h.1]
        refine key _ _ _ _ ?_ hr
        unfold stepF
        have := trim_len (tab ws.length (hP ws den ps q))
        rw [tab_len] at this
        exact this
      · cases h
    · cases h
theorem rkRun_par {ws : Ls} {den : Int} {ps qs : Ls} : (rkRun ws den ps qs).1.length ≤ ps.length + ws.length := by
  unfold rkRun
  split
  · simp
  · split
    · simp
    · split
      · simp
      · split
        · rename_i hr; exact runGo_par hr
        · simp
theorem rkStep_par {ws : Ls} {den : Int} {ps : Ls} {q : Int} : (rkStep ws den ps q).1.length ≤ ps.length + ws.length := by
  unfold rkStep
  split
  · simp
  · exact rkRun_par
theorem lagE_ok : FunR Try.prog 24 R_lagE := by
  intro args k h
  obtain ⟨ws, den, rfl, hlw, hk⟩ := h
  have hml := eL_len ws
  refine does_ex (qc := qc1) (np := []) (CK := ckK [(27, cSc R_rk)]) mixed Try.func24 rfl rfl Try.ntmps24 Try.results24 τ_ok (by kernel_rfl) (ckK_ok ⟨cSc_ok rk_ok, trivial⟩) (by simp) ?_
  conv => whnf
  refine ⟨ws, rfl, hlw, ?_⟩
  conv => whnf
  refine Fork.mk (fun h => ?_) (fun h => ?_)
  · have h1 : rkCheck ws den ≠ 0 := by simpa using h
    conv => whnf
    exact k3 hk (by rw [lagE, if_pos h1])
  have hr : rkCheck ws den = 0 := by simpa using h
  obtain ⟨hn1, hn2, hw, hd1, hd2, _⟩ := rk_facts hr
  conv => whnf
  refine ⟨Nat, fun i => ([(1, .c (.ptr (.l 1 0) 0)), (6, I (lagN ws i)), (15, .c (.lst (eL ws))), (16, I (eL ws).length), (17, I i)], ⟨[(.l 1 0, .blk [.lst (eL ws), IC den])], 5, []⟩),
    fun i => i ≤ ws.length, fun i => ws.length - i, 0, Nat.zero_le _,
    Shift.reset ⟨rfl, rfl, rfl, rfl, rfl, trivial⟩ ⟨rfl, trivial⟩ rfl rfl, fun i hi => ?_⟩
  dsimp only at hi ⊢
  conv => whnf
  refine Fork.mk (fun h => ?_) (fun h => ?_)
  · have hi : i < ws.length := by simp at h; omega
    have hci := List.getElem?_eq_getElem hi
    have hf := fP_at hi
    have hl1 := lagN_in hw i (by omega)
    have hwi := hw i
    have e1 : 0 ≤ (i : Int) * fP ws i := Int.mul_nonneg (by omega) hwi.1
    have e2 : (i : Int) * fP ws i ≤ 24 * 10000 := Int.mul_le_mul (by omega) hwi.2 hwi.1 (by omega)
    have hw1 : IntKind.i64.wrap ((i : Int) + 1) = ((i + 1 : Nat) : Int) := by rw [wrap_in (by omega) (by omega)]; omega
    rw [← hf] at hci
    conv => whnf
    refine ⟨by omega, eI (fP ws i), by rw [Int.toNat_natCast, List.getElem?_map, hci]; rfl, rfl, ?_⟩
    conv => whnf
    rw [show IntKind.i64.wrap ((i : Int) * fP ws i) = i * fP ws i from wrap_in (by omega) (by omega), show IntKind.i64.wrap (lagN ws i + i * fP ws i) = lagN ws i + i * fP ws i from wrap_in (by omega) (by omega), hw1]
    refine ⟨i + 1, hi, Shift.reset ⟨rfl, rfl, rfl, rfl, rfl, trivial⟩ ⟨rfl, trivial⟩ rfl rfl, ?_⟩
    show ws.length - (i + 1) < ws.length - i
    omega
  · have hie : i = ws.length := by simp at h; omega
    subst hie
    conv => whnf
    exact k3 hk (by rw [lagE, if_neg (by simp [hr])])
theorem rlagE_ok : FunR Try.prog 26 R_lagE := by
  intro args k h
  obtain ⟨ws, den, rfl, hlw, hk⟩ := h
  have hml := eL_len ws
  refine does_ex (qc := qc1) (np := []) (CK := ckK [(28, cSc R_rk)]) mixed Try.func26 rfl rfl Try.ntmps26 Try.results26 τ_ok (by kernel_rfl) (ckK_ok ⟨cSc_ok rrk_ok, trivial⟩) (by simp) ?_
  conv => whnf
  refine ⟨ws, rfl, hlw, ?_⟩
  conv => whnf
  refine Fork.mk (fun h => ?_) (fun h => ?_)
  · have h1 : rkCheck ws den ≠ 0 := by simpa using h
    conv => whnf
    exact k3 hk (by rw [lagE, if_pos h1])
  have hr : rkCheck ws den = 0 := by simpa using h
  obtain ⟨hn1, hn2, hw, hd1, hd2, _⟩ := rk_facts hr
  conv => whnf
  refine ⟨Nat, fun i => ([(1, .c (.ptr (.l 1 0) 0)), (6, I (lagN ws i)), (15, .c (.lst (eL ws))), (16, I (eL ws).length), (17, I i)], ⟨[(.l 1 0, .blk [.lst (eL ws), IC den])], 5, []⟩),
    fun i => i ≤ ws.length, fun i => ws.length - i, 0, Nat.zero_le _,
    Shift.reset ⟨rfl, rfl, rfl, rfl, rfl, trivial⟩ ⟨rfl, trivial⟩ rfl rfl, fun i hi => ?_⟩
  dsimp only at hi ⊢
  conv => whnf
  refine Fork.mk (fun h => ?_) (fun h => ?_)
  · have hi : i < ws.length := by simp at h; omega
    have hci := List.getElem?_eq_getElem hi
    have hf := fP_at hi
    have hl1 := lagN_in hw i (by omega)
    have hwi := hw i
    have e1 : 0 ≤ (i : Int) * fP ws i := Int.mul_nonneg (by omega) hwi.1
    have e2 : (i : Int) * fP ws i ≤ 24 * 10000 := Int.mul_le_mul (by omega) hwi.2 hwi.1 (by omega)
    have hw1 : IntKind.i64.wrap ((i : Int) + 1) = ((i + 1 : Nat) : Int) := by rw [wrap_in (by omega) (by omega)]; omega
    rw [← hf] at hci
    conv => whnf
    refine ⟨by omega, eI (fP ws i), by rw [Int.toNat_natCast, List.getElem?_map, hci]; rfl, rfl, ?_⟩
    conv => whnf
    rw [show IntKind.i64.wrap ((i : Int) * fP ws i) = i * fP ws i from wrap_in (by omega) (by omega), show IntKind.i64.wrap (lagN ws i + i * fP ws i) = lagN ws i + i * fP ws i from wrap_in (by omega) (by omega), hw1]
    refine ⟨i + 1, hi, Shift.reset ⟨rfl, rfl, rfl, rfl, rfl, trivial⟩ ⟨rfl, trivial⟩ rfl rfl, ?_⟩
    show ws.length - (i + 1) < ws.length - i
    omega
  · have hie : i = ws.length := by simp at h; omega
    subst hie
    conv => whnf
    exact k3 hk (by rw [lagE, if_neg (by simp [hr])])
theorem pulS_ok : FunR Try.prog 23 R_pulS := by
  intro args k h
  obtain ⟨ws, den, q, rfl, hl, hk⟩ := h
  have hml := eL_len ws
  refine does_ex (qc := qc1) (np := [(1, [(0, 3), (0, 9), (0, 15), (3, 5), (3, 15), (5, 15), (9, 15), (10, 15)])]) (CK := ckK [(13, cPu R_run)]) mixed Try.func23 rfl rfl Try.ntmps23 Try.results23 τ_ok (by kernel_rfl) (ckK_ok ⟨cPu_ok run_ok rfl, trivial⟩) (by simp) ?_
  conv => whnf
  have hn : IntKind.i64.wrap ((if ((eL ws).length : Int) < 1 then 1 else ((eL ws).length : Int)) - 1) = ((mx1 ws.length : Nat) : Int) := by
    unfold mx1
    rw [hml]
    by_cases h0 : ws.length = 0
    · rw [if_pos (by omega), if_pos h0, wrap_in (by omega) (by omega)]; rfl
    · rw [if_neg (by omega), if_neg h0, wrap_in (by omega) (by omega)]; omega
  have hm1 : mx1 ws.length ≤ 1000 := by unfold mx1; split <;> omega
  rw [hn, Int.toNat_natCast]
  refine ⟨⟨rfl, rfl, rfl, rfl, by omega, by show (1 + (mx1 ws.length)) * 8 ≤ _; omega⟩, ?_⟩
  conv => whnf
  refine ⟨by simp; omega, ?_⟩
  have hq : List.take (1 + (mx1 ws.length)) (List.drop 0 ([[IC q]] ++ List.replicate (mx1 ws.length) [IC 0])) = eL (q :: List.replicate (mx1 ws.length) 0) := by
    rw [List.drop_zero, List.take_of_length_le (by simp; omega)]
    simp [eL, eI]
  conv => whnf
  refine ⟨ws, [], q :: List.replicate (mx1 ws.length) 0, rfl, rfl, hq, by omega, by simp, by simp; omega, ?_⟩
  conv => whnf
  exact hk
theorem rpulS_ok : FunR Try.prog 33 R_pulS := by
  intro args k h
  obtain ⟨ws, den, q, rfl, hl, hk⟩ := h
  have hml := eL_len ws
  refine does_ex (qc := qc1) (np := []) (CK := ckK [(28, cSc R_rk), (32, cPu R_run)]) mixed Try.func33 rfl rfl Try.ntmps33 Try.results33 τ_ok (by kernel_rfl) (ckK_ok ⟨cSc_ok rrk_ok, cPu_ok rrun_ok rfl, trivial⟩) (by simp) ?_
  conv => whnf
  refine ⟨ws, rfl, by omega, ?_⟩
  conv => whnf
  refine Fork.mk (fun h => ?_) (fun h => ?_)
  · have h1 : rkCheck ws den ≠ 0 := by simpa using h
    conv => whnf
    exact kLI hk (by rw [pulS, rkRun_err h1])
  have hr : rkCheck ws den = 0 := by simpa using h
  obtain ⟨hn1, hn2, _⟩ := rk_facts hr
  have hmx : mx1 ws.length + 1 = ws.length := by unfold mx1; rw [if_neg (by omega)]; omega
  conv => whnf
  refine ⟨⟨rfl, by omega, by rw [hml]; show (ws.length : Int) * 8 ≤ _; omega⟩, ?_⟩
  rw [hml, Int.toNat_natCast]
  conv => whnf
  refine ⟨by omega, rfl, ?_⟩
  conv => whnf
  refine ⟨[IC 0], by rw [List.getElem?_replicate, if_pos (by show 0 + 0 < _; omega)], Nat.le_refl 1, ?_⟩
  conv => whnf
  refine ⟨by simp, ?_⟩
  have hq := rep_set (mx1 ws.length) q
  rw [hmx] at hq
  conv => whnf
  refine ⟨ws, [], q :: List.replicate (mx1 ws.length) 0, rfl, rfl, hq, by omega, by simp, by simp; omega, ?_⟩
  conv => whnf
  exact hk
theorem rstepA_ok : FunR Try.prog 31 R_stepA := by
  intro args k h
  unfold R_stepA at h
  split at h
  case h_2 => exact h.elim
  rename_i den _ q
  obtain ⟨ws, ps, rfl, rfl, hlw, hlp, hk⟩ := h
  refine does_ex (qc := qc1) (np := []) (CK := ckK [(38, cSc R_wrong), (39, cPu R_step)]) mixed Try.func31 rfl rfl Try.ntmps31 Try.results31 τ_ok (by kernel_rfl) (ckK_ok ⟨cSc_ok wrong_ok, cPu_ok step_ok rfl, trivial⟩) (by simp) ?_
  conv => whnf
  refine ⟨ws, ps, rfl, rfl, hlw, hlp, ?_⟩
  conv => whnf
  by_cases hr : rkCheck ws den = 0
  rotate_left
  · rw [if_pos hr]
    refine Fork.mk (fun h => ?_) (fun h => ?_)
    · conv => whnf
      exact kS (a := []) (b := 0) (c := rkCheck ws den) hk (by rw [rkStep, rkRun_err hr]; exact if_pos hr)
    · exfalso; simp at h; exact hr h
  rw [if_neg (by simp [hr])]
  cases hf : fitsB ws.length ps with
  | false =>
    rw [if_pos rfl]
    conv => whnf
    have e : rkRun ws den ps [q] = ([], [], 3) := by rw [rkRun, if_neg (by simp [hr]), if_pos hf]
    refine Fork.mk (fun h => ?_) (fun h => ?_)
    · conv => whnf
      exact kS (a := []) (b := 0) (c := 3) hk (by rw [rkStep, e]; rfl)
    · exfalso; simp at h
  | true =>
    rw [if_neg (by simp)]
    have e : rkRun ws den ps [q] = match runGo ws den ps [q] with | some (p, o) => (p, o, 0) | none => ([], [], 1) := by rw [rkRun, if_neg (by simp [hr]), if_neg (by simp [hf]), if_neg (by simp)]; rfl
    conv => whnf
    repeat' ((first | refine fork_t ?_ | refine fork_f ?_ | (refine Fork.mk (fun h => ?_) (fun h => ?_); focus (simp at h; done))  | fail) <;> (conv => whnf))
    refine ⟨ws, ps, rfl, rfl, hr, hf, fun hok => ?_, fun hok => ?_⟩
    · conv => whnf
      exact kS hk (by rw [rkStep, e, runGo_good hok]; rfl)
    · conv => whnf
      exact kS (a := []) (b := 0) (c := 1) hk (by rw [rkStep, e, runGo_bad hok]; rfl)
end Go.Proofs
