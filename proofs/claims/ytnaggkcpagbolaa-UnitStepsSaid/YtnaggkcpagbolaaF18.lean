/- Proved here: what functions of the given program come to, for the statements of this chapter; no condition but those in the theorems. -/
import Derived.Test.YtnaggkcpagbolaaE18
namespace Go.Proofs
open Go Go.Abs
set_option linter.unusedSimpArgs false
set_option linter.unusedVariables false
set_option maxRecDepth 4000
theorem power_ok : FunR Try.prog 25 (R_unQ2 powS) := by
  intro args k h
  obtain ⟨u, q, rfl, hu, hk⟩ := h
  refine does_ex (qc := qc1) (np := []) (CK := ckK [(23, cSc (R_unI ckU)), (42, cSc (R_unQB runB)), (43, cSc R_val)]) mixed Try.func25 rfl rfl Try.ntmps25 Try.results25 τ_ok (by kernel_rfl) (ckK_ok ⟨cSc_ok ckU_prog, cSc_ok runs_ok, cSc_ok val_ok, trivial⟩) (by simp) ?_
  conv => whnf
  refine ⟨u, rfl, hu, ?_⟩
  conv => whnf
  repeat' ((first | refine fork_t ?_ | refine fork_f ?_ | refine Fork.mk (fun h => ?_) (fun h => ?_) | refine ⟨u, _, rfl, hu, ?_⟩ | refine ⟨u.tb, rfl, (ckU_ok (by simp_all)).c, ?_⟩ | fail) <;> (conv => whnf))
  all_goals exact kI2 hk (by simp_all [powS])
theorem fits_ok : FunR Try.prog 35 (R_usB fitB) := by
  intro args k h
  obtain ⟨u, s, rfl, hu, hk⟩ := h
  refine does_ex (qc := qc1) (np := []) (CK := ckK [(40, cSc R_within), (42, cSc (R_unQB runB))]) mixed Try.func35 rfl rfl Try.ntmps35 Try.results35 τ_ok (by kernel_rfl) (ckK_ok ⟨cSc_ok within_ok, cSc_ok runs_ok, trivial⟩) (by simp) ?_
  conv => whnf
  repeat' ((first | refine fork_t ?_ | refine fork_f ?_ | refine Fork.mk (fun h => ?_) (fun h => ?_) | refine ⟨u, _, rfl, hu, ?_⟩ | fail) <;> (conv => whnf))
  all_goals exact kB hk (by simp_all [fitB, inB] <;> intros <;> omega)
theorem valid_ok : FunR Try.prog 14 (R_usB validB) := by
  intro args k h
  obtain ⟨u, s, rfl, hu, hk⟩ := h
  refine does_ex (qc := qc1) (np := []) (CK := ckK [(23, cSc (R_unI ckU)), (35, cSc (R_usB fitB))]) mixed Try.func14 rfl rfl Try.ntmps14 Try.results14 τ_ok (by kernel_rfl) (ckK_ok ⟨cSc_ok ckU_prog, cSc_ok fits_ok, trivial⟩) (by simp) ?_
  conv => whnf
  refine ⟨u, rfl, hu, ?_⟩
  conv => whnf
  repeat' ((first | refine fork_t ?_ | refine fork_f ?_ | refine Fork.mk (fun h => ?_) (fun h => ?_) | refine ⟨u, s, rfl, hu, ?_⟩ | fail) <;> (conv => whnf))
  all_goals exact kB hk (by simp_all [validB])
theorem may_ok : FunR Try.prog 37 (R_usQB mayB) := by
  intro args k h
  obtain ⟨u, s, q, rfl, hu, hk⟩ := h
  refine does_ex (qc := qc1) (np := []) (CK := ckK [(42, cSc (R_unQB runB))]) mixed Try.func37 rfl rfl Try.ntmps37 Try.results37 τ_ok (by kernel_rfl) (ckK_ok ⟨cSc_ok runs_ok, trivial⟩) (by simp) ?_
  conv => whnf
  repeat' ((first | refine fork_t ?_ | refine fork_f ?_ | refine Fork.mk (fun h => ?_) (fun h => ?_) | refine ⟨u, _, rfl, hu, ?_⟩ | fail) <;> (conv => whnf))
  all_goals exact kB hk (by simp_all [mayB] <;> omega)
theorem May_ok : FunR Try.prog 19 (R_usQB mayV) := by
  intro args k h
  obtain ⟨u, s, q, rfl, hu, hk⟩ := h
  refine does_ex (qc := qc1) (np := []) (CK := ckK [(14, cSc (R_usB validB)), (37, cSc (R_usQB mayB))]) mixed Try.func19 rfl rfl Try.ntmps19 Try.results19 τ_ok (by kernel_rfl) (ckK_ok ⟨cSc_ok valid_ok, cSc_ok may_ok, trivial⟩) (by simp) ?_
  conv => whnf
  refine ⟨u, s, rfl, hu, ?_⟩
  conv => whnf
  repeat' ((first | refine fork_t ?_ | refine fork_f ?_ | refine Fork.mk (fun h => ?_) (fun h => ?_) | refine ⟨u, s, q, rfl, hu, ?_⟩ | fail) <;> (conv => whnf))
  all_goals exact kB hk (by simp_all [mayV])
theorem mn_in {a : Int} (h1 : 0 ≤ a) (h2 : a ≤ 1000) : IntKind.i64.wrap (a + 1) = a + 1 := wrap_in (by omega) (by omega)
theorem next_ok' : FunR Try.prog 17 R_nextS := by
  intro args k h
  obtain ⟨u, s, q, rfl, hu, hk⟩ := h
  refine does_ex (qc := qc1) (np := [(11, [(5, 8)])]) (CK := ckK [(23, cSc (R_unI ckU)), (35, cSc (R_usB fitB)), (37, cSc (R_usQB mayB))]) mixed Try.func17 rfl rfl Try.ntmps17 Try.results17 τ_ok (by kernel_rfl) (ckK_ok ⟨cSc_ok ckU_prog, cSc_ok fits_ok, cSc_ok may_ok, trivial⟩) (by simp) ?_
  conv => whnf
  refine ⟨u, rfl, hu, ?_⟩
  conv => whnf
  refine Fork.mk (fun h => ?_) (fun h => ?_)
  · have h1 : ckU u ≠ 0 := by simpa using h
    conv => whnf
    exact kN hk (by rw [nextS, if_pos h1]; rfl)
  have h1 : ckU u = 0 := by simpa using h
  conv => whnf
  refine ⟨u, s, rfl, hu, ?_⟩
  conv => whnf
  refine Fork.mk (fun h => ?_) (fun h => ?_)
  · have h2 : fitB u s = false := by simpa using h
    conv => whnf
    exact kN hk (by rw [nextS, if_neg (by simp [h1]), if_pos h2]; rfl)
  have h2 : fitB u s = true := by simpa using h
  have hs : 0 ≤ s.si ∧ s.si ≤ 1000 := by simp [fitB, inB] at h2; omega
  conv => whnf
  refine ⟨u, s, q, rfl, hu, ?_⟩
  conv => whnf
  refine Fork.mk (fun h => ?_) (fun h => ?_)
  · have h3 : mayB u s q = false := by simpa using h
    conv => whnf
    exact kN hk (by rw [nextS, if_neg (by simp [h1]), if_neg (by simp [h2]), if_pos h3]; rfl)
  have h3 : mayB u s q = true := by simpa using h
  have e : nextS u s q = (⟨q, if decide (0 < q) = decide (0 < s.fl) then mn (s.si + 1) 1000 else 1, s.ot⟩, decide (0 < q) && decide (s.fl = 0), 0) := by
    rw [nextS, if_neg (by simp [h1]), if_neg (by simp [h2]), if_neg (by simp [h3])]
  rw [e] at hk
  conv => whnf
  repeat' ((first | refine fork_t ?_ | refine fork_f ?_ | refine Fork.mk (fun h => ?_) (fun h => ?_) | fail) <;> (conv => whnf))
  all_goals (try rw [mn_in hs.1 hs.2])
  all_goals refine kN hk ?_
  all_goals (by_cases a : 0 < q <;> by_cases b : 0 < s.fl <;> by_cases c : s.fl = 0 <;> simp_all [mn] <;> omega)
theorem flows_ok : FunR Try.prog 21 R_flS := by
  intro args k h
  obtain ⟨u, g, rfl, hu, hk⟩ := h
  refine does_ex (qc := qc1) (np := []) (CK := ckK [(23, cSc (R_unI ckU)), (38, cSc R_bey)]) mixed Try.func21 rfl rfl Try.ntmps21 Try.results21 τ_ok (by kernel_rfl) (ckK_ok ⟨cSc_ok ckU_prog, cSc_ok bey_ok, trivial⟩) (by simp) ?_
  conv => whnf
  refine ⟨u, rfl, hu, ?_⟩
  conv => whnf
  refine Fork.mk (fun h => ?_) (fun h => ?_)
  · have h1 : ckU u ≠ 0 := by simpa using h
    rw [show flS u g = ([], ckU u) from if_pos h1] at hk
    conv => whnf
    exact hk
  have h1 : ckU u = 0 := by simpa using h
  have ho := ckU_ok h1
  have ho1 := ho.l1
  have ho2 := ho.lm
  have ho3 := ho.m
  conv => whnf
  refine Fork.mk (fun h => ?_) (fun h => ?_)
  · have h2 : g < 1 := by simpa using h
    rw [show flS u g = ([], 1) by rw [flS, if_neg (by simp [h1]), if_pos (.inl h2)]] at hk
    conv => whnf
    first | exact hk | (refine fork_t ?_; (conv => whnf); exact hk)
  have h2 : ¬ g < 1 := by simpa using h
  conv => whnf
  refine Fork.mk (fun h => ?_) (fun h => ?_)
  · have h3 : 1073741824 < g := by simpa using h
    rw [show flS u g = ([], 1) by rw [flS, if_neg (by simp [h1]), if_pos (.inr h3)]] at hk
    conv => whnf
    exact hk
  have h3 : ¬ 1073741824 < g := by simpa using h
  have e1 : flS u g = if 200 < (flT u g (u.mo + 1)).length then ([], 10) else (flT u g (u.mo + 1), 0) := by rw [flS, if_neg (by simp [h1]), if_neg (by omega)]
  conv => whnf
  refine ⟨Ls × Int, fun s => ([(1, I g), (2, .c (.ptr (.l 2 0) 0)), (7, .c (.view (.l 49 1) 0 s.1.length)), (8, I s.2)], ⟨[(.l 2 0, .blk (unC u)), (.l 49 1, .arr 3 1 (eL s.1) false)], 5, []⟩),
    fun s => s.1 = flT u g s.2 ∧ (u.lo ≤ s.2 ∧ s.2 ≤ 1073741825) ∧ s.1.length ≤ 200 ∧ ∀ x, u.mo < x → x < s.2 → okQ u g x = false, fun s => (1073741826 - s.2).toNat, ([], u.lo), ⟨(flT_lo (Int.le_refl _)).symm, ⟨Int.le_refl _, by dsimp only; omega⟩, Nat.zero_le _, fun x hx1 hx2 => by dsimp only at hx2; omega⟩,
    Shift.trans (Shift.rename [] ⟨rfl, rfl, rfl, rfl, trivial⟩ ⟨rfl, rfl, trivial⟩ rfl rfl rfl) (Shift.nilArr (t := 7) rfl 49 3 1), fun s hs => ?_⟩
  obtain ⟨l, f⟩ := s
  obtain ⟨hl, ⟨hf1, hf2⟩, hf3, hf4⟩ := hs
  dsimp only at hl hf1 hf2 hf3 hf4 ⊢
  subst hl
  have hm := eL_len (flT u g f)
  obtain ⟨u1, u2, u3, u4⟩ := up_mul (f := f) (g := g) (by omega) (by omega)
  have w3 : IntKind.i64.wrap ((f + g - 1).tdiv g) = (f + g - 1) / g := by
    have q1 := Int.ediv_nonneg (show 0 ≤ f + g - 1 by omega) (show 0 ≤ g by omega)
    have q2 := Int.ediv_le_self g (show 0 ≤ f + g - 1 by omega)
    rw [Int.tdiv_eq_ediv_of_nonneg (by omega)]; exact wrap_in (by omega) (by omega)
  have w4 : IntKind.i64.wrap ((f + g - 1) / g * g) = (f + g - 1) / g * g := wrap_in (by omega) (by omega)
  conv => whnf
  rw [show IntKind.i64.wrap (f + g) = f + g from wrap_in (by omega) (by omega)]
  rw [show IntKind.i64.wrap (f + g - 1) = f + g - 1 from wrap_in (by omega) (by omega)]
  refine ⟨by omega, ?_⟩
  rw [w3]
  conv => whnf
  rw [w4]
  generalize (f + g - 1) / g * g = a at u1 u2 u3 u4 w4 ⊢
  clear w3 w4
  have sk : ∀ x, f ≤ x → x < a → okQ u g x = false := fun x hx1 hx2 => by simp [okQ, u4 x hx1 hx2]
  refine Fork.mk (fun h => ?_) (fun h => ?_)
  · have h4 : u.mo < a := by simpa using h
    have e2 : flT u g (u.mo + 1) = flT u g f := by
      by_cases hc : f ≤ u.mo + 1
      · exact flT_to hc fun x hx1 hx2 => sk x hx1 (by omega)
      · exact (flT_to (by omega) fun x hx1 hx2 => hf4 x (by omega) hx2).symm
    rw [e2, if_neg (by omega)] at e1
    conv => whnf
    refine ⟨by rw [hm]; omega, ?_⟩
    conv => whnf
    exact kL hk rfl e1
  have h4 : ¬ u.mo < a := by simpa using h
  conv => whnf
  refine ⟨u, a, rfl, hu, fun r hr => ?_⟩
  conv => whnf
  obtain ⟨r1, r2, r3, r4⟩ := hr
  refine Fork.mk (fun h => ?_) (fun h => ?_)
  · have h5 : r ≠ a := by simpa using h
    have h6 : r ≤ 1073741824 := by
      rcases r4 with r4 | ⟨z, hz, rfl⟩
      · exact absurd r4 h5
      · exact (ho.z z hz).2.1.2
    have sk2 : ∀ x, f ≤ x → x < r → okQ u g x = false := fun x hx1 hx2 => by
      by_cases hx : x < a
      · exact sk x hx1 hx
      · simp [okQ, r3 x (by omega) hx2]
    conv => whnf
    refine ⟨(flT u g f, r), ⟨(flT_to (by omega) sk2).symm, ⟨by dsimp only; omega, by dsimp only; omega⟩, hf3, fun x hx1 hx2 => sk2 x (by dsimp only at hx2; omega) hx2⟩, Shift.reset ⟨rfl, rfl, rfl, rfl, trivial⟩ ⟨rfl, rfl, trivial⟩ rfl rfl, ?_⟩
    show (1073741826 - r).toNat < (1073741826 - f).toNat
    omega
  have h5 : r = a := by simpa using h
  subst h5
  have hok : okQ u g r = true := by simp [okQ, u1, r2]
  have e2 : flT u g (r + 1) = flT u g f ++ [r] := by rw [flT_one (by omega), flT_to u2 sk, if_pos hok]
  conv => whnf
  refine Fork.mk (fun h => ?_) (fun h => ?_)
  · have h6 : (flT u g f).length = 200 := by simp at h; omega
    have h7 := flT_mono (u := u) (g := g) (show r + 1 ≤ u.mo + 1 by omega)
    rw [e2, List.length_append, h6] at h7
    rw [e1, if_pos (by simp at h7; omega)] at hk
    conv => whnf
    exact hk
  have h6 : ¬ (flT u g f).length = 200 := by simp at h; omega
  conv => whnf
  refine ⟨by simp, ?_⟩
  conv => whnf
  refine ⟨rfl, ?_⟩
  conv => whnf
  refine ⟨⟨rfl, rfl, rfl, hm.symm, by rw [hm]; simp; omega⟩, ?_⟩
  conv => whnf
  rw [show IntKind.i64.wrap (r + 1) = r + 1 from wrap_in (by omega) (by omega)]
  refine ⟨(flT u g f ++ [r], r + 1), ⟨e2.symm, ⟨by dsimp only; omega, by dsimp only; omega⟩, by simp; omega, fun x hx1 hx2 => by dsimp only at hx2; omega⟩, Shift.rename [(.l 49 1, .l 49 6)] ⟨rfl, rfl, ?_, rfl, trivial⟩ ⟨rfl, ?_, trivial⟩ rfl rfl rfl, ?_⟩
  · dsimp only; rw [List.length_append, ← hm]; rfl
  · dsimp only; rw [← eL_snoc]; rfl
  · show (1073741826 - (r + 1)).toNat < (1073741826 - f).toNat
    omega
end Go.Proofs
