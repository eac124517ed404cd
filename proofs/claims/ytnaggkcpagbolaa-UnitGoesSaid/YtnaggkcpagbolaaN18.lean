/- Proved here: what functions of the given program come to, for the statements of this chapter; no condition but those in the theorems. -/
import Derived.Test.YtnaggkcpagbolaaL18
namespace Go.Proofs
open Go Go.Abs
set_option linter.unusedSimpArgs false
set_option linter.unusedVariables false
set_option maxRecDepth 4000
theorem goes_ok : FunR Try.prog 4 (R_law1 0) := by
  intro args k h
  unfold R_law1 at h
  split at h
  case h_2 => exact h.elim
  obtain ⟨⟨l, rfl, hl⟩, ⟨xs, rfl, hx⟩, hk⟩ := h
  obtain rfl : xs = [] := List.eq_nil_of_length_eq_zero hx
  refine does_ex (qc := qc1) (np := []) (CK := ckK [(9, cN R_new), (10, cB R_mkU), (11, cB R_mkS), (12, cB R_next), (21, cPq R_flS), (19, cSc (R_usQB mayV)), (17, cSc R_nextS), (14, cSc (R_usB validB)), (8, cSc R_tt)]) mixed Try.func4 rfl rfl Try.ntmps4 Try.results4 τ_ok (by kernel_rfl) (ckK_ok ⟨cN_ok new_ok rfl, cB_ok mkU_ok rfl, cB_ok mkS_ok rfl, cB_ok next_ok rfl, cPq_ok flows_ok, cSc_ok May_ok, cSc_ok next_ok', cSc_ok valid_ok, cSc_ok awake_ok, trivial⟩) (by simp) ?_
  conv => whnf
  refine ⟨l, rfl, ?_⟩
  conv => whnf
  refine ⟨⟨l, 0⟩, rfl, rfl, ⟨Nat.zero_le _, hl⟩, fun u d hd hu => ?_⟩
  conv => whnf
  refine ⟨d, u, rfl, rfl, hd, hu, fun s0 d hd hs => ?_⟩
  conv => whnf
  refine ⟨u, 1, rfl, hu.fin, ?_⟩
  have hfs := flS_mk (g := 1) hu (by omega) (by omega)
  rw [show (flS u 1).1 = flT u 1 (u.mo + 1) by rw [hfs], show (flS u 1).2 = 0 by rw [hfs]]
  clear hfs
  have hc := ckU_of hu.ok
  have hln := flT_mk (g := 1) hu
  have hmem : ∀ q ∈ flT u 1 (u.mo + 1), runB u q = true := fun q hq => by
    obtain ⟨h1, h2⟩ := flT_mem.1 hq
    simp [okQ] at h2
    exact runB_iff.2 ⟨by omega, h2⟩
  generalize flT u 1 (u.mo + 1) = fl at hln hmem
  have hm := eL_len fl
  have hf0 := hs.f
  have hsi := hs.s
  clear hs
  conv => whnf
  repeat (refine fork_f ?_; (conv => whnf))
  refine ⟨Us × Dk × Nat, fun s => ([(3, .c (.ptr (.l 15 0) 0)), (4, .c (.ptr (.l 4 1) 0)), (5, .c (.ptr (.l 5 2) 0)), (6, .c (.lst (eL fl))), (8, I s.1.si), (30, I s.2.2)], ⟨[(.l 15 0, .blk (dkC s.2.1)), (.l 4 1, .blk (unC u)), (.l 5 2, .blk (usC s.1))], 5, []⟩),
    fun s => s.2.1.ok ∧ s.2.2 ≤ 12 ∧ fitB u s.1 = true ∧ s.1.si ≤ 4 + s.2.2, fun s => 12 - s.2.2, (s0, d, 0), ⟨hd, by dsimp only; omega, hf0, by dsimp only; omega⟩,
    Shift.reset ⟨rfl, rfl, rfl, rfl, rfl, rfl, trivial⟩ ⟨rfl, rfl, rfl, trivial⟩ rfl rfl, fun s hs => ?_⟩
  obtain ⟨s, d, n⟩ := s
  obtain ⟨hd, hn, hf, hsn⟩ := hs
  dsimp only at hd hn hf hsn ⊢
  have hsi := fit_si hf
  have hw1 := wr_succ (i := n) (by omega)
  have hw2 : IntKind.i64.wrap (s.si + 1) = s.si + 1 := wrap_in (by omega) (by omega)
  have hpos := fit_pos hc hf
  conv => whnf
  refine Fork.mk (fun h => ?_) (fun h => ?_)
  rotate_left
  · conv => whnf
    refine ⟨u, s, s.fl, rfl, hu.fin, ?_⟩
    rw [mayV_of hc hf, mayB_same hf]
    conv => whnf
    repeat' ((first | refine fork_t ?_ | refine fork_f ?_ | refine Fork.mk (fun h => ?_) (fun h => ?_) | refine ⟨rfl, ?_⟩ | fail) <;> (conv => whnf))
    exact hk
  have hn2 : n < 12 := by simp at h; omega
  clear h
  conv => whnf
  refine Fork.mk (fun h => ?_) (fun h => ?_)
  · have h1 : 0 < fl.length := by simp at h; omega
    conv => whnf
    refine ⟨d, rfl, hd, by omega, fun x d hd hx1 hx2 => ?_⟩
    conv => whnf
    refine Fork.mk (fun h => ?_) (fun h => ?_)
    · conv => whnf
      refine ⟨d, rfl, hd, by omega, fun i d hd hi1 hi2 => ?_⟩
      obtain ⟨j, rfl⟩ : ∃ j : Nat, i = j := ⟨i.toNat, by omega⟩
      have hj : j < fl.length := by omega
      have hci := List.getElem?_eq_getElem hj
      have hq := hmem _ (List.getElem_mem hj)
      generalize fl[j] = q at hci hq
      conv => whnf
      refine ⟨by omega, eI q, by rw [Int.toNat_natCast, List.getElem?_map, hci]; rfl, rfl, ?_⟩
      conv => whnf
      refine ⟨u, s, q, rfl, hu.fin, ?_⟩
      have hqp := run_pos hc hq
      have hq0 : ¬ q = 0 := by omega
      by_cases ho : s.ot = true
      · have hmb : mayB u s q = false := by unfold mayB; rw [if_neg hq0, if_pos (.inl ho)]
        by_cases hb : s.fl = 0
        · have e := nextU_no hc hf hmb
          rw [show (nextS u s q).1 = us0 by rw [e], show (nextS u s q).2.1 = false by rw [e], show (nextS u s q).2.2 = 15 by rw [e]]
          conv => whnf
          refine ⟨u, s, q, rfl, hu.fin, ?_⟩
          rw [mayV_of hc hf, hmb]
          conv => whnf
          repeat' ((first | refine fork_t ?_ | refine fork_f ?_ | (refine Fork.mk (fun h => ?_) (fun h => ?_); focus (simp [hb, ho, hqp] at h; done)) | (refine Fork.mk (fun h => ?_) (fun h => ?_); rotate_left; focus (simp [hb, ho, hqp] at h; done)) | refine Fork.mk (fun h => ?_) (fun h => ?_) | fail) <;> (conv => whnf))
          all_goals rw [hw1]
          all_goals exact ⟨(s, d, n + 1), ⟨hd, hn2, hf, by dsimp only; omega⟩, Shift.reset ⟨rfl, rfl, rfl, rfl, rfl, rfl, trivial⟩ ⟨rfl, rfl, rfl, trivial⟩ rfl rfl, by dsimp only; omega⟩
        have hb2 : 0 < s.fl := by omega
        have e := nextU_no hc hf hmb
        rw [show (nextS u s q).1 = us0 by rw [e], show (nextS u s q).2.1 = false by rw [e], show (nextS u s q).2.2 = 15 by rw [e]]
        conv => whnf
        refine ⟨u, s, q, rfl, hu.fin, ?_⟩
        rw [mayV_of hc hf, hmb]
        conv => whnf
        repeat' ((first | refine fork_t ?_ | refine fork_f ?_ | (refine Fork.mk (fun h => ?_) (fun h => ?_); focus (simp [hb, hb2, ho, hqp] at h; done)) | (refine Fork.mk (fun h => ?_) (fun h => ?_); rotate_left; focus (simp [hb, hb2, ho, hqp] at h; done)) | refine Fork.mk (fun h => ?_) (fun h => ?_) | fail) <;> (conv => whnf))
        all_goals rw [hw1]
        all_goals exact ⟨(s, d, n + 1), ⟨hd, hn2, hf, by dsimp only; omega⟩, Shift.reset ⟨rfl, rfl, rfl, rfl, rfl, rfl, trivial⟩ ⟨rfl, rfl, rfl, trivial⟩ rfl rfl, by dsimp only; omega⟩
      have ho : s.ot = false := by simpa using ho
      by_cases hb : s.fl = 0
      · by_cases hr : s.si < u.dn
        · have hmb : mayB u s q = false := by unfold mayB; rw [if_neg hq0, if_pos (.inr ⟨hb, hr⟩)]
          have hr2 : ¬ u.dn ≤ s.si := by omega
          have e := nextU_no hc hf hmb
          rw [show (nextS u s q).1 = us0 by rw [e], show (nextS u s q).2.1 = false by rw [e], show (nextS u s q).2.2 = 15 by rw [e]]
          conv => whnf
          refine ⟨u, s, q, rfl, hu.fin, ?_⟩
          rw [mayV_of hc hf, hmb]
          conv => whnf
          repeat' ((first | refine fork_t ?_ | refine fork_f ?_ | (refine Fork.mk (fun h => ?_) (fun h => ?_); focus (simp [hb, ho, hqp, hr2] at h; done)) | (refine Fork.mk (fun h => ?_) (fun h => ?_); rotate_left; focus (simp [hb, ho, hqp, hr2] at h; done)) | refine Fork.mk (fun h => ?_) (fun h => ?_) | fail) <;> (conv => whnf))
          all_goals rw [hw1]
          all_goals exact ⟨(s, d, n + 1), ⟨hd, hn2, hf, by dsimp only; omega⟩, Shift.reset ⟨rfl, rfl, rfl, rfl, rfl, rfl, trivial⟩ ⟨rfl, rfl, rfl, trivial⟩ rfl rfl, by dsimp only; omega⟩
        have hmb : mayB u s q = true := by unfold mayB; rw [if_neg hq0, if_neg (by simp [ho]; omega)]; exact hq
        have e : nextS u s q = (⟨q, 1, s.ot⟩, true, 0) := by
          rw [nextU_ok hc hf hmb]
          simp [hb, ho, hqp, mn]
          try omega
        have hf2 := fit_next hc hf hmb
        rw [show (nextS u s q).1 = ⟨q, 1, s.ot⟩ by rw [e], show (nextS u s q).2.1 = true by rw [e], show (nextS u s q).2.2 = 0 by rw [e]]
        rw [e] at hf2
        conv => whnf
        refine ⟨u, s, q, rfl, hu.fin, ?_⟩
        rw [mayV_of hc hf, hmb]
        conv => whnf
        repeat' ((first | refine fork_t ?_ | refine fork_f ?_ | (refine Fork.mk (fun h => ?_) (fun h => ?_); focus (simp [hb, ho, hqp] at h; done)) | (refine Fork.mk (fun h => ?_) (fun h => ?_); rotate_left; focus (simp [hb, ho, hqp] at h; done)) | fail) <;> (conv => whnf))
        refine ⟨u, ⟨q, 1, s.ot⟩, rfl, hu.fin, ?_⟩
        rw [show validB u ⟨q, 1, s.ot⟩ = true by simp [validB, hc, hf2]]
        conv => whnf
        repeat' ((first | refine fork_t ?_ | refine fork_f ?_ | (refine Fork.mk (fun h => ?_) (fun h => ?_); focus (simp [hb, ho, hqp] at h; done)) | (refine Fork.mk (fun h => ?_) (fun h => ?_); rotate_left; focus (simp [hb, ho, hqp] at h; done)) | rw [hw2] | refine Fork.mk (fun h => ?_) (fun h => ?_) | fail) <;> (conv => whnf))
        all_goals rw [hw1]
        all_goals exact ⟨(⟨q, 1, s.ot⟩, d, n + 1), ⟨hd, hn2, hf2, by dsimp only; omega⟩, Shift.reset ⟨rfl, rfl, rfl, rfl, rfl, rfl, trivial⟩ ⟨rfl, rfl, rfl, trivial⟩ rfl rfl, by dsimp only; omega⟩
      have hb2 : 0 < s.fl := by omega
      have hmb : mayB u s q = true := by unfold mayB; rw [if_neg hq0, if_neg (by simp [ho, hb])]; exact hq
      have e : nextS u s q = (⟨q, s.si + 1, s.ot⟩, false, 0) := by
        rw [nextU_ok hc hf hmb]
        simp [hb, hb2, ho, hqp, mn]
        try omega
      have hf2 := fit_next hc hf hmb
      rw [show (nextS u s q).1 = ⟨q, s.si + 1, s.ot⟩ by rw [e], show (nextS u s q).2.1 = false by rw [e], show (nextS u s q).2.2 = 0 by rw [e]]
      rw [e] at hf2
      conv => whnf
      refine ⟨u, s, q, rfl, hu.fin, ?_⟩
      rw [mayV_of hc hf, hmb]
      conv => whnf
      repeat' ((first | refine fork_t ?_ | refine fork_f ?_ | (refine Fork.mk (fun h => ?_) (fun h => ?_); focus (simp [hb, hb2, ho, hqp] at h; done)) | (refine Fork.mk (fun h => ?_) (fun h => ?_); rotate_left; focus (simp [hb, hb2, ho, hqp] at h; done)) | fail) <;> (conv => whnf))
      refine ⟨u, ⟨q, s.si + 1, s.ot⟩, rfl, hu.fin, ?_⟩
      rw [show validB u ⟨q, s.si + 1, s.ot⟩ = true by simp [validB, hc, hf2]]
      conv => whnf
      repeat' ((first | refine fork_t ?_ | refine fork_f ?_ | (refine Fork.mk (fun h => ?_) (fun h => ?_); focus (simp [hb, hb2, ho, hqp] at h; done)) | (refine Fork.mk (fun h => ?_) (fun h => ?_); rotate_left; focus (simp [hb, hb2, ho, hqp] at h; done)) | rw [hw2] | refine Fork.mk (fun h => ?_) (fun h => ?_) | fail) <;> (conv => whnf))
      all_goals rw [hw1]
      all_goals exact ⟨(⟨q, s.si + 1, s.ot⟩, d, n + 1), ⟨hd, hn2, hf2, by dsimp only; omega⟩, Shift.reset ⟨rfl, rfl, rfl, rfl, rfl, rfl, trivial⟩ ⟨rfl, rfl, rfl, trivial⟩ rfl rfl, by dsimp only; omega⟩
    conv => whnf
    refine ⟨u, s, 0, rfl, hu.fin, ?_⟩
    by_cases hb : s.fl = 0
    · have hmb : mayB u s 0 = true := by unfold mayB; rw [if_pos rfl, if_neg (by omega)]
      have e : nextS u s 0 = (⟨0, s.si + 1, s.ot⟩, false, 0) := by
        rw [nextU_ok hc hf hmb]
        simp [hb, mn]
        try omega
      have hf2 := fit_next hc hf hmb
      rw [show (nextS u s 0).1 = ⟨0, s.si + 1, s.ot⟩ by rw [e], show (nextS u s 0).2.1 = false by rw [e], show (nextS u s 0).2.2 = 0 by rw [e]]
      rw [e] at hf2
      conv => whnf
      refine ⟨u, s, 0, rfl, hu.fin, ?_⟩
      rw [mayV_of hc hf, hmb]
      conv => whnf
      repeat' ((first | refine fork_t ?_ | refine fork_f ?_ | (refine Fork.mk (fun h => ?_) (fun h => ?_); focus (simp [hb] at h; done)) | (refine Fork.mk (fun h => ?_) (fun h => ?_); rotate_left; focus (simp [hb] at h; done)) | fail) <;> (conv => whnf))
      refine ⟨u, ⟨0, s.si + 1, s.ot⟩, rfl, hu.fin, ?_⟩
      rw [show validB u ⟨0, s.si + 1, s.ot⟩ = true by simp [validB, hc, hf2]]
      conv => whnf
      repeat' ((first | refine fork_t ?_ | refine fork_f ?_ | (refine Fork.mk (fun h => ?_) (fun h => ?_); focus (simp [hb] at h; done)) | (refine Fork.mk (fun h => ?_) (fun h => ?_); rotate_left; focus (simp [hb] at h; done)) | rw [hw2] | refine Fork.mk (fun h => ?_) (fun h => ?_) | fail) <;> (conv => whnf))
      all_goals rw [hw1]
      all_goals exact ⟨(⟨0, s.si + 1, s.ot⟩, d, n + 1), ⟨hd, hn2, hf2, by dsimp only; omega⟩, Shift.reset ⟨rfl, rfl, rfl, rfl, rfl, rfl, trivial⟩ ⟨rfl, rfl, rfl, trivial⟩ rfl rfl, by dsimp only; omega⟩
    have hb2 : 0 < s.fl := by omega
    by_cases hr : s.si < u.up
    · have hmb : mayB u s 0 = false := by unfold mayB; rw [if_pos rfl, if_pos hb2]; simp; omega
      have hr2 : ¬ u.up ≤ s.si := by omega
      have e := nextU_no hc hf hmb
      rw [show (nextS u s 0).1 = us0 by rw [e], show (nextS u s 0).2.1 = false by rw [e], show (nextS u s 0).2.2 = 15 by rw [e]]
      conv => whnf
      refine ⟨u, s, 0, rfl, hu.fin, ?_⟩
      rw [mayV_of hc hf, hmb]
      conv => whnf
      repeat' ((first | refine fork_t ?_ | refine fork_f ?_ | (refine Fork.mk (fun h => ?_) (fun h => ?_); focus (simp [hb, hb2, hr2] at h; done)) | (refine Fork.mk (fun h => ?_) (fun h => ?_); rotate_left; focus (simp [hb, hb2, hr2] at h; done)) | refine Fork.mk (fun h => ?_) (fun h => ?_) | fail) <;> (conv => whnf))
      all_goals rw [hw1]
      all_goals exact ⟨(s, d, n + 1), ⟨hd, hn2, hf, by dsimp only; omega⟩, Shift.reset ⟨rfl, rfl, rfl, rfl, rfl, rfl, trivial⟩ ⟨rfl, rfl, rfl, trivial⟩ rfl rfl, by dsimp only; omega⟩
    have hmb : mayB u s 0 = true := by unfold mayB; rw [if_pos rfl, if_pos hb2]; simp; omega
    have e : nextS u s 0 = (⟨0, 1, s.ot⟩, false, 0) := by
      rw [nextU_ok hc hf hmb]
      simp [hb, hb2, mn]
      try omega
    have hf2 := fit_next hc hf hmb
    rw [show (nextS u s 0).1 = ⟨0, 1, s.ot⟩ by rw [e], show (nextS u s 0).2.1 = false by rw [e], show (nextS u s 0).2.2 = 0 by rw [e]]
    rw [e] at hf2
    conv => whnf
    refine ⟨u, s, 0, rfl, hu.fin, ?_⟩
    rw [mayV_of hc hf, hmb]
    conv => whnf
    repeat' ((first | refine fork_t ?_ | refine fork_f ?_ | (refine Fork.mk (fun h => ?_) (fun h => ?_); focus (simp [hb, hb2] at h; done)) | (refine Fork.mk (fun h => ?_) (fun h => ?_); rotate_left; focus (simp [hb, hb2] at h; done)) | fail) <;> (conv => whnf))
    refine ⟨u, ⟨0, 1, s.ot⟩, rfl, hu.fin, ?_⟩
    rw [show validB u ⟨0, 1, s.ot⟩ = true by simp [validB, hc, hf2]]
    conv => whnf
    repeat' ((first | refine fork_t ?_ | refine fork_f ?_ | (refine Fork.mk (fun h => ?_) (fun h => ?_); focus (simp [hb, hb2] at h; done)) | (refine Fork.mk (fun h => ?_) (fun h => ?_); rotate_left; focus (simp [hb, hb2] at h; done)) | rw [hw2] | refine Fork.mk (fun h => ?_) (fun h => ?_) | fail) <;> (conv => whnf))
    all_goals rw [hw1]
    all_goals exact ⟨(⟨0, 1, s.ot⟩, d, n + 1), ⟨hd, hn2, hf2, by dsimp only; omega⟩, Shift.reset ⟨rfl, rfl, rfl, rfl, rfl, rfl, trivial⟩ ⟨rfl, rfl, rfl, trivial⟩ rfl rfl, by dsimp only; omega⟩
  conv => whnf
  repeat (refine fork_f ?_; (conv => whnf))
  refine ⟨u, s, 0, rfl, hu.fin, ?_⟩
  by_cases hb : s.fl = 0
  · have hmb : mayB u s 0 = true := by unfold mayB; rw [if_pos rfl, if_neg (by omega)]
    have e : nextS u s 0 = (⟨0, s.si + 1, s.ot⟩, false, 0) := by
      rw [nextU_ok hc hf hmb]
      simp [hb, mn]
      try omega
    have hf2 := fit_next hc hf hmb
    rw [show (nextS u s 0).1 = ⟨0, s.si + 1, s.ot⟩ by rw [e], show (nextS u s 0).2.1 = false by rw [e], show (nextS u s 0).2.2 = 0 by rw [e]]
    rw [e] at hf2
    conv => whnf
    refine ⟨u, s, 0, rfl, hu.fin, ?_⟩
    rw [mayV_of hc hf, hmb]
    conv => whnf
    repeat' ((first | refine fork_t ?_ | refine fork_f ?_ | (refine Fork.mk (fun h => ?_) (fun h => ?_); focus (simp [hb] at h; done)) | (refine Fork.mk (fun h => ?_) (fun h => ?_); rotate_left; focus (simp [hb] at h; done)) | fail) <;> (conv => whnf))
    refine ⟨u, ⟨0, s.si + 1, s.ot⟩, rfl, hu.fin, ?_⟩
    rw [show validB u ⟨0, s.si + 1, s.ot⟩ = true by simp [validB, hc, hf2]]
    conv => whnf
    repeat' ((first | refine fork_t ?_ | refine fork_f ?_ | (refine Fork.mk (fun h => ?_) (fun h => ?_); focus (simp [hb] at h; done)) | (refine Fork.mk (fun h => ?_) (fun h => ?_); rotate_left; focus (simp [hb] at h; done)) | rw [hw2] | refine Fork.mk (fun h => ?_) (fun h => ?_) | fail) <;> (conv => whnf))
    all_goals rw [hw1]
    all_goals exact ⟨(⟨0, s.si + 1, s.ot⟩, d, n + 1), ⟨hd, hn2, hf2, by dsimp only; omega⟩, Shift.reset ⟨rfl, rfl, rfl, rfl, rfl, rfl, trivial⟩ ⟨rfl, rfl, rfl, trivial⟩ rfl rfl, by dsimp only; omega⟩
  have hb2 : 0 < s.fl := by omega
  by_cases hr : s.si < u.up
  · have hmb : mayB u s 0 = false := by unfold mayB; rw [if_pos rfl, if_pos hb2]; simp; omega
    have hr2 : ¬ u.up ≤ s.si := by omega
    have e := nextU_no hc hf hmb
    rw [show (nextS u s 0).1 = us0 by rw [e], show (nextS u s 0).2.1 = false by rw [e], show (nextS u s 0).2.2 = 15 by rw [e]]
    conv => whnf
    refine ⟨u, s, 0, rfl, hu.fin, ?_⟩
    rw [mayV_of hc hf, hmb]
    conv => whnf
    repeat' ((first | refine fork_t ?_ | refine fork_f ?_ | (refine Fork.mk (fun h => ?_) (fun h => ?_); focus (simp [hb, hb2, hr2] at h; done)) | (refine Fork.mk (fun h => ?_) (fun h => ?_); rotate_left; focus (simp [hb, hb2, hr2] at h; done)) | refine Fork.mk (fun h => ?_) (fun h => ?_) | fail) <;> (conv => whnf))
    all_goals rw [hw1]
    all_goals exact ⟨(s, d, n + 1), ⟨hd, hn2, hf, by dsimp only; omega⟩, Shift.reset ⟨rfl, rfl, rfl, rfl, rfl, rfl, trivial⟩ ⟨rfl, rfl, rfl, trivial⟩ rfl rfl, by dsimp only; omega⟩
  have hmb : mayB u s 0 = true := by unfold mayB; rw [if_pos rfl, if_pos hb2]; simp; omega
  have e : nextS u s 0 = (⟨0, 1, s.ot⟩, false, 0) := by
    rw [nextU_ok hc hf hmb]
    simp [hb, hb2, mn]
    try omega
  have hf2 := fit_next hc hf hmb
  rw [show (nextS u s 0).1 = ⟨0, 1, s.ot⟩ by rw [e], show (nextS u s 0).2.1 = false by rw [e], show (nextS u s 0).2.2 = 0 by rw [e]]
  rw [e] at hf2
  conv => whnf
  refine ⟨u, s, 0, rfl, hu.fin, ?_⟩
  rw [mayV_of hc hf, hmb]
  conv => whnf
  repeat' ((first | refine fork_t ?_ | refine fork_f ?_ | (refine Fork.mk (fun h => ?_) (fun h => ?_); focus (simp [hb, hb2] at h; done)) | (refine Fork.mk (fun h => ?_) (fun h => ?_); rotate_left; focus (simp [hb, hb2] at h; done)) | fail) <;> (conv => whnf))
  refine ⟨u, ⟨0, 1, s.ot⟩, rfl, hu.fin, ?_⟩
  rw [show validB u ⟨0, 1, s.ot⟩ = true by simp [validB, hc, hf2]]
  conv => whnf
  repeat' ((first | refine fork_t ?_ | refine fork_f ?_ | (refine Fork.mk (fun h => ?_) (fun h => ?_); focus (simp [hb, hb2] at h; done)) | (refine Fork.mk (fun h => ?_) (fun h => ?_); rotate_left; focus (simp [hb, hb2] at h; done)) | rw [hw2] | refine Fork.mk (fun h => ?_) (fun h => ?_) | fail) <;> (conv => whnf))
  all_goals rw [hw1]
  all_goals exact ⟨(⟨0, 1, s.ot⟩, d, n + 1), ⟨hd, hn2, hf2, by dsimp only; omega⟩, Shift.reset ⟨rfl, rfl, rfl, rfl, rfl, rfl, trivial⟩ ⟨rfl, rfl, rfl, trivial⟩ rfl rfl, by dsimp only; omega⟩
end Go.Proofs
