/- Proved here: what functions of the given program come to, and the plain laws of it; no condition but those in the theorems. -/
import Derived.Test.YtfhnicamjcfddaaGreatDoorX99
import Derived.Test.YtfhnicamjcfddaaGreatDoorPTop
import Derived.Test.YtfhnicamjcfddaaGreatDoorPDisp
namespace Go.Proofs
open Go Go.Abs
set_option linter.unusedSimpArgs false
set_option linter.unusedVariables false
set_option maxRecDepth 4000
theorem mkG_ok : FunB Tryz.prog 33 R_mkG := by
  intro cs args k h
  obtain ⟨d, rfl, rfl, hd, hk⟩ := h
  refine doesB_ex (qc := qc1) (np := [(6, [(1, 4), (1, 6)])]) (CK := ckK [(9, cB R_next), (30, cB R_curve)]) mixed Tryz.func33 rfl rfl Tryz.ntmps33 Tryz.results33 τ_ok (by kernel_rfl) (ckK_ok ⟨cB_ok next_ok rfl, cB_ok mkcurve_ok rfl, trivial⟩) (by simp) rfl rfl ?_
  conv => whnf
  refine ⟨d, rfl, hd, by omega, fun mo d hd ho1 ho2 => ?_⟩
  conv => whnf
  refine ⟨d, rfl, hd, by omega, fun mv d hd hv1 hv2 => ?_⟩
  conv => whnf
  refine ⟨d, rfl, hd, by omega, fun lv d hd hl1 hl2 => ?_⟩
  have e1 : IntKind.i64.wrap (90 + lv) = 90 + lv := wrap_in (by omega) (by omega)
  conv => whnf
  refine ⟨d, rfl, hd, by omega, fun k0 d hd hk1 hk2 => ?_⟩
  conv => whnf
  refine ⟨List Rt × Dk × Int × Int, fun s => ([(0, .c (.ptr (.x 0) 0)), (2, .c (.ptr (.l 2 0) 0)), (3, .c (.ptr (.l 3 1) 0)), (4, I s.2.2.1), (5, I s.2.2.2)], ⟨[(.x 0, .blk (dkC s.2.1)), (.l 2 0, .blk [.sc (.slice none 0 0), IC 0, IC 0]), (.l 3 1, .blk [.view (.l 40 2) 0 s.1.length, IC mo, IC mv]), (.l 40 2, .arr 81 2 (s.1.map rtC) false)], 3, []⟩),
    fun s => s.2.1.ok ∧ mkR s.1 s.2.2.1 ∧ (-1 ≤ s.2.2.2 ∧ 1 ≤ s.1.length + s.2.2.2 + 1 ∧ s.1.length + s.2.2.2 ≤ 2) ∧ (0 ≤ s.2.2.1 ∧ s.2.2.1 ≤ 1000 + 1000 * s.1.length), fun s => (s.2.2.2 + 1).toNat, ([], d, 90 + lv, k0),
    ⟨hd, ⟨by simp, .nil⟩, by dsimp only; simp; omega, by dsimp only; omega⟩,
    Shift.trans (Shift.rename [] ⟨rfl, rfl, rfl, by rw [e1]; rfl, rfl, trivial⟩ ⟨rfl, rfl, rfl, rfl, trivial⟩ rfl rfl rfl) (Shift.nilCell (i := .l 3 1) (cs := [.sc (.slice none 0 0), IC mo, IC mv]) (j := 0) rfl rfl 40 81 2), fun s hs => ?_⟩
  obtain ⟨l, d, lv, kk⟩ := s
  obtain ⟨hd, hr, ⟨hk3, hk4, hk5⟩, hk6⟩ := hs
  dsimp only at hd hr hk3 hk4 hk5 hk6 ⊢
  have hm : (l.map rtC).length = l.length := List.length_map _
  conv => whnf
  refine Fork.mk (fun h => ?_) (fun h => ?_)
  · have hkk : 0 ≤ kk := by simpa using h
    conv => whnf
    refine ⟨d, rfl, hd, by omega, by omega, by omega, by omega, fun r d hd hr1 hr2 hch => ?_⟩
    have hvc := vcv_mk hr1 hr2 hch
    conv => whnf
    refine ⟨by simp, ?_⟩
    conv => whnf
    refine ⟨rfl, ?_⟩
    conv => whnf
    refine ⟨⟨rfl, rfl, rfl, hm.symm, by rw [hm]; simp; omega⟩, ?_⟩
    conv => whnf
    refine ⟨d, rfl, hd, by omega, fun w d hd hw1 hw2 => ?_⟩
    have e2 : IntKind.i64.wrap (1 + w) = 1 + w := wrap_in (by omega) (by omega)
    have e3 : IntKind.i64.wrap (lv + (1 + w)) = lv + (1 + w) := wrap_in (by omega) (by omega)
    conv => whnf
    rw [e2, e3]
    rw [show IntKind.i64.wrap (kk - 1) = kk - 1 from wrap_in (by omega) (by omega)]
    refine ⟨(l ++ [(lv, (0, 0) :: r)], d, lv + (1 + w), kk - 1), ⟨hd, hr.snoc (by omega) (by dsimp only; omega) hvc, by dsimp only; simp; omega, by dsimp only; omega, by dsimp only; rw [List.length_append]; show _ ≤ 1000 + 1000 * ((l.length + 1 : Nat) : Int); omega⟩, Shift.rename [(.l 40 2, .l 27 3)] ⟨rfl, rfl, rfl, rfl, rfl, trivial⟩ ⟨rfl, rfl, ?_, ?_, trivial⟩ rfl rfl rfl, ?_⟩
    · dsimp only; rw [List.length_append, ← hm]; rfl
    · dsimp only; rw [List.map_append]; rfl
    · show (kk - 1 + 1).toNat < (kk + 1).toNat
      omega
  have hkk : kk = -1 := by simp at h; omega
  subst hkk
  conv => whnf
  refine ⟨by rw [hm]; omega, ?_⟩
  conv => whnf
  rw [List.drop_zero, List.take_of_length_le (by rw [hm]; exact Nat.le_refl _)]
  exact ⟨rfl, rfl, hk ⟨l, mo, mv⟩ d hd (hr.gate (by omega) (by omega) (by omega) (by omega) (by omega))⟩
theorem mkGs_ok : FunB Tryz.prog 17 R_mkGs := by
  intro cs args k h
  obtain ⟨d, n, rfl, rfl, hd, hn, hk⟩ := h
  have e0 : IntKind.i64.wrap (n + 1) = n + 1 := wrap_in (by omega) (by omega)
  refine doesB_ex (qc := qc1) (np := [(7, [(2, 7), (3, 7)])]) (CK := ckK [(9, cB R_next), (33, cB R_mkG)]) mixed Tryz.func17 rfl rfl Tryz.ntmps17 Tryz.results17 τ_ok (by kernel_rfl) (ckK_ok ⟨cB_ok next_ok rfl, cB_ok mkG_ok rfl, trivial⟩) (by simp) rfl rfl ?_
  conv => whnf
  rw [e0]
  refine ⟨d, rfl, hd, by omega, fun k0 d hd hk1 hk2 => ?_⟩
  conv => whnf
  refine ⟨List Gt × List Gs × Dk × Int, fun s => ([(0, .c (.ptr (.x 0) 0)), (6, .c (.view (.l 23 0) 0 s.1.length)), (7, .c (.view (.l 35 1) 0 s.2.1.length)), (8, I s.2.2.2)], ⟨[(.x 0, .blk (dkC s.2.2.1)), (.l 23 0, .arr 84 3 (eG s.1) false), (.l 35 1, .arr 106 2 (eS s.2.1) false)], 2, []⟩),
    fun s => s.2.2.1.ok ∧ mkGs s.1 s.2.1 ∧ 0 ≤ s.2.2.2 ∧ s.1.length + s.2.2.2 ≤ n, fun s => s.2.2.2.toNat, ([], [], d, k0),
    ⟨hd, ⟨rfl, by simp, rfl⟩, by dsimp only; omega, by dsimp only; simp; omega⟩,
    Shift.trans (Shift.rename [] ⟨rfl, rfl, rfl, rfl, trivial⟩ ⟨rfl, rfl, rfl, trivial⟩ rfl rfl rfl) (Shift.trans (Shift.nilArr (t := 7) rfl 35 106 2) (Shift.nilArr (t := 6) rfl 23 84 3)), fun s hs => ?_⟩
  obtain ⟨gs, ss, d, kk⟩ := s
  obtain ⟨hd, hg, hk3, hk4⟩ := hs
  dsimp only at hd hg hk3 hk4 ⊢
  have hm := eG_len gs
  have hm2 := eS_len ss
  have hgl := hg.l
  conv => whnf
  refine Fork.mk (fun h => ?_) (fun h => ?_)
  · have hkk : 0 < kk := by simpa using h
    conv => whnf
    refine ⟨d, rfl, rfl, hd, fun g d hd hmg => ?_⟩
    have hmo := hmg.ok.o
    have hmm := hmg.m
    have e1 : IntKind.i64.wrap (g.mo + 1) = g.mo + 1 := wrap_in (by omega) (by omega)
    conv => whnf
    refine ⟨by simp, ?_⟩
    conv => whnf
    refine ⟨rfl, ?_⟩
    conv => whnf
    refine ⟨⟨rfl, rfl, rfl, hm.symm, by rw [hm]; simp; omega⟩, ?_⟩
    conv => whnf
    rw [e1]
    refine ⟨d, rfl, hd, by omega, fun o d hd ho1 ho2 => ?_⟩
    conv => whnf
    refine ⟨d, rfl, hd, by omega, fun j d hd hj1 hj2 => ?_⟩
    conv => whnf
    refine ⟨by simp, ?_⟩
    conv => whnf
    refine ⟨rfl, ?_⟩
    conv => whnf
    refine ⟨⟨rfl, rfl, rfl, hm2.symm, by rw [hm2]; simp; omega⟩, ?_⟩
    conv => whnf
    rw [show IntKind.i64.wrap (kk - 1) = kk - 1 from wrap_in (by omega) (by omega)]
    refine ⟨(gs ++ [g], ss ++ [⟨o, decide (j = 6)⟩], d, kk - 1), ⟨hd, hg.snoc hmg (by simp [okS, inB]; omega), by dsimp only; omega, by dsimp only; simp; omega⟩, Shift.rename [(.l 23 0, .l 23 3), (.l 35 1, .l 35 3)] ⟨rfl, ?_, ?_, rfl, trivial⟩ ⟨rfl, ?_, ?_, trivial⟩ rfl rfl rfl, ?_⟩
    · dsimp only; rw [List.length_append, ← hm]; rfl
    · dsimp only; rw [List.length_append, ← hm2]; rfl
    · dsimp only; rw [show eG (gs ++ [g]) = eG gs ++ [gtC g] from List.map_append]; rfl
    · dsimp only; rw [show eS (ss ++ [⟨o, decide (j = 6)⟩]) = eS ss ++ [gsC ⟨o, decide (j = 6)⟩] from List.map_append]; rfl
    · show (kk - 1).toNat < kk.toNat
      omega
  have hkk : ¬ 0 < kk := by simpa using h
  have htl1 : List.take gs.length (List.drop 0 (eG gs)) = eG gs := by rw [List.drop_zero, List.take_of_length_le (by omega)]
  have htl2 : List.take ss.length (List.drop 0 (eS ss)) = eS ss := by rw [List.drop_zero, List.take_of_length_le (by omega)]
  conv => whnf
  refine ⟨by omega, ?_⟩
  conv => whnf
  refine ⟨by omega, ?_⟩
  conv => whnf
  rw [htl1, htl2]
  exact ⟨rfl, rfl, hk gs ss d hd (by omega) hg⟩
end Go.Proofs

namespace Go.Proofs
open Go Go.Abs
set_option linter.unusedSimpArgs false
set_option linter.unusedVariables false
set_option maxRecDepth 4000
theorem ckD_prog : FunR Tryz.prog 59 (R_dmI ckD) := by
  intro args k h
  obtain ⟨d, rfl, hd, hk⟩ := h
  refine does_ex (qc := qc1) (np := []) (CK := ckK [(81, cSc (R_rs ckS)), (82, cSc (R_unI ckU)), (83, cSc (R_gI ckG))]) mixed Tryz.func59 rfl rfl Tryz.ntmps59 Tryz.results59 τ_ok (by kernel_rfl) (ckK_ok ⟨cSc_ok ckS_ok', cSc_ok ckU_prog, cSc_ok ckG_prog, trivial⟩) (by simp) ?_
  conv => whnf
  have hmu := eU_len d.us
  have hmg := eG_len d.gs
  have hdu := hd.u
  have hdg := hd.g
  refine ⟨d.r.st, rfl, hd.r, ?_⟩
  conv => whnf
  refine Fork.mk (fun h => ?_) (fun h => ?_)
  · have h1 : ckS d.r ≠ 0 := by simpa using h
    conv => whnf
    exact kI hk (by rw [ckD, if_pos h1])
  have h1 : ¬ ckS d.r ≠ 0 := by simpa using h
  clear h
  conv => whnf
  refine Fork.mk (fun h => ?_) (fun h => ?_)
  · conv => whnf
    repeat' ((first | refine fork_t ?_ | refine fork_f ?_ | (refine Fork.mk (fun h => ?_) (fun h => ?_); focus (simp at h; done)) | fail) <;> (conv => whnf))
    exact kI hk (by rw [ckD, if_neg h1, if_pos (by left; simp at h; omega)])
  have h2 : ¬ 6 < d.us.length := by simp at h; omega
  clear h
  conv => whnf
  refine Fork.mk (fun h => ?_) (fun h => ?_)
  · conv => whnf
    repeat' ((first | refine fork_t ?_ | refine fork_f ?_ | (refine Fork.mk (fun h => ?_) (fun h => ?_); focus (simp at h; done)) | fail) <;> (conv => whnf))
    exact kI hk (by rw [ckD, if_neg h1, if_pos (by right; simp at h; omega)])
  have h3 : ¬ (6 < d.us.length ∨ 8 < d.gs.length) := by simp at h; omega
  clear h
  conv => whnf
  refine ⟨Nat, fun i => ([(1, .c (.ptr (.l 1 0) 0)), (27, .c (.lst (eU d.us))), (28, I (eU d.us).length), (29, I i)], ⟨[(.l 1 0, .blk (dmC d))], 9, []⟩),
    fun i => i ≤ d.us.length ∧ unE d.us = unE (d.us.drop i), fun i => d.us.length - i, 0, ⟨Nat.zero_le _, rfl⟩, Shift.reset ⟨rfl, rfl, rfl, rfl, trivial⟩ ⟨rfl, trivial⟩ rfl rfl, fun i hi => ?_⟩
  obtain ⟨hi1, hi2⟩ := hi
  dsimp only
  conv => whnf
  refine Fork.mk (fun h => ?_) (fun h => ?_)
  · have hi : i < d.us.length := by simp at h; omega
    clear h
    have hci := List.getElem?_eq_getElem hi
    have hfu := hd.fu _ (List.getElem_mem hi)
    generalize d.us[i] = u at hci hfu
    rw [drop_of hci, unE] at hi2
    have hw1 := wr_succ (i := i) (by omega)
    conv => whnf
    refine ⟨by omega, unC u, by rw [Int.toNat_natCast, List.getElem?_map, hci]; rfl, rfl, ?_⟩
    conv => whnf
    refine ⟨u, rfl, hfu, ?_⟩
    conv => whnf
    refine Fork.mk (fun h => ?_) (fun h => ?_)
    · have h4 : ckU u ≠ 0 := by simpa using h
      rw [if_pos h4] at hi2
      conv => whnf
      exact kI hk (by rw [ckD, if_neg h1, if_neg h3, hi2, if_pos h4])
    have h4 : ¬ ckU u ≠ 0 := by simpa using h
    rw [if_neg h4] at hi2
    conv => whnf
    rw [hw1]
    exact ⟨i + 1, ⟨hi, hi2⟩, Shift.reset ⟨rfl, rfl, rfl, rfl, trivial⟩ ⟨rfl, trivial⟩ rfl rfl, by omega⟩
  have hie : i = d.us.length := by simp at h; omega
  clear h
  rw [hie, List.drop_length] at hi2
  have h4 : ¬ unE d.us ≠ 0 := by rw [hi2]; simp [unE]
  clear hi1 hi2 hie
  conv => whnf
  refine ⟨Nat, fun i => ([(1, .c (.ptr (.l 1 0) 0)), (40, .c (.lst (eG d.gs))), (41, I (eG d.gs).length), (42, I i)], ⟨[(.l 1 0, .blk (dmC d))], 9, []⟩),
    fun i => i ≤ d.gs.length ∧ gtE d.gs = gtE (d.gs.drop i), fun i => d.gs.length - i, 0, ⟨Nat.zero_le _, rfl⟩, Shift.reset ⟨rfl, rfl, rfl, rfl, trivial⟩ ⟨rfl, trivial⟩ rfl rfl, fun i hi => ?_⟩
  obtain ⟨hi1, hi2⟩ := hi
  dsimp only
  conv => whnf
  refine Fork.mk (fun h => ?_) (fun h => ?_)
  · have hi : i < d.gs.length := by simp at h; omega
    clear h
    have hci := List.getElem?_eq_getElem hi
    have hfg := hd.fg _ (List.getElem_mem hi)
    generalize d.gs[i] = g at hci hfg
    rw [drop_of hci, gtE] at hi2
    have hw1 := wr_succ (i := i) (by omega)
    conv => whnf
    refine ⟨by omega, gtC g, by rw [Int.toNat_natCast, List.getElem?_map, hci]; rfl, rfl, ?_⟩
    conv => whnf
    refine ⟨g, rfl, hfg, ?_⟩
    conv => whnf
    refine Fork.mk (fun h => ?_) (fun h => ?_)
    · have h5 : ckG g ≠ 0 := by simpa using h
      rw [if_pos h5] at hi2
      conv => whnf
      exact kI hk (by rw [ckD, if_neg h1, if_neg h3, if_neg h4, hi2, if_pos h5])
    have h5 : ¬ ckG g ≠ 0 := by simpa using h
    rw [if_neg h5] at hi2
    conv => whnf
    rw [hw1]
    exact ⟨i + 1, ⟨hi, hi2⟩, Shift.reset ⟨rfl, rfl, rfl, rfl, trivial⟩ ⟨rfl, trivial⟩ rfl rfl, by omega⟩
  have hie : i = d.gs.length := by simp at h; omega
  clear h
  rw [hie, List.drop_length] at hi2
  have h5 : ¬ gtE d.gs ≠ 0 := by rw [hi2]; simp [gtE]
  clear hi1 hi2 hie
  conv => whnf
  refine Fork.mk (fun h => ?_) (fun h => ?_)
  · conv => whnf
    repeat' ((first | refine fork_t ?_ | refine fork_f ?_ | (refine Fork.mk (fun h => ?_) (fun h => ?_); focus (simp at h; done)) | fail) <;> (conv => whnf))
    exact kI hk (by rw [ckD, if_neg h1, if_neg h3, if_neg h4, if_neg h5, if_pos (by left; simpa using h)])
  conv => whnf
  refine Fork.mk (fun h' => ?_) (fun h' => ?_)
  · conv => whnf
    repeat' ((first | refine fork_t ?_ | refine fork_f ?_ | (refine Fork.mk (fun h => ?_) (fun h => ?_); focus (simp at h; done)) | fail) <;> (conv => whnf))
    exact kI hk (by rw [ckD, if_neg h1, if_neg h3, if_neg h4, if_neg h5, if_pos (by right; simpa using h')])
  conv => whnf
  exact kI hk (by rw [ckD, if_neg h1, if_neg h3, if_neg h4, if_neg h5, if_neg (by simp at h h'; omega)])
theorem crst_ok : FunR Tryz.prog 62 R_crst := by
  intro args k h
  obtain ⟨d, rfl, hd, hk⟩ := h
  refine does_ex (qc := qc1) (np := []) (CK := ckK [(86, cSc R_val)]) mixed Tryz.func62 rfl rfl Tryz.ntmps62 Tryz.results62 τ_ok (by kernel_rfl) (ckK_ok ⟨cSc_ok val_ok, trivial⟩) (by simp) ?_
  conv => whnf
  refine ⟨d.r.st, rfl, (ckS_ok (ckD_ok hd).s).1, ?_⟩
  conv => whnf
  exact hk
end Go.Proofs

namespace Go.Proofs
open Go Go.Abs
set_option linter.unusedSimpArgs false
set_option linter.unusedVariables false
set_option maxRecDepth 4000
theorem dfit_ok : FunR Tryz.prog 60 R_dfit := by
  intro args k h
  obtain ⟨d, s, rfl, hck, hd, hs, hk⟩ := h
  have hmu := eU_len d.us
  have hmg := eG_len d.gs
  have hmz := eQ_len s.us
  have hmy := eS_len s.gs
  have hdu := hd.u
  have hdg := hd.g
  refine does_ex (qc := qc1) (np := []) (CK := ckK [(62, cSc R_crst), (25, cSc R_within), (84, cSc (R_usB validB))]) mixed Tryz.func60 rfl rfl Tryz.ntmps60 Tryz.results60 τ_ok (by kernel_rfl) (ckK_ok ⟨cSc_ok crst_ok, cSc_ok within_ok, cSc_ok valid_ok, trivial⟩) (by simp) ?_
  conv => whnf
  refine ⟨d, rfl, hck, ?_⟩
  conv => whnf
  refine Fork.mk (fun h => ?_) (fun h => ?_)
  · have c1 : inB 0 (valC d.r.st d.r.crest) s.vol = false := by simp [inB] at h ⊢; omega
    conv => whnf
    repeat' ((first | refine fork_t ?_ | refine fork_f ?_ | (refine Fork.mk (fun h => ?_) (fun h => ?_); focus (simp at h; done)) | fail) <;> (conv => whnf))
    exact kBo hk (by simp [fitD, c1])
  have c1 : inB 0 (valC d.r.st d.r.crest) s.vol = true := by simp [inB] at h ⊢; omega
  clear h
  conv => whnf
  refine Fork.mk (fun h => ?_) (fun h => ?_)
  · have c2 : inB 0 1073741824 s.rel = false := by simp [inB] at h ⊢; omega
    conv => whnf
    repeat' ((first | refine fork_t ?_ | refine fork_f ?_ | (refine Fork.mk (fun h => ?_) (fun h => ?_); focus (simp at h; done)) | fail) <;> (conv => whnf))
    exact kBo hk (by simp [fitD, c2])
  have c2 : inB 0 1073741824 s.rel = true := by simp [inB] at h ⊢; omega
  clear h
  conv => whnf
  refine Fork.mk (fun h => ?_) (fun h => ?_)
  · have c3 : ¬ s.us.length = d.us.length := by simp at h; omega
    conv => whnf
    repeat' ((first | refine fork_t ?_ | refine fork_f ?_ | (refine Fork.mk (fun h => ?_) (fun h => ?_); focus (simp at h; done)) | fail) <;> (conv => whnf))
    exact kBo hk (by simp [fitD, c3])
  have c3 : s.us.length = d.us.length := by simp at h; omega
  clear h
  conv => whnf
  refine Fork.mk (fun h => ?_) (fun h => ?_)
  · have c4 : ¬ s.gs.length = d.gs.length := by simp at h; omega
    conv => whnf
    repeat' ((first | refine fork_t ?_ | refine fork_f ?_ | (refine Fork.mk (fun h => ?_) (fun h => ?_); focus (simp at h; done)) | fail) <;> (conv => whnf))
    exact kBo hk (by simp [fitD, c4])
  have c4 : s.gs.length = d.gs.length := by simp at h; omega
  clear h
  have ff : usB d.us s.us = false → fitD d s = false := fun e => by simp [fitD, e]
  have gf : gsB d.gs s.gs = false → fitD d s = false := fun e => by simp [fitD, e]
  conv => whnf
  refine ⟨Nat, fun i => ([(2, .c (.ptr (.l 2 0) 0)), (3, .c (.ptr (.l 3 1) 0)), (40, .c (.lst (eU d.us))), (41, I (eU d.us).length), (42, I i)], ⟨[(.l 2 0, .blk (dmC d)), (.l 3 1, .blk (dtC s))], 9, []⟩),
    fun i => i ≤ d.us.length ∧ usB d.us s.us = usB (d.us.drop i) (s.us.drop i), fun i => d.us.length - i, 0, ⟨Nat.zero_le _, rfl⟩, Shift.reset ⟨rfl, rfl, rfl, rfl, rfl, trivial⟩ ⟨rfl, rfl, trivial⟩ rfl rfl, fun i hi => ?_⟩
  obtain ⟨hi1, hi2⟩ := hi
  dsimp only
  conv => whnf
  refine Fork.mk (fun h => ?_) (fun h => ?_)
  · have hi : i < d.us.length := by simp at h; omega
    clear h
    have hci := List.getElem?_eq_getElem hi
    have hcs := List.getElem?_eq_getElem (show i < s.us.length by omega)
    have hfu := hd.fu _ (List.getElem_mem hi)
    generalize d.us[i] = u at hci hfu
    generalize s.us[i] = z at hcs
    rw [drop_of hci, drop_of hcs, usB] at hi2
    have hw1 := wr_succ (i := i) (by omega)
    conv => whnf
    refine ⟨by omega, unC u, by rw [Int.toNat_natCast, List.getElem?_map, hci]; rfl, rfl, ?_⟩
    conv => whnf
    refine ⟨by omega, usC z, by rw [Int.toNat_natCast, List.getElem?_map, hcs]; rfl, rfl, ?_⟩
    conv => whnf
    refine ⟨u, z, rfl, hfu, ?_⟩
    conv => whnf
    refine Fork.mk (fun h => ?_) (fun h => ?_)
    · have h4 : validB u z = false := by simpa using h
      rw [h4] at hi2
      conv => whnf
      exact kBo hk (ff (by rw [hi2]; rfl))
    have h4 : validB u z = true := by simpa using h
    rw [h4, Bool.true_and] at hi2
    conv => whnf
    rw [hw1]
    exact ⟨i + 1, ⟨hi, hi2⟩, Shift.reset ⟨rfl, rfl, rfl, rfl, rfl, trivial⟩ ⟨rfl, rfl, trivial⟩ rfl rfl, by omega⟩
  have hie : i = d.us.length := by simp at h; omega
  clear h
  rw [hie, List.drop_length] at hi2
  have hub : usB d.us s.us = true := by rw [hi2]; rfl
  clear hi1 hi2 hie
  conv => whnf
  refine ⟨Nat, fun i => ([(3, .c (.ptr (.l 3 1) 0)), (57, .c (.lst (eG d.gs))), (58, I (eG d.gs).length), (59, I i)], ⟨[(.l 3 1, .blk (dtC s))], 9, []⟩),
    fun i => i ≤ d.gs.length ∧ gsB d.gs s.gs = gsB (d.gs.drop i) (s.gs.drop i), fun i => d.gs.length - i, 0, ⟨Nat.zero_le _, rfl⟩, Shift.reset ⟨rfl, rfl, rfl, rfl, trivial⟩ ⟨rfl, trivial⟩ rfl rfl, fun i hi => ?_⟩
  obtain ⟨hi1, hi2⟩ := hi
  dsimp only
  conv => whnf
  refine Fork.mk (fun h => ?_) (fun h => ?_)
  · have hi : i < d.gs.length := by simp at h; omega
    clear h
    have hci := List.getElem?_eq_getElem hi
    have hcs := List.getElem?_eq_getElem (show i < s.gs.length by omega)
    generalize d.gs[i] = g at hci
    generalize s.gs[i] = z at hcs
    rw [drop_of hci, drop_of hcs, gsB] at hi2
    have hw1 := wr_succ (i := i) (by omega)
    conv => whnf
    refine ⟨by omega, gtC g, by rw [Int.toNat_natCast, List.getElem?_map, hci]; rfl, rfl, ?_⟩
    conv => whnf
    refine ⟨by omega, gsC z, by rw [Int.toNat_natCast, List.getElem?_map, hcs]; rfl, rfl, ?_⟩
    conv => whnf
    refine Fork.mk (fun h => ?_) (fun h => ?_)
    · have h4 : okS g z = false := by first | (simp [okS, inB] at h ⊢; omega) | simpa using h
      rw [h4] at hi2
      conv => whnf
      exact kBo hk (gf (by rw [hi2]; rfl))
    have h4 : okS g z = true := by first | (simp [okS, inB] at h ⊢; omega) | simpa using h
    rw [h4, Bool.true_and] at hi2
    conv => whnf
    rw [hw1]
    exact ⟨i + 1, ⟨hi, hi2⟩, Shift.reset ⟨rfl, rfl, rfl, rfl, trivial⟩ ⟨rfl, trivial⟩ rfl rfl, by omega⟩
  have hie : i = d.gs.length := by simp at h; omega
  clear h
  rw [hie, List.drop_length] at hi2
  have hgb : gsB d.gs s.gs = true := by rw [hi2]; rfl
  clear hi1 hi2 hie
  conv => whnf
  exact kBo hk (by simp [fitD, c1, c2, c3, c4, hub, hgb])
end Go.Proofs
