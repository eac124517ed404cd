/- Proved here: what functions of the given program come to, for the statements of this chapter; no condition but those in the theorems. -/
import Derived.Test.YtnaggkcpagbolaaO18
namespace Go.Proofs
open Go Go.Abs
set_option linter.unusedSimpArgs false
set_option linter.unusedVariables false
set_option maxRecDepth 4000
def R_steps18 : RT := fun args k => ∃ (u : Un) (s : Us) (l : Ls) (x : Int), args = [.agg (unC u), .agg (usC s), .c (.lst (eL l)), I x] ∧ u.fin ∧ l.length ≤ 9223372036854775807 ∧ k (Bo true)
theorem steps_ok : FunR Try.prog 3 R_steps18 := by
  intro args k h
  obtain ⟨raw, rs, l, x, rfl, hraw, hl, hk⟩ := h
  have hr1 := eP_len raw.rg
  have hr2 := eP_len raw.tb
  refine does_ex (qc := qc1) (np := [(8, [(0, 4), (1, 4)]), (16, [(4, 6)])]) (CK := ckK [(9, cN R_new), (10, cB R_mkU), (11, cB R_mkS), (16, cSc R_mod), (13, cB R_odd18), (12, cB R_next), (14, cSc (R_usB validB)), (15, cSc (R_usB validB)), (17, cSc R_nextS), (18, cSc R_nextS), (19, cSc (R_usQB mayV)), (20, cSc (R_usQB mayV)), (8, cSc R_tt)]) mixed Try.func3 rfl rfl Try.ntmps3 Try.results3 τ_ok (by kernel_rfl) (ckK_ok ⟨cN_ok new_ok rfl, cB_ok mkU_ok rfl, cB_ok mkS_ok rfl, cSc_ok mod_ok, cB_ok odd_ok rfl, cB_ok next_ok rfl, cSc_ok valid_ok, cSc_ok rvalid_ok, cSc_ok next_ok', cSc_ok rnext_ok, cSc_ok May_ok, cSc_ok rMay_ok, cSc_ok awake_ok, trivial⟩) (by simp) ?_
  conv => whnf
  refine Fork.mk (fun h => ?_) (fun h => ?_)
  · conv => whnf
    repeat' ((first | refine fork_t ?_ | refine fork_f ?_ | (refine Fork.mk (fun h => ?_) (fun h => ?_); focus (simp at h; done))  | refine ⟨rfl, ?_⟩ | fail) <;> (conv => whnf))
    exact hk
  conv => whnf
  refine Fork.mk (fun h => ?_) (fun h => ?_)
  · conv => whnf
    repeat' ((first | refine fork_t ?_ | refine fork_f ?_ | (refine Fork.mk (fun h => ?_) (fun h => ?_); focus (simp at h; done))  | refine ⟨rfl, ?_⟩ | fail) <;> (conv => whnf))
    exact hk
  clear h
  conv => whnf
  refine ⟨l, rfl, ?_⟩
  conv => whnf
  refine ⟨⟨l, 0⟩, rfl, rfl, ⟨Nat.zero_le _, hl⟩, fun u d hd hu => ?_⟩
  conv => whnf
  refine ⟨d, u, rfl, rfl, hd, hu, fun s d hd hs => ?_⟩
  conv => whnf
  have hlu := (ckC_ne hu.ok.c).2
  have hru := hu.ok.n
  refine ⟨d, rfl, hd, by omega, fun x0 d hd hx1 hx2 => ?_⟩
  obtain ⟨j, rfl⟩ : ∃ j : Nat, x0 = j := ⟨x0.toNat, by omega⟩
  obtain ⟨y, hy⟩ := at4 (-1) 999 1000 1001 (show j < 4 by omega)
  conv => whnf
  refine ⟨by omega, rfl, ?_⟩
  conv => whnf
  refine ⟨[IC y], by rw [Int.toNat_natCast]; exact hy, ?_⟩
  conv => whnf
  clear hy hx1 hx2
  refine ⟨d, u, rfl, rfl, hd, ⟨by omega, by omega⟩, fun u2 d hd hu2 => ?_⟩
  conv => whnf
  obtain ⟨us, hus, hfin⟩ : ∃ us : List Un, us = [u, raw, u2] ∧ ∀ z ∈ us, z.fin := ⟨_, rfl, fun z hz => by
    simp at hz
    rcases hz with rfl | rfl | rfl
    · exact hu.fin
    · exact hraw
    · exact hu2⟩
  obtain ⟨t, ht⟩ : ∃ t : Us, t = ⟨s.fl, y, s.ot⟩ := ⟨_, rfl⟩
  refine ⟨Nat × Dk, fun w => ([(3, I x), (5, .c (.ptr (.l 5 1) 0)), (9, .c (.ptr (.l 37 2) 0)), (11, .c (.ptr (.l 11 4) 0)), (12, .c (.ptr (.l 12 5) 0)), (55, .c (.view (.l 55 7) 0 3)), (56, I 3), (57, I w.1)], ⟨[(.l 5 1, .blk (usC rs)), (.l 37 2, .blk (dkC w.2)), (.l 11 4, .blk (usC s)), (.l 12 5, .blk (usC t)), (.l 55 7, .arr 25 6 (us.map unC) false)], 20, []⟩),
    fun w => w.2.ok ∧ w.1 ≤ 3, fun w => 3 - w.1, (0, d), ⟨hd, by omega⟩, ?_, fun w hw => ?_⟩
  · subst hus
    subst ht
    exact Shift.reset ⟨rfl, rfl, rfl, rfl, rfl, rfl, rfl, rfl, trivial⟩ ⟨rfl, rfl, rfl, rfl, rfl, trivial⟩ rfl rfl
  have hun : us.length = 3 := by rw [hus]; rfl
  clear hus
  obtain ⟨i, d⟩ := w
  obtain ⟨hd, hi⟩ := hw
  dsimp only at hd hi ⊢
  conv => whnf
  refine Fork.mk (fun h => ?_) (fun h => ?_)
  rotate_left
  · conv => whnf
    repeat' ((first | refine fork_t ?_ | refine fork_f ?_ | (refine Fork.mk (fun h => ?_) (fun h => ?_); focus (simp at h; done))  | refine ⟨rfl, ?_⟩ | fail) <;> (conv => whnf))
    exact hk
  have hi : i < 3 := by simp at h; omega
  clear h
  have hci := List.getElem?_eq_getElem (show i < us.length by omega)
  have hz := hfin _ (List.getElem_mem (show i < us.length by omega))
  generalize us[i] = z at hci hz
  have hw1 := wr_succ (i := i) (by omega)
  conv => whnf
  refine ⟨by omega, rfl, ?_⟩
  conv => whnf
  refine ⟨unC z, by rw [Nat.zero_add, Int.toNat_natCast, List.getElem?_map, hci]; rfl, ?_⟩
  conv => whnf
  obtain ⟨ss, hss⟩ : ∃ ss : List Us, ss = [s, rs, t] := ⟨_, rfl⟩
  refine ⟨Nat × Dk, fun w => ([(3, I x), (5, .c (.ptr (.l 5 1) 0)), (9, .c (.ptr (.l 37 2) 0)), (11, .c (.ptr (.l 11 4) 0)), (12, .c (.ptr (.l 12 5) 0)), (14, .c (.ptr (.l 14 20) 0)), (55, .c (.view (.l 55 7) 0 3)), (56, I 3), (57, I i), (64, .c (.view (.l 64 21) 0 3)), (65, I 3), (66, I w.1)], ⟨[(.l 5 1, .blk (usC rs)), (.l 37 2, .blk (dkC w.2)), (.l 11 4, .blk (usC s)), (.l 12 5, .blk (usC t)), (.l 55 7, .arr 25 6 (us.map unC) false), (.l 14 20, .blk (unC z)), (.l 64 21, .arr 27 3 (ss.map usC) false)], 100, []⟩),
    fun w => w.2.ok ∧ w.1 ≤ 3, fun w => 3 - w.1, (0, d), ⟨hd, by omega⟩, ?_, fun w hw => ?_⟩
  · subst hss
    exact Shift.reset ⟨rfl, rfl, rfl, rfl, rfl, rfl, rfl, rfl, rfl, rfl, rfl, rfl, trivial⟩ ⟨rfl, rfl, rfl, rfl, rfl, rfl, rfl, trivial⟩ rfl rfl
  have hsn : ss.length = 3 := by rw [hss]; rfl
  clear hss hd
  obtain ⟨j, d⟩ := w
  obtain ⟨hd, hj⟩ := hw
  dsimp only at hd hj ⊢
  conv => whnf
  refine Fork.mk (fun h => ?_) (fun h => ?_)
  rotate_left
  · conv => whnf
    rw [hw1]
    exact ⟨(i + 1, d), ⟨hd, hi⟩, Shift.reset ⟨rfl, rfl, rfl, rfl, rfl, rfl, rfl, rfl, trivial⟩ ⟨rfl, rfl, rfl, rfl, rfl, trivial⟩ rfl rfl, by dsimp only; omega⟩
  have hj : j < 3 := by simp at h; omega
  clear h
  have hcj := List.getElem?_eq_getElem (show j < ss.length by omega)
  generalize ss[j] = w at hcj
  have hw2 := wr_succ (i := j) (by omega)
  conv => whnf
  refine ⟨by omega, rfl, ?_⟩
  conv => whnf
  refine ⟨usC w, by rw [Nat.zero_add, Int.toNat_natCast, List.getElem?_map, hcj]; rfl, ?_⟩
  conv => whnf
  refine ⟨z, w, rfl, hz, ?_⟩
  conv => whnf
  refine ⟨z, w, rfl, hz, ?_⟩
  conv => whnf
  repeat' ((first | refine fork_t ?_ | refine fork_f ?_ | (refine Fork.mk (fun h => ?_) (fun h => ?_); focus (simp at h; done))  | fail) <;> (conv => whnf))
  refine ⟨by omega, ?_⟩
  conv => whnf
  refine ⟨d, rfl, hd, by omega, fun v d hd hv1 hv2 => ?_⟩
  conv => whnf
  obtain ⟨qs, hqs⟩ : ∃ qs : Ls, qs = [x, x % 24, 0, s.fl, v] := ⟨_, rfl⟩
  refine ⟨Nat, fun m => ([(3, I x), (5, .c (.ptr (.l 5 1) 0)), (9, .c (.ptr (.l 37 2) 0)), (11, .c (.ptr (.l 11 4) 0)), (12, .c (.ptr (.l 12 5) 0)), (14, .c (.ptr (.l 14 20) 0)), (16, .c (.ptr (.l 16 100) 0)), (55, .c (.view (.l 55 7) 0 3)), (56, I 3), (57, I i), (64, .c (.view (.l 64 21) 0 3)), (65, I 3), (66, I j), (84, .c (.view (.l 84 101) 0 5)), (85, I 5), (86, I m)], ⟨[(.l 5 1, .blk (usC rs)), (.l 37 2, .blk (dkC d)), (.l 11 4, .blk (usC s)), (.l 12 5, .blk (usC t)), (.l 55 7, .arr 25 6 (us.map unC) false), (.l 14 20, .blk (unC z)), (.l 64 21, .arr 27 3 (ss.map usC) false), (.l 16 100, .blk (usC w)), (.l 84 101, .arr 3 1 (eL qs) false)], 300, []⟩),
    fun m => m ≤ 5, fun m => 5 - m, 0, Nat.zero_le _, ?_, fun m hm => ?_⟩
  · subst hqs
    exact Shift.reset ⟨rfl, rfl, rfl, rfl, rfl, rfl, rfl, rfl, rfl, rfl, rfl, rfl, rfl, rfl, rfl, rfl, trivial⟩ ⟨rfl, rfl, rfl, rfl, rfl, rfl, rfl, rfl, rfl, trivial⟩ rfl rfl
  have hqn : qs.length = 5 := by rw [hqs]; rfl
  clear hqs
  dsimp only
  conv => whnf
  refine Fork.mk (fun h => ?_) (fun h => ?_)
  rotate_left
  · conv => whnf
    rw [hw2]
    exact ⟨(j + 1, d), ⟨hd, hj⟩, Shift.reset ⟨rfl, rfl, rfl, rfl, rfl, rfl, rfl, rfl, rfl, rfl, rfl, rfl, trivial⟩ ⟨rfl, rfl, rfl, rfl, rfl, rfl, rfl, trivial⟩ rfl rfl, by dsimp only; omega⟩
  have hm : m < 5 := by simp at h; omega
  clear h
  have hcm := List.getElem?_eq_getElem (show m < qs.length by omega)
  generalize qs[m] = q at hcm
  have hw3 := wr_succ (i := m) (by omega)
  conv => whnf
  refine ⟨by omega, rfl, ?_⟩
  conv => whnf
  refine ⟨eI q, by rw [Nat.zero_add, Int.toNat_natCast, List.getElem?_map, hcm]; rfl, ?_⟩
  conv => whnf
  refine ⟨z, w, q, rfl, hz, ?_⟩
  conv => whnf
  refine ⟨z, w, q, rfl, hz, ?_⟩
  conv => whnf
  repeat' ((first | refine fork_t ?_ | refine fork_f ?_ | (refine Fork.mk (fun h => ?_) (fun h => ?_); focus (simp at h; done))  | refine ⟨z, w, q, rfl, hz, ?_⟩ | fail) <;> (conv => whnf))
  rw [hw3]
  exact ⟨m + 1, hm, Shift.reset ⟨rfl, rfl, rfl, rfl, rfl, rfl, rfl, rfl, rfl, rfl, rfl, rfl, rfl, rfl, rfl, rfl, trivial⟩ ⟨rfl, rfl, rfl, rfl, rfl, rfl, rfl, rfl, rfl, trivial⟩ rfl rfl, by omega⟩
end Go.Proofs
