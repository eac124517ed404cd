/- Proved here: what functions of the given program come to, for the statements of this chapter; no condition but those in the theorems. -/
import Derived.Test.YtnmijdmpbpnjhaaX5j
namespace Go.Proofs
open Go Go.Abs
set_option linter.unusedSimpArgs false
set_option linter.unusedVariables false
set_option maxRecDepth 4000
def R_hi2 : RT := fun args k => ∃ c : List Pt, args = [.c (.lst (eP c))] ∧ ∀ a b e, (rcCheck c ≠ 0 → a = 0 ∧ b = 0 ∧ e = rcCheck c) → (rcValid c → HiOf (lev c) a b ∧ e = 0) → k (.tup [I a, I b, I e])
theorem highest2_ok : FunR Try.prog 14 R_hi2 := by
  intro args k h
  obtain ⟨c, rfl, hk⟩ := h
  exact highest_ok _ _ ⟨c, rfl, fun hne => hk 0 0 _ (fun _ => ⟨rfl, rfl, rfl⟩) (fun hv => absurd hv hne), fun hv x n hh => hk x n 0 (fun hne => absurd hv hne) (fun _ => ⟨hh, rfl⟩)⟩
theorem rhighest2_ok : FunR Try.prog 20 R_hi2 := by
  intro args k h
  obtain ⟨c, rfl, hk⟩ := h
  exact rhighest_ok _ _ ⟨c, rfl, fun hne => hk 0 0 _ (fun _ => ⟨rfl, rfl, rfl⟩) (fun hv => absurd hv hne), fun hv x n hh => hk x n 0 (fun hne => absurd hv hne) (fun _ => ⟨hh, rfl⟩)⟩
theorem hi_same {c : List Pt} {a b e a' b' e' : Int} (h1 : rcCheck c ≠ 0 → a = 0 ∧ b = 0 ∧ e = rcCheck c) (h2 : rcValid c → HiOf (lev c) a b ∧ e = 0) (h3 : rcCheck c ≠ 0 → a' = 0 ∧ b' = 0 ∧ e' = rcCheck c) (h4 : rcValid c → HiOf (lev c) a' b' ∧ e' = 0) : a' = a ∧ b' = b ∧ e' = e := by
  by_cases h : rcCheck c = 0
  · obtain ⟨p, rfl⟩ := h2 h
    obtain ⟨q, rfl⟩ := h4 h
    obtain ⟨rfl, rfl⟩ := hi_one p q
    exact ⟨rfl, rfl, rfl⟩
  · obtain ⟨rfl, rfl, rfl⟩ := h1 h
    obtain ⟨rfl, rfl, rfl⟩ := h3 h
    exact ⟨rfl, rfl, rfl⟩
theorem all_ok : FunR Try.prog 7 R_all05 := by
  intro args k h
  obtain ⟨raw, rr, l, x, v, rfl, hraw, hrr, hl, hk⟩ := h
  have hr1 := eP_len raw
  refine does_ex (qc := qc1) (np := []) (CK := ckK [(8, cN R_new), (15, cB R_resv), (12, cSc R_mod), (9, cB R_made), (21, cB R_next), (19, cSc R_rcCheck), (10, cSc R_rcCheck), (14, cSc R_hi2), (20, cSc R_hi2), (13, cSc R_rcAt), (22, cSc R_rcAt), (16, cSc R_tgt), (23, cSc R_tgt), (17, cSc R_sur), (24, cSc R_sur), (11, cSc R_true)]) mixed Try.func7 rfl rfl Try.ntmps7 Try.results7 τ_ok (by kernel_rfl) (ckK_ok ⟨cN_ok new_ok rfl, cB_ok resv_ok rfl, cSc_ok mod_ok, cB_ok made_ok rfl, cB_ok next_ok rfl, cSc_ok rcCheck_ok, cSc_ok rCheck_ok, cSc_ok highest2_ok, cSc_ok rhighest2_ok, cSc_ok at_ok, cSc_ok rAtR_ok, cSc_ok tgt_ok, cSc_ok rtgt_ok, cSc_ok sur_ok, cSc_ok rsur_ok, cSc_ok awake_ok, trivial⟩) (by simp) ?_
  conv => whnf
  refine Fork.mk (fun h => ?_) (fun h => ?_)
  · conv => whnf
    exact hk
  clear h
  conv => whnf
  refine ⟨l, rfl, ?_⟩
  conv => whnf
  refine ⟨⟨l, 0⟩, rfl, ⟨Nat.zero_le _, hl⟩, fun r d hd hm hst => ?_⟩
  conv => whnf
  refine ⟨d, rfl, hd, fun c0 d hd hc1 hc2 hc3 => ?_⟩
  conv => whnf
  obtain ⟨cs, hcs⟩ : ∃ cs : List (List Pt), cs = [c0, raw] := ⟨_, rfl⟩
  refine ⟨Nat × Dk, fun s => ([(3, I x), (4, I v), (6, .c (.ptr (.l 6 0) 0)), (11, .c (.ptr (.l 42 1) 0)), (12, .c (.ptr (.l 12 2) 0)), (48, .c (.view (.l 48 3) 0 2)), (49, I 2), (50, I s.1)], ⟨[(.l 6 0, .blk (rsC rr)), (.l 42 1, .blk (dkC s.2)), (.l 12 2, .blk (rsC r)), (.l 48 3, .arr 25 1 (cs.map fun c => [.lst (eP c)]) false)], 20, []⟩),
    fun s => s.2.ok ∧ s.1 ≤ 2, fun s => 2 - s.1, (0, d), ⟨hd, by omega⟩, ?_, fun s hs => ?_⟩
  · subst hcs
    exact Shift.reset ⟨rfl, rfl, rfl, rfl, rfl, rfl, rfl, rfl, trivial⟩ ⟨rfl, rfl, rfl, rfl, trivial⟩ rfl rfl
  have hcn : cs.length = 2 := by rw [hcs]; rfl
  clear hcs hd
  obtain ⟨i, d⟩ := s
  obtain ⟨hd, hi⟩ := hs
  dsimp only at hd hi ⊢
  conv => whnf
  refine Fork.mk (fun h => ?_) (fun h => ?_)
  rotate_left
  · conv => whnf
    exact hk
  have hi : i < 2 := by simp at h; omega
  clear h
  have hci := List.getElem?_eq_getElem (show i < cs.length by omega)
  generalize cs[i] = c at hci
  have hw1 := wr_succ (i := i) (by omega)
  conv => whnf
  refine ⟨by omega, rfl, ?_⟩
  conv => whnf
  refine ⟨[.lst (eP c)], by rw [Nat.zero_add, Int.toNat_natCast, List.getElem?_map, hci]; rfl, ?_⟩
  conv => whnf
  refine ⟨c, rfl, ?_⟩
  conv => whnf
  refine ⟨c, rfl, ?_⟩
  conv => whnf
  repeat' ((first | refine fork_t ?_ | refine fork_f ?_ | (refine Fork.mk (fun h => ?_) (fun h => ?_); focus (simp at h; done))  | fail) <;> (conv => whnf))
  refine ⟨c, rfl, fun ha hb he hh1 hh2 => ?_⟩
  conv => whnf
  refine ⟨c, rfl, fun ha' hb' he' hh3 hh4 => ?_⟩
  obtain ⟨rfl, rfl, rfl⟩ := hi_same hh1 hh2 hh3 hh4
  conv => whnf
  clear hh1 hh2 hh3 hh4
  repeat' ((first | refine fork_t ?_ | refine fork_f ?_ | (refine Fork.mk (fun h => ?_) (fun h => ?_); focus (simp at h; done))  | fail) <;> (conv => whnf))
  have hx0 := Int.emod_nonneg x (show (367 : Int) ≠ 0 by omega)
  have hx1 := Int.emod_lt_of_pos x (show (0 : Int) < 367 by omega)
  refine ⟨by omega, ?_⟩
  conv => whnf
  refine ⟨d, rfl, hd, by omega, fun w d hd hw3 hw4 => ?_⟩
  conv => whnf
  obtain ⟨qs, hqs⟩ : ∃ qs : Ls, qs = [x, IntKind.i64.wrap (x % 367 - 1), w] := ⟨_, rfl⟩
  refine ⟨Nat, fun j => ([(3, I x), (4, I v), (6, .c (.ptr (.l 6 0) 0)), (11, .c (.ptr (.l 42 1) 0)), (12, .c (.ptr (.l 12 2) 0)), (14, .c (.lst (eP c))), (48, .c (.view (.l 48 3) 0 2)), (49, I 2), (50, I i), (90, .c (.view (.l 90 20) 0 3)), (91, I 3), (92, I j)], ⟨[(.l 6 0, .blk (rsC rr)), (.l 42 1, .blk (dkC d)), (.l 12 2, .blk (rsC r)), (.l 48 3, .arr 25 1 (cs.map fun c => [.lst (eP c)]) false), (.l 90 20, .arr 3 1 (eL qs) false)], 100, []⟩),
    fun j => j ≤ 3, fun j => 3 - j, 0, Nat.zero_le _, ?_, fun j hj => ?_⟩
  · subst hqs
    exact Shift.reset ⟨rfl, rfl, rfl, rfl, rfl, rfl, rfl, rfl, rfl, rfl, rfl, rfl, trivial⟩ ⟨rfl, rfl, rfl, rfl, rfl, trivial⟩ rfl rfl
  have hqn : qs.length = 3 := by rw [hqs]; rfl
  clear hqs
  dsimp only
  conv => whnf
  refine Fork.mk (fun h => ?_) (fun h => ?_)
  rotate_left
  · conv => whnf
    rw [hw1]
    exact ⟨(i + 1, d), ⟨hd, hi⟩, Shift.reset ⟨rfl, rfl, rfl, rfl, rfl, rfl, rfl, rfl, trivial⟩ ⟨rfl, rfl, rfl, rfl, trivial⟩ rfl rfl, by dsimp only; omega⟩
  have hj : j < 3 := by simp at h; omega
  clear h
  have hcj := List.getElem?_eq_getElem (show j < qs.length by omega)
  generalize qs[j] = q at hcj
  have hw2 := wr_succ (i := j) (by omega)
  conv => whnf
  refine ⟨by omega, rfl, ?_⟩
  conv => whnf
  refine ⟨eI q, by rw [Nat.zero_add, Int.toNat_natCast, List.getElem?_map, hcj]; rfl, ?_⟩
  conv => whnf
  refine ⟨c, rfl, ?_⟩
  conv => whnf
  refine ⟨c, rfl, ?_⟩
  conv => whnf
  repeat' ((first | refine fork_t ?_ | refine fork_f ?_ | (refine Fork.mk (fun h => ?_) (fun h => ?_); focus (simp at h; done))  | fail) <;> (conv => whnf))
  obtain ⟨ys, hys⟩ : ∃ ys : List Rs, ys = [r, rr] := ⟨_, rfl⟩
  refine ⟨Nat, fun m => ([(3, I x), (4, I v), (6, .c (.ptr (.l 6 0) 0)), (11, .c (.ptr (.l 42 1) 0)), (12, .c (.ptr (.l 12 2) 0)), (14, .c (.lst (eP c))), (22, I q), (48, .c (.view (.l 48 3) 0 2)), (49, I 2), (50, I i), (90, .c (.view (.l 90 20) 0 3)), (91, I 3), (92, I j), (118, .c (.view (.l 118 100) 0 2)), (119, I 2), (120, I m)], ⟨[(.l 6 0, .blk (rsC rr)), (.l 42 1, .blk (dkC d)), (.l 12 2, .blk (rsC r)), (.l 48 3, .arr 25 1 (cs.map fun c => [.lst (eP c)]) false), (.l 90 20, .arr 3 1 (eL qs) false), (.l 118 100, .arr 40 6 (ys.map rsC) false)], 200, []⟩),
    fun m => m ≤ 2, fun m => 2 - m, 0, Nat.zero_le _, ?_, fun m hm' => ?_⟩
  · subst hys
    exact Shift.reset ⟨rfl, rfl, rfl, rfl, rfl, rfl, rfl, rfl, rfl, rfl, rfl, rfl, rfl, rfl, rfl, rfl, trivial⟩ ⟨rfl, rfl, rfl, rfl, rfl, rfl, trivial⟩ rfl rfl
  have hyn : ys.length = 2 ∧ ∀ y ∈ ys, y.st.length ≤ 9223372036854775807 := by
    rw [hys]
    refine ⟨rfl, fun y hy => ?_⟩
    simp at hy
    rcases hy with rfl | rfl
    · omega
    · exact hrr
  clear hys
  dsimp only
  conv => whnf
  refine Fork.mk (fun h => ?_) (fun h => ?_)
  rotate_left
  · conv => whnf
    rw [hw2]
    exact ⟨j + 1, hj, Shift.reset ⟨rfl, rfl, rfl, rfl, rfl, rfl, rfl, rfl, rfl, rfl, rfl, rfl, trivial⟩ ⟨rfl, rfl, rfl, rfl, rfl, trivial⟩ rfl rfl, by omega⟩
  have hm2 : m < 2 := by simp at h; omega
  clear h
  have hcm := List.getElem?_eq_getElem (show m < ys.length by omega)
  have hz := hyn.2 _ (List.getElem_mem (show m < ys.length by omega))
  generalize ys[m] = z at hcm hz
  have hw3 := wr_succ (i := m) (by omega)
  conv => whnf
  refine ⟨by omega, rfl, ?_⟩
  conv => whnf
  refine ⟨rsC z, by rw [Nat.zero_add, Int.toNat_natCast, List.getElem?_map, hcm]; rfl, ?_⟩
  conv => whnf
  refine ⟨z, c, q, rfl, hz, ?_⟩
  conv => whnf
  refine ⟨z, c, q, rfl, hz, ?_⟩
  conv => whnf
  refine ⟨z, c, q, v, rfl, hz, ?_⟩
  conv => whnf
  refine ⟨z, c, q, v, rfl, hz, ?_⟩
  conv => whnf
  repeat' ((first | refine fork_t ?_ | refine fork_f ?_ | (refine Fork.mk (fun h => ?_) (fun h => ?_); focus (simp at h; done))  | fail) <;> (conv => whnf))
  rw [hw3]
  exact ⟨m + 1, hm2, Shift.reset ⟨rfl, rfl, rfl, rfl, rfl, rfl, rfl, rfl, rfl, rfl, rfl, rfl, rfl, rfl, rfl, rfl, trivial⟩ ⟨rfl, rfl, rfl, rfl, rfl, rfl, trivial⟩ rfl rfl, by omega⟩
end Go.Proofs
