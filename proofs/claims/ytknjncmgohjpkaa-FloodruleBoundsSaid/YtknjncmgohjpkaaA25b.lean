/- Proved here: what functions of the given program come to, for the statements of this chapter; no condition but those in the theorems. -/
import Derived.Test.YtknjncmgohjpkaaA25a
namespace Go.Proofs
open Go Go.Abs
set_option linter.unusedSimpArgs false
set_option linter.unusedVariables false
set_option maxRecDepth 20000
theorem fits_ok : FunR Try.prog 46 R_sound := by
  intro args k h
  obtain ⟨f, s, rfl, hk⟩ := h
  refine does_ex (qc := qc1) (np := []) (CK := ckK []) mixed Try.func46 rfl rfl Try.ntmps46 Try.results46 τ_ok (by kernel_rfl) (ckK_ok trivial) (by simp) ?_
  conv => whnf
  obtain ⟨on, cm⟩ := s
  unfold soundF at hk
  cases on <;> (conv => whnf) <;> (
    (repeat' ((first | refine fork_t ?_ | refine fork_f ?_ | refine Fork.mk (fun h => ?_) (fun h => ?_)) <;> (conv => whnf)))
    all_goals first
      | (refine kBo hk ?_; simp_all; done)
      | (exfalso; simp_all; done)
      | (refine kBo hk ?_; simp at *; omega)
      | (exfalso; simp at *; omega))
theorem kRun {k : AV → Prop} {x y : (Ls × Ls) × Fs × Int} (h : k (runA x)) (e : x = y) : k (runA y) := by subst e; exact h
theorem rrun_ok : FunR Try.prog 27 R_run := by
  intro args k h
  obtain ⟨f, r, s, v, l, rfl, hf, hr, hl, hk⟩ := h
  have hm := eL_len l
  refine does_ex (qc := qc1) (np := []) (CK := ckK [(16, cSc R_fck), (46, cSc R_sound), (47, cSc (R_rs1 levS)), (18, cSc R_nextF), (20, cSc R_relF)]) mixed Try.func27 rfl rfl Try.ntmps27 Try.results27 τ_ok (by kernel_rfl) (ckK_ok ⟨cSc_ok rfck_ok, cSc_ok fits_ok, cSc_ok rlevS_ok, cSc_ok rnext_okF, cSc_ok rrelF_ok, trivial⟩) (by simp) ?_
  conv => whnf
  refine ⟨f, r, rfl, hf, hr, ?_⟩
  conv => whnf
  refine Fork.mk (fun h => ?_) (fun h => ?_)
  · have h1 : fckE f r ≠ 0 := by simpa using h
    conv => whnf
    exact kRun (y := (([], []), ⟨false, 0⟩, fckE f r)) hk (if_pos h1)
  have h1 : ¬ fckE f r ≠ 0 := by simpa using h
  clear h
  conv => whnf
  refine ⟨f, s, rfl, ?_⟩
  conv => whnf
  refine Fork.mk (fun h => ?_) (fun h => ?_)
  · have h2 : soundF f s = false := by simpa using h
    conv => whnf
    exact kRun (y := (([], []), ⟨false, 0⟩, 50)) hk (by unfold runR; rw [if_neg h1, if_pos h2])
  have h2 : ¬ soundF f s = false := by simpa using h
  clear h
  have b1 : (v < 0 ∨ 274877906944 < v ∨ l.any badX = true) → runR f r s v l = (([], []), ⟨false, 0⟩, 1) := fun e => by unfold runR; rw [if_neg h1, if_neg h2, if_pos e]
  conv => whnf
  refine Fork.mk (fun h => ?_) (fun h => ?_)
  · conv => whnf
    (repeat' ((first | refine fork_t ?_ | refine fork_f ?_) <;> (conv => whnf)))
    exact kRun (y := (([], []), ⟨false, 0⟩, 1)) hk (b1 (.inl (by simpa using h)))
  have g1 : ¬ v < 0 := by simpa using h
  clear h
  conv => whnf
  refine Fork.mk (fun h => ?_) (fun h => ?_)
  · conv => whnf
    (repeat' ((first | refine fork_t ?_ | refine fork_f ?_) <;> (conv => whnf)))
    exact kRun (y := (([], []), ⟨false, 0⟩, 1)) hk (b1 (.inr (.inl (by simpa using h))))
  have g2 : ¬ 274877906944 < v := by simpa using h
  clear h
  conv => whnf
  refine ⟨Nat, fun i => ([(3, I v), (4, .c (.lst (eL l))), (5, .c (.ptr (.l 5 0) 0)), (6, .c (.ptr (.l 6 1) 0)), (7, .c (.ptr (.l 7 2) 0)), (12, .c (.ptr (.l 12 3) 0)), (44, .c (.lst (eL l))), (45, I (eL l).length), (46, I i)], ⟨[(.l 5 0, .blk (frC f)), (.l 6 1, .blk (rsC r)), (.l 7 2, .blk (fsC s)), (.l 12 3, .blk [BC false, IC 0])], 20, []⟩),
    fun i => i ≤ l.length ∧ (l.take i).any badX = false, fun i => l.length - i, 0, ⟨Nat.zero_le _, rfl⟩, Shift.reset ⟨rfl, rfl, rfl, rfl, rfl, rfl, rfl, rfl, rfl, trivial⟩ ⟨rfl, rfl, rfl, rfl, trivial⟩ rfl rfl, fun i hi => ?_⟩
  obtain ⟨hi1, hi2⟩ := hi
  dsimp only
  conv => whnf
  refine Fork.mk (fun h => ?_) (fun h => ?_)
  · have hi : i < l.length := by simp at h; omega
    clear h
    have hci := List.getElem?_eq_getElem hi
    have hmem := List.getElem_mem hi
    have e1 : l.take (i + 1) = l.take i ++ [l[i]] := (List.take_append_getElem hi).symm
    generalize l[i] = x at hci e1 hmem
    have hw1 := wr_succ (i := i) (by omega)
    have bad : badX x = true → runR f r s v l = (([], []), ⟨false, 0⟩, 1) := fun e => b1 (.inr (.inr (List.any_eq_true.2 ⟨x, hmem, e⟩)))
    conv => whnf
    refine ⟨by omega, eI x, by rw [Int.toNat_natCast, List.getElem?_map, hci]; rfl, rfl, ?_⟩
    conv => whnf
    refine Fork.mk (fun h => ?_) (fun h => ?_)
    · conv => whnf
      (repeat' ((first | refine fork_t ?_ | refine fork_f ?_) <;> (conv => whnf)))
      exact kRun (y := (([], []), ⟨false, 0⟩, 1)) hk (bad (by simp [badX] at h ⊢; omega))
    conv => whnf
    refine Fork.mk (fun h' => ?_) (fun h' => ?_)
    · conv => whnf
      (repeat' ((first | refine fork_t ?_ | refine fork_f ?_) <;> (conv => whnf)))
      exact kRun (y := (([], []), ⟨false, 0⟩, 1)) hk (bad (by simp [badX] at h h' ⊢; omega))
    conv => whnf
    rw [hw1]
    exact ⟨i + 1, ⟨hi, by rw [e1, List.any_append, hi2]; simp [badX] at h h' ⊢; omega⟩, Shift.reset ⟨rfl, rfl, rfl, rfl, rfl, rfl, rfl, rfl, rfl, trivial⟩ ⟨rfl, rfl, rfl, rfl, trivial⟩ rfl rfl, by omega⟩
  have hie : i = l.length := by simp at h; omega
  clear h
  rw [hie, List.take_length] at hi2
  have g3 : ¬ l.any badX = true := by simp [hi2]
  have g : ¬ (v < 0 ∨ 274877906944 < v ∨ l.any badX = true) := fun e => e.elim g1 fun e => e.elim g2 g3
  clear hi1 hi2 hie
  conv => whnf
  refine Fork.mk (fun h => ?_) (fun h => ?_)
  · have h4 : 400 < l.length := by simp at h; omega
    conv => whnf
    exact kRun (y := (([], []), ⟨false, 0⟩, 10)) hk (by unfold runR; rw [if_neg h1, if_neg h2, if_neg g, if_pos h4])
  have h4 : ¬ 400 < l.length := by simp at h; omega
  clear h
  have hrun : runR f r s v l = runC' f r s v l := by unfold runR; rw [if_neg h1, if_neg h2, if_neg g, if_neg h4]
  rw [hrun] at hk
  clear hrun b1
  have hcm : 0 ≤ s.cm ∧ s.cm ≤ 100 ∧ f.cm ≤ 96 := by
    have h2 : soundF f s = true := by simpa using h2
    simp [soundF] at h2
    have h1 : fckE f r = 0 := by omega
    unfold fckE at h1
    split at h1
    · omega
    split at h1
    · omega
    split at h1
    · omega
    split at h1
    · omega
    omega
  have hx : ∀ x ∈ l, 0 ≤ x ∧ x ≤ 1073741824 := fun x hx => by
    have : badX x = false := by
      cases e : badX x with
      | false => rfl
      | true => exact absurd (List.any_eq_true.2 ⟨x, hx, e⟩) g3
    simp [badX] at this
    omega
  conv => whnf
  refine ⟨Nat × Ls × Ls × Fs × Int, fun y => ([(3, I y.2.2.2.2), (5, .c (.ptr (.l 5 0) 0)), (6, .c (.ptr (.l 6 1) 0)), (7, .c (.ptr (.l 7 2) 0)), (12, .c (.ptr (.l 12 3) 0)), (17, .c (.view (.l 104 20) 0 (y.2.1.length + 1))), (18, .c (.view (.l 108 21) 0 y.2.2.1.length)), (64, .c (.lst (eL l))), (65, I (eL l).length), (66, I y.1)], ⟨[(.l 5 0, .blk (frC f)), (.l 6 1, .blk (rsC r)), (.l 7 2, .blk (fsC y.2.2.2.1)), (.l 12 3, .blk [BC false, IC 0]), (.l 104 20, .arr 3 1 (eL (v :: y.2.1)) false), (.l 108 21, .arr 3 1 (eL y.2.2.1) false)], 40, []⟩),
    fun y => y.1 ≤ l.length ∧ runG f r s v l = (runG f r y.2.2.2.1 y.2.2.2.2 (l.drop y.1)).map (fun z => (y.2.1 ++ z.1, y.2.2.1 ++ z.2.1, z.2.2)) ∧ (0 ≤ y.2.2.2.2 ∧ y.2.2.2.2 ≤ 274877906944) ∧ (0 ≤ y.2.2.2.1.cm ∧ y.2.2.2.1.cm ≤ 100) ∧ y.2.1.length = y.1 ∧ y.2.2.1.length = y.1, fun y => l.length - y.1, (0, [], [], s, v),
    ⟨Nat.zero_le _, optId _, by dsimp only; omega, by dsimp only; omega, rfl, rfl⟩, Shift.trans (Shift.rename [(.l 104 20, .l 63 20)] ⟨rfl, rfl, rfl, rfl, rfl, rfl, rfl, rfl, rfl, rfl, trivial⟩ ⟨rfl, rfl, rfl, rfl, rfl, rfl, trivial⟩ rfl rfl rfl) (Shift.nilArr (t := 18) rfl 108 3 1), fun y hy => ?_⟩
  obtain ⟨i, vs, os, s', v'⟩ := y
  obtain ⟨hi, hE, hv', hs', hvl, hol⟩ := hy
  dsimp only at hi hE hv' hs' hvl hol ⊢
  have hmv := eL_len (v :: vs)
  have hmo := eL_len os
  rw [List.length_cons] at hmv
  conv => whnf
  refine Fork.mk (fun h => ?_) (fun h => ?_)
  rotate_left
  · have hie : i = l.length := by simp at h; omega
    clear h
    rw [hie, List.drop_length] at hE
    conv => whnf
    refine ⟨by rw [hmv, Nat.zero_add]; exact Nat.le_refl _, ?_⟩
    conv => whnf
    refine ⟨by rw [hmo, Nat.zero_add]; exact Nat.le_refl _, ?_⟩
    conv => whnf
    have e0 : runC' f r s v l = ((v :: vs, os), s', 0) := by
      rw [runC', hE]
      simp [runG]
    rw [e0] at hk
    have t1 : List.take (vs.length + 1) (List.drop 0 (eL (v :: vs))) = eL (v :: vs) := by rw [List.drop_zero, List.take_of_length_le (by rw [eL_len]; exact Nat.le_refl _)]
    have t2 : List.take os.length (List.drop 0 (eL os)) = eL os := by rw [List.drop_zero, List.take_of_length_le (by rw [eL_len]; exact Nat.le_refl _)]
    rw [t1, t2]
    exact hk
  have hi2 : i < l.length := by simp at h; omega
  clear h
  have hci := List.getElem?_eq_getElem hi2
  have hxb := hx _ (List.getElem_mem hi2)
  generalize l[i] = x at hci hxb
  rw [drop_of hci, runG] at hE
  have hw1 := wr_succ (i := i) (by omega)
  conv => whnf
  refine ⟨by omega, eI x, by rw [Int.toNat_natCast, List.getElem?_map, hci]; rfl, rfl, ?_⟩
  conv => whnf
  refine ⟨r.st, rfl, hr, ?_⟩
  conv => whnf
  refine ⟨f, s', (levS r v').1, rfl, by omega, ?_⟩
  have hs2 := nextF_cm (x := (levS r v').1) hs' hcm.2.2
  have hout := outS_b (f := f) (r := r) (s := s') hv'.1 hxb.1
  unfold outS at hout hE
  unfold volN outS stS at hE
  unfold stS at hout
  generalize (levS r v').1 = lev at hE hs2 hout
  generalize nextF f s' lev = s2 at hE hs2 hout
  conv => whnf
  refine ⟨f, s2, lev, x, rfl, hf, ?_⟩
  have e1 : IntKind.i64.wrap (v' + x) = v' + x := wrap_in (by omega) (by omega)
  conv => whnf
  rw [e1]
  generalize (if v' + x < (relF f s2 lev x).1 then v' + x else (relF f s2 lev x).1) = o at hE hout ⊢
  have e2 : IntKind.i64.wrap (x - o) = x - o := wrap_in (by omega) (by omega)
  have e3 : IntKind.i64.wrap (v' + (x - o)) = v' + (x - o) := wrap_in (by omega) (by omega)
  rw [e2, e3]
  have hv2 : 0 ≤ v' + (x - o) := by omega
  clear e1 e2 e3
  generalize v' + (x - o) = w at hE hv2 ⊢
  refine Fork.mk (fun h => ?_) (fun h => ?_)
  · have h5 : 274877906944 < w := by simpa using h
    clear h
    conv => whnf
    exact kRun (y := (([], []), ⟨false, 0⟩, 10)) hk (by rw [runC', hE, if_pos h5]; rfl)
  have h5 : ¬ 274877906944 < w := by simpa using h
  clear h
  rw [if_neg h5] at hE
  conv => whnf
  refine ⟨by simp, ?_⟩
  conv => whnf
  refine ⟨rfl, ?_⟩
  conv => whnf
  refine ⟨⟨rfl, rfl, rfl, hmv.symm, by rw [hmv]; simp; omega⟩, ?_⟩
  conv => whnf
  refine ⟨by simp, ?_⟩
  conv => whnf
  refine ⟨rfl, ?_⟩
  conv => whnf
  refine ⟨⟨rfl, rfl, rfl, hmo.symm, by rw [hmo]; simp; omega⟩, ?_⟩
  conv => whnf
  rw [hw1]
  refine ⟨(i + 1, vs ++ [w], os ++ [o], s2, w), ⟨hi2, ?_, by dsimp only; omega, hs2, by dsimp only; rw [List.length_append, hvl]; rfl, by dsimp only; rw [List.length_append, hol]; rfl⟩, Shift.rename [(.l 104 20, .l 104 41), (.l 108 21, .l 108 43)] ⟨rfl, rfl, rfl, rfl, rfl, ?_, ?_, rfl, rfl, rfl, trivial⟩ ⟨rfl, rfl, rfl, rfl, ?_, ?_, trivial⟩ rfl rfl rfl, by dsimp only; omega⟩
  · dsimp only
    rw [hE]
    cases runG f r s2 w (List.drop (i + 1) l) with
    | none => rfl
    | some z => obtain ⟨a, b, c⟩ := z; simp
  · dsimp only; rw [show (vs ++ [w]).length + 1 = (eL (v :: vs)).length + 1 by rw [hmv]; simp]; rfl
  · dsimp only; rw [show (os ++ [o]).length = (eL os).length + 1 by rw [hmo]; simp]; rfl
  · dsimp only; rw [← List.cons_append, ← eL_snoc]; rfl
  · dsimp only; rw [← eL_snoc]; rfl
theorem kKp {k : AV → Prop} {x y : Bool × Int × Int} (h : k (kpA x)) (e : x = y) : k (kpA y) := by subst e; exact h
theorem runG_v {f : Fr} {r : Rs} : ∀ {l : Ls} {s : Fs} {v : Int} {vs os : Ls} {e : Fs}, runG f r s v l = some (vs, os, e) → 0 ≤ v → (∀ x ∈ l, 0 ≤ x ∧ x ≤ 1073741824) → ∀ w ∈ vs, 0 ≤ w ∧ w ≤ 274877906944
  | [], _, _, _, _, _, h, _, _, w, hw => by simp [runG] at h; obtain ⟨rfl, _⟩ := h; simp at hw
  | x :: l, s, v, vs, os, e, h, hv, hx, w, hw => by
    rw [runG] at h
    split at h
    · cases h
    rename_i h5
    split at h
    · cases h
    rename_i vs' os' e' h1
    simp at h
    obtain ⟨rfl, rfl, _⟩ := h
    have hx0 := hx x (by simp)
    have ho := outS_b (f := f) (r := r) (s := s) hv hx0.1
    have hn : 0 ≤ volN f r s v x := by unfold volN; omega
    rcases List.mem_cons.1 hw with rfl | hw
    · omega
    · exact runG_v h1 hn (fun y hy => hx y (by simp [hy])) w hw
theorem rkeeps_ok : FunR Try.prog 30 R_keeps := by
  intro args k h
  obtain ⟨f, r, s, v, l, rfl, hf, hr, hl, hk⟩ := h
  refine does_ex (qc := qc1) (np := []) (CK := ckK [(27, cPu R_run), (25, cSc (R_rs1 volS))]) mixed Try.func30 rfl rfl Try.ntmps30 Try.results30 τ_ok (by kernel_rfl) (ckK_ok ⟨cPu_ok rrun_ok rfl, cSc_ok rvolS_ok, trivial⟩) (by simp) ?_
  conv => whnf
  refine ⟨f, r, s, v, l, rfl, hf, hr, hl, ?_⟩
  conv => whnf
  refine Fork.mk (fun h => ?_) (fun h => ?_)
  · have h1 : (runR f r s v l).2.2 ≠ 0 := by simpa using h
    unfold keepsR at hk
    rw [if_pos h1] at hk
    conv => whnf
    exact hk
  have h1 : (runR f r s v l).2.2 = 0 := by simpa using h
  clear h
  unfold keepsR at hk
  rw [if_neg (by simp [h1])] at hk
  obtain ⟨g1, g2, g3, g4, g5, vs, os, e, g6, g7⟩ := runR_ok h1
  have hvl := (runG_len g6).1
  have hvb := runG_v g6 g3.1 g4
  rw [g7] at hk ⊢
  dsimp only [List.tail_cons] at hk
  have hmv := eL_len (v :: vs)
  rw [List.length_cons] at hmv
  conv => whnf
  refine ⟨Nat × Int, fun y => ([(6, .c (.ptr (.l 6 1) 0)), (17, I y.2), (36, .c (.lst (eL (v :: vs)))), (37, I (eL (v :: vs)).length), (38, I y.1)], ⟨[(.l 6 1, .blk (rsC r))], 20, []⟩),
    fun y => y.1 ≤ vs.length + 1 ∧ mxG v vs = mxG y.2 ((v :: vs).drop y.1), fun y => vs.length + 1 - y.1, (0, 0), ⟨Nat.zero_le _, ?_⟩, Shift.reset ⟨rfl, rfl, rfl, rfl, rfl, trivial⟩ ⟨rfl, trivial⟩ rfl rfl, fun y hy => ?_⟩
  · show _ = mxG 0 (v :: vs)
    rw [mxG]
    by_cases h0 : 0 < v
    · rw [if_pos h0]
    · rw [if_neg h0, show v = 0 by omega]
  obtain ⟨i, m⟩ := y
  obtain ⟨hi, hE⟩ := hy
  dsimp only at hi hE ⊢
  conv => whnf
  refine Fork.mk (fun h => ?_) (fun h => ?_)
  rotate_left
  · have hie : i = vs.length + 1 := by simp at h; omega
    rw [hie, List.drop_eq_nil_of_le (by simp)] at hE
    have hmm : m = mxG v vs := hE.symm
    clear hE
    subst hmm
    conv => whnf
    refine ⟨r.st, rfl, hr, ?_⟩
    conv => whnf
    exact hk
  have hi2 : i < (v :: vs).length := by simp at h; simp; omega
  clear h
  have hci := List.getElem?_eq_getElem hi2
  generalize (v :: vs)[i] = x at hci
  rw [drop_of hci, mxG] at hE
  rw [List.length_cons] at hi2
  have hw1 := wr_succ (i := i) (by omega)
  conv => whnf
  refine ⟨by omega, eI x, by rw [Int.toNat_natCast, List.getElem?_map, hci]; rfl, rfl, ?_⟩
  conv => whnf
  rw [hw1]
  exact ⟨(i + 1, _), ⟨hi2, hE⟩, Shift.reset ⟨rfl, rfl, rfl, rfl, rfl, trivial⟩ ⟨rfl, trivial⟩ rfl rfl, by dsimp only; omega⟩
end Go.Proofs
