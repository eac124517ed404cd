/- Proved here: what functions of the given program come to, and the plain laws of it; no condition but those in the theorems. -/
import Derived.Test.YtknjncmgohjpkaaY25
namespace Go.Proofs
open Go Go.Abs
set_option linter.unusedSimpArgs false
set_option linter.unusedVariables false
set_option maxRecDepth 40000
noncomputable def genSteps : Gen Try.prog := ⟨62, Try.f62, bodyF Try.f62, _, [], qc1, ckK [(63, cSc (R_rs1 levS)), (14, cSc R_nextF), (19, cSc R_relF)], Try.func62, rfl, rfl, Try.ntmps62, Try.results62, by kernel_rfl, ckK_ok ⟨cSc_ok levS_ok, cSc_ok next_okF, cSc_ok relF_ok, trivial⟩⟩
def runR (f : Fr) (r : Rs) (s : Fs) (v : Int) (l : Ls) : (Ls × Ls) × Fs × Int := if fckE f r ≠ 0 then (([], []), ⟨false, 0⟩, fckE f r) else if soundF f s = false then (([], []), ⟨false, 0⟩, 50) else if v < 0 ∨ 274877906944 < v ∨ l.any badX = true then (([], []), ⟨false, 0⟩, 1) else if 400 < l.length then (([], []), ⟨false, 0⟩, 10) else runC' f r s v l
abbrev runA (x : (Ls × Ls) × Fs × Int) : AV := .tup [.c (.lst (eL x.1.1)), .c (.lst (eL x.1.2)), .agg (fsC x.2.1), I x.2.2]
def R_run : RT := fun args k => ∃ (f : Fr) (r : Rs) (s : Fs) (v : Int) (l : Ls), args = [.agg (frC f), .agg (rsC r), .agg (fsC s), I v, .c (.lst (eL l))] ∧ f.t.fin ∧ r.st.length ≤ 9223372036854775807 ∧ l.length ≤ 9223372036854775807 ∧ k (runA (runR f r s v l))
theorem runA_eq {x y : (Ls × Ls) × Fs × Int} (h : x = y) : runA x = runA y := by rw [h]
theorem run_ok : FunR Try.prog 26 R_run := by
  intro args k h
  obtain ⟨f, r, s, v, l, rfl, hf, hr, hl, hk⟩ := h
  have hCK : ∀ f args d m k, ckK [(15, cSc R_fck), (42, cSc R_sound), (43, cSc R_cnF), (45, cH R_steps)] f args d m k → callK Try.prog qc1 f args d m k := ckK_ok ⟨cSc_ok fck_ok, cSc_ok sound_ok, cSc_ok cnF_ok, cH_ok steps_ok rfl, trivial⟩
  refine ⟨_, doesT_of (qc := qc1) (np := [(17, [(0, 2), (0, 6), (2, 4), (2, 6), (3, 4), (3, 6), (4, 6)]), (18, [(1, 6), (5, 6), (5, 7)])]) (CK := ckK [(15, cSc R_fck), (42, cSc R_sound), (43, cSc R_cnF), (45, cH R_steps)]) (RC := rcN τ [(17, [(0, 2), (0, 6), (2, 4), (2, 6), (3, 4), (3, 6), (4, 6)]), (18, [(1, 6), (5, 6), (5, 7)])] (ckK [(15, cSc R_fck), (42, cSc R_sound), (43, cSc R_cnF), (45, cH R_steps)]) qc1 78 genSteps) mixed Try.func26 rfl rfl Try.ntmps26 Try.results26 τ_ok (by kernel_rfl) hCK (rcN_ok τ_ok hCK mixed genSteps) (by simp) ?_, hk⟩
  conv => whnf
  refine ⟨f, r, rfl, hf, hr, ?_⟩
  conv => whnf
  refine Fork.mk (fun h => ?_) (fun h => ?_)
  · have h1 : fckE f r ≠ 0 := by simpa using h
    conv => whnf
    exact runA_eq (y := (([], []), ⟨false, 0⟩, fckE f r)) (if_pos h1)
  have h1 : ¬ fckE f r ≠ 0 := by simpa using h
  clear h
  conv => whnf
  refine ⟨f, s, rfl, ?_⟩
  conv => whnf
  refine Fork.mk (fun h => ?_) (fun h => ?_)
  · have h2 : soundF f s = false := by simpa using h
    conv => whnf
    exact runA_eq (y := (([], []), ⟨false, 0⟩, 50)) (by unfold runR; rw [if_neg h1, if_pos h2])
  have h2 : ¬ soundF f s = false := by simpa using h
  clear h
  conv => whnf
  have b1 : (v < 0 ∨ 274877906944 < v ∨ l.any badX = true) → runR f r s v l = (([], []), ⟨false, 0⟩, 1) := fun e => by unfold runR; rw [if_neg h1, if_neg h2, if_pos e]
  refine Fork.mk (fun h => ?_) (fun h => ?_)
  · conv => whnf
    (repeat' ((first | refine fork_t ?_ | refine fork_f ?_) <;> (conv => whnf)))
    exact runA_eq (y := (([], []), ⟨false, 0⟩, 1)) (b1 (.inl (by simpa using h)))
  have g1 : ¬ v < 0 := by simpa using h
  clear h
  conv => whnf
  refine Fork.mk (fun h => ?_) (fun h => ?_)
  · conv => whnf
    (repeat' ((first | refine fork_t ?_ | refine fork_f ?_) <;> (conv => whnf)))
    exact runA_eq (y := (([], []), ⟨false, 0⟩, 1)) (b1 (.inr (.inl (by simpa using h))))
  have g2 : ¬ 274877906944 < v := by simpa using h
  clear h
  conv => whnf
  refine ⟨l, rfl, hl, ?_⟩
  conv => whnf
  refine Fork.mk (fun h => ?_) (fun h => ?_)
  · conv => whnf
    exact runA_eq (y := (([], []), ⟨false, 0⟩, 1)) (b1 (.inr (.inr h)))
  have g3 : ¬ l.any badX = true := by simp [h]
  clear h b1
  have g : ¬ (v < 0 ∨ 274877906944 < v ∨ l.any badX = true) := fun e => e.elim g1 fun e => e.elim g2 g3
  have hm := eL_len l
  conv => whnf
  refine Fork.mk (fun h => ?_) (fun h => ?_)
  · have h4 : 400 < l.length := by simp at h; omega
    conv => whnf
    exact runA_eq (y := (([], []), ⟨false, 0⟩, 10)) (by unfold runR; rw [if_neg h1, if_neg h2, if_neg g, if_pos h4])
  have h4 : ¬ 400 < l.length := by simp at h; omega
  clear h
  have hrun : runR f r s v l = runC' f r s v l := by unfold runR; rw [if_neg h1, if_neg h2, if_neg g, if_neg h4]
  rw [hrun]
  clear hrun
  conv => whnf
  refine ⟨[.l 52 7], rfl, ?_⟩
  conv => whnf
  refine ⟨rfl, ?_⟩
  conv => whnf
  refine ⟨rfl, ?_⟩
  conv => whnf
  refine ⟨f, r, s, v, l, rfl, rfl, ?_⟩
  conv => whnf
  refine ⟨⟨⟨rfl, rfl⟩, ⟨rfl, rfl⟩, rfl⟩, ?_⟩
  conv => whnf
  refine ⟨_, rfl, Nat.le_of_ble_eq_true rfl, [.l 52 7, .l 58 12, .l 2106 12, .l 10 3, .l 11 4, .l 12 5, .l 13 6, .l 16 10, .l 17 11], [.l 54 8, .l 55 9], rfl, rfl, ?_⟩
  conv => whnf
  refine ⟨rfl, rfl, fun L => ?_⟩
  conv => whnf
  have hcm : 0 ≤ s.cm ∧ s.cm ≤ 100 ∧ f.cm ≤ 96 := by
    have h2 : soundF f s = true := by simpa using h2
    simp [soundF] at h2
    have h1 : fckE f r = 0 := by omega
    unfold fckE at h1
    split at h1
    · omega
    split at h1
    · omega
    split at h1
    · omega
    split at h1
    · omega
    omega
  have hx : ∀ x ∈ l, 0 ≤ x ∧ x ≤ 1073741824 := fun x hx => by
    have : badX x = false := by
      cases e : badX x with
      | false => rfl
      | true => exact absurd (List.any_eq_true.2 ⟨x, hx, e⟩) g3
    simp [badX] at this
    omega
  refine ⟨Nat × Ls × Ls × Fs × Int, fun y => ([(0, yV L), (2, .c (.ptr (.x 1) 0)), (10, .c (.lst (eL l))), (11, I (eL l).length), (12, I y.1)], ⟨[(.x 0, .blk (opC f r y.2.2.2.1 y.2.2.2.2)), (.x 1, .blk [.ptr (.x 0) 0]), (.x 2, .blk [.lst (eL l)]), (.x 3, .blk [.sc (.slice none 0 0)]), (.x 4, .blk [.sc (.slice none 0 0)]), (.x 5, .blk [BC false, IC 0]), (.x 6, .blk [IC 0]), (.x 7, .blk [.view (.l 67 0) 0 (y.2.1.length + 1)]), (.x 8, .blk [.view (.l 71 0) 0 y.2.2.1.length]), (.l 67 0, .arr 3 1 (eL (v :: y.2.1)) false), (.l 71 0, .arr 3 1 (eL y.2.2.1) false)], 20, []⟩),
    fun y => y.1 ≤ l.length ∧ runG f r s v l = (runG f r y.2.2.2.1 y.2.2.2.2 (l.drop y.1)).map (fun z => (y.2.1 ++ z.1, y.2.2.1 ++ z.2.1, z.2.2)) ∧ (0 ≤ y.2.2.2.2 ∧ y.2.2.2.2 ≤ 274877906944) ∧ (0 ≤ y.2.2.2.1.cm ∧ y.2.2.2.1.cm ≤ 100) ∧ y.2.1.length = y.1 ∧ y.2.2.1.length = y.1, fun y => l.length - y.1, (0, [], [], s, v),
    ⟨Nat.zero_le _, optId _, by dsimp only; omega, by dsimp only; omega, rfl, rfl⟩, Shift.rename [(.l 67 0, .x 9), (.l 71 0, .x 10)] ⟨rfl, rfl, rfl, rfl, rfl, trivial⟩ ⟨rfl, rfl, rfl, rfl, rfl, rfl, rfl, rfl, rfl, rfl, rfl, trivial⟩ rfl rfl rfl, fun y hy => ?_⟩
  obtain ⟨i, vs, os, s', v'⟩ := y
  obtain ⟨hi, hE, hv', hs', hvl, hol⟩ := hy
  dsimp only at hi hE hv' hs' hvl hol ⊢
  conv => whnf
  refine Fork.mk (fun h => ?_) (fun h => ?_)
  rotate_left
  · have hie : i = l.length := by simp at h; omega
    clear h
    rw [hie, List.drop_length] at hE
    conv => whnf
    refine ⟨[.l 67 0, .l 71 0], [67, 71], ⟨rfl, rfl, rfl, rfl⟩, ?_⟩
    conv => whnf
    refine ⟨rfl, rfl, ?_⟩
    conv => whnf
    refine ⟨by rw [eL_len, Nat.zero_add]; exact Nat.le_refl _, ?_⟩
    conv => whnf
    refine ⟨by rw [eL_len, Nat.zero_add]; exact Nat.le_refl _, ?_⟩
    conv => whnf
    have e0 : runC' f r s v l = ((v :: vs, os), s', 0) := by
      rw [runC', hE]
      simp [runG]
    rw [e0]
    have t1 : List.take (vs.length + 1) (List.drop 0 (eL (v :: vs))) = eL (v :: vs) := by rw [List.drop_zero, List.take_of_length_le (by rw [eL_len]; exact Nat.le_refl _)]
    have t2 : List.take os.length (List.drop 0 (eL os)) = eL os := by rw [List.drop_zero, List.take_of_length_le (by rw [eL_len]; exact Nat.le_refl _)]
    rw [t1, t2]
    exact rfl
  have hi2 : i < l.length := by simp at h; omega
  clear h
  have hci := List.getElem?_eq_getElem hi2
  have hxb := hx _ (List.getElem_mem hi2)
  generalize l[i] = x at hci hxb
  rw [drop_of hci, runG] at hE
  have hw1 := wr_succ (i := i) (by omega)
  conv => whnf
  refine ⟨by omega, eI x, by rw [Int.toNat_natCast, List.getElem?_map, hci]; rfl, rfl, ?_⟩
  conv => whnf
  refine ⟨r.st, rfl, hr, ?_⟩
  conv => whnf
  refine ⟨f, s', (levS r v').1, rfl, by omega, ?_⟩
  have hs2 := nextF_cm (x := (levS r v').1) hs' hcm.2.2
  have hout := outS_b (f := f) (r := r) (s := s') hv'.1 hxb.1
  unfold outS at hout hE
  unfold volN outS stS at hE
  unfold stS at hout
  generalize (levS r v').1 = lev at hE hs2 hout
  generalize nextF f s' lev = s2 at hE hs2 hout
  conv => whnf
  refine ⟨f, s2, lev, x, rfl, hf, ?_⟩
  have e1 : IntKind.i64.wrap (v' + x) = v' + x := wrap_in (by omega) (by omega)
  conv => whnf
  rw [e1]
  refine ⟨rfl, ?_⟩
  conv => whnf
  refine ⟨rfl, ?_⟩
  conv => whnf
  generalize (if v' + x < (relF f s2 lev x).1 then v' + x else (relF f s2 lev x).1) = o at hE hout ⊢
  have e2 : IntKind.i64.wrap (x - o) = x - o := wrap_in (by omega) (by omega)
  have e3 : IntKind.i64.wrap (v' + (x - o)) = v' + (x - o) := wrap_in (by omega) (by omega)
  rw [e2, e3]
  have hv2 : 0 ≤ v' + (x - o) := by omega
  clear e1 e2 e3
  generalize v' + (x - o) = w at hE hv2 ⊢
  refine Fork.mk (fun h => ?_) (fun h => ?_)
  · have h5 : 274877906944 < w := by simpa using h
    clear h
    conv => whnf
    refine ⟨[.l 67 0, .l 71 0], [67, 71], ⟨rfl, rfl, rfl, rfl⟩, ?_⟩
    conv => whnf
    refine ⟨rfl, rfl, ?_⟩
    conv => whnf
    exact runA_eq (y := (([], []), ⟨false, 0⟩, 10)) (by rw [runC', hE, if_pos h5]; rfl)
  have h5 : ¬ 274877906944 < w := by simpa using h
  clear h
  rw [if_neg h5] at hE
  conv => whnf
  have hmv := eL_len (v :: vs)
  have hmo := eL_len os
  rw [List.length_cons] at hmv
  refine ⟨by simp, ?_⟩
  conv => whnf
  refine ⟨rfl, ?_⟩
  conv => whnf
  refine ⟨⟨rfl, rfl, rfl, hmv.symm, by rw [hmv]; simp; omega⟩, ?_⟩
  conv => whnf
  refine ⟨by simp, ?_⟩
  conv => whnf
  refine ⟨rfl, ?_⟩
  conv => whnf
  refine ⟨⟨rfl, rfl, rfl, hmo.symm, by rw [hmo]; simp; omega⟩, ?_⟩
  conv => whnf
  rw [hw1]
  refine ⟨(i + 1, vs ++ [w], os ++ [o], s2, w), ⟨hi2, ?_, by dsimp only; omega, hs2, by dsimp only; rw [List.length_append, hvl]; rfl, by dsimp only; rw [List.length_append, hol]; rfl⟩, Shift.rename [(.l 67 0, .l 67 20), (.l 71 0, .l 71 20)] ⟨rfl, rfl, rfl, rfl, rfl, trivial⟩ ⟨rfl, rfl, rfl, rfl, rfl, rfl, rfl, ?_, ?_, ?_, ?_, trivial⟩ rfl rfl rfl, by dsimp only; omega⟩
  · dsimp only
    rw [hE]
    cases runG f r s2 w (List.drop (i + 1) l) with
    | none => rfl
    | some z => obtain ⟨a, b, c⟩ := z; simp
  · dsimp only; rw [show (vs ++ [w]).length + 1 = (eL (v :: vs)).length + 1 by rw [hmv]; simp]; rfl
  · dsimp only; rw [show (os ++ [o]).length = (eL os).length + 1 by rw [hmo]; simp]; rfl
  · dsimp only; rw [← List.cons_append, ← eL_snoc]; rfl
  · dsimp only; rw [← eL_snoc]; rfl
end Go.Proofs

namespace Go.Proofs
open Go Go.Abs
set_option linter.unusedSimpArgs false
set_option linter.unusedVariables false
set_option maxRecDepth 4000
def R_ints : RT := fun args k => ∃ a b : Ls, args = [.c (.lst (eL a)), .c (.lst (eL b))] ∧ a.length ≤ 9223372036854775807 ∧ k (Bo (decide (a = b)))
theorem ints_ok : FunR Try.prog 28 R_ints := by
  intro args k h
  obtain ⟨a, b, rfl, hl, hk⟩ := h
  have hma := eL_len a
  have hmb := eL_len b
  refine does_ex (qc := qc1) (np := []) (CK := ckK []) mixed Try.func28 rfl rfl Try.ntmps28 Try.results28 τ_ok (by kernel_rfl) (ckK_ok trivial) (by simp) ?_
  conv => whnf
  refine Fork.mk (fun h => ?_) (fun h => ?_)
  · have h1 : a ≠ b := fun e => by subst e; simp at h
    conv => whnf
    rw [decide_eq_false h1] at hk
    exact hk
  · have h1 : a.length = b.length := by simp at h; omega
    conv => whnf
    refine ⟨Nat, fun i => ([(0, .c (.lst (eL a))), (1, .c (.lst (eL b))), (12, I (eL a).length), (13, I i)], ⟨[], 0, []⟩), fun i => i ≤ a.length ∧ a.take i = b.take i, fun i => a.length - i, 0, ⟨Nat.zero_le _, rfl⟩,
      Shift.reset ⟨rfl, rfl, rfl, rfl, trivial⟩ trivial rfl rfl, fun i hi => ?_⟩
    obtain ⟨hi1, hi2⟩ := hi
    dsimp only
    conv => whnf
    refine Fork.mk (fun h => ?_) (fun h => ?_)
    · have hi : i < a.length := by simp at h; omega
      have hib : i < b.length := by omega
      have hata := List.getElem?_eq_getElem hi
      have hatb := List.getElem?_eq_getElem hib
      have e1 : a.take (i + 1) = a.take i ++ [a[i]] := (List.take_append_getElem hi).symm
      have e2 : b.take (i + 1) = b.take i ++ [b[i]] := (List.take_append_getElem hib).symm
      have hx : a[i] ≠ b[i] → a ≠ b := fun h e => by subst e; exact h rfl
      generalize a[i] = x at hata e1 hx
      generalize b[i] = y at hatb e2 hx
      conv => whnf
      refine ⟨by omega, eI x, by rw [Int.toNat_natCast, List.getElem?_map, hata]; rfl, rfl, ?_⟩
      conv => whnf
      refine ⟨by omega, eI y, by rw [Int.toNat_natCast, List.getElem?_map, hatb]; rfl, rfl, ?_⟩
      conv => whnf
      refine Fork.mk (fun h => ?_) (fun h => ?_)
      · have hxy : x ≠ y := by simpa using h
        conv => whnf
        rw [decide_eq_false (hx hxy)] at hk
        exact hk
      · have hxy : x = y := by simpa using h
        conv => whnf
        rw [wr_succ (i := i) (by omega)]
        refine ⟨i + 1, ⟨hi, by rw [e1, e2, hi2, hxy]⟩, Shift.reset ⟨rfl, rfl, rfl, rfl, trivial⟩ trivial rfl rfl, ?_⟩
        show a.length - (i + 1) < a.length - i
        omega
    · have hie : i = a.length := by simp at h; omega
      subst hie
      rw [List.take_length, h1, List.take_length] at hi2
      rw [decide_eq_true hi2] at hk
      conv => whnf
      exact hk
def R_flw : RB := fun cs args k => ∃ (d : Dk) (N : Nat) (most : Int), args = [I N, I most] ∧ cs = dkC d ∧ d.ok ∧ N ≤ 1000 ∧ (1 ≤ most ∧ most ≤ 1000) ∧ ∀ (l : Ls) d', Dk.ok d' → l.length = N → (∀ x ∈ l, 0 ≤ x ∧ x < most) → k (.c (.lst (eL l))) (dkC d')
theorem flows_ok : FunB Try.prog 24 R_flw := by
  intro cs args k h
  obtain ⟨d, N, most, rfl, rfl, hd, hN, hm, hk⟩ := h
  refine doesB_ex (qc := qc1) (np := []) (CK := ckK [(23, cB R_next)]) mixed Try.func24 rfl rfl Try.ntmps24 Try.results24 τ_ok (by kernel_rfl) (ckK_ok ⟨cB_ok next_ok rfl, trivial⟩) (by simp) rfl rfl ?_
  conv => whnf
  refine ⟨Ls × Dk, fun s => ([(0, .c (.ptr (.x 0) 0)), (2, I most), (7, .c (.view (.l 16 0) 0 s.1.length)), (8, I N), (9, I s.1.length)], ⟨[(.x 0, .blk (dkC s.2)), (.l 16 0, .arr 3 1 (eL s.1) false)], 1, []⟩),
    fun s => s.2.ok ∧ s.1.length ≤ N ∧ ∀ x ∈ s.1, 0 ≤ x ∧ x < most, fun s => N - s.1.length, ([], d), ⟨hd, Nat.zero_le _, by simp⟩,
    Shift.trans (Shift.rename [] ⟨rfl, rfl, rfl, rfl, rfl, trivial⟩ ⟨rfl, rfl, trivial⟩ rfl rfl rfl) (Shift.nilArr (t := 7) rfl 16 3 1), fun s hs => ?_⟩
  obtain ⟨l, d⟩ := s
  obtain ⟨h1, h2, h3⟩ := hs
  dsimp only at h1 h2 h3 ⊢
  have hml := eL_len l
  conv => whnf
  refine Fork.mk (fun h => ?_) (fun h => ?_)
  · have h4 : l.length < N := by simp at h; omega
    conv => whnf
    refine ⟨d, rfl, h1, by omega, fun v d hd hv1 hv2 => ?_⟩
    conv => whnf
    refine ⟨by simp, ?_⟩
    conv => whnf
    refine ⟨rfl, ?_⟩
    conv => whnf
    refine ⟨⟨rfl, rfl, rfl, hml.symm, by rw [hml]; simp; omega⟩, ?_⟩
    conv => whnf
    have hw1 : IntKind.i64.wrap ((l.length : Int) + 1) = (((l ++ [v]).length : Nat) : Int) := by rw [wrap_in (by omega) (by omega)]; simp
    rw [hw1]
    refine ⟨(l ++ [v], d), ⟨hd, by simp; omega, fun x hx => ?_⟩, Shift.rename [(.l 16 0, .l 16 2)] ⟨rfl, rfl, ?_, rfl, rfl, trivial⟩ ⟨rfl, ?_, trivial⟩ rfl rfl rfl, ?_⟩
    · rcases List.mem_append.1 hx with hx | hx
      · exact h3 x hx
      · simp at hx; subst hx; omega
    · dsimp only
      rw [show (l ++ [v]).length = (eL l).length + 1 by rw [hml]; simp]; rfl
    · dsimp only
      rw [← eL_snoc]; rfl
    · show N - (l ++ [v]).length < N - l.length
      simp; omega
  · have h4 : l.length = N := by simp at h; omega
    conv => whnf
    refine ⟨by rw [hml]; omega, ?_⟩
    conv => whnf
    exact leaf_l l rfl rfl (hk l d h1 h4 h3)
def R_max : RT := fun args k => ∃ (x : Int) (l : Ls), args = [.c (.lst (eL (x :: l)))] ∧ l.length < 9223372036854775807 ∧ k (I (mxG x l))
theorem max_ok : FunR Try.prog 49 R_max := by
  intro args k h
  obtain ⟨x0, l, rfl, hl, hk⟩ := h
  have hm := eL_len (x0 :: l)
  rw [List.length_cons] at hm
  refine does_ex (qc := qc1) (np := []) (CK := ckK []) mixed Try.func49 rfl rfl Try.ntmps49 Try.results49 τ_ok (by kernel_rfl) (ckK_ok trivial) (by simp) ?_
  conv => whnf
  refine Fork.mk (fun h => ?_) (fun h => ?_)
  · exfalso; simp at h; omega
  clear h
  conv => whnf
  refine ⟨by omega, eI x0, rfl, rfl, ?_⟩
  conv => whnf
  refine ⟨Nat × Int, fun y => ([(0, .c (.lst (eL (x0 :: l)))), (3, I y.2), (4, I (y.1 + 1 : Nat))], ⟨[], 9, []⟩),
    fun y => y.1 ≤ l.length ∧ mxG x0 l = mxG y.2 (l.drop y.1), fun y => l.length - y.1, (0, x0), ⟨Nat.zero_le _, rfl⟩, Shift.reset ⟨rfl, rfl, rfl, trivial⟩ trivial rfl rfl, fun y hy => ?_⟩
  obtain ⟨i, m⟩ := y
  obtain ⟨hi, hE⟩ := hy
  dsimp only at hi hE ⊢
  conv => whnf
  refine Fork.mk (fun h => ?_) (fun h => ?_)
  rotate_left
  · have hie : i = l.length := by simp at h; omega
    rw [hie, List.drop_length] at hE
    rw [hE] at hk
    conv => whnf
    exact hk
  have hi2 : i < l.length := by simp at h; omega
  clear h
  have hci := List.getElem?_eq_getElem hi2
  generalize l[i] = x at hci
  rw [drop_of hci, mxG] at hE
  have hw1 : IntKind.i64.wrap (((i + 1 : Nat) : Int) + 1) = ((i + 1 + 1 : Nat) : Int) := wr_succ (i := i + 1) (by omega)
  conv => whnf
  refine ⟨by omega, eI x, by rw [Int.toNat_natCast, List.getElem?_map, List.getElem?_cons_succ, hci]; rfl, rfl, ?_⟩
  conv => whnf
  rw [hw1]
  exact ⟨(i + 1, _), ⟨hi2, hE⟩, Shift.reset ⟨rfl, rfl, rfl, trivial⟩ trivial rfl rfl, by dsimp only; omega⟩
def keepsR (f : Fr) (r : Rs) (s : Fs) (v : Int) (l : Ls) : Bool × Int × Int := if (runR f r s v l).2.2 ≠ 0 then (false, 0, (runR f r s v l).2.2) else (decide (mxG v (runR f r s v l).1.1.tail ≤ (volS r r.sur).1), mxG v (runR f r s v l).1.1.tail, 0)
abbrev kpA (x : Bool × Int × Int) : AV := .tup [Bo x.1, I x.2.1, I x.2.2]
def R_keeps : RT := fun args k => ∃ (f : Fr) (r : Rs) (s : Fs) (v : Int) (l : Ls), args = [.agg (frC f), .agg (rsC r), .agg (fsC s), I v, .c (.lst (eL l))] ∧ f.t.fin ∧ r.st.length ≤ 9223372036854775807 ∧ l.length ≤ 9223372036854775807 ∧ k (kpA (keepsR f r s v l))
theorem runR_ok {f : Fr} {r : Rs} {s : Fs} {v : Int} {l : Ls} (h : (runR f r s v l).2.2 = 0) : fckE f r = 0 ∧ soundF f s = true ∧ (0 ≤ v ∧ v ≤ 274877906944) ∧ (∀ x ∈ l, 0 ≤ x ∧ x ≤ 1073741824) ∧ l.length ≤ 400 ∧ ∃ vs os e, runG f r s v l = some (vs, os, e) ∧ runR f r s v l = ((v :: vs, os), e, 0) := by
  unfold runR at h ⊢
  split at h
  · rename_i h1; exact absurd h h1
  rename_i h1
  rw [if_neg h1]
  split at h
  · cases h
  rename_i h2
  rw [if_neg h2]
  split at h
  · cases h
  rename_i h3
  rw [if_neg h3]
  split at h
  · cases h
  rename_i h4
  rw [if_neg h4]
  unfold runC' at h ⊢
  split at h
  · cases h
  rename_i vs os e hE
  refine ⟨by omega, by simpa using h2, by omega, fun x hx => ?_, by omega, vs, os, e, hE, rfl⟩
  have : badX x = false := by
    cases e : badX x with
    | false => rfl
    | true => exact absurd (.inr (.inr (List.any_eq_true.2 ⟨x, hx, e⟩))) h3
  simp [badX] at this
  omega
theorem runG_len {f : Fr} {r : Rs} : ∀ {l : Ls} {s : Fs} {v : Int} {vs os : Ls} {e : Fs}, runG f r s v l = some (vs, os, e) → vs.length = l.length ∧ os.length = l.length
  | [], _, _, _, _, _, h => by simp [runG] at h; obtain ⟨rfl, rfl, _⟩ := h; exact ⟨rfl, rfl⟩
  | x :: l, s, v, vs, os, e, h => by
    rw [runG] at h
    split at h
    · cases h
    split at h
    · cases h
    rename_i h1
    obtain ⟨q1, q2⟩ := runG_len h1
    simp at h
    obtain ⟨rfl, rfl, _⟩ := h
    simp [q1, q2]
theorem fck_ckS {f : Fr} {r : Rs} (h : fckE f r = 0) : ckS r = 0 := by
  unfold fckE at h
  split at h
  · rename_i e; exact absurd h e
  · omega
theorem sur_ask {r : Rs} (h : ckS r = 0) : askS r 0 r.sur = 0 := by
  obtain ⟨hc, hlen, hlast, hrise, hsrt⟩ := ckS_ok h
  have a := srt_lv h
  have b := dead_in h
  unfold askS
  rw [if_neg (by simp [h]), if_pos]
  simp [inB]
  omega
theorem keeps_ok : FunR Try.prog 29 R_keeps := by
  intro args k h
  obtain ⟨f, r, s, v, l, rfl, hf, hr, hl, hk⟩ := h
  refine does_ex (qc := qc1) (np := []) (CK := ckK [(26, cPu R_run), (48, cSc (R_rs1 volS)), (49, cSc R_max)]) mixed Try.func29 rfl rfl Try.ntmps29 Try.results29 τ_ok (by kernel_rfl) (ckK_ok ⟨cPu_ok run_ok rfl, cSc_ok volS_ok, cSc_ok max_ok, trivial⟩) (by simp) ?_
  conv => whnf
  refine ⟨f, r, s, v, l, rfl, hf, hr, hl, ?_⟩
  conv => whnf
  refine Fork.mk (fun h => ?_) (fun h => ?_)
  · have h1 : (runR f r s v l).2.2 ≠ 0 := by simpa using h
    unfold keepsR at hk
    rw [if_pos h1] at hk
    conv => whnf
    exact hk
  have h1 : (runR f r s v l).2.2 = 0 := by simpa using h
  clear h
  unfold keepsR at hk
  rw [if_neg (by simp [h1])] at hk
  obtain ⟨g1, g2, g3, g4, g5, vs, os, e, g6, g7⟩ := runR_ok h1
  have hvl := (runG_len g6).1
  rw [g7] at hk ⊢
  dsimp only [List.tail_cons] at hk
  have e0 : (volS r r.sur).2 = 0 := by unfold volS; rw [if_neg (by simp [sur_ask (fck_ckS g1)])]
  conv => whnf
  refine ⟨r.st, rfl, hr, ?_⟩
  conv => whnf
  refine Fork.mk (fun h => ?_) (fun h => ?_)
  · exfalso
    have h : (volS r r.sur).2 ≠ 0 := by simpa using h
    exact h e0
  clear h
  conv => whnf
  refine ⟨v, vs, rfl, by omega, ?_⟩
  conv => whnf
  exact hk
end Go.Proofs
