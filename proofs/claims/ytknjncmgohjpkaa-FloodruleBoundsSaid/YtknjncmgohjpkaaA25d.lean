/- Proved here: what functions of the given program come to, and the plain laws of it; no condition but those in the theorems. -/
import Derived.Test.YtknjncmgohjpkaaA25b
import Derived.Test.YtknjncmgohjpkaaAbsQ
namespace Go.Proofs
open Go Go.Abs
set_option linter.unusedSimpArgs false
set_option linter.unusedVariables false
set_option maxRecDepth 4000
theorem runR_len (f : Fr) (r : Rs) (s : Fs) (v : Int) (l : Ls) : (runR f r s v l).1.1.length ≤ l.length + 1 ∧ (runR f r s v l).1.2.length ≤ l.length := by
  by_cases h : (runR f r s v l).2.2 = 0
  · obtain ⟨_, _, _, _, _, vs, os, e, h1, h2⟩ := runR_ok h
    obtain ⟨q1, q2⟩ := runG_len h1
    rw [h2]
    simp [q1, q2]
  · unfold runR at h ⊢
    split
    · simp
    rename_i h1
    rw [if_neg h1] at h
    split
    · simp
    rename_i h2
    rw [if_neg h2] at h
    split
    · simp
    rename_i h3
    rw [if_neg h3] at h
    split
    · simp
    rename_i h4
    rw [if_neg h4] at h
    unfold runC' at h ⊢
    split
    · simp
    · rename_i h5
      rw [h5] at h
      exact absurd rfl h
def R_runs25 : RT := fun args k => ∃ (l : Ls) (volume : Int) (inflows : Ls) (s : Fs), args = [.c (.lst (eL l)), I volume, .c (.lst (eL inflows)), .agg (fsC s)] ∧ l.length ≤ 9223372036854775807 ∧ inflows.length ≤ 9223372036854775807 ∧ k (Bo true)
theorem runs25_ok : FunR Try.prog 6 R_runs25 := by
  intro args k h
  obtain ⟨l, volume, inflows, s, rfl, hl, hil, hk⟩ := h
  have hmi := eL_len inflows
  refine does_ex (qc := qc1) (np := []) (CK := ckK [(8, cSc R_tt), (9, cSc R_few), (10, cN R_new), (12, cB R_resv), (11, cB R_mkF), (23, cB R_next), (24, cB R_flw), (17, cB R_state), (26, cPu R_run), (27, cPu R_run), (28, cSc R_ints), (29, cSc R_keeps), (30, cSc R_keeps)]) mixed Try.func6 rfl rfl Try.ntmps6 Try.results6 τ_ok (by kernel_rfl) (ckK_ok ⟨cSc_ok sane_ok, cSc_ok few_ok, cN_ok new_ok rfl, cB_ok resv_ok rfl, cB_ok rule_ok rfl, cB_ok next_ok rfl, cB_ok flows_ok rfl, cB_ok state_ok rfl, cPu_ok run_ok rfl, cPu_ok rrun_ok rfl, cSc_ok ints_ok, cSc_ok keeps_ok, cSc_ok rkeeps_ok, trivial⟩) (by simp) ?_
  conv => whnf
  refine ⟨rfl, ?_⟩
  conv => whnf
  refine fork_f ?_
  conv => whnf
  refine ⟨l, rfl, ?_⟩
  conv => whnf
  refine Fork.mk (fun h => ?_) (fun h => ?_)
  · conv => whnf
    repeat' ((first | refine fork_t ?_ | refine fork_f ?_ | (refine Fork.mk (fun h => ?_) (fun h => ?_); focus (simp at h; done)) | fail) <;> (conv => whnf))
    exact hk
  clear h
  conv => whnf
  refine Fork.mk (fun h => ?_) (fun h => ?_)
  · conv => whnf
    repeat' ((first | refine fork_t ?_ | refine fork_f ?_ | (refine Fork.mk (fun h => ?_) (fun h => ?_); focus (simp at h; done)) | fail) <;> (conv => whnf))
    exact hk
  have hi600 : inflows.length ≤ 600 := by simp at h; omega
  clear h
  conv => whnf
  refine ⟨l, rfl, ?_⟩
  conv => whnf
  refine ⟨⟨l, 0⟩, rfl, ⟨Nat.zero_le _, hl⟩, fun res d hd hres hresl => ?_⟩
  have hrl := hres.lv
  have hrh := hres.hi
  have hrz := hres.lo
  conv => whnf
  refine ⟨d, res, rfl, rfl, hd, by omega, fun f d hd hf => ?_⟩
  have hfb := hf.b
  have hfe := hf.e
  have hfc := hf.c
  have hff := hf.t.fin
  have hr2 : res.st.length ≤ 9223372036854775807 := by omega
  conv => whnf
  refine ⟨d, rfl, hd, by omega, fun n d hd hn1 hn2 => ?_⟩
  obtain ⟨N, rfl⟩ := Int.eq_ofNat_of_zero_le hn1
  conv => whnf
  refine ⟨d, N, 30, rfl, rfl, hd, by omega, by omega, fun made d hd hml hmb => ?_⟩
  conv => whnf
  refine ⟨d, rfl, hd, by omega, fun x d hd hx1 hx2 => ?_⟩
  conv => whnf
  refine ⟨d, f, rfl, rfl, hd, by omega, fun st d hd hs _ => ?_⟩
  conv => whnf
  obtain ⟨vs, hvs⟩ : ∃ vs : Ls, vs = [volume, x] := ⟨_, rfl⟩
  refine ⟨Nat, fun i => ([(2, .c (.lst (eL inflows))), (7, .c (.ptr (.l 7 0) 0)), (10, .c (.ptr (.l 10 2) 0)), (11, .c (.ptr (.l 11 3) 0)), (12, .c (.lst (eL made))), (14, .c (.ptr (.l 14 4) 0)), (63, .c (.view (.l 63 5) 0 2)), (64, I 2), (65, I i)], ⟨[(.l 7 0, .blk (fsC s)), (.l 10 2, .blk (rsC res)), (.l 11 3, .blk (frC f)), (.l 14 4, .blk (fsC st)), (.l 63 5, .arr 3 1 (eL vs) false)], 20, []⟩),
    fun i => i ≤ 2, fun i => 2 - i, 0, by omega, ?_, fun i hi => ?_⟩
  · subst hvs
    exact Shift.reset ⟨rfl, rfl, rfl, rfl, rfl, rfl, rfl, rfl, rfl, trivial⟩ ⟨rfl, rfl, rfl, rfl, rfl, trivial⟩ rfl rfl
  have hvn : vs.length = 2 := by rw [hvs]; rfl
  clear hvs
  dsimp only
  conv => whnf
  refine Fork.mk (fun h => ?_) (fun h => ?_)
  rotate_left
  · conv => whnf
    exact hk
  have hi : i < 2 := by simp at h; omega
  clear h
  have hci := List.getElem?_eq_getElem (show i < vs.length by omega)
  generalize vs[i] = v at hci
  have hw1 := wr_succ (i := i) (by omega)
  conv => whnf
  refine ⟨by omega, rfl, ?_⟩
  conv => whnf
  refine ⟨eI v, by rw [Nat.zero_add, Int.toNat_natCast, List.getElem?_map, hci]; rfl, ?_⟩
  conv => whnf
  obtain ⟨rws, hrws, hrb⟩ : ∃ rws : List Ls, rws = [inflows, made] ∧ ∀ r ∈ rws, r.length ≤ 1000 := ⟨_, rfl, fun r hr => by
    simp at hr
    rcases hr with rfl | rfl <;> omega⟩
  refine ⟨Nat, fun j => ([(2, .c (.lst (eL inflows))), (7, .c (.ptr (.l 7 0) 0)), (10, .c (.ptr (.l 10 2) 0)), (11, .c (.ptr (.l 11 3) 0)), (12, .c (.lst (eL made))), (14, .c (.ptr (.l 14 4) 0)), (16, I v), (63, .c (.view (.l 63 5) 0 2)), (64, I 2), (65, I i), (71, .c (.view (.l 71 20) 0 2)), (72, I 2), (73, I j)], ⟨[(.l 7 0, .blk (fsC s)), (.l 10 2, .blk (rsC res)), (.l 11 3, .blk (frC f)), (.l 14 4, .blk (fsC st)), (.l 63 5, .arr 3 1 (eL vs) false), (.l 71 20, .arr 22 1 (eW rws) false)], 40, []⟩),
    fun j => j ≤ 2, fun j => 2 - j, 0, by omega, ?_, fun j hj => ?_⟩
  · subst hrws
    exact Shift.reset ⟨rfl, rfl, rfl, rfl, rfl, rfl, rfl, rfl, rfl, rfl, rfl, rfl, rfl, trivial⟩ ⟨rfl, rfl, rfl, rfl, rfl, rfl, trivial⟩ rfl rfl
  have hrn : rws.length = 2 := by rw [hrws]; rfl
  clear hrws
  dsimp only
  conv => whnf
  refine Fork.mk (fun h => ?_) (fun h => ?_)
  rotate_left
  · conv => whnf
    rw [hw1]
    exact ⟨i + 1, by omega, Shift.reset ⟨rfl, rfl, rfl, rfl, rfl, rfl, rfl, rfl, rfl, trivial⟩ ⟨rfl, rfl, rfl, rfl, rfl, trivial⟩ rfl rfl, by omega⟩
  have hj : j < 2 := by simp at h; omega
  clear h
  have hcj := List.getElem?_eq_getElem (show j < rws.length by omega)
  have hrl2 := hrb _ (List.getElem_mem (show j < rws.length by omega))
  generalize rws[j] = rw0 at hcj hrl2
  have hw2 := wr_succ (i := j) (by omega)
  conv => whnf
  refine ⟨by omega, rfl, ?_⟩
  conv => whnf
  refine ⟨rwC rw0, by rw [Nat.zero_add, Int.toNat_natCast, List.getElem?_map, hcj]; rfl, ?_⟩
  conv => whnf
  obtain ⟨ss, hss⟩ : ∃ ss : List Fs, ss = [s, st] := ⟨_, rfl⟩
  refine ⟨Nat, fun m => ([(2, .c (.lst (eL inflows))), (7, .c (.ptr (.l 7 0) 0)), (10, .c (.ptr (.l 10 2) 0)), (11, .c (.ptr (.l 11 3) 0)), (12, .c (.lst (eL made))), (14, .c (.ptr (.l 14 4) 0)), (16, I v), (18, .c (.lst (eL rw0))), (63, .c (.view (.l 63 5) 0 2)), (64, I 2), (65, I i), (71, .c (.view (.l 71 20) 0 2)), (72, I 2), (73, I j), (79, .c (.view (.l 79 40) 0 2)), (80, I 2), (81, I m)], ⟨[(.l 7 0, .blk (fsC s)), (.l 10 2, .blk (rsC res)), (.l 11 3, .blk (frC f)), (.l 14 4, .blk (fsC st)), (.l 63 5, .arr 3 1 (eL vs) false), (.l 71 20, .arr 22 1 (eW rws) false), (.l 79 40, .arr 38 2 (ss.map fsC) false)], 60, []⟩),
    fun m => m ≤ 2, fun m => 2 - m, 0, by omega, ?_, fun m hm => ?_⟩
  · subst hss
    exact Shift.reset ⟨rfl, rfl, rfl, rfl, rfl, rfl, rfl, rfl, rfl, rfl, rfl, rfl, rfl, rfl, rfl, rfl, rfl, trivial⟩ ⟨rfl, rfl, rfl, rfl, rfl, rfl, rfl, trivial⟩ rfl rfl
  have hsn : ss.length = 2 := by rw [hss]; rfl
  clear hss
  dsimp only
  conv => whnf
  refine Fork.mk (fun h => ?_) (fun h => ?_)
  rotate_left
  · conv => whnf
    rw [hw2]
    exact ⟨j + 1, by omega, Shift.reset ⟨rfl, rfl, rfl, rfl, rfl, rfl, rfl, rfl, rfl, rfl, rfl, rfl, rfl, trivial⟩ ⟨rfl, rfl, rfl, rfl, rfl, rfl, trivial⟩ rfl rfl, by omega⟩
  have hm : m < 2 := by simp at h; omega
  clear h
  have hcm := List.getElem?_eq_getElem (show m < ss.length by omega)
  generalize ss[m] = u at hcm
  have hw3 := wr_succ (i := m) (by omega)
  conv => whnf
  refine ⟨by omega, rfl, ?_⟩
  conv => whnf
  refine ⟨fsC u, by rw [Nat.zero_add, Int.toNat_natCast, List.getElem?_map, hcm]; rfl, ?_⟩
  have hlen := runR_len f res u v rw0
  conv => whnf
  refine ⟨f, res, u, v, rw0, rfl, hff, hr2, by omega, ?_⟩
  conv => whnf
  refine ⟨f, res, u, v, rw0, rfl, hff, hr2, by omega, ?_⟩
  conv => whnf
  repeat' ((first | refine fork_t ?_ | refine fork_f ?_ | (refine Fork.mk (fun h => ?_) (fun h => ?_); focus (simp at h; done)) | fail) <;> (conv => whnf))
  refine ⟨(runR f res u v rw0).1.1, _, rfl, by omega, ?_⟩
  rw [decide_eq_true rfl]
  conv => whnf
  repeat' ((first | refine fork_t ?_ | refine fork_f ?_ | (refine Fork.mk (fun h => ?_) (fun h => ?_); focus (simp at h; done)) | fail) <;> (conv => whnf))
  refine ⟨(runR f res u v rw0).1.2, _, rfl, by omega, ?_⟩
  rw [decide_eq_true rfl]
  conv => whnf
  repeat' ((first | refine fork_t ?_ | refine fork_f ?_ | (refine Fork.mk (fun h => ?_) (fun h => ?_); focus (simp at h; done)) | fail) <;> (conv => whnf))
  refine ⟨f, res, u, v, rw0, rfl, hff, hr2, by omega, ?_⟩
  conv => whnf
  refine ⟨f, res, u, v, rw0, rfl, hff, hr2, by omega, ?_⟩
  conv => whnf
  repeat' ((first | refine fork_t ?_ | refine fork_f ?_ | (refine Fork.mk (fun h => ?_) (fun h => ?_); focus (simp at h; done)) | fail) <;> (conv => whnf))
  rw [hw3]
  exact ⟨m + 1, by omega, Shift.reset ⟨rfl, rfl, rfl, rfl, rfl, rfl, rfl, rfl, rfl, rfl, rfl, rfl, rfl, rfl, rfl, rfl, rfl, trivial⟩ ⟨rfl, rfl, rfl, rfl, rfl, rfl, rfl, trivial⟩ rfl rfl, by omega⟩
end Go.Proofs

namespace Go.Proofs
open Go Go.Abs
set_option linter.unusedSimpArgs false
set_option linter.unusedVariables false
set_option maxRecDepth 40000
def R_runH : RG := fun args os k => ∃ (f : Fr) (r : Rs) (s : Fs) (v : Int) (l vs ws : Ls) (e : Fs), args = [.agg (frC f), .agg (rsC r), .agg (fsC s), I v, .c (.lst (eL l))] ∧ os = [] ∧ f.t.fin ∧ r.st.length ≤ 9223372036854775807 ∧ l.length ≤ 9223372036854775807 ∧ runR f r s v l = ((v :: vs, ws), e, 0) ∧
  k (.tup [.c (.lst (eL (v :: vs))), .c (.view (.x 0) 0 ws.length), .agg [BC e.on, IC e.cm], I 0]) [.arr 3 1 (eL ws) false, .blk [IC 0]]
theorem runH_ok : FunH Try.prog 26 R_runH := by
  intro args os k h
  obtain ⟨f, r, s, v, l, vs0, ws0, e9, rfl, rfl, hf, hr, hl, hR, hk⟩ := h
  have hbad : ∀ y : (Ls × Ls) × Fs × Int, y.2.2 ≠ 0 → runR f r s v l = y → False := fun y hy e => hy (by rw [← e, hR])
  have hCK : ∀ f args d m k, ckK [(15, cSc R_fck), (42, cSc R_sound), (43, cSc R_cnF), (45, cH R_steps)] f args d m k → callK Try.prog qc1 f args d m k := ckK_ok ⟨cSc_ok fck_ok, cSc_ok sound_ok, cSc_ok cnF_ok, cH_ok steps_ok rfl, trivial⟩
  refine ⟨_, _, doesTH_of (qc := qc1) (np := [(17, [(0, 2), (0, 6), (2, 4), (2, 6), (3, 4), (3, 6), (4, 6)]), (18, [(1, 6), (5, 6), (5, 7)])]) (CK := ckK [(15, cSc R_fck), (42, cSc R_sound), (43, cSc R_cnF), (45, cH R_steps)]) (RC := rcN τ [(17, [(0, 2), (0, 6), (2, 4), (2, 6), (3, 4), (3, 6), (4, 6)]), (18, [(1, 6), (5, 6), (5, 7)])] (ckK [(15, cSc R_fck), (42, cSc R_sound), (43, cSc R_cnF), (45, cH R_steps)]) qc1 78 genSteps) mixed Try.func26 rfl rfl Try.ntmps26 Try.results26 τ_ok (by kernel_rfl) hCK (rcN_ok τ_ok hCK mixed genSteps) (by simp) ⟨rfl, rfl, rfl⟩ ?_, hk⟩
  conv => whnf
  refine ⟨f, r, rfl, hf, hr, ?_⟩
  conv => whnf
  refine Fork.mk (fun h => ?_) (fun h => ?_)
  · have h1 : fckE f r ≠ 0 := by simpa using h
    conv => whnf
    exact (hbad (([], []), ⟨false, 0⟩, fckE f r) h1 ((if_pos h1))).elim
  have h1 : ¬ fckE f r ≠ 0 := by simpa using h
  clear h
  conv => whnf
  refine ⟨f, s, rfl, ?_⟩
  conv => whnf
  refine Fork.mk (fun h => ?_) (fun h => ?_)
  · have h2 : soundF f s = false := by simpa using h
    conv => whnf
    exact (hbad (([], []), ⟨false, 0⟩, 50) (by simp) ((by unfold runR; rw [if_neg h1, if_pos h2]))).elim
  have h2 : ¬ soundF f s = false := by simpa using h
  clear h
  conv => whnf
  have b1 : (v < 0 ∨ 274877906944 < v ∨ l.any badX = true) → runR f r s v l = (([], []), ⟨false, 0⟩, 1) := fun e => by unfold runR; rw [if_neg h1, if_neg h2, if_pos e]
  refine Fork.mk (fun h => ?_) (fun h => ?_)
  · conv => whnf
    (repeat' ((first | refine fork_t ?_ | refine fork_f ?_) <;> (conv => whnf)))
    exact (hbad (([], []), ⟨false, 0⟩, 1) (by simp) ((b1 (.inl (by simpa using h))))).elim
  have g1 : ¬ v < 0 := by simpa using h
  clear h
  conv => whnf
  refine Fork.mk (fun h => ?_) (fun h => ?_)
  · conv => whnf
    (repeat' ((first | refine fork_t ?_ | refine fork_f ?_) <;> (conv => whnf)))
    exact (hbad (([], []), ⟨false, 0⟩, 1) (by simp) ((b1 (.inr (.inl (by simpa using h)))))).elim
  have g2 : ¬ 274877906944 < v := by simpa using h
  clear h
  conv => whnf
  refine ⟨l, rfl, hl, ?_⟩
  conv => whnf
  refine Fork.mk (fun h => ?_) (fun h => ?_)
  · conv => whnf
    exact (hbad (([], []), ⟨false, 0⟩, 1) (by simp) ((b1 (.inr (.inr h))))).elim
  have g3 : ¬ l.any badX = true := by simp [h]
  clear h b1
  have g : ¬ (v < 0 ∨ 274877906944 < v ∨ l.any badX = true) := fun e => e.elim g1 fun e => e.elim g2 g3
  have hm := eL_len l
  conv => whnf
  refine Fork.mk (fun h => ?_) (fun h => ?_)
  · have h4 : 400 < l.length := by simp at h; omega
    conv => whnf
    exact (hbad (([], []), ⟨false, 0⟩, 10) (by simp) ((by unfold runR; rw [if_neg h1, if_neg h2, if_neg g, if_pos h4]))).elim
  have h4 : ¬ 400 < l.length := by simp at h; omega
  clear h
  have hrun : runR f r s v l = runC' f r s v l := by unfold runR; rw [if_neg h1, if_neg h2, if_neg g, if_neg h4]
  conv => whnf
  refine ⟨[.l 52 7], rfl, ?_⟩
  conv => whnf
  refine ⟨rfl, ?_⟩
  conv => whnf
  refine ⟨rfl, ?_⟩
  conv => whnf
  refine ⟨f, r, s, v, l, rfl, rfl, ?_⟩
  conv => whnf
  refine ⟨⟨⟨rfl, rfl⟩, ⟨rfl, rfl⟩, rfl⟩, ?_⟩
  conv => whnf
  refine ⟨_, rfl, Nat.le_of_ble_eq_true rfl, [.l 52 7, .l 58 12, .l 2106 12, .l 10 3, .l 11 4, .l 12 5, .l 13 6, .l 16 10, .l 17 11], [.l 54 8, .l 55 9], rfl, rfl, ?_⟩
  conv => whnf
  refine ⟨rfl, rfl, fun L => ?_⟩
  conv => whnf
  have hcm : 0 ≤ s.cm ∧ s.cm ≤ 100 ∧ f.cm ≤ 96 := by
    have h2 : soundF f s = true := by simpa using h2
    simp [soundF] at h2
    have h1 : fckE f r = 0 := by omega
    unfold fckE at h1
    split at h1
    · omega
    split at h1
    · omega
    split at h1
    · omega
    split at h1
    · omega
    omega
  have hx : ∀ x ∈ l, 0 ≤ x ∧ x ≤ 1073741824 := fun x hx => by
    have : badX x = false := by
      cases e : badX x with
      | false => rfl
      | true => exact absurd (List.any_eq_true.2 ⟨x, hx, e⟩) g3
    simp [badX] at this
    omega
  refine ⟨Nat × Ls × Ls × Fs × Int, fun y => ([(0, yV L), (2, .c (.ptr (.x 1) 0)), (10, .c (.lst (eL l))), (11, I (eL l).length), (12, I y.1)], ⟨[(.x 0, .blk (opC f r y.2.2.2.1 y.2.2.2.2)), (.x 1, .blk [.ptr (.x 0) 0]), (.x 2, .blk [.lst (eL l)]), (.x 3, .blk [.sc (.slice none 0 0)]), (.x 4, .blk [.sc (.slice none 0 0)]), (.x 5, .blk [BC false, IC 0]), (.x 6, .blk [IC 0]), (.x 7, .blk [.view (.l 67 0) 0 (y.2.1.length + 1)]), (.x 8, .blk [.view (.l 71 0) 0 y.2.2.1.length]), (.l 67 0, .arr 3 1 (eL (v :: y.2.1)) false), (.l 71 0, .arr 3 1 (eL y.2.2.1) false)], 20, []⟩),
    fun y => y.1 ≤ l.length ∧ runG f r s v l = (runG f r y.2.2.2.1 y.2.2.2.2 (l.drop y.1)).map (fun z => (y.2.1 ++ z.1, y.2.2.1 ++ z.2.1, z.2.2)) ∧ (0 ≤ y.2.2.2.2 ∧ y.2.2.2.2 ≤ 274877906944) ∧ (0 ≤ y.2.2.2.1.cm ∧ y.2.2.2.1.cm ≤ 100) ∧ y.2.1.length = y.1 ∧ y.2.2.1.length = y.1, fun y => l.length - y.1, (0, [], [], s, v),
    ⟨Nat.zero_le _, optId _, by dsimp only; omega, by dsimp only; omega, rfl, rfl⟩, Shift.rename [(.l 67 0, .x 9), (.l 71 0, .x 10)] ⟨rfl, rfl, rfl, rfl, rfl, trivial⟩ ⟨rfl, rfl, rfl, rfl, rfl, rfl, rfl, rfl, rfl, rfl, rfl, trivial⟩ rfl rfl rfl, fun y hy => ?_⟩
  obtain ⟨i, vs, os, s', v'⟩ := y
  obtain ⟨hi, hE, hv', hs', hvl, hol⟩ := hy
  dsimp only at hi hE hv' hs' hvl hol ⊢
  conv => whnf
  refine Fork.mk (fun h => ?_) (fun h => ?_)
  rotate_left
  · have hie : i = l.length := by simp at h; omega
    clear h
    rw [hie, List.drop_length] at hE
    conv => whnf
    refine ⟨[.l 67 0, .l 71 0], [67, 71], ⟨rfl, rfl, rfl, rfl⟩, ?_⟩
    conv => whnf
    refine ⟨rfl, rfl, ?_⟩
    conv => whnf
    have e0 : runC' f r s v l = ((v :: vs, os), s', 0) := by
      rw [runC', hE]
      simp [runG]
    have e1 := hR.symm.trans (hrun.trans e0)
    simp only [Prod.mk.injEq, List.cons.injEq, true_and, and_true] at e1
    obtain ⟨⟨rfl, rfl⟩, rfl⟩ := e1
    refine ⟨.l 71 13, .l 13 6, rfl, ?_⟩
    conv => whnf
    refine ⟨by rw [eL_len, Nat.zero_add]; exact Nat.le_refl _, ?_⟩
    conv => whnf
    refine ⟨rfl, ?_⟩
    conv => whnf
    have t1 : List.take (vs0.length + 1) (List.drop 0 (eL (v :: vs0))) = eL (v :: vs0) := by rw [List.drop_zero, List.take_of_length_le (by rw [eL_len]; exact Nat.le_refl _)]
    refine ⟨rfl, rfl, rfl, ?_, rfl⟩
    rw [t1]
    exact rfl
  have hi2 : i < l.length := by simp at h; omega
  clear h
  have hci := List.getElem?_eq_getElem hi2
  have hxb := hx _ (List.getElem_mem hi2)
  generalize l[i] = x at hci hxb
  rw [drop_of hci, runG] at hE
  have hw1 := wr_succ (i := i) (by omega)
  conv => whnf
  refine ⟨by omega, eI x, by rw [Int.toNat_natCast, List.getElem?_map, hci]; rfl, rfl, ?_⟩
  conv => whnf
  refine ⟨r.st, rfl, hr, ?_⟩
  conv => whnf
  refine ⟨f, s', (levS r v').1, rfl, by omega, ?_⟩
  have hs2 := nextF_cm (x := (levS r v').1) hs' hcm.2.2
  have hout := outS_b (f := f) (r := r) (s := s') hv'.1 hxb.1
  unfold outS at hout hE
  unfold volN outS stS at hE
  unfold stS at hout
  generalize (levS r v').1 = lev at hE hs2 hout
  generalize nextF f s' lev = s2 at hE hs2 hout
  conv => whnf
  refine ⟨f, s2, lev, x, rfl, hf, ?_⟩
  have e1 : IntKind.i64.wrap (v' + x) = v' + x := wrap_in (by omega) (by omega)
  conv => whnf
  rw [e1]
  refine ⟨rfl, ?_⟩
  conv => whnf
  refine ⟨rfl, ?_⟩
  conv => whnf
  generalize (if v' + x < (relF f s2 lev x).1 then v' + x else (relF f s2 lev x).1) = o at hE hout ⊢
  have e2 : IntKind.i64.wrap (x - o) = x - o := wrap_in (by omega) (by omega)
  have e3 : IntKind.i64.wrap (v' + (x - o)) = v' + (x - o) := wrap_in (by omega) (by omega)
  rw [e2, e3]
  have hv2 : 0 ≤ v' + (x - o) := by omega
  clear e1 e2 e3
  generalize v' + (x - o) = w at hE hv2 ⊢
  refine Fork.mk (fun h => ?_) (fun h => ?_)
  · have h5 : 274877906944 < w := by simpa using h
    clear h
    conv => whnf
    refine ⟨[.l 67 0, .l 71 0], [67, 71], ⟨rfl, rfl, rfl, rfl⟩, ?_⟩
    conv => whnf
    refine ⟨rfl, rfl, ?_⟩
    conv => whnf
    exact (hbad (([], []), ⟨false, 0⟩, 10) (by simp) (hrun.trans (by rw [runC', hE, if_pos h5]; rfl))).elim
  have h5 : ¬ 274877906944 < w := by simpa using h
  clear h
  rw [if_neg h5] at hE
  conv => whnf
  have hmv := eL_len (v :: vs)
  have hmo := eL_len os
  rw [List.length_cons] at hmv
  refine ⟨by simp, ?_⟩
  conv => whnf
  refine ⟨rfl, ?_⟩
  conv => whnf
  refine ⟨⟨rfl, rfl, rfl, hmv.symm, by rw [hmv]; simp; omega⟩, ?_⟩
  conv => whnf
  refine ⟨by simp, ?_⟩
  conv => whnf
  refine ⟨rfl, ?_⟩
  conv => whnf
  refine ⟨⟨rfl, rfl, rfl, hmo.symm, by rw [hmo]; simp; omega⟩, ?_⟩
  conv => whnf
  rw [hw1]
  refine ⟨(i + 1, vs ++ [w], os ++ [o], s2, w), ⟨hi2, ?_, by dsimp only; omega, hs2, by dsimp only; rw [List.length_append, hvl]; rfl, by dsimp only; rw [List.length_append, hol]; rfl⟩, Shift.rename [(.l 67 0, .l 67 20), (.l 71 0, .l 71 20)] ⟨rfl, rfl, rfl, rfl, rfl, trivial⟩ ⟨rfl, rfl, rfl, rfl, rfl, rfl, rfl, ?_, ?_, ?_, ?_, trivial⟩ rfl rfl rfl, by dsimp only; omega⟩
  · dsimp only
    rw [hE]
    cases runG f r s2 w (List.drop (i + 1) l) with
    | none => rfl
    | some z => obtain ⟨a, b, c⟩ := z; simp
  · dsimp only; rw [show (vs ++ [w]).length + 1 = (eL (v :: vs)).length + 1 by rw [hmv]; simp]; rfl
  · dsimp only; rw [show (os ++ [o]).length = (eL os).length + 1 by rw [hmo]; simp]; rfl
  · dsimp only; rw [← List.cons_append, ← eL_snoc]; rfl
  · dsimp only; rw [← eL_snoc]; rfl
end Go.Proofs
