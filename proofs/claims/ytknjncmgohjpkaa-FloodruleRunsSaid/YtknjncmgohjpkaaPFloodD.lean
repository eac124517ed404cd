/- Proved here: what functions of the given program come to, and the plain laws of it; no condition but those in the theorems. -/
import Derived.Test.YtknjncmgohjpkaaA25b
import Derived.Test.YtknjncmgohjpkaaPFlood2
import Derived.Test.YtknjncmgohjpkaaAbsDeep
namespace Go.Proofs
open Go Go.Abs
set_option linter.unusedSimpArgs false
set_option linter.unusedVariables false
set_option maxRecDepth 4000
theorem runR_len (f : Fr) (r : Rs) (s : Fs) (v : Int) (l : Ls) : (runR f r s v l).1.1.length ≤ l.length + 1 ∧ (runR f r s v l).1.2.length ≤ l.length := by
  by_cases h : (runR f r s v l).2.2 = 0
  · obtain ⟨_, _, _, _, _, vs, os, e, h1, h2⟩ := runR_ok h
    obtain ⟨q1, q2⟩ := runG_len h1
    rw [h2]
    simp [q1, q2]
  · unfold runR at h ⊢
    split
    · simp
    rename_i h1
    rw [if_neg h1] at h
    split
    · simp
    rename_i h2
    rw [if_neg h2] at h
    split
    · simp
    rename_i h3
    rw [if_neg h3] at h
    split
    · simp
    rename_i h4
    rw [if_neg h4] at h
    unfold runC' at h ⊢
    split
    · simp
    · rename_i h5
      rw [h5] at h
      exact absurd rfl h
def R_runs25 : RT := fun args k => ∃ (l : Ls) (volume : Int) (inflows : Ls) (s : Fs), args = [.c (.lst (eL l)), I volume, .c (.lst (eL inflows)), .agg (fsC s)] ∧ l.length ≤ 9223372036854775807 ∧ inflows.length ≤ 9223372036854775807 ∧ k (Bo true)
theorem runs25_ok : FunR Try.prog 6 R_runs25 := by
  intro args k h
  obtain ⟨l, volume, inflows, s, rfl, hl, hil, hk⟩ := h
  have hmi := eL_len inflows
  refine does_ex (qc := qc1) (np := []) (CK := ckK [(8, cSc R_tt), (9, cSc R_few), (10, cN R_new), (12, cB R_resv), (11, cB R_mkF), (23, cB R_next), (24, cB R_flw), (17, cB R_state), (26, cPu R_run), (27, cPu R_run), (28, cSc R_ints), (29, cSc R_keeps), (30, cSc R_keeps)]) mixed Try.func6 rfl rfl Try.ntmps6 Try.results6 τ_ok (by kernel_rfl) (ckK_ok ⟨cSc_ok sane_ok, cSc_ok few_ok, cN_ok new_ok rfl, cB_ok resv_ok rfl, cB_ok rule_ok rfl, cB_ok next_ok rfl, cB_ok flows_ok rfl, cB_ok state_ok rfl, cPu_ok run_ok rfl, cPu_ok rrun_ok rfl, cSc_ok ints_ok, cSc_ok keeps_ok, cSc_ok rkeeps_ok, trivial⟩) (by simp) ?_
  conv => whnf
  refine ⟨rfl, ?_⟩
  conv => whnf
  refine fork_f ?_
  conv => whnf
  refine ⟨l, rfl, ?_⟩
  conv => whnf
  refine Fork.mk (fun h => ?_) (fun h => ?_)
  · conv => whnf
    repeat' ((first | refine fork_t ?_ | refine fork_f ?_ | (refine Fork.mk (fun h => ?_) (fun h => ?_); focus (simp at h; done)) | fail) <;> (conv => whnf))
    exact hk
  clear h
  conv => whnf
  refine Fork.mk (fun h => ?_) (fun h => ?_)
  · conv => whnf
    repeat' ((first | refine fork_t ?_ | refine fork_f ?_ | (refine Fork.mk (fun h => ?_) (fun h => ?_); focus (simp at h; done)) | fail) <;> (conv => whnf))
    exact hk
  have hi600 : inflows.length ≤ 600 := by simp at h; omega
  clear h
  conv => whnf
  refine ⟨l, rfl, ?_⟩
  conv => whnf
  refine ⟨⟨l, 0⟩, rfl, ⟨Nat.zero_le _, hl⟩, fun res d hd hres hresl => ?_⟩
  have hrl := hres.lv
  have hrh := hres.hi
  have hrz := hres.lo
  conv => whnf
  refine ⟨d, res, rfl, rfl, hd, by omega, fun f d hd hf => ?_⟩
  have hfb := hf.b
  have hfe := hf.e
  have hfc := hf.c
  have hff := hf.t.fin
  have hr2 : res.st.length ≤ 9223372036854775807 := by omega
  conv => whnf
  refine ⟨d, rfl, hd, by omega, fun n d hd hn1 hn2 => ?_⟩
  obtain ⟨N, rfl⟩ := Int.eq_ofNat_of_zero_le hn1
  conv => whnf
  refine ⟨d, N, 30, rfl, rfl, hd, by omega, by omega, fun made d hd hml hmb => ?_⟩
  conv => whnf
  refine ⟨d, rfl, hd, by omega, fun x d hd hx1 hx2 => ?_⟩
  conv => whnf
  refine ⟨d, f, rfl, rfl, hd, by omega, fun st d hd hs _ => ?_⟩
  conv => whnf
  obtain ⟨vs, hvs⟩ : ∃ vs : Ls, vs = [volume, x] := ⟨_, rfl⟩
  refine ⟨Nat, fun i => ([(2, .c (.lst (eL inflows))), (7, .c (.ptr (.l 7 0) 0)), (10, .c (.ptr (.l 10 2) 0)), (11, .c (.ptr (.l 11 3) 0)), (12, .c (.lst (eL made))), (14, .c (.ptr (.l 14 4) 0)), (63, .c (.view (.l 63 5) 0 2)), (64, I 2), (65, I i)], ⟨[(.l 7 0, .blk (fsC s)), (.l 10 2, .blk (rsC res)), (.l 11 3, .blk (frC f)), (.l 14 4, .blk (fsC st)), (.l 63 5, .arr 3 1 (eL vs) false)], 20, []⟩),
    fun i => i ≤ 2, fun i => 2 - i, 0, by omega, ?_, fun i hi => ?_⟩
  · subst hvs
    exact Shift.reset ⟨rfl, rfl, rfl, rfl, rfl, rfl, rfl, rfl, rfl, trivial⟩ ⟨rfl, rfl, rfl, rfl, rfl, trivial⟩ rfl rfl
  have hvn : vs.length = 2 := by rw [hvs]; rfl
  clear hvs
  dsimp only
  conv => whnf
  refine Fork.mk (fun h => ?_) (fun h => ?_)
  rotate_left
  · conv => whnf
    exact hk
  have hi : i < 2 := by simp at h; omega
  clear h
  have hci := List.getElem?_eq_getElem (show i < vs.length by omega)
  generalize vs[i] = v at hci
  have hw1 := wr_succ (i := i) (by omega)
  conv => whnf
  refine ⟨by omega, rfl, ?_⟩
  conv => whnf
  refine ⟨eI v, by rw [Nat.zero_add, Int.toNat_natCast, List.getElem?_map, hci]; rfl, ?_⟩
  conv => whnf
  obtain ⟨rws, hrws, hrb⟩ : ∃ rws : List Ls, rws = [inflows, made] ∧ ∀ r ∈ rws, r.length ≤ 1000 := ⟨_, rfl, fun r hr => by
    simp at hr
    rcases hr with rfl | rfl <;> omega⟩
  refine ⟨Nat, fun j => ([(2, .c (.lst (eL inflows))), (7, .c (.ptr (.l 7 0) 0)), (10, .c (.ptr (.l 10 2) 0)), (11, .c (.ptr (.l 11 3) 0)), (12, .c (.lst (eL made))), (14, .c (.ptr (.l 14 4) 0)), (16, I v), (63, .c (.view (.l 63 5) 0 2)), (64, I 2), (65, I i), (71, .c (.view (.l 71 20) 0 2)), (72, I 2), (73, I j)], ⟨[(.l 7 0, .blk (fsC s)), (.l 10 2, .blk (rsC res)), (.l 11 3, .blk (frC f)), (.l 14 4, .blk (fsC st)), (.l 63 5, .arr 3 1 (eL vs) false), (.l 71 20, .arr 22 1 (eW rws) false)], 40, []⟩),
    fun j => j ≤ 2, fun j => 2 - j, 0, by omega, ?_, fun j hj => ?_⟩
  · subst hrws
    exact Shift.reset ⟨rfl, rfl, rfl, rfl, rfl, rfl, rfl, rfl, rfl, rfl, rfl, rfl, rfl, trivial⟩ ⟨rfl, rfl, rfl, rfl, rfl, rfl, trivial⟩ rfl rfl
  have hrn : rws.length = 2 := by rw [hrws]; rfl
  clear hrws
  dsimp only
  conv => whnf
  refine Fork.mk (fun h => ?_) (fun h => ?_)
  rotate_left
  · conv => whnf
    rw [hw1]
    exact ⟨i + 1, by omega, Shift.reset ⟨rfl, rfl, rfl, rfl, rfl, rfl, rfl, rfl, rfl, trivial⟩ ⟨rfl, rfl, rfl, rfl, rfl, trivial⟩ rfl rfl, by omega⟩
  have hj : j < 2 := by simp at h; omega
  clear h
  have hcj := List.getElem?_eq_getElem (show j < rws.length by omega)
  have hrl2 := hrb _ (List.getElem_mem (show j < rws.length by omega))
  generalize rws[j] = rw0 at hcj hrl2
  have hw2 := wr_succ (i := j) (by omega)
  conv => whnf
  refine ⟨by omega, rfl, ?_⟩
  conv => whnf
  refine ⟨rwC rw0, by rw [Nat.zero_add, Int.toNat_natCast, List.getElem?_map, hcj]; rfl, ?_⟩
  conv => whnf
  obtain ⟨ss, hss⟩ : ∃ ss : List Fs, ss = [s, st] := ⟨_, rfl⟩
  refine ⟨Nat, fun m => ([(2, .c (.lst (eL inflows))), (7, .c (.ptr (.l 7 0) 0)), (10, .c (.ptr (.l 10 2) 0)), (11, .c (.ptr (.l 11 3) 0)), (12, .c (.lst (eL made))), (14, .c (.ptr (.l 14 4) 0)), (16, I v), (18, .c (.lst (eL rw0))), (63, .c (.view (.l 63 5) 0 2)), (64, I 2), (65, I i), (71, .c (.view (.l 71 20) 0 2)), (72, I 2), (73, I j), (79, .c (.view (.l 79 40) 0 2)), (80, I 2), (81, I m)], ⟨[(.l 7 0, .blk (fsC s)), (.l 10 2, .blk (rsC res)), (.l 11 3, .blk (frC f)), (.l 14 4, .blk (fsC st)), (.l 63 5, .arr 3 1 (eL vs) false), (.l 71 20, .arr 22 1 (eW rws) false), (.l 79 40, .arr 38 2 (ss.map fsC) false)], 60, []⟩),
    fun m => m ≤ 2, fun m => 2 - m, 0, by omega, ?_, fun m hm => ?_⟩
  · subst hss
    exact Shift.reset ⟨rfl, rfl, rfl, rfl, rfl, rfl, rfl, rfl, rfl, rfl, rfl, rfl, rfl, rfl, rfl, rfl, rfl, trivial⟩ ⟨rfl, rfl, rfl, rfl, rfl, rfl, rfl, trivial⟩ rfl rfl
  have hsn : ss.length = 2 := by rw [hss]; rfl
  clear hss
  dsimp only
  conv => whnf
  refine Fork.mk (fun h => ?_) (fun h => ?_)
  rotate_left
  · conv => whnf
    rw [hw2]
    exact ⟨j + 1, by omega, Shift.reset ⟨rfl, rfl, rfl, rfl, rfl, rfl, rfl, rfl, rfl, rfl, rfl, rfl, rfl, trivial⟩ ⟨rfl, rfl, rfl, rfl, rfl, rfl, trivial⟩ rfl rfl, by omega⟩
  have hm : m < 2 := by simp at h; omega
  clear h
  have hcm := List.getElem?_eq_getElem (show m < ss.length by omega)
  generalize ss[m] = u at hcm
  have hw3 := wr_succ (i := m) (by omega)
  conv => whnf
  refine ⟨by omega, rfl, ?_⟩
  conv => whnf
  refine ⟨fsC u, by rw [Nat.zero_add, Int.toNat_natCast, List.getElem?_map, hcm]; rfl, ?_⟩
  have hlen := runR_len f res u v rw0
  conv => whnf
  refine ⟨f, res, u, v, rw0, rfl, hff, hr2, by omega, ?_⟩
  conv => whnf
  refine ⟨f, res, u, v, rw0, rfl, hff, hr2, by omega, ?_⟩
  conv => whnf
  repeat' ((first | refine fork_t ?_ | refine fork_f ?_ | (refine Fork.mk (fun h => ?_) (fun h => ?_); focus (simp at h; done)) | fail) <;> (conv => whnf))
  refine ⟨(runR f res u v rw0).1.1, _, rfl, by omega, ?_⟩
  rw [decide_eq_true rfl]
  conv => whnf
  repeat' ((first | refine fork_t ?_ | refine fork_f ?_ | (refine Fork.mk (fun h => ?_) (fun h => ?_); focus (simp at h; done)) | fail) <;> (conv => whnf))
  refine ⟨(runR f res u v rw0).1.2, _, rfl, by omega, ?_⟩
  rw [decide_eq_true rfl]
  conv => whnf
  repeat' ((first | refine fork_t ?_ | refine fork_f ?_ | (refine Fork.mk (fun h => ?_) (fun h => ?_); focus (simp at h; done)) | fail) <;> (conv => whnf))
  refine ⟨f, res, u, v, rw0, rfl, hff, hr2, by omega, ?_⟩
  conv => whnf
  refine ⟨f, res, u, v, rw0, rfl, hff, hr2, by omega, ?_⟩
  conv => whnf
  repeat' ((first | refine fork_t ?_ | refine fork_f ?_ | (refine Fork.mk (fun h => ?_) (fun h => ?_); focus (simp at h; done)) | fail) <;> (conv => whnf))
  rw [hw3]
  exact ⟨m + 1, by omega, Shift.reset ⟨rfl, rfl, rfl, rfl, rfl, rfl, rfl, rfl, rfl, rfl, rfl, rfl, rfl, rfl, rfl, rfl, rfl, trivial⟩ ⟨rfl, rfl, rfl, rfl, rfl, rfl, rfl, trivial⟩ rfl rfl, by omega⟩
end Go.Proofs

/- Flood rules and reservoirs that come in as arguments. -/
namespace Go.Proofs
open Go Go.Abs
set_option linter.unusedSimpArgs false
set_option linter.unusedVariables false
abbrev shIF : Sh := .i .i64
abbrev shRw : List Sh := [.l [shIF]]
abbrev shFr : List Sh := [.l [shIF], .l [shIF], .l shRw, shIF, shIF, shIF]
abbrev shRs : List Sh := [.l [shIF, shIF], shIF, shIF, shIF, shIF, shIF]
abbrev shFs : List Sh := [.b, shIF]
theorem int_deepF (y : List Cell) (h : okSs [shIF] y) : ∃ a : Int, y = eI a ∧ True := by
  match y, h with
  | [.sc (.int _ a)], ⟨rfl, _⟩ => exact ⟨a, rfl, trivial⟩
theorem ptF_deep (y : List Cell) (h : okSs [shIF, shIF] y) : ∃ a : Pt, y = ePt a ∧ True := by
  match y, h with
  | [.sc (.int _ a), .sc (.int _ b)], ⟨rfl, rfl, _⟩ => exact ⟨(a, b), rfl, trivial⟩
theorem rw_deep (y : List Cell) (h : okSs shRw y) : ∃ r : Ls, y = rwC r ∧ r.length ≤ 9223372036854775807 := by
  match y, h with
  | [.lst es], ⟨⟨h1, h2⟩, _⟩ =>
    obtain ⟨l, rfl, _⟩ := all_formQ (f := eI) int_deepF h2
    exact ⟨l, rfl, by simpa [maxLen] using h1⟩
theorem fr_deep (y : List Cell) (h : okSs shFr y) : ∃ f : Fr, y = frC f ∧ f.t.fin := by
  match y, h with
  | [.lst a, .lst b, .lst c, .sc (.int _ p), .sc (.int _ q), .sc (.int _ s)], ⟨⟨a1, a2⟩, ⟨b1, b2⟩, ⟨c1, c2⟩, rfl, rfl, rfl, _⟩ =>
    obtain ⟨x, rfl, _⟩ := all_formQ (f := eI) int_deepF a2
    obtain ⟨y, rfl, _⟩ := all_formQ (f := eI) int_deepF b2
    obtain ⟨z, rfl, h3⟩ := all_formQ (f := rwC) rw_deep c2
    exact ⟨⟨⟨x, y, z⟩, p, q, s⟩, rfl, by simpa [maxLen] using a1, by simpa [maxLen] using b1, by simpa [maxLen] using c1, h3⟩
theorem rs_deep (y : List Cell) (h : okSs shRs y) : ∃ r : Rs, y = rsC r ∧ r.st.length ≤ 9223372036854775807 := by
  match y, h with
  | [.lst a, .sc (.int _ p), .sc (.int _ q), .sc (.int _ s), .sc (.int _ t), .sc (.int _ u)], ⟨⟨a1, a2⟩, rfl, rfl, rfl, rfl, rfl, _⟩ =>
    obtain ⟨x, rfl, _⟩ := all_formQ (f := ePt) ptF_deep a2
    exact ⟨⟨x, p, q, s, t, u⟩, rfl, by simpa [maxLen] using a1⟩
theorem fs_deep (y : List Cell) (h : okSs shFs y) : ∃ s : Fs, y = fsC s ∧ True := by
  match y, h with
  | [.sc (.bool a), .sc (.int _ b)], ⟨_, rfl, _⟩ => exact ⟨⟨a, b⟩, rfl, trivial⟩
end Go.Proofs
