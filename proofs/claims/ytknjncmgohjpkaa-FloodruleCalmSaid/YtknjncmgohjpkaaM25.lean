/- Proved here: what functions of the given program come to, for the statements of this chapter; no condition but those in the theorems. -/
import Derived.Test.YtknjncmgohjpkaaO25
namespace Go.Proofs
open Go Go.Abs
set_option linter.unusedSimpArgs false
set_option linter.unusedVariables false
set_option maxRecDepth 4000
def lowN (f : Fr) (low x : Int) : Int := if x < f.en then low + 1 else 0
structure calmI (f : Fr) (s : Fs) (low : Int) : Prop where
  a : s.on = true → s.cm = low
  b : 0 ≤ s.cm ∧ s.cm < f.cm
theorem calm_step {f : Fr} {s : Fs} {low x : Int} (h : calmI f s low) (hf : f.en < f.bg) (hc : 1 ≤ f.cm) :
    (s.on = false → (nextF f s x).on = decide (f.bg ≤ x)) ∧ (s.on = true → (nextF f s x).on = decide (lowN f low x < f.cm)) ∧ (0 ≤ (nextF f s x).cm ∧ (nextF f s x).cm < f.cm) ∧
      (calmI f (nextF f s x) (lowN f low x)) ∧ ((nextF f s x).on = true → s.on = false → calmI f (nextF f s x) 0) := by
  have hb := h.b
  unfold nextF lowN
  split
  · rename_i h1
    rw [if_neg (by omega)]
    refine ⟨fun _ => by simp [h1], fun _ => by simp; omega, by dsimp only; omega, ⟨fun _ => rfl, by dsimp only; omega⟩, fun _ _ => ⟨fun _ => rfl, by dsimp only; omega⟩⟩
  rename_i h1
  split
  · rename_i h2
    refine ⟨fun _ => by simp; omega, fun e => (by rw [h2] at e; cases e), by dsimp only; omega, ⟨fun e => (by cases e), by dsimp only; omega⟩, fun e => by cases e⟩
  rename_i h2
  have h2' : s.on = true := by simpa using h2
  have ha := h.a h2'
  split
  · rename_i h3
    rw [if_neg (by omega)]
    exact ⟨fun e => absurd e h2, fun _ => by simp; omega, by dsimp only; omega, ⟨fun _ => rfl, by dsimp only; omega⟩, fun _ e => absurd e h2⟩
  rename_i h3
  rw [if_pos (show x < f.en by omega)]
  split
  · exact ⟨fun e => absurd e h2, fun _ => by simp; omega, by dsimp only; omega, ⟨fun e => (by cases e), by dsimp only; omega⟩, fun e => by cases e⟩
  · exact ⟨fun e => absurd e h2, fun _ => by simp; omega, by dsimp only; omega, ⟨fun _ => (by dsimp only; omega), by dsimp only; omega⟩, fun _ e => absurd e h2⟩
def R_calm : RT := fun args k => ∃ l lv : Ls, args = [.c (.lst (eL l)), .c (.lst (eL lv))] ∧ l.length ≤ 9223372036854775807 ∧ lv.length ≤ 9223372036854775807 ∧ k (Bo true)
theorem calm_ok : FunR Try.prog 3 R_calm := by
  intro args k h
  obtain ⟨l, lv, rfl, hl, hlv, hk⟩ := h
  have hm := eL_len lv
  refine does_ex (qc := qc1) (np := []) (CK := ckK [(8, cSc R_tt), (9, cSc R_few), (10, cN R_new), (12, cB R_resv), (11, cB R_mkF), (13, cSc R_mod), (14, cSc R_nextF)]) mixed Try.func3 rfl rfl Try.ntmps3 Try.results3 τ_ok (by kernel_rfl) (ckK_ok ⟨cSc_ok sane_ok, cSc_ok few_ok, cN_ok new_ok rfl, cB_ok resv_ok rfl, cB_ok rule_ok rfl, cSc_ok mod_ok, cSc_ok next_okF, trivial⟩) (by simp) ?_
  conv => whnf
  refine ⟨rfl, ?_⟩
  conv => whnf
  refine fork_f ?_
  conv => whnf
  refine ⟨l, rfl, ?_⟩
  conv => whnf
  refine Fork.mk (fun h => ?_) (fun h => ?_)
  · conv => whnf
    repeat' ((first | refine fork_t ?_ | refine fork_f ?_ | (refine Fork.mk (fun h => ?_) (fun h => ?_); focus (simp at h; done)) | fail) <;> (conv => whnf))
    exact hk
  conv => whnf
  refine Fork.mk (fun h => ?_) (fun h => ?_)
  · conv => whnf
    repeat' ((first | refine fork_t ?_ | refine fork_f ?_ | (refine Fork.mk (fun h => ?_) (fun h => ?_); focus (simp at h; done)) | fail) <;> (conv => whnf))
    exact hk
  have hl4 : lv.length ≤ 400 := by simp at h; omega
  clear h
  conv => whnf
  refine ⟨l, rfl, ?_⟩
  conv => whnf
  refine ⟨⟨l, 0⟩, rfl, ⟨Nat.zero_le _, hl⟩, fun r d hd hr _ => ?_⟩
  conv => whnf
  have hrl := hr.lv
  have hrh := hr.hi
  have hr0 := hr.lo
  refine ⟨d, r, rfl, rfl, hd, by omega, fun f d hd hf => ?_⟩
  have hfb := hf.b
  have hfs := hf.s
  have hfe := hf.e
  have hfc := hf.c
  have hbg : f.bg ≤ 270 := by omega
  clear hrl hrh hr0 hfs
  conv => whnf
  refine ⟨Nat × Fs × Int, fun s => ([(6, .c (.ptr (.l 6 1) 0)), (7, .c (.ptr (.l 7 2) 0)), (8, I s.2.2), (28, .c (.lst (eL lv))), (29, I (eL lv).length), (30, I s.1)], ⟨[(.l 6 1, .blk (frC f)), (.l 7 2, .blk (fsC s.2.1))], 20, []⟩),
    fun s => s.1 ≤ lv.length ∧ calmI f s.2.1 s.2.2 ∧ (0 ≤ s.2.2 ∧ s.2.2 ≤ s.1), fun s => lv.length - s.1, (0, ⟨false, 0⟩, 0), ⟨Nat.zero_le _, ⟨fun e => (by cases e), by dsimp only; omega⟩, by dsimp only; omega⟩, Shift.reset ⟨rfl, rfl, rfl, rfl, rfl, rfl, trivial⟩ ⟨rfl, rfl, trivial⟩ rfl rfl, fun s hs => ?_⟩
  obtain ⟨i, s, low⟩ := s
  obtain ⟨hi, hI, hlow⟩ := hs
  dsimp only at hi hI hlow ⊢
  conv => whnf
  refine Fork.mk (fun h => ?_) (fun h => ?_)
  rotate_left
  · conv => whnf
    exact hk
  have hi2 : i < lv.length := by simp at h; omega
  clear h
  have hci := List.getElem?_eq_getElem hi2
  generalize lv[i] = x0 at hci
  have hw1 := wr_succ (i := i) (by omega)
  conv => whnf
  refine ⟨by omega, eI x0, by rw [Int.toNat_natCast, List.getElem?_map, hci]; rfl, rfl, ?_⟩
  have e1 : IntKind.i64.wrap (f.en - 10) = f.en - 10 := wrap_in (by omega) (by omega)
  have e2 : IntKind.i64.wrap (f.bg - f.en) = f.bg - f.en := wrap_in (by omega) (by omega)
  have e3 : IntKind.i64.wrap (f.bg - f.en + 20) = f.bg - f.en + 20 := wrap_in (by omega) (by omega)
  conv => whnf
  rw [e1, e2, e3]
  refine ⟨by omega, ?_⟩
  have hq1 := Int.emod_nonneg x0 (show f.bg - f.en + 20 ≠ 0 by omega)
  have hq2 := Int.emod_lt_of_pos x0 (show 0 < f.bg - f.en + 20 by omega)
  generalize x0 % (f.bg - f.en + 20) = y at hq1 hq2
  have e4 : IntKind.i64.wrap (f.en - 10 + y) = f.en - 10 + y := wrap_in (by omega) (by omega)
  conv => whnf
  rw [e4]
  generalize f.en - 10 + y = x
  have hIb := hI.b
  obtain ⟨q1, q2, q3, q4, q5⟩ := calm_step (x := x) hI (by omega) (by omega)
  have hlx : 0 ≤ lowN f low x ∧ lowN f low x ≤ i + 1 := by unfold lowN; split <;> omega
  refine ⟨f, s, x, rfl, by omega, ?_⟩
  generalize nextF f s x = n at q1 q2 q3 q4 q5
  obtain ⟨on, cm⟩ := n
  obtain ⟨son, scm⟩ := s
  dsimp only at q1 q2 q3 q4 q5 hIb
  have e5 : IntKind.i64.wrap (low + 1) = low + 1 := wrap_in (by omega) (by omega)
  have lt : x < f.en → lowN f low x = low + 1 := fun h => if_pos h
  have lf : ¬ x < f.en → lowN f low x = 0 := fun h => if_neg h
  conv => whnf
  refine Fork.mk (fun h => ?_) (fun h => ?_)
  · have hx : x < f.en := by simpa using h
    clear h
    conv => whnf
    rw [e5]
    rw [← lt hx]
    generalize lowN f low x = w at q2 q4 hlx
    cases son with
    | false =>
      have q1 := q1 rfl
      have q5 : on = true → calmI f ⟨on, cm⟩ 0 := fun e => q5 e rfl
      subst q1
      (repeat ((first | refine fork_t ?_ | refine fork_f ?_); (conv => whnf)))
      refine Fork.mk (fun h => ?_) (fun h => ?_)
      · exfalso; simp at h; try omega
      clear h
      conv => whnf
      (repeat ((first | refine fork_t ?_ | refine fork_f ?_); (conv => whnf)))
      refine Fork.mk (fun h => ?_) (fun h => ?_)
      · exfalso; simp at h; try omega
      clear h
      conv => whnf
      (repeat ((first | refine fork_t ?_ | refine fork_f ?_); (conv => whnf)))
      refine Fork.mk (fun h => ?_) (fun h => ?_)
      · conv => whnf
        (repeat ((first | refine fork_t ?_ | refine fork_f ?_); (conv => whnf)))
        rw [hw1]
        exact ⟨(i + 1, ⟨_, cm⟩, 0), ⟨hi2, q5 h, by dsimp only; omega⟩, Shift.reset ⟨rfl, rfl, rfl, rfl, rfl, rfl, trivial⟩ ⟨rfl, rfl, trivial⟩ rfl rfl, by dsimp only; omega⟩
      · conv => whnf
        (repeat ((first | refine fork_t ?_ | refine fork_f ?_); (conv => whnf)))
        rw [hw1]
        exact ⟨(i + 1, ⟨_, cm⟩, w), ⟨hi2, q4, by dsimp only; omega⟩, Shift.reset ⟨rfl, rfl, rfl, rfl, rfl, rfl, trivial⟩ ⟨rfl, rfl, trivial⟩ rfl rfl, by dsimp only; omega⟩
    | true =>
      have q2 := q2 rfl
      subst q2
      (repeat ((first | refine fork_t ?_ | refine fork_f ?_); (conv => whnf)))
      refine Fork.mk (fun h => ?_) (fun h => ?_)
      · exfalso; simp at h; try omega
      clear h
      conv => whnf
      (repeat ((first | refine fork_t ?_ | refine fork_f ?_); (conv => whnf)))
      refine Fork.mk (fun h => ?_) (fun h => ?_)
      · exfalso; simp at h; try omega
      clear h
      conv => whnf
      (repeat ((first | refine fork_t ?_ | refine fork_f ?_); (conv => whnf)))
      refine Fork.mk (fun h => ?_) (fun h => ?_)
      · conv => whnf
        (repeat ((first | refine fork_t ?_ | refine fork_f ?_); (conv => whnf)))
        rw [hw1]
        exact ⟨(i + 1, ⟨_, cm⟩, w), ⟨hi2, q4, by dsimp only; omega⟩, Shift.reset ⟨rfl, rfl, rfl, rfl, rfl, rfl, trivial⟩ ⟨rfl, rfl, trivial⟩ rfl rfl, by dsimp only; omega⟩
      · conv => whnf
        (repeat ((first | refine fork_t ?_ | refine fork_f ?_); (conv => whnf)))
        rw [hw1]
        exact ⟨(i + 1, ⟨_, cm⟩, w), ⟨hi2, q4, by dsimp only; omega⟩, Shift.reset ⟨rfl, rfl, rfl, rfl, rfl, rfl, trivial⟩ ⟨rfl, rfl, trivial⟩ rfl rfl, by dsimp only; omega⟩
  · have hx : ¬ x < f.en := by simpa using h
    clear h
    conv => whnf
    have e0 : (0 : Int) = lowN f low x := (lf hx).symm
    generalize lowN f low x = w at q2 q4 hlx e0
    subst e0
    cases son with
    | false =>
      have q1 := q1 rfl
      have q5 : on = true → calmI f ⟨on, cm⟩ 0 := fun e => q5 e rfl
      subst q1
      (repeat ((first | refine fork_t ?_ | refine fork_f ?_); (conv => whnf)))
      refine Fork.mk (fun h => ?_) (fun h => ?_)
      · exfalso; simp at h; try omega
      clear h
      conv => whnf
      (repeat ((first | refine fork_t ?_ | refine fork_f ?_); (conv => whnf)))
      refine Fork.mk (fun h => ?_) (fun h => ?_)
      · exfalso; simp at h; try omega
      clear h
      conv => whnf
      (repeat ((first | refine fork_t ?_ | refine fork_f ?_); (conv => whnf)))
      refine Fork.mk (fun h => ?_) (fun h => ?_)
      · conv => whnf
        (repeat ((first | refine fork_t ?_ | refine fork_f ?_); (conv => whnf)))
        rw [hw1]
        exact ⟨(i + 1, ⟨_, cm⟩, 0), ⟨hi2, q5 h, by dsimp only; omega⟩, Shift.reset ⟨rfl, rfl, rfl, rfl, rfl, rfl, trivial⟩ ⟨rfl, rfl, trivial⟩ rfl rfl, by dsimp only; omega⟩
      · conv => whnf
        (repeat ((first | refine fork_t ?_ | refine fork_f ?_); (conv => whnf)))
        rw [hw1]
        exact ⟨(i + 1, ⟨_, cm⟩, 0), ⟨hi2, q4, by dsimp only; omega⟩, Shift.reset ⟨rfl, rfl, rfl, rfl, rfl, rfl, trivial⟩ ⟨rfl, rfl, trivial⟩ rfl rfl, by dsimp only; omega⟩
    | true =>
      have q2 := q2 rfl
      subst q2
      (repeat ((first | refine fork_t ?_ | refine fork_f ?_); (conv => whnf)))
      refine Fork.mk (fun h => ?_) (fun h => ?_)
      · exfalso; simp at h; try omega
      clear h
      conv => whnf
      (repeat ((first | refine fork_t ?_ | refine fork_f ?_); (conv => whnf)))
      refine Fork.mk (fun h => ?_) (fun h => ?_)
      · exfalso; simp at h; try omega
      clear h
      conv => whnf
      (repeat ((first | refine fork_t ?_ | refine fork_f ?_); (conv => whnf)))
      refine Fork.mk (fun h => ?_) (fun h => ?_)
      · conv => whnf
        (repeat ((first | refine fork_t ?_ | refine fork_f ?_); (conv => whnf)))
        rw [hw1]
        exact ⟨(i + 1, ⟨_, cm⟩, 0), ⟨hi2, q4, by dsimp only; omega⟩, Shift.reset ⟨rfl, rfl, rfl, rfl, rfl, rfl, trivial⟩ ⟨rfl, rfl, trivial⟩ rfl rfl, by dsimp only; omega⟩
      · conv => whnf
        (repeat ((first | refine fork_t ?_ | refine fork_f ?_); (conv => whnf)))
        rw [hw1]
        exact ⟨(i + 1, ⟨_, cm⟩, 0), ⟨hi2, q4, by dsimp only; omega⟩, Shift.reset ⟨rfl, rfl, rfl, rfl, rfl, rfl, trivial⟩ ⟨rfl, rfl, trivial⟩ rfl rfl, by dsimp only; omega⟩
end Go.Proofs
