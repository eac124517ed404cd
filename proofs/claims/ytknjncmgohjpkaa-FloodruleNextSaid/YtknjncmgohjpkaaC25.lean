/- Proved here: what functions of the given program come to, for the statements of this chapter; no condition but those in the theorems. -/
import Derived.Test.YtknjncmgohjpkaaB25
import Derived.Test.YtknjncmgohjpkaaPFlood
namespace Go.Proofs
open Go Go.Abs
set_option linter.unusedSimpArgs false
set_option linter.unusedVariables false
set_option maxRecDepth 4000
theorem next_okF : FunR Try.prog 14 R_nextF := by
  intro args k h
  obtain ⟨f, s, x, rfl, hs, hk⟩ := h
  have hw : IntKind.i64.wrap (s.cm + 1) = s.cm + 1 := wrap_in (by omega) (by omega)
  refine does_ex (qc := qc1) (np := []) (CK := ckK []) mixed Try.func14 rfl rfl Try.ntmps14 Try.results14 τ_ok (by kernel_rfl) (ckK_ok trivial) (by simp) ?_
  conv => whnf
  refine Fork.mk (fun h => ?_) (fun h => ?_)
  · have h1 : f.bg ≤ x := by simpa using h
    conv => whnf
    exact kFs hk (by rw [nextF, if_pos h1])
  have h1 : ¬ f.bg ≤ x := by simpa using h
  clear h
  conv => whnf
  refine Fork.mk (fun h => ?_) (fun h => ?_)
  · have h2 : s.on = false := by simpa using h
    conv => whnf
    exact kFs hk (by rw [nextF, if_neg h1, if_pos h2])
  have h2 : ¬ s.on = false := by simpa using h
  clear h
  conv => whnf
  refine Fork.mk (fun h => ?_) (fun h => ?_)
  · have h3 : f.en ≤ x := by simpa using h
    conv => whnf
    exact kFs hk (by rw [nextF, if_neg h1, if_neg h2, if_pos h3])
  have h3 : ¬ f.en ≤ x := by simpa using h
  clear h
  conv => whnf
  rw [hw]
  refine Fork.mk (fun h => ?_) (fun h => ?_)
  · have h4 : f.cm ≤ s.cm + 1 := by simpa using h
    conv => whnf
    exact kFs hk (by rw [nextF, if_neg h1, if_neg h2, if_neg h3, if_pos h4])
  have h4 : ¬ f.cm ≤ s.cm + 1 := by simpa using h
  clear h
  conv => whnf
  exact kFs hk (by rw [nextF, if_neg h1, if_neg h2, if_neg h3, if_neg h4, hw])
theorem rnext_okF : FunR Try.prog 18 R_nextF := by
  intro args k h
  obtain ⟨f, s, x, rfl, hs, hk⟩ := h
  have hw : IntKind.i64.wrap (s.cm + 1) = s.cm + 1 := wrap_in (by omega) (by omega)
  refine does_ex (qc := qc1) (np := []) (CK := ckK []) mixed Try.func18 rfl rfl Try.ntmps18 Try.results18 τ_ok (by kernel_rfl) (ckK_ok trivial) (by simp) ?_
  conv => whnf
  refine Fork.mk (fun h => ?_) (fun h => ?_)
  · have h1 : f.bg ≤ x := by simpa using h
    conv => whnf
    exact kFs hk (by rw [nextF, if_pos h1])
  have h1 : ¬ f.bg ≤ x := by simpa using h
  clear h
  conv => whnf
  refine Fork.mk (fun h => ?_) (fun h => ?_)
  · have h2 : s.on = false := by simpa using h
    conv => whnf
    exact kFs hk (by rw [nextF, if_neg h1, if_pos h2])
  have h2 : ¬ s.on = false := by simpa using h
  clear h
  conv => whnf
  refine Fork.mk (fun h => ?_) (fun h => ?_)
  · have h3 : f.en ≤ x := by simpa using h
    conv => whnf
    exact kFs hk (by rw [nextF, if_neg h1, if_neg h2, if_pos h3])
  have h3 : ¬ f.en ≤ x := by simpa using h
  clear h
  conv => whnf
  rw [hw]
  refine Fork.mk (fun h => ?_) (fun h => ?_)
  · have h4 : f.cm ≤ s.cm + 1 := by simpa using h
    conv => whnf
    exact kFs hk (by rw [nextF, if_neg h1, if_neg h2, if_neg h3, if_pos h4])
  have h4 : ¬ f.cm ≤ s.cm + 1 := by simpa using h
  clear h
  conv => whnf
  exact kFs hk (by rw [nextF, if_neg h1, if_neg h2, if_neg h3, if_neg h4, hw])
theorem rising_ok : FunR Try.prog 52 R_axE := by
  intro args k h
  obtain ⟨l, m, rfl, hl, hk⟩ := h
  have hm := eL_len l
  refine does_ex (qc := qc1) (np := []) (CK := ckK []) mixed Try.func52 rfl rfl Try.ntmps52 Try.results52 τ_ok (by kernel_rfl) (ckK_ok trivial) (by simp) ?_
  conv => whnf
  refine ⟨Nat, fun i => ([(0, .c (.lst (eL l))), (1, I m), (7, .c (.lst (eL l))), (8, I (eL l).length), (9, I i)], ⟨[], 40, []⟩),
    fun i => i ≤ l.length ∧ axE m none l = axE m (if i = 0 then none else l[i - 1]?) (l.drop i), fun i => l.length - i, 0, ⟨Nat.zero_le _, rfl⟩, Shift.reset ⟨rfl, rfl, rfl, rfl, rfl, trivial⟩ trivial rfl rfl, fun i hi => ?_⟩
  obtain ⟨hi1, hi2⟩ := hi
  dsimp only
  conv => whnf
  refine Fork.mk (fun h => ?_) (fun h => ?_)
  · have hi : i < l.length := by simp at h; omega
    clear h
    have hci := List.getElem?_eq_getElem hi
    generalize l[i] = x at hci
    rw [drop_of hci, axE_cons] at hi2
    have hw1 := wr_succ (i := i) (by omega)
    conv => whnf
    refine ⟨by omega, eI x, by rw [Int.toNat_natCast, List.getElem?_map, hci]; rfl, rfl, ?_⟩
    conv => whnf
    have bad : inB 0 m x = false → k (I 1) := fun e => by rw [if_pos e] at hi2; exact kI hk hi2
    refine Fork.mk (fun h => ?_) (fun h => ?_)
    · conv => whnf
      (repeat (refine fork_t ?_; (conv => whnf)))
      exact bad (by simp [inB] at h ⊢; omega)
    conv => whnf
    refine Fork.mk (fun h' => ?_) (fun h' => ?_)
    · conv => whnf
      exact bad (by simp [inB] at h h' ⊢; omega)
    conv => whnf
    have hok : inB 0 m x = true := by simp [inB] at *; omega
    rw [if_neg (by simp [hok])] at hi2
    rcases Nat.eq_zero_or_pos i with hi0 | hi0
    · subst hi0
      rw [if_neg (by simp [qleF])] at hi2
      refine Fork.mk (fun h => ?_) (fun h => ?_)
      · exfalso; simp at h
      clear h
      conv => whnf
      repeat (refine fork_f ?_; (conv => whnf))
      rw [hw1]
      exact ⟨_, ⟨hi, by rw [hi2, if_neg (Nat.succ_ne_zero _), show Nat.succ 0 - 1 = 0 from rfl, hci]⟩, Shift.reset ⟨rfl, rfl, rfl, rfl, rfl, trivial⟩ trivial rfl rfl, by omega⟩
    have hcj := List.getElem?_eq_getElem (show i - 1 < l.length by omega)
    generalize l[i - 1] = q at hcj
    rw [if_neg (by omega : ¬ i = 0), hcj] at hi2
    refine Fork.mk (fun h => ?_) (fun h => ?_)
    rotate_left
    · exfalso; simp at h; omega
    clear h
    have hw3 : IntKind.i64.wrap ((i : Int) - 1) = ((i - 1 : Nat) : Int) := by rw [wrap_in (by omega) (by omega)]; omega
    conv => whnf
    rw [hw3]
    refine ⟨by omega, eI q, by rw [Int.toNat_natCast, List.getElem?_map, hcj]; rfl, rfl, ?_⟩
    conv => whnf
    refine Fork.mk (fun h => ?_) (fun h => ?_)
    · rw [if_pos (by simpa [qleF] using h)] at hi2
      conv => whnf
      exact kI hk hi2
    rw [if_neg (by simpa [qleF] using h)] at hi2
    clear h
    conv => whnf
    rw [hw1]
    exact ⟨_, ⟨hi, by rw [hi2, if_neg (Nat.succ_ne_zero _), show ∀ n, Nat.succ n - 1 = n from fun _ => rfl, hci]⟩, Shift.reset ⟨rfl, rfl, rfl, rfl, rfl, trivial⟩ trivial rfl rfl, by omega⟩
  have hie : i = l.length := by simp at h; omega
  subst hie
  rw [List.drop_length] at hi2
  conv => whnf
  exact kI hk (by rw [hi2]; rfl)
theorem fin_ok : FunR Try.prog 56 R_within := by
  intro args k h
  unfold R_within at h
  split at h
  case h_2 => exact h.elim
  rename_i x most
  refine does_ex (qc := qc1) (np := []) (CK := ckK []) mixed Try.func56 rfl rfl Try.ntmps56 Try.results56 τ_ok (by kernel_rfl) (ckK_ok trivial) (by simp) ?_
  conv => whnf
  repeat' (refine Fork.mk (fun h => ?_) (fun h => ?_) <;> first | (cases h; done) | (conv => whnf))
  all_goals simp_all [oneOf, nrm]
theorem raxis_ok : FunR Try.prog 55 R_axE := by
  intro args k h
  obtain ⟨l, m, rfl, hl, hk⟩ := h
  have hm := eL_len l
  refine does_ex (qc := qc1) (np := []) (CK := ckK [(56, cSc R_within)]) mixed Try.func55 rfl rfl Try.ntmps55 Try.results55 τ_ok (by kernel_rfl) (ckK_ok ⟨cSc_ok fin_ok, trivial⟩) (by simp) ?_
  conv => whnf
  refine ⟨Nat, fun i => ([(0, .c (.lst (eL l))), (1, I m), (7, .c (.lst (eL l))), (8, I (eL l).length), (9, I i)], ⟨[], 40, []⟩),
    fun i => i ≤ l.length ∧ axE m none l = axE m (if i = 0 then none else l[i - 1]?) (l.drop i), fun i => l.length - i, 0, ⟨Nat.zero_le _, rfl⟩, Shift.reset ⟨rfl, rfl, rfl, rfl, rfl, trivial⟩ trivial rfl rfl, fun i hi => ?_⟩
  obtain ⟨hi1, hi2⟩ := hi
  dsimp only
  conv => whnf
  refine Fork.mk (fun h => ?_) (fun h => ?_)
  · have hi : i < l.length := by simp at h; omega
    clear h
    have hci := List.getElem?_eq_getElem hi
    generalize l[i] = x at hci
    rw [drop_of hci, axE_cons] at hi2
    have hw1 := wr_succ (i := i) (by omega)
    conv => whnf
    refine ⟨by omega, eI x, by rw [Int.toNat_natCast, List.getElem?_map, hci]; rfl, rfl, ?_⟩
    conv => whnf
    have bad : inB 0 m x = false → k (I 1) := fun e => by rw [if_pos e] at hi2; exact kI hk hi2
    refine Fork.mk (fun h => ?_) (fun h => ?_)
    · conv => whnf
      exact bad (by simp [inB] at h ⊢; omega)
    conv => whnf
    have hok : inB 0 m x = true := by simp [inB] at *; omega
    rw [if_neg (by simp [hok])] at hi2
    rcases Nat.eq_zero_or_pos i with hi0 | hi0
    · subst hi0
      rw [if_neg (by simp [qleF])] at hi2
      refine Fork.mk (fun h => ?_) (fun h => ?_)
      · exfalso; simp at h
      clear h
      conv => whnf
      repeat (refine fork_f ?_; (conv => whnf))
      rw [hw1]
      exact ⟨_, ⟨hi, by rw [hi2, if_neg (Nat.succ_ne_zero _), show Nat.succ 0 - 1 = 0 from rfl, hci]⟩, Shift.reset ⟨rfl, rfl, rfl, rfl, rfl, trivial⟩ trivial rfl rfl, by omega⟩
    have hcj := List.getElem?_eq_getElem (show i - 1 < l.length by omega)
    generalize l[i - 1] = q at hcj
    rw [if_neg (by omega : ¬ i = 0), hcj] at hi2
    refine Fork.mk (fun h => ?_) (fun h => ?_)
    rotate_left
    · exfalso; simp at h; omega
    clear h
    have hw3 : IntKind.i64.wrap ((i : Int) - 1) = ((i - 1 : Nat) : Int) := by rw [wrap_in (by omega) (by omega)]; omega
    conv => whnf
    rw [hw3]
    refine ⟨by omega, eI q, by rw [Int.toNat_natCast, List.getElem?_map, hcj]; rfl, rfl, ?_⟩
    conv => whnf
    refine Fork.mk (fun h => ?_) (fun h => ?_)
    · rw [if_pos (by simpa [qleF] using h)] at hi2
      conv => whnf
      exact kI hk hi2
    rw [if_neg (by simpa [qleF] using h)] at hi2
    clear h
    conv => whnf
    rw [hw1]
    exact ⟨_, ⟨hi, by rw [hi2, if_neg (Nat.succ_ne_zero _), show ∀ n, Nat.succ n - 1 = n from fun _ => rfl, hci]⟩, Shift.reset ⟨rfl, rfl, rfl, rfl, rfl, trivial⟩ trivial rfl rfl, by omega⟩
  have hie : i = l.length := by simp at h; omega
  subst hie
  rw [List.drop_length] at hi2
  conv => whnf
  exact kI hk (by rw [hi2]; rfl)
end Go.Proofs
