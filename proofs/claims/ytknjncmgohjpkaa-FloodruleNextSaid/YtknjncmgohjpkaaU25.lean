/- Proved here: what functions of the given program come to, for the statements of this chapter; no condition but those in the theorems. -/
import Derived.Test.YtknjncmgohjpkaaT25
namespace Go.Proofs
open Go Go.Abs
set_option linter.unusedSimpArgs false
set_option linter.unusedVariables false
set_option maxRecDepth 4000
theorem map_drop_tail (o : Option Ls) (k : Nat) : (o.map (List.drop k)).map List.tail = o.map (List.drop (k + 1)) := by
  cases o with
  | none => rfl
  | some a => simp [List.tail_drop]
theorem rckT_ok : FunR Try.prog 36 R_ckT := by
  intro args k h
  obtain ⟨t, rfl, hf, hk⟩ := h
  have hml := eL_len t.lv
  have hmi := eL_len t.inf
  have hmr := eW_len t.rel
  refine does_ex (qc := qc1) (np := []) (CK := ckK [(55, cSc R_axE), (56, cSc R_within)]) mixed Try.func36 rfl rfl Try.ntmps36 Try.results36 τ_ok (by kernel_rfl) (ckK_ok ⟨cSc_ok raxis_ok, cSc_ok fin_ok, trivial⟩) (by simp) ?_
  conv => whnf
  have c1 : inB 1 20 t.lv.length = false → k (I 42) := fun e => kI hk (by rw [ckT, if_pos e])
  have c2 : inB 1 20 t.lv.length = true → inB 1 20 t.inf.length = false → k (I 42) := fun e e' => kI hk (by rw [ckT, if_neg (by simp [e]), if_pos e'])
  refine Fork.mk (fun g1 => ?_) (fun g1 => ?_)
  · conv => whnf
    (repeat (refine fork_t ?_; (conv => whnf)))
    exact c1 (by simp [inB] at *; omega)
  conv => whnf
  refine Fork.mk (fun g2 => ?_) (fun g2 => ?_)
  · conv => whnf
    (repeat (refine fork_t ?_; (conv => whnf)))
    exact c1 (by simp [inB] at *; omega)
  conv => whnf
  have ok1 : inB 1 20 t.lv.length = true := by simp [inB] at *; omega
  refine Fork.mk (fun g3 => ?_) (fun g3 => ?_)
  · conv => whnf
    (repeat (refine fork_t ?_; (conv => whnf)))
    exact c2 ok1 (by simp [inB] at *; omega)
  conv => whnf
  refine Fork.mk (fun g4 => ?_) (fun g4 => ?_)
  · conv => whnf
    exact c2 ok1 (by simp [inB] at *; omega)
  have ok2 : inB 1 20 t.inf.length = true := by simp [inB] at *; omega
  clear g1 g2 g3 g4 c1 c2
  conv => whnf
  refine ⟨t.lv, 16777216, rfl, hf.l, ?_⟩
  conv => whnf
  refine Fork.mk (fun h => ?_) (fun h => ?_)
  · have h3 : axE 16777216 none t.lv ≠ 0 := by simpa using h
    conv => whnf
    exact kI hk (by rw [ckT, if_neg (by simp [ok1]), if_neg (by simp [ok2]), if_pos h3])
  have h3 : axE 16777216 none t.lv = 0 := by simpa using h
  clear h
  conv => whnf
  refine ⟨t.inf, 1073741824, rfl, hf.i, ?_⟩
  conv => whnf
  refine Fork.mk (fun h => ?_) (fun h => ?_)
  · have h4 : axE 1073741824 none t.inf ≠ 0 := by simpa using h
    conv => whnf
    exact kI hk (by rw [ckT, if_neg (by simp [ok1]), if_neg (by simp [ok2]), if_neg (by simp [h3]), if_pos h4])
  have h4 : axE 1073741824 none t.inf = 0 := by simpa using h
  clear h
  conv => whnf
  refine Fork.mk (fun h => ?_) (fun h => ?_)
  · have h5 : t.rel.length ≠ t.lv.length := by simp at h; omega
    conv => whnf
    exact kI hk (by rw [ckT, if_neg (by simp [ok1]), if_neg (by simp [ok2]), if_neg (by simp [h3]), if_neg (by simp [h4]), if_pos h5])
  have h5 : t.rel.length = t.lv.length := by simp at h; omega
  have e5 : ckT t = rlE t.inf.length none t.rel := by rw [ckT, if_neg (by simp [ok1]), if_neg (by simp [ok2]), if_neg (by simp [h3]), if_neg (by simp [h4]), if_neg (by omega)]
  have hn1 : 1 ≤ t.inf.length ∧ t.inf.length ≤ 20 := by simp [inB] at ok2; omega
  have hl20 : t.rel.length ≤ 20 := by simp [inB] at ok1; omega
  clear h
  rw [e5] at hk
  conv => whnf
  refine ⟨Nat × Option Ls, fun s => ([(1, .c (.ptr (.l 1 0) 0)), (51, .c (.lst (eW t.rel))), (52, I (eW t.rel).length), (53, I s.1)], ⟨[(.l 1 0, .blk (ftC t))], 9, []⟩),
    fun s => s.1 ≤ t.rel.length ∧ rlE t.inf.length none t.rel = rlE t.inf.length s.2 (t.rel.drop s.1) ∧ (s.2 = none → s.1 = 0) ∧ ∀ a, s.2 = some a → 1 ≤ s.1 ∧ t.rel[s.1 - 1]? = some a ∧ a.length = t.inf.length, fun s => t.rel.length - s.1, (0, none), ⟨Nat.zero_le _, rfl, fun _ => rfl, fun a e => by cases e⟩, Shift.reset ⟨rfl, rfl, rfl, rfl, trivial⟩ ⟨rfl, trivial⟩ rfl rfl, fun s hs => ?_⟩
  obtain ⟨i, o⟩ := s
  obtain ⟨hi1, hi2, hn0, hab⟩ := hs
  dsimp only at hi1 hi2 hn0 hab ⊢
  conv => whnf
  refine Fork.mk (fun h => ?_) (fun h => ?_)
  rotate_left
  · have hie : i = t.rel.length := by simp at h; omega
    rw [hie, List.drop_length] at hi2
    conv => whnf
    exact kI hk (by rw [hi2]; cases o <;> rfl)
  have hi : i < t.rel.length := by simp at h; omega
  clear h
  have hci := List.getElem?_eq_getElem hi
  have hrl := hf.w _ (List.getElem_mem hi)
  generalize t.rel[i] = r at hci hrl
  have hmq := eL_len r
  rw [drop_of hci, rlE] at hi2
  have hw1 := wr_succ (i := i) (by omega)
  conv => whnf
  refine ⟨by omega, rwC r, by rw [Int.toNat_natCast, List.getElem?_map, hci]; rfl, rfl, ?_⟩
  conv => whnf
  refine Fork.mk (fun h => ?_) (fun h => ?_)
  · have h6 : rowE r o t.inf.length = 3 := by rw [rowE, if_pos (by simp at h; omega)]
    rw [if_pos (by omega), h6] at hi2
    conv => whnf
    exact kI hk hi2
  have hrn : r.length = t.inf.length := by simp at h; omega
  clear h
  have h6 : rowE r o t.inf.length = rwE none o r := by rw [rowE, if_neg (by omega)]
  rw [h6] at hi2
  have hbad : ∀ e, rwE none o r = e → e ≠ 0 → k (I e) := fun e e1 e2 => by
    rw [if_pos (by omega), e1] at hi2
    exact kI hk hi2
  have hgood : rwE none o r = 0 → rlE t.inf.length none t.rel = rlE t.inf.length (some r) (t.rel.drop (i + 1)) := fun e1 => by
    rw [if_neg (by omega)] at hi2
    exact hi2
  clear hi2 h6
  conv => whnf
  refine ⟨Nat, fun j => ([(1, .c (.ptr (.l 1 0) 0)), (5, I i), (6, .c (.lst (eL r))), (51, .c (.lst (eW t.rel))), (52, I (eW t.rel).length), (53, I i), (64, .c (.lst (eL r))), (65, I (eL r).length), (66, I j)], ⟨[(.l 1 0, .blk (ftC t))], 9, []⟩),
    fun j => j ≤ r.length ∧ rwE none o r = rwE (if j = 0 then none else r[j - 1]?) (o.map (List.drop j)) (r.drop j), fun j => r.length - j, 0, ⟨Nat.zero_le _, by cases o <;> rfl⟩, Shift.reset ⟨rfl, rfl, rfl, rfl, rfl, rfl, rfl, rfl, rfl, trivial⟩ ⟨rfl, trivial⟩ rfl rfl, fun j hj => ?_⟩
  obtain ⟨hj1, hj2⟩ := hj
  dsimp only
  conv => whnf
  refine Fork.mk (fun h => ?_) (fun h => ?_)
  rotate_left
  · have hje : j = r.length := by simp at h; omega
    rw [hje, List.drop_length] at hj2
    have hz : rwE none o r = 0 := by rw [hj2]; rfl
    conv => whnf
    rw [hw1]
    exact ⟨(i + 1, some r), ⟨hi, hgood hz, fun e => (by cases e), fun a e => (by cases e; exact ⟨by dsimp only; omega, hci, hrn⟩)⟩, Shift.reset ⟨rfl, rfl, rfl, rfl, trivial⟩ ⟨rfl, trivial⟩ rfl rfl, by dsimp only; omega⟩
  have hj : j < r.length := by simp at h; omega
  clear h
  have hcj := List.getElem?_eq_getElem hj
  generalize r[j] = x at hcj
  rw [drop_of hcj, rwE_cons, map_drop_tail] at hj2
  have hw2 := wr_succ (i := j) (by omega)
  conv => whnf
  refine ⟨by omega, eI x, by rw [Int.toNat_natCast, List.getElem?_map, hcj]; rfl, rfl, ?_⟩
  conv => whnf
  refine Fork.mk (fun h => ?_) (fun h => ?_)
  · rw [if_pos (by simp [inB] at *; omega)] at hj2
    conv => whnf
    exact hbad 1 hj2 (by omega)
  rw [if_neg (by simp [inB] at *; omega)] at hj2
  clear h
  conv => whnf
  rcases Nat.eq_zero_or_pos j with hj0 | hj0
  · subst hj0
    refine Fork.mk (fun h => ?_) (fun h => ?_)
    · exfalso; simp at h
    clear h
    conv => whnf
    (repeat ((first | refine fork_t ?_ | refine fork_f ?_); (conv => whnf)))
    cases o with
    | none =>
      have hi0 := hn0 rfl
      subst hi0
      rw [if_neg (by simp [qltF, abF])] at hj2
      refine Fork.mk (fun h => ?_) (fun h => ?_)
      · exfalso; simp at h
      clear h
      conv => whnf
      (repeat ((first | refine fork_t ?_ | refine fork_f ?_); (conv => whnf)))
      rw [hw2]
      exact ⟨_, ⟨hj, by rw [hj2, if_neg (Nat.succ_ne_zero _), show ∀ n, Nat.succ n - 1 = n from fun _ => rfl, hcj]⟩, Shift.reset ⟨rfl, rfl, rfl, rfl, rfl, rfl, rfl, rfl, rfl, trivial⟩ ⟨rfl, trivial⟩ rfl rfl, by omega⟩
    | some a =>
      obtain ⟨ha1, ha2, ha3⟩ := hab a rfl
      have hcy := List.getElem?_eq_getElem (show 0 < a.length by omega)
      generalize a[0] = y at hcy
      have hw4 : IntKind.i64.wrap ((i : Int) - 1) = ((i - 1 : Nat) : Int) := by rw [wrap_in (by omega) (by omega)]; omega
      rw [show Option.map (List.drop 0) (some a) = some (y :: a.drop (0 + 1)) from congrArg some (drop_of hcy)] at hj2
      refine Fork.mk (fun h => ?_) (fun h => ?_)
      rotate_left
      · exfalso; simp at h; omega
      clear h
      conv => whnf
      rw [hw4]
      refine ⟨by omega, rwC a, by rw [Int.toNat_natCast, List.getElem?_map, ha2]; rfl, rfl, ?_⟩
      conv => whnf
      refine ⟨by omega, eI y, by rw [Int.toNat_natCast, List.getElem?_map, hcy]; rfl, rfl, ?_⟩
      conv => whnf
      refine Fork.mk (fun h => ?_) (fun h => ?_)
      · rw [if_pos (by simp [qltF, abF] at *; omega)] at hj2
        conv => whnf
        exact hbad 4 hj2 (by omega)
      have hy : ¬ x < y := by simpa using h
      clear h
      rw [if_neg (by simp [qltF, abF]; omega)] at hj2
      conv => whnf
      (repeat ((first | refine fork_t ?_ | refine fork_f ?_); (conv => whnf)))
      rw [hw2]
      exact ⟨_, ⟨hj, by rw [hj2, if_neg (Nat.succ_ne_zero _), show ∀ n, Nat.succ n - 1 = n from fun _ => rfl, hcj]⟩, Shift.reset ⟨rfl, rfl, rfl, rfl, rfl, rfl, rfl, rfl, rfl, trivial⟩ ⟨rfl, trivial⟩ rfl rfl, by omega⟩
  have hcq := List.getElem?_eq_getElem (show j - 1 < r.length by omega)
  generalize r[j - 1] = q at hcq
  rw [if_neg (by omega : ¬ j = 0), hcq] at hj2
  refine Fork.mk (fun h => ?_) (fun h => ?_)
  rotate_left
  · exfalso; simp at h; omega
  clear h
  have hw3 : IntKind.i64.wrap ((j : Int) - 1) = ((j - 1 : Nat) : Int) := by rw [wrap_in (by omega) (by omega)]; omega
  conv => whnf
  rw [hw3]
  refine ⟨by omega, eI q, by rw [Int.toNat_natCast, List.getElem?_map, hcq]; rfl, rfl, ?_⟩
  conv => whnf
  refine Fork.mk (fun h => ?_) (fun h => ?_)
  · rw [if_pos (by simp [qltF] at *; omega)] at hj2
    conv => whnf
    (repeat ((first | refine fork_t ?_ | refine fork_f ?_); (conv => whnf)))
    exact hbad 4 hj2 (by omega)
  have hq : ¬ x < q := by simpa using h
  clear h
  conv => whnf
  (repeat ((first | refine fork_t ?_ | refine fork_f ?_); (conv => whnf)))
  cases o with
  | none =>
    have hi0 := hn0 rfl
    subst hi0
    rw [if_neg (by simp [qltF, abF]; omega)] at hj2
    refine Fork.mk (fun h => ?_) (fun h => ?_)
    · exfalso; simp at h
    clear h
    conv => whnf
    (repeat ((first | refine fork_t ?_ | refine fork_f ?_); (conv => whnf)))
    rw [hw2]
    exact ⟨_, ⟨hj, by rw [hj2, if_neg (Nat.succ_ne_zero _), show ∀ n, Nat.succ n - 1 = n from fun _ => rfl, hcj]⟩, Shift.reset ⟨rfl, rfl, rfl, rfl, rfl, rfl, rfl, rfl, rfl, trivial⟩ ⟨rfl, trivial⟩ rfl rfl, by omega⟩
  | some a =>
    obtain ⟨ha1, ha2, ha3⟩ := hab a rfl
    have hcy := List.getElem?_eq_getElem (show j < a.length by omega)
    generalize a[j] = y at hcy
    have hw4 : IntKind.i64.wrap ((i : Int) - 1) = ((i - 1 : Nat) : Int) := by rw [wrap_in (by omega) (by omega)]; omega
    rw [show Option.map (List.drop j) (some a) = some (y :: a.drop (j + 1)) from congrArg some (drop_of hcy)] at hj2
    refine Fork.mk (fun h => ?_) (fun h => ?_)
    rotate_left
    · exfalso; simp at h; omega
    clear h
    conv => whnf
    rw [hw4]
    refine ⟨by omega, rwC a, by rw [Int.toNat_natCast, List.getElem?_map, ha2]; rfl, rfl, ?_⟩
    conv => whnf
    refine ⟨by omega, eI y, by rw [Int.toNat_natCast, List.getElem?_map, hcy]; rfl, rfl, ?_⟩
    conv => whnf
    refine Fork.mk (fun h => ?_) (fun h => ?_)
    · rw [if_pos (by simp [qltF, abF] at *; omega)] at hj2
      conv => whnf
      exact hbad 4 hj2 (by omega)
    have hy : ¬ x < y := by simpa using h
    clear h
    rw [if_neg (by simp [qltF, abF]; omega)] at hj2
    conv => whnf
    (repeat ((first | refine fork_t ?_ | refine fork_f ?_); (conv => whnf)))
    rw [hw2]
    exact ⟨_, ⟨hj, by rw [hj2, if_neg (Nat.succ_ne_zero _), show ∀ n, Nat.succ n - 1 = n from fun _ => rfl, hcj]⟩, Shift.reset ⟨rfl, rfl, rfl, rfl, rfl, rfl, rfl, rfl, rfl, trivial⟩ ⟨rfl, trivial⟩ rfl rfl, by omega⟩
end Go.Proofs
