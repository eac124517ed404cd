/- Proved here: what functions of the given program come to, for the statements of this chapter; no condition but those in the theorems. -/
import Derived.Test.YtknjncmgohjpkaaC25
namespace Go.Proofs
open Go Go.Abs
set_option linter.unusedSimpArgs false
set_option linter.unusedVariables false
set_option maxRecDepth 4000
theorem kI0 {k : AV → List MObj → Prop} {a b : Int} (h : k (I a) []) (e : a = b) : k (I b) [] := e ▸ h
theorem row_ok : FunG Try.prog 53 R_rowE := by
  intro args os k h
  obtain ⟨l, ab, n, rfl, rfl, hl, hab, hk⟩ := h
  have hm := eL_len l
  cases ab with
  | none =>
    refine doesG_ex (qc := qc1) (np := []) (CK := ckK []) mixed Try.func53 rfl rfl Try.ntmps53 Try.results53 τ_ok (by kernel_rfl) (ckK_ok trivial) (by simp) rfl rfl ?_
    conv => whnf
    refine Fork.mk (fun h => ?_) (fun h => ?_)
    · have h1 : (l.length : Int) ≠ n := by simpa using h
      conv => whnf
      exact ⟨rfl, rfl, kI0 hk (by rw [rowE, if_pos h1])⟩
    have h1 : (l.length : Int) = n := by simpa using h
    have hrow : rowE l (none) n = rwE none (none) l := by rw [rowE, if_neg (by omega)]
    clear h
    conv => whnf
    refine ⟨Nat, fun i => ([(0, .c (.lst (eL l))), (1, .c (.sc (.slice none 0 0))), (13, .c (.lst (eL l))), (14, I (eL l).length), (15, I i)], ⟨[], 40, []⟩),
      fun i => i ≤ l.length ∧ rwE none (none) l = rwE (if i = 0 then none else l[i - 1]?) none (l.drop i), fun i => l.length - i, 0, ⟨Nat.zero_le _, rfl⟩, Shift.reset ⟨rfl, rfl, rfl, rfl, rfl, trivial⟩ trivial rfl rfl, fun i hi => ?_⟩
    obtain ⟨hi1, hi2⟩ := hi
    dsimp only
    conv => whnf
    refine Fork.mk (fun h => ?_) (fun h => ?_)
    · have hi : i < l.length := by simp at h; omega
      clear h
      have hci := List.getElem?_eq_getElem hi
      generalize l[i] = x at hci
      skip
      rw [drop_of hci, rwE_cons] at hi2
      rw [show ((none : Option Ls).map List.tail) = none from rfl] at hi2
      have hw1 := wr_succ (i := i) (by omega)
      conv => whnf
      refine ⟨by omega, eI x, by rw [Int.toNat_natCast, List.getElem?_map, hci]; rfl, rfl, ?_⟩
      conv => whnf
      have bad : inB 0 1073741824 x = false → k (I 1) [] := fun e => by rw [if_pos e] at hi2; exact kI0 hk (by rw [hrow]; exact hi2)
      refine Fork.mk (fun h => ?_) (fun h => ?_)
      · conv => whnf
        (repeat (refine fork_t ?_; (conv => whnf)))
        exact ⟨rfl, rfl, bad (by simp [inB] at h ⊢; omega)⟩
      conv => whnf
      refine Fork.mk (fun h' => ?_) (fun h' => ?_)
      · conv => whnf
        exact ⟨rfl, rfl, bad (by simp [inB] at h h' ⊢; omega)⟩
      conv => whnf
      have hok : inB 0 1073741824 x = true := by simp [inB] at *; omega
      rw [if_neg (by simp [hok])] at hi2
      clear h h' bad
      rcases Nat.eq_zero_or_pos i with hi0 | hi0
      · subst hi0
        refine Fork.mk (fun h => ?_) (fun h => ?_)
        · exfalso; simp at h
        clear h
        conv => whnf
        (repeat ((first | refine fork_f ?_ | refine fork_t ?_); (conv => whnf)))
        rw [if_neg (by simp [qltF, abF] at *; try omega)] at hi2
        conv => whnf
        rw [hw1]
        exact ⟨_, ⟨hi, by rw [hi2, if_neg (Nat.succ_ne_zero _), show ∀ n, Nat.succ n - 1 = n from fun _ => rfl, hci]⟩, Shift.reset ⟨rfl, rfl, rfl, rfl, rfl, trivial⟩ trivial rfl rfl, by omega⟩
      have hcj := List.getElem?_eq_getElem (show i - 1 < l.length by omega)
      generalize l[i - 1] = q at hcj
      rw [if_neg (by omega : ¬ i = 0), hcj] at hi2
      refine Fork.mk (fun h => ?_) (fun h => ?_)
      rotate_left
      · exfalso; simp at h; omega
      clear h
      have hw3 : IntKind.i64.wrap ((i : Int) - 1) = ((i - 1 : Nat) : Int) := by rw [wrap_in (by omega) (by omega)]; omega
      conv => whnf
      rw [hw3]
      refine ⟨by omega, eI q, by rw [Int.toNat_natCast, List.getElem?_map, hcj]; rfl, rfl, ?_⟩
      conv => whnf
      refine Fork.mk (fun h => ?_) (fun h => ?_)
      · rw [if_pos (by simp [qltF] at *; omega)] at hi2
        conv => whnf
        (repeat (refine fork_t ?_; (conv => whnf)))
        exact ⟨rfl, rfl, kI0 hk (by rw [hrow]; exact hi2)⟩
      have hqx : ¬ x < q := by simpa using h
      clear h
      conv => whnf
      (repeat ((first | refine fork_f ?_ | refine fork_t ?_); (conv => whnf)))
      rw [if_neg (by simp [qltF, abF] at *; try omega)] at hi2
      conv => whnf
      rw [hw1]
      exact ⟨_, ⟨hi, by rw [hi2, if_neg (Nat.succ_ne_zero _), show ∀ n, Nat.succ n - 1 = n from fun _ => rfl, hci]⟩, Shift.reset ⟨rfl, rfl, rfl, rfl, rfl, trivial⟩ trivial rfl rfl, by omega⟩
    have hie : i = l.length := by simp at h; omega
    subst hie
    rw [List.drop_length] at hi2
    conv => whnf
    exact ⟨rfl, rfl, kI0 hk (by rw [hrow, hi2]; rfl)⟩
  | some a =>
    obtain ⟨ha1, ha2⟩ := hab a rfl
    obtain ⟨b, a', rfl⟩ : ∃ b a', a = b :: a' := by
      cases a with
      | nil => simp at ha1
      | cons b a' => exact ⟨b, a', rfl⟩
    have hma := eL_len (b :: a')
    refine doesG_ex (qc := qc1) (np := []) (CK := ckK []) mixed Try.func53 rfl rfl Try.ntmps53 Try.results53 τ_ok (by kernel_rfl) (ckK_ok trivial) (by simp) rfl rfl ?_
    conv => whnf
    refine Fork.mk (fun h => ?_) (fun h => ?_)
    · have h1 : (l.length : Int) ≠ n := by simpa using h
      conv => whnf
      exact ⟨rfl, rfl, kI0 hk (by rw [rowE, if_pos h1])⟩
    have h1 : (l.length : Int) = n := by simpa using h
    have hrow : rowE l (some (b :: a')) n = rwE none (some (b :: a')) l := by rw [rowE, if_neg (by omega)]
    clear h
    conv => whnf
    refine ⟨Nat, fun i => ([(0, .c (.lst (eL l))), (1, .c (.lst (eL (b :: a')))), (13, .c (.lst (eL l))), (14, I (eL l).length), (15, I i)], ⟨[], 40, []⟩),
      fun i => i ≤ l.length ∧ rwE none (some (b :: a')) l = rwE (if i = 0 then none else l[i - 1]?) (some ((b :: a').drop i)) (l.drop i), fun i => l.length - i, 0, ⟨Nat.zero_le _, rfl⟩, Shift.reset ⟨rfl, rfl, rfl, rfl, rfl, trivial⟩ trivial rfl rfl, fun i hi => ?_⟩
    obtain ⟨hi1, hi2⟩ := hi
    dsimp only
    conv => whnf
    refine Fork.mk (fun h => ?_) (fun h => ?_)
    · have hi : i < l.length := by simp at h; omega
      clear h
      have hci := List.getElem?_eq_getElem hi
      generalize l[i] = x at hci
      have hyi := List.getElem?_eq_getElem (show i < (b :: a').length by omega)
      generalize (b :: a')[i] = y at hyi
      rw [drop_of hci, rwE_cons] at hi2
      rw [show ((some ((b :: a').drop i)).map List.tail) = some ((b :: a').drop (i + 1)) from congrArg some (List.tail_drop ..), drop_of hyi] at hi2
      have hw1 := wr_succ (i := i) (by omega)
      conv => whnf
      refine ⟨by omega, eI x, by rw [Int.toNat_natCast, List.getElem?_map, hci]; rfl, rfl, ?_⟩
      conv => whnf
      have bad : inB 0 1073741824 x = false → k (I 1) [] := fun e => by rw [if_pos e] at hi2; exact kI0 hk (by rw [hrow]; exact hi2)
      refine Fork.mk (fun h => ?_) (fun h => ?_)
      · conv => whnf
        (repeat (refine fork_t ?_; (conv => whnf)))
        exact ⟨rfl, rfl, bad (by simp [inB] at h ⊢; omega)⟩
      conv => whnf
      refine Fork.mk (fun h' => ?_) (fun h' => ?_)
      · conv => whnf
        exact ⟨rfl, rfl, bad (by simp [inB] at h h' ⊢; omega)⟩
      conv => whnf
      have hok : inB 0 1073741824 x = true := by simp [inB] at *; omega
      rw [if_neg (by simp [hok])] at hi2
      clear h h' bad
      rcases Nat.eq_zero_or_pos i with hi0 | hi0
      · subst hi0
        refine Fork.mk (fun h => ?_) (fun h => ?_)
        · exfalso; simp at h
        clear h
        conv => whnf
        (repeat ((first | refine fork_f ?_ | refine fork_t ?_); (conv => whnf)))
        refine ⟨by omega, eI y, by rw [Int.toNat_natCast, List.getElem?_map, hyi]; rfl, rfl, ?_⟩
        conv => whnf
        refine Fork.mk (fun h => ?_) (fun h => ?_)
        · rw [if_pos (by simp [qltF, abF] at *; omega)] at hi2
          conv => whnf
          exact ⟨rfl, rfl, kI0 hk (by rw [hrow]; exact hi2)⟩
        rw [if_neg (by simp [qltF, abF] at *; omega)] at hi2
        clear h
        conv => whnf
        rw [hw1]
        exact ⟨_, ⟨hi, by rw [hi2, if_neg (Nat.succ_ne_zero _), show ∀ n, Nat.succ n - 1 = n from fun _ => rfl, hci]⟩, Shift.reset ⟨rfl, rfl, rfl, rfl, rfl, trivial⟩ trivial rfl rfl, by omega⟩
      have hcj := List.getElem?_eq_getElem (show i - 1 < l.length by omega)
      generalize l[i - 1] = q at hcj
      rw [if_neg (by omega : ¬ i = 0), hcj] at hi2
      refine Fork.mk (fun h => ?_) (fun h => ?_)
      rotate_left
      · exfalso; simp at h; omega
      clear h
      have hw3 : IntKind.i64.wrap ((i : Int) - 1) = ((i - 1 : Nat) : Int) := by rw [wrap_in (by omega) (by omega)]; omega
      conv => whnf
      rw [hw3]
      refine ⟨by omega, eI q, by rw [Int.toNat_natCast, List.getElem?_map, hcj]; rfl, rfl, ?_⟩
      conv => whnf
      refine Fork.mk (fun h => ?_) (fun h => ?_)
      · rw [if_pos (by simp [qltF] at *; omega)] at hi2
        conv => whnf
        (repeat (refine fork_t ?_; (conv => whnf)))
        exact ⟨rfl, rfl, kI0 hk (by rw [hrow]; exact hi2)⟩
      have hqx : ¬ x < q := by simpa using h
      clear h
      conv => whnf
      (repeat ((first | refine fork_f ?_ | refine fork_t ?_); (conv => whnf)))
      refine ⟨by omega, eI y, by rw [Int.toNat_natCast, List.getElem?_map, hyi]; rfl, rfl, ?_⟩
      conv => whnf
      refine Fork.mk (fun h => ?_) (fun h => ?_)
      · rw [if_pos (by simp [qltF, abF] at *; omega)] at hi2
        conv => whnf
        exact ⟨rfl, rfl, kI0 hk (by rw [hrow]; exact hi2)⟩
      rw [if_neg (by simp [qltF, abF] at *; omega)] at hi2
      clear h
      conv => whnf
      rw [hw1]
      exact ⟨_, ⟨hi, by rw [hi2, if_neg (Nat.succ_ne_zero _), show ∀ n, Nat.succ n - 1 = n from fun _ => rfl, hci]⟩, Shift.reset ⟨rfl, rfl, rfl, rfl, rfl, trivial⟩ trivial rfl rfl, by omega⟩
    have hie : i = l.length := by simp at h; omega
    subst hie
    rw [List.drop_length] at hi2
    conv => whnf
    exact ⟨rfl, rfl, kI0 hk (by rw [hrow, hi2]; rfl)⟩
end Go.Proofs
