/- Proved here: what functions of the given program come to, and the plain laws of it; no condition but those in the theorems. -/
import Derived.Test.YtknjncmgohjpkaaC25
namespace Go.Proofs
open Go Go.Abs
set_option linter.unusedSimpArgs false
set_option linter.unusedVariables false
set_option maxRecDepth 4000
theorem kI0 {k : AV → List MObj → Prop} {a b : Int} (h : k (I a) []) (e : a = b) : k (I b) [] := e ▸ h
theorem row_ok : FunG Try.prog 53 R_rowE := by
  intro args os k h
  obtain ⟨l, ab, n, rfl, rfl, hl, hab, hk⟩ := h
  have hm := eL_len l
  cases ab with
  | none =>
    refine doesG_ex (qc := qc1) (np := []) (CK := ckK []) mixed Try.func53 rfl rfl Try.ntmps53 Try.results53 τ_ok (by kernel_rfl) (ckK_ok trivial) (by simp) rfl rfl ?_
    conv => whnf
    refine Fork.mk (fun h => ?_) (fun h => ?_)
    · have h1 : (l.length : Int) ≠ n := by simpa using h
      conv => whnf
      exact ⟨rfl, rfl, kI0 hk (by rw [rowE, if_pos h1])⟩
    have h1 : (l.length : Int) = n := by simpa using h
    have hrow : rowE l (none) n = rwE none (none) l := by rw [rowE, if_neg (by omega)]
    clear h
    conv => whnf
    refine ⟨Nat, fun i => ([(0, .c (.lst (eL l))), (1, .c (.sc (.slice none 0 0))), (13, .c (.lst (eL l))), (14, I (eL l).length), (15, I i)], ⟨[], 40, []⟩),
      fun i => i ≤ l.length ∧ rwE none (none) l = rwE (if i = 0 then none else l[i - 1]?) none (l.drop i), fun i => l.length - i, 0, ⟨Nat.zero_le _, rfl⟩, Shift.reset ⟨rfl, rfl, rfl, rfl, rfl, trivial⟩ trivial rfl rfl, fun i hi => ?_⟩
    obtain ⟨hi1, hi2⟩ := hi
    dsimp only
    conv => whnf
    refine Fork.mk (fun h => ?_) (fun h => ?_)
    · have hi : i < l.length := by simp at h; omega
      clear h
      have hci := List.getElem?_eq_getElem hi
      generalize l[i] = x at hci
      skip
      rw [drop_of hci, rwE_cons] at hi2
      rw [show ((none : Option Ls).map List.tail) = none from rfl] at hi2
      have hw1 := wr_succ (i := i) (by omega)
      conv => whnf
      refine ⟨by omega, eI x, by rw [Int.toNat_natCast, List.getElem?_map, hci]; rfl, rfl, ?_⟩
      conv => whnf
      have bad : inB 0 1073741824 x = false → k (I 1) [] := fun e => by rw [if_pos e] at hi2; exact kI0 hk (by rw [hrow]; exact hi2)
      refine Fork.mk (fun h => ?_) (fun h => ?_)
      · conv => whnf
        (repeat (refine fork_t ?_; (conv => whnf)))
        exact ⟨rfl, rfl, bad (by simp [inB] at h ⊢; omega)⟩
      conv => whnf
      refine Fork.mk (fun h' => ?_) (fun h' => ?_)
      · conv => whnf
        exact ⟨rfl, rfl, bad (by simp [inB] at h h' ⊢; omega)⟩
      conv => whnf
      have hok : inB 0 1073741824 x = true := by simp [inB] at *; omega
      rw [if_neg (by simp [hok])] at hi2
      clear h h' bad
      rcases Nat.eq_zero_or_pos i with hi0 | hi0
      · subst hi0
        refine Fork.mk (fun h => ?_) (fun h => ?_)
        · exfalso; simp at h
        clear h
        conv => whnf
        (repeat ((first | refine fork_f ?_ | refine fork_t ?_); (conv => whnf)))
        rw [if_neg (by simp [qltF, abF] at *; try omega)] at hi2
        conv => whnf
        rw [hw1]
        exact ⟨_, ⟨hi, by rw [hi2, if_neg (Nat.succ_ne_zero _), show ∀ n, Nat.succ n - 1 = n from fun _ => rfl, hci]⟩, Shift.reset ⟨rfl, rfl, rfl, rfl, rfl, trivial⟩ trivial rfl rfl, by omega⟩
      have hcj := List.getElem?_eq_getElem (show i - 1 < l.length by omega)
      generalize l[i - 1] = q at hcj
      rw [if_neg (by omega : ¬ i = 0), hcj] at hi2
      refine Fork.mk (fun h => ?_) (fun h => ?_)
      rotate_left
      · exfalso; simp at h; omega
      clear h
      have hw3 : IntKind.i64.wrap ((i : Int) - 1) = ((i - 1 : Nat) : Int) := by rw [wrap_in (by omega) (by omega)]; omega
      conv => whnf
      rw [hw3]
      refine ⟨by omega, eI q, by rw [Int.toNat_natCast, List.getElem?_map, hcj]; rfl, rfl, ?_⟩
      conv => whnf
      refine Fork.mk (fun h => ?_) (fun h => ?_)
      · rw [if_pos (by simp [qltF] at *; omega)] at hi2
        conv => whnf
        (repeat (refine fork_t ?_; (conv => whnf)))
        exact ⟨rfl, rfl, kI0 hk (by rw [hrow]; exact hi2)⟩
      have hqx : ¬ x < q := by simpa using h
      clear h
      conv => whnf
      (repeat ((first | refine fork_f ?_ | refine fork_t ?_); (conv => whnf)))
      rw [if_neg (by simp [qltF, abF] at *; try omega)] at hi2
      conv => whnf
      rw [hw1]
      exact ⟨_, ⟨hi, by rw [hi2, if_neg (Nat.succ_ne_zero _), show ∀ n, Nat.succ n - 1 = n from fun _ => rfl, hci]⟩, Shift.reset ⟨rfl, rfl, rfl, rfl, rfl, trivial⟩ trivial rfl rfl, by omega⟩
    have hie : i = l.length := by simp at h; omega
    subst hie
    rw [List.drop_length] at hi2
    conv => whnf
    exact ⟨rfl, rfl, kI0 hk (by rw [hrow, hi2]; rfl)⟩
  | some a =>
    obtain ⟨ha1, ha2⟩ := hab a rfl
    obtain ⟨b, a', rfl⟩ : ∃ b a', a = b :: a' := by
      cases a with
      | nil => simp at ha1
      | cons b a' => exact ⟨b, a', rfl⟩
    have hma := eL_len (b :: a')
    refine doesG_ex (qc := qc1) (np := []) (CK := ckK []) mixed Try.func53 rfl rfl Try.ntmps53 Try.results53 τ_ok (by kernel_rfl) (ckK_ok trivial) (by simp) rfl rfl ?_
    conv => whnf
    refine Fork.mk (fun h => ?_) (fun h => ?_)
    · have h1 : (l.length : Int) ≠ n := by simpa using h
      conv => whnf
      exact ⟨rfl, rfl, kI0 hk (by rw [rowE, if_pos h1])⟩
    have h1 : (l.length : Int) = n := by simpa using h
    have hrow : rowE l (some (b :: a')) n = rwE none (some (b :: a')) l := by rw [rowE, if_neg (by omega)]
    clear h
    conv => whnf
    refine ⟨Nat, fun i => ([(0, .c (.lst (eL l))), (1, .c (.lst (eL (b :: a')))), (13, .c (.lst (eL l))), (14, I (eL l).length), (15, I i)], ⟨[], 40, []⟩),
      fun i => i ≤ l.length ∧ rwE none (some (b :: a')) l = rwE (if i = 0 then none else l[i - 1]?) (some ((b :: a').drop i)) (l.drop i), fun i => l.length - i, 0, ⟨Nat.zero_le _, rfl⟩, Shift.reset ⟨rfl, rfl, rfl, rfl, rfl, trivial⟩ trivial rfl rfl, fun i hi => ?_⟩
    obtain ⟨hi1, hi2⟩ := hi
    dsimp only
    conv => whnf
    refine Fork.mk (fun h => ?_) (fun h => ?_)
    · have hi : i < l.length := by simp at h; omega
      clear h
      have hci := List.getElem?_eq_getElem hi
      generalize l[i] = x at hci
      have hyi := List.getElem?_eq_getElem (show i < (b :: a').length by omega)
      generalize (b :: a')[i] = y at hyi
      rw [drop_of hci, rwE_cons] at hi2
      rw [show ((some ((b :: a').drop i)).map List.tail) = some ((b :: a').drop (i + 1)) from congrArg some (List.tail_drop ..), drop_of hyi] at hi2
      have hw1 := wr_succ (i := i) (by omega)
      conv => whnf
      refine ⟨by omega, eI x, by rw [Int.toNat_natCast, List.getElem?_map, hci]; rfl, rfl, ?_⟩
      conv => whnf
      have bad : inB 0 1073741824 x = false → k (I 1) [] := fun e => by rw [if_pos e] at hi2; exact kI0 hk (by rw [hrow]; exact hi2)
      refine Fork.mk (fun h => ?_) (fun h => ?_)
      · conv => whnf
        (repeat (refine fork_t ?_; (conv => whnf)))
        exact ⟨rfl, rfl, bad (by simp [inB] at h ⊢; omega)⟩
      conv => whnf
      refine Fork.mk (fun h' => ?_) (fun h' => ?_)
      · conv => whnf
        exact ⟨rfl, rfl, bad (by simp [inB] at h h' ⊢; omega)⟩
      conv => whnf
      have hok : inB 0 1073741824 x = true := by simp [inB] at *; omega
      rw [if_neg (by simp [hok])] at hi2
      clear h h' bad
      rcases Nat.eq_zero_or_pos i with hi0 | hi0
      · subst hi0
        refine Fork.mk (fun h => ?_) (fun h => ?_)
        · exfalso; simp at h
        clear h
        conv => whnf
        (repeat ((first | refine fork_f ?_ | refine fork_t ?_); (conv => whnf)))
        refine ⟨by omega, eI y, by rw [Int.toNat_natCast, List.getElem?_map, hyi]; rfl, rfl, ?_⟩
        conv => whnf
        refine Fork.mk (fun h => ?_) (fun h => ?_)
        · rw [if_pos (by simp [qltF, abF] at *; omega)] at hi2
          conv => whnf
          exact ⟨rfl, rfl, kI0 hk (by rw [hrow]; exact hi2)⟩
        rw [if_neg (by simp [qltF, abF] at *; omega)] at hi2
        clear h
        conv => whnf
        rw [hw1]
        exact ⟨_, ⟨hi, by rw [hi2, if_neg (Nat.succ_ne_zero _), show ∀ n, Nat.succ n - 1 = n from fun _ => rfl, hci]⟩, Shift.reset ⟨rfl, rfl, rfl, rfl, rfl, trivial⟩ trivial rfl rfl, by omega⟩
      have hcj := List.getElem?_eq_getElem (show i - 1 < l.length by omega)
      generalize l[i - 1] = q at hcj
      rw [if_neg (by omega : ¬ i = 0), hcj] at hi2
      refine Fork.mk (fun h => ?_) (fun h => ?_)
      rotate_left
      · exfalso; simp at h; omega
      clear h
      have hw3 : IntKind.i64.wrap ((i : Int) - 1) = ((i - 1 : Nat) : Int) := by rw [wrap_in (by omega) (by omega)]; omega
      conv => whnf
      rw [hw3]
      refine ⟨by omega, eI q, by rw [Int.toNat_natCast, List.getElem?_map, hcj]; rfl, rfl, ?_⟩
      conv => whnf
      refine Fork.mk (fun h => ?_) (fun h => ?_)
      · rw [if_pos (by simp [qltF] at *; omega)] at hi2
        conv => whnf
        (repeat (refine fork_t ?_; (conv => whnf)))
        exact ⟨rfl, rfl, kI0 hk (by rw [hrow]; exact hi2)⟩
      have hqx : ¬ x < q := by simpa using h
      clear h
      conv => whnf
      (repeat ((first | refine fork_f ?_ | refine fork_t ?_); (conv => whnf)))
      refine ⟨by omega, eI y, by rw [Int.toNat_natCast, List.getElem?_map, hyi]; rfl, rfl, ?_⟩
      conv => whnf
      refine Fork.mk (fun h => ?_) (fun h => ?_)
      · rw [if_pos (by simp [qltF, abF] at *; omega)] at hi2
        conv => whnf
        exact ⟨rfl, rfl, kI0 hk (by rw [hrow]; exact hi2)⟩
      rw [if_neg (by simp [qltF, abF] at *; omega)] at hi2
      clear h
      conv => whnf
      rw [hw1]
      exact ⟨_, ⟨hi, by rw [hi2, if_neg (Nat.succ_ne_zero _), show ∀ n, Nat.succ n - 1 = n from fun _ => rfl, hci]⟩, Shift.reset ⟨rfl, rfl, rfl, rfl, rfl, trivial⟩ trivial rfl rfl, by omega⟩
    have hie : i = l.length := by simp at h; omega
    subst hie
    rw [List.drop_length] at hi2
    conv => whnf
    exact ⟨rfl, rfl, kI0 hk (by rw [hrow, hi2]; rfl)⟩
end Go.Proofs

namespace Go.Proofs
open Go Go.Abs
set_option linter.unusedSimpArgs false
set_option linter.unusedVariables false
set_option maxRecDepth 4000
theorem ckT_ok : FunR Try.prog 34 R_ckT := by
  intro args k h
  obtain ⟨t, rfl, hf, hk⟩ := h
  have hml := eL_len t.lv
  have hmi := eL_len t.inf
  have hmr := eW_len t.rel
  refine does_ex (qc := qc1) (np := []) (CK := ckK [(52, cSc R_axE), (53, cGr R_rowE)]) mixed Try.func34 rfl rfl Try.ntmps34 Try.results34 τ_ok (by kernel_rfl) (ckK_ok ⟨cSc_ok rising_ok, cGr_ok row_ok, trivial⟩) (by simp) ?_
  conv => whnf
  refine ⟨Nat, fun i => ([(1, .c (.ptr (.l 1 0) 0)), (17, .c (.view (.l 17 1) 0 2)), (18, I ((2 : Nat) : Int)), (19, I i)], ⟨[(.l 1 0, .blk (ftC t)), (.l 17 1, .arr 3 1 [eI (eL t.lv).length, eI (eL t.inf).length] false)], 5, []⟩),
    fun i => i ≤ 2 ∧ (1 ≤ i → inB 1 20 t.lv.length = true) ∧ (2 ≤ i → inB 1 20 t.inf.length = true), fun i => 2 - i, 0, ⟨Nat.zero_le _, fun h => by omega, fun h => by omega⟩, Shift.reset ⟨rfl, rfl, rfl, rfl, trivial⟩ ⟨rfl, rfl, trivial⟩ rfl rfl, fun i hi => ?_⟩
  obtain ⟨hi1, hi2, hi3⟩ := hi
  dsimp only
  conv => whnf
  refine Fork.mk (fun h => ?_) (fun h => ?_)
  · have hi : i < 2 := by simp at h; omega
    clear h
    obtain rfl | rfl : i = 0 ∨ i = 1 := by omega
    · conv => whnf
      refine ⟨by omega, rfl, ?_⟩
      conv => whnf
      refine ⟨eI (eL t.lv).length, rfl, ?_⟩
      conv => whnf
      refine Fork.mk (fun h => ?_) (fun h => ?_)
      · conv => whnf
        (repeat (refine fork_t ?_; (conv => whnf)))
        exact kI hk (by rw [ckT, if_pos (by simp [inB] at *; omega)])
      conv => whnf
      refine Fork.mk (fun h' => ?_) (fun h' => ?_)
      · conv => whnf
        exact kI hk (by rw [ckT, if_pos (by simp [inB] at *; omega)])
      conv => whnf
      exact ⟨1, ⟨by omega, fun _ => by simp [inB] at *; omega, fun h => by omega⟩, Shift.reset ⟨rfl, rfl, rfl, by rw [show (IntKind.i64.wrap (((0 : Nat) : Int) + 1)) = ((1 : Nat) : Int) from rfl]; rfl, trivial⟩ ⟨rfl, rfl, trivial⟩ rfl rfl, by omega⟩
    · conv => whnf
      refine ⟨by omega, rfl, ?_⟩
      conv => whnf
      refine ⟨eI (eL t.inf).length, rfl, ?_⟩
      have ok1 := hi2 (by omega)
      conv => whnf
      refine Fork.mk (fun h => ?_) (fun h => ?_)
      · conv => whnf
        (repeat (refine fork_t ?_; (conv => whnf)))
        exact kI hk (by rw [ckT, if_neg (by simp [ok1]), if_pos (by simp [inB] at *; omega)])
      conv => whnf
      refine Fork.mk (fun h' => ?_) (fun h' => ?_)
      · conv => whnf
        exact kI hk (by rw [ckT, if_neg (by simp [ok1]), if_pos (by simp [inB] at *; omega)])
      conv => whnf
      exact ⟨2, ⟨by omega, fun _ => ok1, fun _ => by simp [inB] at *; omega⟩, Shift.reset ⟨rfl, rfl, rfl, by rw [show (IntKind.i64.wrap (((1 : Nat) : Int) + 1)) = ((2 : Nat) : Int) from rfl]; rfl, trivial⟩ ⟨rfl, rfl, trivial⟩ rfl rfl, by omega⟩
  have hi : 2 ≤ i := by simp at h; omega
  have ok1 := hi2 (by omega)
  have ok2 := hi3 hi
  clear h hi2 hi3 hi1
  conv => whnf
  refine ⟨t.lv, 16777216, rfl, hf.l, ?_⟩
  conv => whnf
  refine Fork.mk (fun h => ?_) (fun h => ?_)
  · have h3 : axE 16777216 none t.lv ≠ 0 := by simpa using h
    conv => whnf
    exact kI hk (by rw [ckT, if_neg (by simp [ok1]), if_neg (by simp [ok2]), if_pos h3])
  have h3 : axE 16777216 none t.lv = 0 := by simpa using h
  clear h
  conv => whnf
  refine ⟨t.inf, 1073741824, rfl, hf.i, ?_⟩
  conv => whnf
  refine Fork.mk (fun h => ?_) (fun h => ?_)
  · have h4 : axE 1073741824 none t.inf ≠ 0 := by simpa using h
    conv => whnf
    exact kI hk (by rw [ckT, if_neg (by simp [ok1]), if_neg (by simp [ok2]), if_neg (by simp [h3]), if_pos h4])
  have h4 : axE 1073741824 none t.inf = 0 := by simpa using h
  clear h
  conv => whnf
  refine Fork.mk (fun h => ?_) (fun h => ?_)
  · have h5 : t.rel.length ≠ t.lv.length := by simp at h; omega
    conv => whnf
    exact kI hk (by rw [ckT, if_neg (by simp [ok1]), if_neg (by simp [ok2]), if_neg (by simp [h3]), if_neg (by simp [h4]), if_pos h5])
  have h5 : t.rel.length = t.lv.length := by simp at h; omega
  have e5 : ckT t = rlE t.inf.length none t.rel := by rw [ckT, if_neg (by simp [ok1]), if_neg (by simp [ok2]), if_neg (by simp [h3]), if_neg (by simp [h4]), if_neg (by omega)]
  have hn1 : 1 ≤ t.inf.length := by simp [inB] at ok2; omega
  clear h
  conv => whnf
  refine ⟨Nat × Option Ls, fun s => ([(1, .c (.ptr (.l 1 0) 0)), (7, abA s.2), (50, .c (.lst (eW t.rel))), (51, I (eW t.rel).length), (52, I s.1)], ⟨[(.l 1 0, .blk (ftC t))], 9, []⟩),
    fun s => s.1 ≤ t.rel.length ∧ rlE t.inf.length none t.rel = rlE t.inf.length s.2 (t.rel.drop s.1) ∧ ∀ a, s.2 = some a → 1 ≤ a.length ∧ (a.length : Int) = t.inf.length, fun s => t.rel.length - s.1, (0, none), ⟨Nat.zero_le _, rfl, fun a e => by cases e⟩, Shift.reset ⟨rfl, rfl, rfl, rfl, rfl, trivial⟩ ⟨rfl, trivial⟩ rfl rfl, fun s hs => ?_⟩
  obtain ⟨i, o⟩ := s
  obtain ⟨hi1, hi2, hab⟩ := hs
  dsimp only at hi1 hi2 hab ⊢
  conv => whnf
  refine Fork.mk (fun h => ?_) (fun h => ?_)
  · have hi : i < t.rel.length := by simp at h; omega
    clear h
    have hci := List.getElem?_eq_getElem hi
    have hrl := hf.w _ (List.getElem_mem hi)
    generalize t.rel[i] = r at hci hrl
    rw [drop_of hci, rlE] at hi2
    have hw1 := wr_succ (i := i) (by have := hf.r; omega)
    cases o with
    | none =>
      conv => whnf
      refine ⟨by omega, rwC r, by rw [Int.toNat_natCast, List.getElem?_map, hci]; rfl, rfl, ?_⟩
      conv => whnf
      refine ⟨[], rfl, rfl, ?_⟩
      conv => whnf
      refine ⟨rfl, ?_⟩
      conv => whnf
      refine ⟨r, none, ((eL t.inf).length : Int), rfl, rfl, hrl, fun a e => by rw [hmi]; exact hab a e, ?_⟩
      rw [hmi]
      conv => whnf
      refine ⟨rfl, ?_⟩
      conv => whnf
      refine Fork.mk (fun h => ?_) (fun h => ?_)
      · have h6 : rowE r (none) t.inf.length ≠ 0 := by simpa using h
        rw [if_pos h6] at hi2
        conv => whnf
        exact kI hk (by rw [e5, hi2])
      have h6 : rowE r (none) t.inf.length = 0 := by simpa using h
      rw [if_neg (by simp [h6])] at hi2
      have hrn : (r.length : Int) = t.inf.length := by
        unfold rowE at h6
        split at h6
        · cases h6
        · omega
      clear h
      conv => whnf
      rw [hw1]
      exact ⟨(i + 1, some r), ⟨hi, hi2, fun a e => by cases e; exact ⟨by omega, hrn⟩⟩, Shift.reset ⟨rfl, rfl, rfl, rfl, rfl, trivial⟩ ⟨rfl, trivial⟩ rfl rfl, by dsimp only; omega⟩
    | some a =>
      conv => whnf
      refine ⟨by omega, rwC r, by rw [Int.toNat_natCast, List.getElem?_map, hci]; rfl, rfl, ?_⟩
      conv => whnf
      refine ⟨[], rfl, rfl, ?_⟩
      conv => whnf
      refine ⟨rfl, ?_⟩
      conv => whnf
      refine ⟨r, some a, ((eL t.inf).length : Int), rfl, rfl, hrl, fun a e => by rw [hmi]; exact hab a e, ?_⟩
      rw [hmi]
      conv => whnf
      refine ⟨rfl, ?_⟩
      conv => whnf
      refine Fork.mk (fun h => ?_) (fun h => ?_)
      · have h6 : rowE r (some a) t.inf.length ≠ 0 := by simpa using h
        rw [if_pos h6] at hi2
        conv => whnf
        exact kI hk (by rw [e5, hi2])
      have h6 : rowE r (some a) t.inf.length = 0 := by simpa using h
      rw [if_neg (by simp [h6])] at hi2
      have hrn : (r.length : Int) = t.inf.length := by
        unfold rowE at h6
        split at h6
        · cases h6
        · omega
      clear h
      conv => whnf
      rw [hw1]
      exact ⟨(i + 1, some r), ⟨hi, hi2, fun a e => by cases e; exact ⟨by omega, hrn⟩⟩, Shift.reset ⟨rfl, rfl, rfl, rfl, rfl, trivial⟩ ⟨rfl, trivial⟩ rfl rfl, by dsimp only; omega⟩
  have hie : i = t.rel.length := by simp at h; omega
  rw [hie, List.drop_length] at hi2
  conv => whnf
  exact kI hk (by rw [e5, hi2]; cases o <;> rfl)
end Go.Proofs
