/- Proved here: what functions of the given program come to, for the statements of this chapter; no condition but those in the theorems. -/
import Derived.Test.YthkimpoeiighoaaD17
namespace Go.Proofs
open Go Go.Abs
set_option linter.unusedSimpArgs false
set_option linter.unusedVariables false
set_option maxRecDepth 4000
abbrev kO (k : Int) : List MObj := [.blk [IC k]]
def R_link1 : RG := fun args os k => ∃ (l : Lk) (x : Int), args = [.agg (lkC l), .c (.ptr (.x 0) 0)] ∧ os = kO x ∧ k (Bo (decide (l.fr = x))) (kO x)
theorem link1_ok : FunG Try.prog 62 R_link1 := by
  intro args os k h
  obtain ⟨l, x, rfl, rfl, hk⟩ := h
  refine doesG_ex (qc := qc1) (np := []) (CK := ckK []) mixed Try.func62 rfl rfl Try.ntmps62 Try.results62 τ_ok (by kernel_rfl) (ckK_ok trivial) (by simp) rfl rfl ?_
  conv => whnf
  exact ⟨rfl, rfl, hk⟩
def R_idxL : RG := fun args os k => ∃ (ls : List Lk) (x : Int), args = [.c (.lst (eK ls)), .c (.fn 62 [.ptr (.x 0) 0])] ∧ os = kO x ∧ ls.length ≤ 9223372036854775807 ∧ k (I (lnk ls x)) (kO x)
theorem kI1 {k : AV → List MObj → Prop} {a b : Int} {o : List MObj} (h : k (I a) o) (e : a = b) : k (I b) o := e ▸ h
theorem idxL_ok : FunG Try.prog 61 R_idxL := by
  intro args os k h
  obtain ⟨ls, x, rfl, rfl, hl, hk⟩ := h
  have hm := eK_len ls
  refine doesG_ex (qc := qc1) (np := []) (CK := ckK [(62, cGr R_link1)]) mixed Try.func61 rfl rfl Try.ntmps61 Try.results61 τ_ok (by kernel_rfl) (ckK_ok ⟨cGr_ok link1_ok, trivial⟩) (by simp) rfl rfl ?_
  conv => whnf
  refine ⟨Nat, fun i => ([(0, .c (.lst (eK ls))), (1, .c (.fn 62 [.ptr (.x 0) 0])), (7, I (eK ls).length), (8, I i)], ⟨[(.x 0, .blk [IC x])], 9, []⟩),
    fun i => i ≤ ls.length ∧ lnk ls x = lnGo x i (ls.drop i), fun i => ls.length - i, 0, ⟨Nat.zero_le _, rfl⟩, Shift.reset ⟨rfl, rfl, rfl, rfl, trivial⟩ ⟨rfl, trivial⟩ rfl rfl, fun i hi => ?_⟩
  obtain ⟨hi1, hi2⟩ := hi
  dsimp only
  conv => whnf
  refine Fork.mk (fun h => ?_) (fun h => ?_)
  rotate_left
  · have hie : i = ls.length := by simp at h; omega
    rw [hie, List.drop_length] at hi2
    conv => whnf
    exact ⟨rfl, rfl, kI1 hk (by rw [hi2]; rfl)⟩
  have hi : i < ls.length := by simp at h; omega
  clear h
  have hci := List.getElem?_eq_getElem hi
  generalize ls[i] = l at hci
  rw [dropC hci, lnGo] at hi2
  have hw1 := wr_succ (i := i) (by omega)
  conv => whnf
  refine ⟨by omega, lkC l, by rw [Int.toNat_natCast, List.getElem?_map, hci]; rfl, rfl, ?_⟩
  conv => whnf
  refine ⟨[.x 0], rfl, rfl, ?_⟩
  conv => whnf
  refine ⟨rfl, ?_⟩
  conv => whnf
  refine ⟨l, x, rfl, rfl, ?_⟩
  conv => whnf
  refine ⟨rfl, ?_⟩
  conv => whnf
  refine Fork.mk (fun h => ?_) (fun h => ?_)
  · rw [if_pos (by simpa using h)] at hi2
    conv => whnf
    exact ⟨rfl, rfl, kI1 hk hi2⟩
  rw [if_neg (by simpa using h)] at hi2
  clear h
  conv => whnf
  rw [hw1]
  exact ⟨i + 1, ⟨hi, hi2⟩, Shift.reset ⟨rfl, rfl, rfl, rfl, trivial⟩ ⟨rfl, trivial⟩ rfl rfl, by omega⟩
def R_lnk : RT := fun args k => ∃ (r : Rv) (x : Int), args = [.agg (rvC r), I x] ∧ r.ls.length ≤ 9223372036854775807 ∧ k (I (lnk r.ls x))
theorem link_ok : FunR Try.prog 58 R_lnk := by
  intro args k h
  obtain ⟨r, x, rfl, hl, hk⟩ := h
  refine does_ex (qc := qc1) (np := []) (CK := ckK [(61, cGr R_idxL)]) mixed Try.func58 rfl rfl Try.ntmps58 Try.results58 τ_ok (by kernel_rfl) (ckK_ok ⟨cGr_ok idxL_ok, trivial⟩) (by simp) ?_
  conv => whnf
  refine ⟨[.l 3 1], rfl, rfl, ?_⟩
  conv => whnf
  refine ⟨rfl, ?_⟩
  conv => whnf
  refine ⟨r.ls, x, rfl, rfl, hl, ?_⟩
  conv => whnf
  refine ⟨rfl, ?_⟩
  conv => whnf
  exact hk
theorem leav_ok : FunR Try.prog 48 R_lnk := by
  intro args k h
  obtain ⟨r, x, rfl, hl, hk⟩ := h
  have hm := eK_len r.ls
  refine does_ex (qc := qc1) (np := []) (CK := ckK []) mixed Try.func48 rfl rfl Try.ntmps48 Try.results48 τ_ok (by kernel_rfl) (ckK_ok trivial) (by simp) ?_
  conv => whnf
  refine ⟨Nat, fun i => ([(1, I x), (8, .c (.lst (eK r.ls))), (9, I (eK r.ls).length), (10, I i)], ⟨[], 9, []⟩),
    fun i => i ≤ r.ls.length ∧ lnk r.ls x = lnGo x i (r.ls.drop i), fun i => r.ls.length - i, 0, ⟨Nat.zero_le _, rfl⟩, Shift.reset ⟨rfl, rfl, rfl, rfl, trivial⟩ trivial rfl rfl, fun i hi => ?_⟩
  obtain ⟨hi1, hi2⟩ := hi
  dsimp only
  conv => whnf
  refine Fork.mk (fun h => ?_) (fun h => ?_)
  rotate_left
  · have hie : i = r.ls.length := by simp at h; omega
    rw [hie, List.drop_length] at hi2
    conv => whnf
    exact kI hk (by rw [hi2]; rfl)
  have hi : i < r.ls.length := by simp at h; omega
  clear h
  have hci := List.getElem?_eq_getElem hi
  generalize r.ls[i] = l at hci
  rw [dropC hci, lnGo] at hi2
  have hw1 := wr_succ (i := i) (by omega)
  conv => whnf
  refine ⟨by omega, lkC l, by rw [Int.toNat_natCast, List.getElem?_map, hci]; rfl, rfl, ?_⟩
  conv => whnf
  refine Fork.mk (fun h => ?_) (fun h => ?_)
  · rw [if_pos (by simpa using h)] at hi2
    conv => whnf
    exact kI hk hi2
  rw [if_neg (by simpa using h)] at hi2
  clear h
  conv => whnf
  rw [hw1]
  exact ⟨i + 1, ⟨hi, hi2⟩, Shift.reset ⟨rfl, rfl, rfl, rfl, trivial⟩ trivial rfl rfl, by omega⟩
def R_clone : RT := fun args k => ∃ l : Ls, args = [.c (.lst (eL l))] ∧ l.length ≤ 1000000 ∧ k (.c (.lst (eL l)))
theorem clone_ok : FunR Try.prog 41 R_clone := by
  intro args k h
  obtain ⟨l, rfl, hl, hk⟩ := h
  rcases l with _ | ⟨x, l⟩
  · refine ⟨.c (.lst []), ?_, hk⟩
    refine does_nilcmp (qc := qc1) (np := []) (CK := ckK []) mixed Try.func41 rfl rfl Try.ntmps41 (by omega) Try.results41 τ_ok (e := 3) (by kernel_rfl) (by kernel_rfl) (by kernel_rfl) (ckK_ok trivial) ?_
    conv => whnf
    refine ⟨rfl, rfl, ?_, ?_⟩
    · conv => whnf
      (repeat ((first | refine fork_t ?_ | refine fork_f ?_); (conv => whnf)))
      rfl
    · conv => whnf
      (repeat ((first | refine fork_t ?_ | refine fork_f ?_); (conv => whnf)))
      refine ⟨rfl, ?_⟩
      conv => whnf
      refine ⟨⟨rfl, rfl, rfl, rfl, by simp⟩, ?_⟩
      conv => whnf
      refine ⟨by simp, ?_⟩
      rfl
  have hm := eL_len (x :: l)
  refine does_ex (qc := qc1) (np := []) (CK := ckK []) mixed Try.func41 rfl rfl Try.ntmps41 Try.results41 τ_ok (by kernel_rfl) (ckK_ok trivial) (by simp) ?_
  conv => whnf
  (repeat ((first | refine fork_t ?_ | refine fork_f ?_); (conv => whnf)))
  refine ⟨eL_all _, ?_⟩
  conv => whnf
  refine ⟨⟨rfl, rfl, rfl, rfl, by show (0 + (eL (x :: l)).length) * 8 ≤ _; omega⟩, ?_⟩
  conv => whnf
  refine ⟨by simp, ?_⟩
  have e : List.take (([] : List (List Cell)).length + (eL (x :: l)).length) (List.drop 0 ([] ++ eL (x :: l))) = eL (x :: l) := by rw [List.drop_zero, List.nil_append, List.length_nil, Nat.zero_add, List.take_length]
  show k (.c (.lst (List.take (([] : List (List Cell)).length + (eL (x :: l)).length) (List.drop 0 ([] ++ eL (x :: l))))))
  rw [e]
  exact hk
end Go.Proofs
