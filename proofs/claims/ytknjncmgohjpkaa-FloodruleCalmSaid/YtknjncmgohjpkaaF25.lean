/- Proved here: what functions of the given program come to, for the statements of this chapter; no condition but those in the theorems. -/
import Derived.Test.YtknjncmgohjpkaaE25
namespace Go.Proofs
open Go Go.Abs
set_option linter.unusedSimpArgs false
set_option linter.unusedVariables false
set_option maxRecDepth 4000
theorem plc1_ok : FunG Try.prog 73 R_plc1 := by
  intro args os k h
  obtain ⟨l, x, i, y, rfl, rfl, hl, hy, hk⟩ := h
  have hm := eL_len l
  have hi := (List.getElem?_eq_some_iff.1 hy).1
  refine doesG_ex (qc := qc1) (np := []) (CK := ckK []) mixed Try.func73 rfl rfl Try.ntmps73 Try.results73 τ_ok (by kernel_rfl) (ckK_ok trivial) (by simp) rfl rfl ?_
  conv => whnf
  refine ⟨by omega, eI y, by rw [Int.toNat_natCast, List.getElem?_map, hy]; rfl, rfl, ?_⟩
  conv => whnf
  exact ⟨rfl, rfl, hk⟩
theorem srch_ok : FunG Try.prog 72 (R_srch 73) := by
  intro args os k h
  obtain ⟨l, x, rfl, rfl, hl, hp, hk⟩ := h
  refine doesG_ex (qc := qc1) (np := []) (CK := ckK [(73, cGr R_plc1)]) mixed Try.func72 rfl rfl Try.ntmps72 Try.results72 τ_ok (by kernel_rfl) (ckK_ok ⟨cGr_ok plc1_ok, trivial⟩) (by simp) rfl rfl ?_
  conv => whnf
  refine ⟨Nat × Nat, fun s => ([(1, .c (.fn 73 [.ptr (.x 0) 0, .ptr (.x 1) 0])), (5, I s.1), (6, I s.2)], ⟨[(.x 0, .blk [.lst (eL l)]), (.x 1, .blk [IC x])], 0, []⟩),
    fun s => (s.1 ≤ s.2 ∧ s.2 ≤ l.length) ∧ (∀ (k : Nat) y, k < s.1 → l[k]? = some y → y ≤ x) ∧ ∀ (k : Nat) y, s.2 ≤ k → l[k]? = some y → x < y, fun s => s.2 - s.1, (0, l.length), ⟨⟨Nat.zero_le _, Nat.le_refl _⟩, fun k y h => by omega, fun k y h e => by have := (List.getElem?_eq_some_iff.1 e).1; dsimp only at h; omega⟩,
    Shift.reset ⟨rfl, rfl, rfl, trivial⟩ ⟨rfl, rfl, trivial⟩ rfl rfl, fun s hs => ?_⟩
  obtain ⟨i, j⟩ := s
  obtain ⟨⟨a2, a3⟩, a4, a5⟩ := hs
  dsimp only at a2 a3 a4 a5 ⊢
  conv => whnf
  refine Fork.mk (fun h => ?_) (fun h => ?_)
  · have hlt : i < j := by simp at h; omega
    clear h
    conv => whnf
    have hw : IntKind.i64.wrap (shrI IntKind.u64 (IntKind.u64.wrap (IntKind.i64.wrap ((i : Int) + (j : Int)))) 1) = (((i + j) / 2 : Nat) : Int) := by
      rw [show IntKind.i64.wrap ((i : Int) + j) = (i : Int) + j from wrap_in (by omega) (by omega), Go.IntWalk.u64_in ((i : Int) + j) ⟨by omega, by omega⟩]
      have e : shrI IntKind.u64 ((i : Int) + j) 1 = ((i : Int) + j) / 2 := Int.fdiv_eq_ediv_of_nonneg _ (show (0 : Int) ≤ 2 by omega)
      rw [e, wrap_in (by omega) (by omega)]
      omega
    refine ⟨by omega, ?_⟩
    conv => whnf
    rw [hw]
    have b1 : i ≤ (i + j) / 2 := by omega
    have b2 : (i + j) / 2 < j := by omega
    clear hw
    generalize (i + j) / 2 = m at b1 b2 ⊢
    have hci := List.getElem?_eq_getElem (show m < l.length by omega)
    generalize l[m] = y at hci
    conv => whnf
    refine ⟨[.x 0, .x 1], rfl, rfl, ?_⟩
    conv => whnf
    refine ⟨rfl, ?_⟩
    conv => whnf
    refine ⟨l, x, m, y, rfl, rfl, by omega, hci, ?_⟩
    conv => whnf
    refine ⟨rfl, ?_⟩
    conv => whnf
    refine Fork.mk (fun h => ?_) (fun h => ?_)
    · have h1 : y ≤ x := by simpa using h
      have hw1 := wr_succ (i := m) (by omega)
      conv => whnf
      rw [hw1]
      exact ⟨(m + 1, j), ⟨⟨by dsimp only; omega, a3⟩, fun k z hk e => by have := pw_le hp (show k ≤ m by dsimp only at hk; omega) e hci; omega, a5⟩, Shift.reset ⟨rfl, rfl, rfl, trivial⟩ ⟨rfl, rfl, trivial⟩ rfl rfl, by dsimp only; omega⟩
    have h1 : x < y := by simpa using h
    conv => whnf
    exact ⟨(i, m), ⟨⟨b1, by dsimp only; omega⟩, a4, fun k z hk e => by have := pw_le hp (show m ≤ k from hk) hci e; omega⟩, Shift.reset ⟨rfl, rfl, rfl, trivial⟩ ⟨rfl, rfl, trivial⟩ rfl rfl, by dsimp only; omega⟩
  have hij : i = j := by simp at h; omega
  subst hij
  conv => whnf
  exact ⟨rfl, rfl, hk i ⟨a3, a4, a5⟩⟩
theorem place_ok : FunR Try.prog 69 R_place := by
  intro args k h
  obtain ⟨l, x, rfl, hl, hp, hk⟩ := h
  have hm := eL_len l
  refine does_ex (qc := qc1) (np := []) (CK := ckK [(72, cGr (R_srch 73))]) mixed Try.func69 rfl rfl Try.ntmps69 Try.results69 τ_ok (by kernel_rfl) (ckK_ok ⟨cGr_ok srch_ok, trivial⟩) (by simp) ?_
  conv => whnf
  refine ⟨[.l 2 0, .l 3 1], rfl, rfl, ?_⟩
  conv => whnf
  refine ⟨rfl, ?_⟩
  conv => whnf
  refine ⟨l, x, by rw [← hm]; rfl, rfl, hl, hp, fun j hj => ?_⟩
  have hw : IntKind.i64.wrap ((j : Int) - 1) = (j : Int) - 1 := wrap_in (by have := hj.n; omega) (by have := hj.n; omega)
  conv => whnf
  refine ⟨rfl, ?_⟩
  conv => whnf
  rw [hw]
  have hc := lgo_cut (i := 0) (a := 0) hj.n hj.a hj.b
  refine kI hk ?_
  show ((lgo x 0 0 l : Nat) : Int) = _
  rw [hc]
  split <;> split <;> omega
theorem last_ok : FunR Try.prog 58 R_place := by
  intro args k h
  obtain ⟨l, x, rfl, hl, hp, hk⟩ := h
  have hm := eL_len l
  refine does_ex (qc := qc1) (np := []) (CK := ckK []) mixed Try.func58 rfl rfl Try.ntmps58 Try.results58 τ_ok (by kernel_rfl) (ckK_ok trivial) (by simp) ?_
  conv => whnf
  refine ⟨Nat × Nat, fun s => ([(1, I x), (5, I s.2), (8, .c (.lst (eL l))), (9, I (eL l).length), (10, I s.1)], ⟨[], 40, []⟩),
    fun s => s.1 ≤ l.length ∧ lstI l x = lgo x s.1 s.2 (l.drop s.1), fun s => l.length - s.1, (0, 0), ⟨Nat.zero_le _, rfl⟩, Shift.reset ⟨rfl, rfl, rfl, rfl, rfl, trivial⟩ trivial rfl rfl, fun s hs => ?_⟩
  obtain ⟨i, a⟩ := s
  obtain ⟨hi1, hi2⟩ := hs
  dsimp only at hi1 hi2 ⊢
  conv => whnf
  refine Fork.mk (fun h => ?_) (fun h => ?_)
  · have hi : i < l.length := by simp at h; omega
    clear h
    have hci := List.getElem?_eq_getElem hi
    generalize l[i] = y at hci
    rw [drop_of hci, lgo] at hi2
    have hw1 := wr_succ (i := i) (by omega)
    conv => whnf
    refine ⟨by omega, eI y, by rw [Int.toNat_natCast, List.getElem?_map, hci]; rfl, rfl, ?_⟩
    conv => whnf
    refine Fork.mk (fun h => ?_) (fun h => ?_)
    · rw [if_pos (by simpa using h)] at hi2
      conv => whnf
      rw [hw1]
      exact ⟨(i + 1, i), ⟨hi, hi2⟩, Shift.reset ⟨rfl, rfl, rfl, rfl, rfl, trivial⟩ trivial rfl rfl, by dsimp only; omega⟩
    rw [if_neg (by simpa using h)] at hi2
    conv => whnf
    rw [hw1]
    exact ⟨(i + 1, a), ⟨hi, hi2⟩, Shift.reset ⟨rfl, rfl, rfl, rfl, rfl, trivial⟩ trivial rfl rfl, by dsimp only; omega⟩
  have hie : i = l.length := by simp at h; omega
  rw [hie, List.drop_length] at hi2
  conv => whnf
  exact kI hk (by rw [hi2]; rfl)
end Go.Proofs
