/- Proved here: what functions of the given program come to, and the plain laws of it; no condition but those in the theorems. -/
import Derived.Test.YtknjncmgohjpkaaE25
namespace Go.Proofs
open Go Go.Abs
set_option linter.unusedSimpArgs false
set_option linter.unusedVariables false
set_option maxRecDepth 4000
theorem plc1_ok : FunG Try.prog 73 R_plc1 := by
  intro args os k h
  obtain ⟨l, x, i, y, rfl, rfl, hl, hy, hk⟩ := h
  have hm := eL_len l
  have hi := (List.getElem?_eq_some_iff.1 hy).1
  refine doesG_ex (qc := qc1) (np := []) (CK := ckK []) mixed Try.func73 rfl rfl Try.ntmps73 Try.results73 τ_ok (by kernel_rfl) (ckK_ok trivial) (by simp) rfl rfl ?_
  conv => whnf
  refine ⟨by omega, eI y, by rw [Int.toNat_natCast, List.getElem?_map, hy]; rfl, rfl, ?_⟩
  conv => whnf
  exact ⟨rfl, rfl, hk⟩
theorem srch_ok : FunG Try.prog 72 (R_srch 73) := by
  intro args os k h
  obtain ⟨l, x, rfl, rfl, hl, hp, hk⟩ := h
  refine doesG_ex (qc := qc1) (np := []) (CK := ckK [(73, cGr R_plc1)]) mixed Try.func72 rfl rfl Try.ntmps72 Try.results72 τ_ok (by kernel_rfl) (ckK_ok ⟨cGr_ok plc1_ok, trivial⟩) (by simp) rfl rfl ?_
  conv => whnf
  refine ⟨Nat × Nat, fun s => ([(1, .c (.fn 73 [.ptr (.x 0) 0, .ptr (.x 1) 0])), (5, I s.1), (6, I s.2)], ⟨[(.x 0, .blk [.lst (eL l)]), (.x 1, .blk [IC x])], 0, []⟩),
    fun s => (s.1 ≤ s.2 ∧ s.2 ≤ l.length) ∧ (∀ (k : Nat) y, k < s.1 → l[k]? = some y → y ≤ x) ∧ ∀ (k : Nat) y, s.2 ≤ k → l[k]? = some y → x < y, fun s => s.2 - s.1, (0, l.length), ⟨⟨Nat.zero_le _, Nat.le_refl _⟩, fun k y h => by omega, fun k y h e => by have := (List.getElem?_eq_some_iff.1 e).1; dsimp only at h; omega⟩,
    Shift.reset ⟨rfl, rfl, rfl, trivial⟩ ⟨rfl, rfl, trivial⟩ rfl rfl, fun s hs => ?_⟩
  obtain ⟨i, j⟩ := s
  obtain ⟨⟨a2, a3⟩, a4, a5⟩ := hs
  dsimp only at a2 a3 a4 a5 ⊢
  conv => whnf
  refine Fork.mk (fun h => ?_) (fun h => ?_)
  · have hlt : i < j := by simp at h; omega
    clear h
    conv => whnf
    have hw : IntKind.i64.wrap (shrI IntKind.u64 (IntKind.u64.wrap (IntKind.i64.wrap ((i : Int) + (j : Int)))) 1) = (((i + j) / 2 : Nat) : Int) := by
      rw [show IntKind.i64.wrap ((i : Int) + j) = (i : Int) + j from wrap_in (by omega) (by omega), Go.IntWalk.u64_in ((i : Int) + j) ⟨by omega, by omega⟩]
      have e : shrI IntKind.u64 ((i : Int) + j) 1 = ((i : Int) + j) / 2 := Int.fdiv_eq_ediv_of_nonneg _ (show (0 : Int) ≤ 2 by omega)
      rw [e, wrap_in (by omega) (by omega)]
      omega
    refine ⟨by omega, ?_⟩
    conv => whnf
    rw [hw]
    have b1 : i ≤ (i + j) / 2 := by omega
    have b2 : (i + j) / 2 < j := by omega
    clear hw
    generalize (i + j) / 2 = m at b1 b2 ⊢
    have hci := List.getElem?_eq_getElem (show m < l.length by omega)
    generalize l[m] = y at hci
    conv => whnf
    refine ⟨[.x 0, .x 1], rfl, rfl, ?_⟩
    conv => whnf
    refine ⟨rfl, ?_⟩
    conv => whnf
    refine ⟨l, x, m, y, rfl, rfl, by omega, hci, ?_⟩
    conv => whnf
    refine ⟨rfl, ?_⟩
    conv => whnf
    refine Fork.mk (fun h => ?_) (fun h => ?_)
    · have h1 : y ≤ x := by simpa using h
      have hw1 := wr_succ (i := m) (by omega)
      conv => whnf
      rw [hw1]
      exact ⟨(m + 1, j), ⟨⟨by dsimp only; omega, a3⟩, fun k z hk e => by have := pw_le hp (show k ≤ m by dsimp only at hk; omega) e hci; omega, a5⟩, Shift.reset ⟨rfl, rfl, rfl, trivial⟩ ⟨rfl, rfl, trivial⟩ rfl rfl, by dsimp only; omega⟩
    have h1 : x < y := by simpa using h
    conv => whnf
    exact ⟨(i, m), ⟨⟨b1, by dsimp only; omega⟩, a4, fun k z hk e => by have := pw_le hp (show m ≤ k from hk) hci e; omega⟩, Shift.reset ⟨rfl, rfl, rfl, trivial⟩ ⟨rfl, rfl, trivial⟩ rfl rfl, by dsimp only; omega⟩
  have hij : i = j := by simp at h; omega
  subst hij
  conv => whnf
  exact ⟨rfl, rfl, hk i ⟨a3, a4, a5⟩⟩
theorem place_ok : FunR Try.prog 69 R_place := by
  intro args k h
  obtain ⟨l, x, rfl, hl, hp, hk⟩ := h
  have hm := eL_len l
  refine does_ex (qc := qc1) (np := []) (CK := ckK [(72, cGr (R_srch 73))]) mixed Try.func69 rfl rfl Try.ntmps69 Try.results69 τ_ok (by kernel_rfl) (ckK_ok ⟨cGr_ok srch_ok, trivial⟩) (by simp) ?_
  conv => whnf
  refine ⟨[.l 2 0, .l 3 1], rfl, rfl, ?_⟩
  conv => whnf
  refine ⟨rfl, ?_⟩
  conv => whnf
  refine ⟨l, x, by rw [← hm]; rfl, rfl, hl, hp, fun j hj => ?_⟩
  have hw : IntKind.i64.wrap ((j : Int) - 1) = (j : Int) - 1 := wrap_in (by have := hj.n; omega) (by have := hj.n; omega)
  conv => whnf
  refine ⟨rfl, ?_⟩
  conv => whnf
  rw [hw]
  have hc := lgo_cut (i := 0) (a := 0) hj.n hj.a hj.b
  refine kI hk ?_
  show ((lgo x 0 0 l : Nat) : Int) = _
  rw [hc]
  split <;> split <;> omega
theorem lastF_ok : FunR Try.prog 58 R_place := by
  intro args k h
  obtain ⟨l, x, rfl, hl, hp, hk⟩ := h
  have hm := eL_len l
  refine does_ex (qc := qc1) (np := []) (CK := ckK []) mixed Try.func58 rfl rfl Try.ntmps58 Try.results58 τ_ok (by kernel_rfl) (ckK_ok trivial) (by simp) ?_
  conv => whnf
  refine ⟨Nat × Nat, fun s => ([(1, I x), (5, I s.2), (8, .c (.lst (eL l))), (9, I (eL l).length), (10, I s.1)], ⟨[], 40, []⟩),
    fun s => s.1 ≤ l.length ∧ lstI l x = lgo x s.1 s.2 (l.drop s.1), fun s => l.length - s.1, (0, 0), ⟨Nat.zero_le _, rfl⟩, Shift.reset ⟨rfl, rfl, rfl, rfl, rfl, trivial⟩ trivial rfl rfl, fun s hs => ?_⟩
  obtain ⟨i, a⟩ := s
  obtain ⟨hi1, hi2⟩ := hs
  dsimp only at hi1 hi2 ⊢
  conv => whnf
  refine Fork.mk (fun h => ?_) (fun h => ?_)
  · have hi : i < l.length := by simp at h; omega
    clear h
    have hci := List.getElem?_eq_getElem hi
    generalize l[i] = y at hci
    rw [drop_of hci, lgo] at hi2
    have hw1 := wr_succ (i := i) (by omega)
    conv => whnf
    refine ⟨by omega, eI y, by rw [Int.toNat_natCast, List.getElem?_map, hci]; rfl, rfl, ?_⟩
    conv => whnf
    refine Fork.mk (fun h => ?_) (fun h => ?_)
    · rw [if_pos (by simpa using h)] at hi2
      conv => whnf
      rw [hw1]
      exact ⟨(i + 1, i), ⟨hi, hi2⟩, Shift.reset ⟨rfl, rfl, rfl, rfl, rfl, trivial⟩ trivial rfl rfl, by dsimp only; omega⟩
    rw [if_neg (by simpa using h)] at hi2
    conv => whnf
    rw [hw1]
    exact ⟨(i + 1, a), ⟨hi, hi2⟩, Shift.reset ⟨rfl, rfl, rfl, rfl, rfl, trivial⟩ trivial rfl rfl, by dsimp only; omega⟩
  have hie : i = l.length := by simp at h; omega
  rw [hie, List.drop_length] at hi2
  conv => whnf
  exact kI hk (by rw [hi2]; rfl)
end Go.Proofs

namespace Go.Proofs
open Go Go.Abs
set_option linter.unusedSimpArgs false
set_option linter.unusedVariables false
set_option maxRecDepth 4000
theorem atT_ok : FunR Try.prog 57 R_atT := by
  intro args k h
  obtain ⟨t, x, y, rfl, ht, hk⟩ := h
  obtain ⟨r, c1, c2⟩ := atT_at ht x y
  have h1 := lstI_lt (x := x) ht.l.1
  have h2 := lstI_lt (x := y) ht.i.1
  have hl := ht.l
  have hi := ht.i
  have hr := ht.r
  have hw := ht.w r (List.mem_of_getElem? c1)
  have hmr := eW_len t.rel
  have hm := eL_len r
  refine does_ex (qc := qc1) (np := []) (CK := ckK [(69, cSc R_place)]) mixed Try.func57 rfl rfl Try.ntmps57 Try.results57 τ_ok (by kernel_rfl) (ckK_ok ⟨cSc_ok place_ok, trivial⟩) (by simp) ?_
  conv => whnf
  refine ⟨t.lv, x, rfl, by omega, ht.lp, ?_⟩
  conv => whnf
  refine ⟨by omega, rwC r, by rw [Int.toNat_natCast, List.getElem?_map, c1]; rfl, rfl, ?_⟩
  conv => whnf
  refine ⟨t.inf, y, rfl, by omega, ht.ip, ?_⟩
  conv => whnf
  refine ⟨by omega, eI (atT t x y), by rw [Int.toNat_natCast, List.getElem?_map, c2]; rfl, rfl, ?_⟩
  conv => whnf
  exact hk
theorem relT_ok : FunR Try.prog 37 R_relT := by
  intro args k h
  obtain ⟨t, x, y, rfl, hf, hk⟩ := h
  refine does_ex (qc := qc1) (np := []) (CK := ckK [(34, cSc R_ckT), (57, cSc R_atT)]) mixed Try.func37 rfl rfl Try.ntmps37 Try.results37 τ_ok (by kernel_rfl) (ckK_ok ⟨cSc_ok ckT_ok, cSc_ok atT_ok, trivial⟩) (by simp) ?_
  conv => whnf
  refine ⟨t, rfl, hf, ?_⟩
  conv => whnf
  refine Fork.mk (fun h => ?_) (fun h => ?_)
  · have h1 : ckT t ≠ 0 := by simpa using h
    conv => whnf
    exact kI2 hk (by rw [relT, if_pos h1])
  have h1 : ckT t = 0 := by simpa using h
  have ht := ckT_ok' h1
  clear h
  have bad : (inB 0 16777216 x && inB 0 1073741824 y) = false → k (.tup [I 0, I 1]) := fun e => kI2 hk (by rw [relT, if_neg (by simp [h1]), if_pos e])
  conv => whnf
  refine Fork.mk (fun g1 => ?_) (fun g1 => ?_)
  · conv => whnf
    (repeat (refine fork_t ?_; (conv => whnf)))
    exact bad (by simp [inB] at g1 ⊢; omega)
  conv => whnf
  refine Fork.mk (fun g2 => ?_) (fun g2 => ?_)
  · conv => whnf
    (repeat (refine fork_t ?_; (conv => whnf)))
    exact bad (by simp [inB] at g1 g2 ⊢; omega)
  conv => whnf
  refine Fork.mk (fun g3 => ?_) (fun g3 => ?_)
  · conv => whnf
    (repeat (refine fork_t ?_; (conv => whnf)))
    exact bad (by simp [inB] at g1 g2 g3 ⊢; omega)
  conv => whnf
  refine Fork.mk (fun g4 => ?_) (fun g4 => ?_)
  · conv => whnf
    exact bad (by simp [inB] at g1 g2 g3 g4 ⊢; omega)
  conv => whnf
  refine ⟨t, x, y, rfl, ht, ?_⟩
  conv => whnf
  exact kI2 hk (by rw [relT, if_neg (by simp [h1]), if_neg (by simp [inB] at g1 g2 g3 g4 ⊢; omega)])
theorem relF_ok : FunR Try.prog 19 R_relF := by
  intro args k h
  obtain ⟨f, s, x, y, rfl, hf, hk⟩ := h
  refine does_ex (qc := qc1) (np := []) (CK := ckK [(37, cSc R_relT)]) mixed Try.func19 rfl rfl Try.ntmps19 Try.results19 τ_ok (by kernel_rfl) (ckK_ok ⟨cSc_ok relT_ok, trivial⟩) (by simp) ?_
  conv => whnf
  refine Fork.mk (fun h => ?_) (fun h => ?_)
  · conv => whnf
    exact kIB hk (by rw [relF, if_pos (by simpa using h)])
  have h1 : ¬ s.on = false := by simpa using h
  clear h
  conv => whnf
  refine ⟨f.t, x, y, rfl, hf, ?_⟩
  conv => whnf
  refine Fork.mk (fun h => ?_) (fun h => ?_)
  · have h2 : (relT f.t x y).2 ≠ 0 := by simpa using h
    have h3 : (relT f.t x y).1 = 0 := by
      unfold relT at h2 ⊢
      split
      · rfl
      · rename_i e
        rw [if_neg e] at h2
        split
        · rfl
        · rename_i e2
          rw [if_neg e2] at h2
          exact absurd rfl h2
    conv => whnf
    exact kIB hk (by rw [relF, if_neg h1, h3])
  conv => whnf
  exact kIB hk (by rw [relF, if_neg h1])
end Go.Proofs

namespace Go.Proofs
open Go Go.Abs
set_option linter.unusedSimpArgs false
set_option linter.unusedVariables false
set_option maxRecDepth 4000
theorem turn_ok : FunR Try.prog 21 R_turnT := by
  intro args k h
  obtain ⟨f, m, rfl, hf, hk⟩ := h
  have hml := eL_len f.t.lv
  have hmi := eL_len f.t.inf
  have hmr := eW_len f.t.rel
  refine does_ex (qc := qc1) (np := []) (CK := ckK [(34, cSc R_ckT)]) mixed Try.func21 rfl rfl Try.ntmps21 Try.results21 τ_ok (by kernel_rfl) (ckK_ok ⟨cSc_ok ckT_ok, trivial⟩) (by simp) ?_
  conv => whnf
  refine Fork.mk (fun g1 => ?_) (fun g1 => ?_)
  · conv => whnf
    (repeat (refine fork_t ?_; (conv => whnf)))
    exact kIB hk (by rw [turnT, if_pos (by simp [inB] at g1 ⊢; omega)])
  conv => whnf
  refine Fork.mk (fun g2 => ?_) (fun g2 => ?_)
  · conv => whnf
    (repeat (refine fork_t ?_; (conv => whnf)))
    exact kIB hk (by rw [turnT, if_pos (by simp [inB] at g1 g2 ⊢; omega)])
  have hmm : 0 ≤ m ∧ m ≤ 1073741824 := by simp at g1 g2; omega
  clear g1 g2
  conv => whnf
  refine ⟨f.t, rfl, hf, ?_⟩
  conv => whnf
  refine Fork.mk (fun h => ?_) (fun h => ?_)
  · have h1 : ckT f.t ≠ 0 := by simpa using h
    conv => whnf
    exact kIB hk (by rw [turnT, if_neg (by simp [inB, hmm]), if_pos h1])
  have h1 : ckT f.t = 0 := by simpa using h
  have ht := ckT_ok' h1
  have e1 : turnT f.t m = tuGo f.t.inf m f.t.lv f.t.rel := by rw [turnT, if_neg (by simp [inB, hmm]), if_neg (by simp [h1])]
  have htl := ht.l
  have hti := ht.i
  have htr := ht.r
  clear h
  conv => whnf
  refine ⟨Nat, fun i => ([(1, I m), (6, .c (.ptr (.l 6 1) 0)), (27, .c (.lst (eL f.t.lv))), (28, I (eL f.t.lv).length), (29, I i)], ⟨[(.l 6 1, .blk (ftC f.t))], 9, []⟩),
    fun i => i ≤ f.t.lv.length ∧ tuGo f.t.inf m f.t.lv f.t.rel = tuGo f.t.inf m (f.t.lv.drop i) (f.t.rel.drop i), fun i => f.t.lv.length - i, 0, ⟨Nat.zero_le _, rfl⟩, Shift.reset ⟨rfl, rfl, rfl, rfl, rfl, trivial⟩ ⟨rfl, trivial⟩ rfl rfl, fun i hi => ?_⟩
  obtain ⟨hi1, hi2⟩ := hi
  dsimp only
  conv => whnf
  refine Fork.mk (fun h => ?_) (fun h => ?_)
  · have hi : i < f.t.lv.length := by simp at h; omega
    clear h
    have hci := List.getElem?_eq_getElem hi
    have hdi := List.getElem?_eq_getElem (show i < f.t.rel.length by omega)
    have hrn := ht.w _ (List.mem_of_getElem? hdi)
    generalize f.t.lv[i] = v at hci
    generalize f.t.rel[i] = r at hdi hrn
    have hmR := eL_len r
    rw [drop_of hci, drop_of hdi, tuGo] at hi2
    have hw1 := wr_succ (i := i) (by omega)
    conv => whnf
    refine ⟨by omega, eI v, by rw [Int.toNat_natCast, List.getElem?_map, hci]; rfl, rfl, ?_⟩
    conv => whnf
    refine ⟨by omega, rwC r, by rw [Int.toNat_natCast, List.getElem?_map, hdi]; rfl, rfl, ?_⟩
    conv => whnf
    refine ⟨Nat × Bool, fun s => ([(1, I m), (6, .c (.ptr (.l 6 1) 0)), (8, I v), (9, Bo s.2), (27, .c (.lst (eL f.t.lv))), (28, I (eL f.t.lv).length), (29, I i), (38, .c (.lst (eL r))), (39, I (eL r).length), (40, I s.1)], ⟨[(.l 6 1, .blk (ftC f.t))], 9, []⟩),
      fun s => s.1 ≤ r.length ∧ whGo f.t.inf m 0 r = (s.2 && whGo f.t.inf m s.1 (r.drop s.1)), fun s => r.length - s.1, (0, true), ⟨Nat.zero_le _, by simp⟩, Shift.reset ⟨rfl, rfl, rfl, rfl, rfl, rfl, rfl, rfl, rfl, rfl, trivial⟩ ⟨rfl, trivial⟩ rfl rfl, fun s hs => ?_⟩
    obtain ⟨k, b⟩ := s
    obtain ⟨hk1, hk2⟩ := hs
    dsimp only at hk1 hk2 ⊢
    conv => whnf
    refine Fork.mk (fun h => ?_) (fun h => ?_)
    · have hk3 : k < r.length := by simp at h; omega
      clear h
      have hck := List.getElem?_eq_getElem hk3
      generalize r[k] = x at hck
      rw [drop_of hck] at hk2
      have hw4 := wr_succ (i := k) (by omega)
      conv => whnf
      refine ⟨by omega, eI x, by rw [Int.toNat_natCast, List.getElem?_map, hck]; rfl, rfl, ?_⟩
      conv => whnf
      rcases Nat.eq_zero_or_pos k with hk0 | hk0
      · subst hk0
        have hon : onK f.t.inf m 0 = true := rfl
        rw [whGo] at hk2
        refine Fork.mk (fun h => ?_) (fun h => ?_)
        · exfalso; simp at h
        clear h
        conv => whnf
        (repeat ((first | refine fork_t ?_ | refine fork_f ?_); (conv => whnf)))
        rw [hon] at hk2
        rw [hw4]
        refine Fork.mk (fun h => ?_) (fun h => ?_)
        · have hkn : 0 + 1 < f.t.inf.length := by simp at h; omega
          clear h
          have hzk := List.getElem?_eq_getElem hkn
          have hzb := ht.ib _ (List.getElem_mem hkn)
          generalize f.t.inf[0 + 1] = z at hzk hzb
          have hgr : grt f.t.inf m 0 = if z - 1 < m then z - 1 else m := by rw [grt, hzk]
          have hw5 : IntKind.i64.wrap (z - 1) = z - 1 := wrap_in (by omega) (by omega)
          conv => whnf
          rw [hw4]
          refine ⟨by omega, eI z, by rw [Int.toNat_natCast, List.getElem?_map, hzk]; rfl, rfl, ?_⟩
          conv => whnf
          rw [hw5]
          rw [hgr] at hk2
          cases b with
          | true =>
            conv => whnf
            (repeat ((first | refine fork_t ?_ | refine fork_f ?_); (conv => whnf)))
            rw [hw4]
            exact ⟨(0 + 1, decide ((if z - 1 < m then z - 1 else m) ≤ x)), ⟨hk3, by rw [hk2]; simp⟩, Shift.reset ⟨rfl, rfl, rfl, rfl, rfl, rfl, rfl, rfl, rfl, rfl, trivial⟩ ⟨rfl, trivial⟩ rfl rfl, by dsimp only; omega⟩
          | false =>
            conv => whnf
            (repeat ((first | refine fork_t ?_ | refine fork_f ?_); (conv => whnf)))
            rw [hw4]
            exact ⟨(0 + 1, false), ⟨hk3, by rw [hk2]; simp⟩, Shift.reset ⟨rfl, rfl, rfl, rfl, rfl, rfl, rfl, rfl, rfl, rfl, trivial⟩ ⟨rfl, trivial⟩ rfl rfl, by dsimp only; omega⟩
        have hgr : grt f.t.inf m 0 = m := by rw [grt, List.getElem?_eq_none (by simp at h; omega)]
        clear h
        conv => whnf
        rw [hgr] at hk2
        cases b with
        | true =>
          conv => whnf
          (repeat ((first | refine fork_t ?_ | refine fork_f ?_); (conv => whnf)))
          rw [hw4]
          exact ⟨(0 + 1, decide (m ≤ x)), ⟨hk3, by rw [hk2]; simp⟩, Shift.reset ⟨rfl, rfl, rfl, rfl, rfl, rfl, rfl, rfl, rfl, rfl, trivial⟩ ⟨rfl, trivial⟩ rfl rfl, by dsimp only; omega⟩
        | false =>
          conv => whnf
          (repeat ((first | refine fork_t ?_ | refine fork_f ?_); (conv => whnf)))
          rw [hw4]
          exact ⟨(0 + 1, false), ⟨hk3, by rw [hk2]; simp⟩, Shift.reset ⟨rfl, rfl, rfl, rfl, rfl, rfl, rfl, rfl, rfl, rfl, trivial⟩ ⟨rfl, trivial⟩ rfl rfl, by dsimp only; omega⟩
      refine Fork.mk (fun h => ?_) (fun h => ?_)
      rotate_left
      · exfalso; simp at h; omega
      clear h
      have hyk := List.getElem?_eq_getElem (show k < f.t.inf.length by omega)
      generalize f.t.inf[k] = y at hyk
      conv => whnf
      refine ⟨by omega, eI y, by rw [Int.toNat_natCast, List.getElem?_map, hyk]; rfl, rfl, ?_⟩
      conv => whnf
      refine Fork.mk (fun h => ?_) (fun h => ?_)
      · have hmy : m < y := by simpa using h
        have hoff := whGo_off ht.ip (r := x :: r.drop (k + 1)) (k := k) (most := m) (by rw [List.length_cons, List.length_drop]; omega) (fun y' e => by rw [hyk] at e; cases e; exact hmy) hk0
        have hb : whGo f.t.inf m 0 r = b := by rw [hk2, hoff, Bool.and_true]
        conv => whnf
        cases bb : b with
        | true =>
          have hres : tuGo f.t.inf m f.t.lv f.t.rel = (v, true) := by rw [hi2, if_pos (hb.trans bb)]
          refine fork_t ?_
          conv => whnf
          exact kIB hk (by rw [e1, hres])
        | false =>
          have hres : tuGo f.t.inf m f.t.lv f.t.rel = tuGo f.t.inf m (f.t.lv.drop (i + 1)) (f.t.rel.drop (i + 1)) := by rw [hi2, if_neg (by rw [hb.trans bb]; simp)]
          refine fork_f ?_
          conv => whnf
          rw [hw1]
          exact ⟨i + 1, ⟨hi, hres⟩, Shift.reset ⟨rfl, rfl, rfl, rfl, rfl, trivial⟩ ⟨rfl, trivial⟩ rfl rfl, by omega⟩
      have hmy : ¬ m < y := by simpa using h
      have hon : onK f.t.inf m k = true := by
        obtain ⟨j, rfl⟩ : ∃ j, k = j + 1 := ⟨k - 1, by omega⟩
        rw [onK, hyk]
        simp; omega
      clear h
      rw [whGo] at hk2
      conv => whnf
      rw [hon] at hk2
      rw [hw4]
      refine Fork.mk (fun h => ?_) (fun h => ?_)
      · have hkn : k + 1 < f.t.inf.length := by simp at h; omega
        clear h
        have hzk := List.getElem?_eq_getElem hkn
        have hzb := ht.ib _ (List.getElem_mem hkn)
        generalize f.t.inf[k + 1] = z at hzk hzb
        have hgr : grt f.t.inf m k = if z - 1 < m then z - 1 else m := by rw [grt, hzk]
        have hw5 : IntKind.i64.wrap (z - 1) = z - 1 := wrap_in (by omega) (by omega)
        conv => whnf
        rw [hw4]
        refine ⟨by omega, eI z, by rw [Int.toNat_natCast, List.getElem?_map, hzk]; rfl, rfl, ?_⟩
        conv => whnf
        rw [hw5]
        rw [hgr] at hk2
        cases b with
        | true =>
          conv => whnf
          (repeat ((first | refine fork_t ?_ | refine fork_f ?_); (conv => whnf)))
          rw [hw4]
          exact ⟨(k + 1, decide ((if z - 1 < m then z - 1 else m) ≤ x)), ⟨hk3, by rw [hk2]; simp⟩, Shift.reset ⟨rfl, rfl, rfl, rfl, rfl, rfl, rfl, rfl, rfl, rfl, trivial⟩ ⟨rfl, trivial⟩ rfl rfl, by dsimp only; omega⟩
        | false =>
          conv => whnf
          (repeat ((first | refine fork_t ?_ | refine fork_f ?_); (conv => whnf)))
          rw [hw4]
          exact ⟨(k + 1, false), ⟨hk3, by rw [hk2]; simp⟩, Shift.reset ⟨rfl, rfl, rfl, rfl, rfl, rfl, rfl, rfl, rfl, rfl, trivial⟩ ⟨rfl, trivial⟩ rfl rfl, by dsimp only; omega⟩
      have hgr : grt f.t.inf m k = m := by rw [grt, List.getElem?_eq_none (by simp at h; omega)]
      clear h
      conv => whnf
      rw [hgr] at hk2
      cases b with
      | true =>
        conv => whnf
        (repeat ((first | refine fork_t ?_ | refine fork_f ?_); (conv => whnf)))
        rw [hw4]
        exact ⟨(k + 1, decide (m ≤ x)), ⟨hk3, by rw [hk2]; simp⟩, Shift.reset ⟨rfl, rfl, rfl, rfl, rfl, rfl, rfl, rfl, rfl, rfl, trivial⟩ ⟨rfl, trivial⟩ rfl rfl, by dsimp only; omega⟩
      | false =>
        conv => whnf
        (repeat ((first | refine fork_t ?_ | refine fork_f ?_); (conv => whnf)))
        rw [hw4]
        exact ⟨(k + 1, false), ⟨hk3, by rw [hk2]; simp⟩, Shift.reset ⟨rfl, rfl, rfl, rfl, rfl, rfl, rfl, rfl, rfl, rfl, trivial⟩ ⟨rfl, trivial⟩ rfl rfl, by dsimp only; omega⟩
    have hke : k = r.length := by simp at h; omega
    have hb : whGo f.t.inf m 0 r = b := by rw [hk2, hke, List.drop_length]; simp [whGo]
    clear h
    conv => whnf
    cases bb : b with
    | true =>
      have hres : tuGo f.t.inf m f.t.lv f.t.rel = (v, true) := by rw [hi2, if_pos (hb.trans bb)]
      refine fork_t ?_
      conv => whnf
      exact kIB hk (by rw [e1, hres])
    | false =>
      have hres : tuGo f.t.inf m f.t.lv f.t.rel = tuGo f.t.inf m (f.t.lv.drop (i + 1)) (f.t.rel.drop (i + 1)) := by rw [hi2, if_neg (by rw [hb.trans bb]; simp)]
      refine fork_f ?_
      conv => whnf
      rw [hw1]
      exact ⟨i + 1, ⟨hi, hres⟩, Shift.reset ⟨rfl, rfl, rfl, rfl, rfl, trivial⟩ ⟨rfl, trivial⟩ rfl rfl, by omega⟩
  have hie : i = f.t.lv.length := by simp at h; omega
  rw [hie, List.drop_length] at hi2
  conv => whnf
  exact kIB hk (by rw [e1, hi2]; rfl)
end Go.Proofs
