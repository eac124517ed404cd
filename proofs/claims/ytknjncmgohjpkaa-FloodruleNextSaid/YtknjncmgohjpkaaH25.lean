/- Proved here: what functions of the given program come to, for the statements of this chapter; no condition but those in the theorems. -/
import Derived.Test.YtknjncmgohjpkaaG25
namespace Go.Proofs
open Go Go.Abs
set_option linter.unusedSimpArgs false
set_option linter.unusedVariables false
set_option maxRecDepth 4000
theorem turn_ok : FunR Try.prog 21 R_turnT := by
  intro args k h
  obtain ⟨f, m, rfl, hf, hk⟩ := h
  have hml := eL_len f.t.lv
  have hmi := eL_len f.t.inf
  have hmr := eW_len f.t.rel
  refine does_ex (qc := qc1) (np := []) (CK := ckK [(34, cSc R_ckT)]) mixed Try.func21 rfl rfl Try.ntmps21 Try.results21 τ_ok (by kernel_rfl) (ckK_ok ⟨cSc_ok ckT_ok, trivial⟩) (by simp) ?_
  conv => whnf
  refine Fork.mk (fun g1 => ?_) (fun g1 => ?_)
  · conv => whnf
    (repeat (refine fork_t ?_; (conv => whnf)))
    exact kIB hk (by rw [turnT, if_pos (by simp [inB] at g1 ⊢; omega)])
  conv => whnf
  refine Fork.mk (fun g2 => ?_) (fun g2 => ?_)
  · conv => whnf
    (repeat (refine fork_t ?_; (conv => whnf)))
    exact kIB hk (by rw [turnT, if_pos (by simp [inB] at g1 g2 ⊢; omega)])
  have hmm : 0 ≤ m ∧ m ≤ 1073741824 := by simp at g1 g2; omega
  clear g1 g2
  conv => whnf
  refine ⟨f.t, rfl, hf, ?_⟩
  conv => whnf
  refine Fork.mk (fun h => ?_) (fun h => ?_)
  · have h1 : ckT f.t ≠ 0 := by simpa using h
    conv => whnf
    exact kIB hk (by rw [turnT, if_neg (by simp [inB, hmm]), if_pos h1])
  have h1 : ckT f.t = 0 := by simpa using h
  have ht := ckT_ok' h1
  have e1 : turnT f.t m = tuGo f.t.inf m f.t.lv f.t.rel := by rw [turnT, if_neg (by simp [inB, hmm]), if_neg (by simp [h1])]
  have htl := ht.l
  have hti := ht.i
  have htr := ht.r
  clear h
  conv => whnf
  refine ⟨Nat, fun i => ([(1, I m), (6, .c (.ptr (.l 6 1) 0)), (27, .c (.lst (eL f.t.lv))), (28, I (eL f.t.lv).length), (29, I i)], ⟨[(.l 6 1, .blk (ftC f.t))], 9, []⟩),
    fun i => i ≤ f.t.lv.length ∧ tuGo f.t.inf m f.t.lv f.t.rel = tuGo f.t.inf m (f.t.lv.drop i) (f.t.rel.drop i), fun i => f.t.lv.length - i, 0, ⟨Nat.zero_le _, rfl⟩, Shift.reset ⟨rfl, rfl, rfl, rfl, rfl, trivial⟩ ⟨rfl, trivial⟩ rfl rfl, fun i hi => ?_⟩
  obtain ⟨hi1, hi2⟩ := hi
  dsimp only
  conv => whnf
  refine Fork.mk (fun h => ?_) (fun h => ?_)
  · have hi : i < f.t.lv.length := by simp at h; omega
    clear h
    have hci := List.getElem?_eq_getElem hi
    have hdi := List.getElem?_eq_getElem (show i < f.t.rel.length by omega)
    have hrn := ht.w _ (List.mem_of_getElem? hdi)
    generalize f.t.lv[i] = v at hci
    generalize f.t.rel[i] = r at hdi hrn
    have hmR := eL_len r
    rw [drop_of hci, drop_of hdi, tuGo] at hi2
    have hw1 := wr_succ (i := i) (by omega)
    conv => whnf
    refine ⟨by omega, eI v, by rw [Int.toNat_natCast, List.getElem?_map, hci]; rfl, rfl, ?_⟩
    conv => whnf
    refine ⟨by omega, rwC r, by rw [Int.toNat_natCast, List.getElem?_map, hdi]; rfl, rfl, ?_⟩
    conv => whnf
    refine ⟨Nat × Bool, fun s => ([(1, I m), (6, .c (.ptr (.l 6 1) 0)), (8, I v), (9, Bo s.2), (27, .c (.lst (eL f.t.lv))), (28, I (eL f.t.lv).length), (29, I i), (38, .c (.lst (eL r))), (39, I (eL r).length), (40, I s.1)], ⟨[(.l 6 1, .blk (ftC f.t))], 9, []⟩),
      fun s => s.1 ≤ r.length ∧ whGo f.t.inf m 0 r = (s.2 && whGo f.t.inf m s.1 (r.drop s.1)), fun s => r.length - s.1, (0, true), ⟨Nat.zero_le _, by simp⟩, Shift.reset ⟨rfl, rfl, rfl, rfl, rfl, rfl, rfl, rfl, rfl, rfl, trivial⟩ ⟨rfl, trivial⟩ rfl rfl, fun s hs => ?_⟩
    obtain ⟨k, b⟩ := s
    obtain ⟨hk1, hk2⟩ := hs
    dsimp only at hk1 hk2 ⊢
    conv => whnf
    refine Fork.mk (fun h => ?_) (fun h => ?_)
    · have hk3 : k < r.length := by simp at h; omega
      clear h
      have hck := List.getElem?_eq_getElem hk3
      generalize r[k] = x at hck
      rw [drop_of hck] at hk2
      have hw4 := wr_succ (i := k) (by omega)
      conv => whnf
      refine ⟨by omega, eI x, by rw [Int.toNat_natCast, List.getElem?_map, hck]; rfl, rfl, ?_⟩
      conv => whnf
      rcases Nat.eq_zero_or_pos k with hk0 | hk0
      · subst hk0
        have hon : onK f.t.inf m 0 = true := rfl
        rw [whGo] at hk2
        refine Fork.mk (fun h => ?_) (fun h => ?_)
        · exfalso; simp at h
        clear h
        conv => whnf
        (repeat ((first | refine fork_t ?_ | refine fork_f ?_); (conv => whnf)))
        rw [hon] at hk2
        rw [hw4]
        refine Fork.mk (fun h => ?_) (fun h => ?_)
        · have hkn : 0 + 1 < f.t.inf.length := by simp at h; omega
          clear h
          have hzk := List.getElem?_eq_getElem hkn
          have hzb := ht.ib _ (List.getElem_mem hkn)
          generalize f.t.inf[0 + 1] = z at hzk hzb
          have hgr : grt f.t.inf m 0 = if z - 1 < m then z - 1 else m := by rw [grt, hzk]
          have hw5 : IntKind.i64.wrap (z - 1) = z - 1 := wrap_in (by omega) (by omega)
          conv => whnf
          rw [hw4]
          refine ⟨by omega, eI z, by rw [Int.toNat_natCast, List.getElem?_map, hzk]; rfl, rfl, ?_⟩
          conv => whnf
          rw [hw5]
          rw [hgr] at hk2
          cases b with
          | true =>
            conv => whnf
            (repeat ((first | refine fork_t ?_ | refine fork_f ?_); (conv => whnf)))
            rw [hw4]
            exact ⟨(0 + 1, decide ((if z - 1 < m then z - 1 else m) ≤ x)), ⟨hk3, by rw [hk2]; simp⟩, Shift.reset ⟨rfl, rfl, rfl, rfl, rfl, rfl, rfl, rfl, rfl, rfl, trivial⟩ ⟨rfl, trivial⟩ rfl rfl, by dsimp only; omega⟩
          | false =>
            conv => whnf
            (repeat ((first | refine fork_t ?_ | refine fork_f ?_); (conv => whnf)))
            rw [hw4]
            exact ⟨(0 + 1, false), ⟨hk3, by rw [hk2]; simp⟩, Shift.reset ⟨rfl, rfl, rfl, rfl, rfl, rfl, rfl, rfl, rfl, rfl, trivial⟩ ⟨rfl, trivial⟩ rfl rfl, by dsimp only; omega⟩
        have hgr : grt f.t.inf m 0 = m := by rw [grt, List.getElem?_eq_none (by simp at h; omega)]
        clear h
        conv => whnf
        rw [hgr] at hk2
        cases b with
        | true =>
          conv => whnf
          (repeat ((first | refine fork_t ?_ | refine fork_f ?_); (conv => whnf)))
          rw [hw4]
          exact ⟨(0 + 1, decide (m ≤ x)), ⟨hk3, by rw [hk2]; simp⟩, Shift.reset ⟨rfl, rfl, rfl, rfl, rfl, rfl, rfl, rfl, rfl, rfl, trivial⟩ ⟨rfl, trivial⟩ rfl rfl, by dsimp only; omega⟩
        | false =>
          conv => whnf
          (repeat ((first | refine fork_t ?_ | refine fork_f ?_); (conv => whnf)))
          rw [hw4]
          exact ⟨(0 + 1, false), ⟨hk3, by rw [hk2]; simp⟩, Shift.reset ⟨rfl, rfl, rfl, rfl, rfl, rfl, rfl, rfl, rfl, rfl, trivial⟩ ⟨rfl, trivial⟩ rfl rfl, by dsimp only; omega⟩
      refine Fork.mk (fun h => ?_) (fun h => ?_)
      rotate_left
      · exfalso; simp at h; omega
      clear h
      have hyk := List.getElem?_eq_getElem (show k < f.t.inf.length by omega)
      generalize f.t.inf[k] = y at hyk
      conv => whnf
      refine ⟨by omega, eI y, by rw [Int.toNat_natCast, List.getElem?_map, hyk]; rfl, rfl, ?_⟩
      conv => whnf
      refine Fork.mk (fun h => ?_) (fun h => ?_)
      · have hmy : m < y := by simpa using h
        have hoff := whGo_off ht.ip (r := x :: r.drop (k + 1)) (k := k) (most := m) (by rw [List.length_cons, List.length_drop]; omega) (fun y' e => by rw [hyk] at e; cases e; exact hmy) hk0
        have hb : whGo f.t.inf m 0 r = b := by rw [hk2, hoff, Bool.and_true]
        conv => whnf
        cases bb : b with
        | true =>
          have hres : tuGo f.t.inf m f.t.lv f.t.rel = (v, true) := by rw [hi2, if_pos (hb.trans bb)]
          refine fork_t ?_
          conv => whnf
          exact kIB hk (by rw [e1, hres])
        | false =>
          have hres : tuGo f.t.inf m f.t.lv f.t.rel = tuGo f.t.inf m (f.t.lv.drop (i + 1)) (f.t.rel.drop (i + 1)) := by rw [hi2, if_neg (by rw [hb.trans bb]; simp)]
          refine fork_f ?_
          conv => whnf
          rw [hw1]
          exact ⟨i + 1, ⟨hi, hres⟩, Shift.reset ⟨rfl, rfl, rfl, rfl, rfl, trivial⟩ ⟨rfl, trivial⟩ rfl rfl, by omega⟩
      have hmy : ¬ m < y := by simpa using h
      have hon : onK f.t.inf m k = true := by
        obtain ⟨j, rfl⟩ : ∃ j, k = j + 1 := ⟨k - 1, by omega⟩
        rw [onK, hyk]
        simp; omega
      clear h
      rw [whGo] at hk2
      conv => whnf
      rw [hon] at hk2
      rw [hw4]
      refine Fork.mk (fun h => ?_) (fun h => ?_)
      · have hkn : k + 1 < f.t.inf.length := by simp at h; omega
        clear h
        have hzk := List.getElem?_eq_getElem hkn
        have hzb := ht.ib _ (List.getElem_mem hkn)
        generalize f.t.inf[k + 1] = z at hzk hzb
        have hgr : grt f.t.inf m k = if z - 1 < m then z - 1 else m := by rw [grt, hzk]
        have hw5 : IntKind.i64.wrap (z - 1) = z - 1 := wrap_in (by omega) (by omega)
        conv => whnf
        rw [hw4]
        refine ⟨by omega, eI z, by rw [Int.toNat_natCast, List.getElem?_map, hzk]; rfl, rfl, ?_⟩
        conv => whnf
        rw [hw5]
        rw [hgr] at hk2
        cases b with
        | true =>
          conv => whnf
          (repeat ((first | refine fork_t ?_ | refine fork_f ?_); (conv => whnf)))
          rw [hw4]
          exact ⟨(k + 1, decide ((if z - 1 < m then z - 1 else m) ≤ x)), ⟨hk3, by rw [hk2]; simp⟩, Shift.reset ⟨rfl, rfl, rfl, rfl, rfl, rfl, rfl, rfl, rfl, rfl, trivial⟩ ⟨rfl, trivial⟩ rfl rfl, by dsimp only; omega⟩
        | false =>
          conv => whnf
          (repeat ((first | refine fork_t ?_ | refine fork_f ?_); (conv => whnf)))
          rw [hw4]
          exact ⟨(k + 1, false), ⟨hk3, by rw [hk2]; simp⟩, Shift.reset ⟨rfl, rfl, rfl, rfl, rfl, rfl, rfl, rfl, rfl, rfl, trivial⟩ ⟨rfl, trivial⟩ rfl rfl, by dsimp only; omega⟩
      have hgr : grt f.t.inf m k = m := by rw [grt, List.getElem?_eq_none (by simp at h; omega)]
      clear h
      conv => whnf
      rw [hgr] at hk2
      cases b with
      | true =>
        conv => whnf
        (repeat ((first | refine fork_t ?_ | refine fork_f ?_); (conv => whnf)))
        rw [hw4]
        exact ⟨(k + 1, decide (m ≤ x)), ⟨hk3, by rw [hk2]; simp⟩, Shift.reset ⟨rfl, rfl, rfl, rfl, rfl, rfl, rfl, rfl, rfl, rfl, trivial⟩ ⟨rfl, trivial⟩ rfl rfl, by dsimp only; omega⟩
      | false =>
        conv => whnf
        (repeat ((first | refine fork_t ?_ | refine fork_f ?_); (conv => whnf)))
        rw [hw4]
        exact ⟨(k + 1, false), ⟨hk3, by rw [hk2]; simp⟩, Shift.reset ⟨rfl, rfl, rfl, rfl, rfl, rfl, rfl, rfl, rfl, rfl, trivial⟩ ⟨rfl, trivial⟩ rfl rfl, by dsimp only; omega⟩
    have hke : k = r.length := by simp at h; omega
    have hb : whGo f.t.inf m 0 r = b := by rw [hk2, hke, List.drop_length]; simp [whGo]
    clear h
    conv => whnf
    cases bb : b with
    | true =>
      have hres : tuGo f.t.inf m f.t.lv f.t.rel = (v, true) := by rw [hi2, if_pos (hb.trans bb)]
      refine fork_t ?_
      conv => whnf
      exact kIB hk (by rw [e1, hres])
    | false =>
      have hres : tuGo f.t.inf m f.t.lv f.t.rel = tuGo f.t.inf m (f.t.lv.drop (i + 1)) (f.t.rel.drop (i + 1)) := by rw [hi2, if_neg (by rw [hb.trans bb]; simp)]
      refine fork_f ?_
      conv => whnf
      rw [hw1]
      exact ⟨i + 1, ⟨hi, hres⟩, Shift.reset ⟨rfl, rfl, rfl, rfl, rfl, trivial⟩ ⟨rfl, trivial⟩ rfl rfl, by omega⟩
  have hie : i = f.t.lv.length := by simp at h; omega
  rw [hie, List.drop_length] at hi2
  conv => whnf
  exact kIB hk (by rw [e1, hi2]; rfl)
end Go.Proofs
