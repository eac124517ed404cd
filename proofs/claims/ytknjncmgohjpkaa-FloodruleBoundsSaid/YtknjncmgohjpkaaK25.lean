/- Proved here: what functions of the given program come to, for the statements of this chapter; no condition but those in the theorems. -/
import Derived.Test.YtknjncmgohjpkaaPFlood2
namespace Go.Proofs
open Go Go.Abs
set_option linter.unusedSimpArgs false
set_option linter.unusedVariables false
set_option maxRecDepth 4000
theorem table_ok : FunB Try.prog 31 R_mkT := by
  intro cs args k h
  obtain ⟨d, rfl, rfl, hd, hk⟩ := h
  refine doesB_ex (qc := qc1) (np := []) (CK := ckK [(23, cB R_next), (50, cB R_axis)]) mixed Try.func31 rfl rfl Try.ntmps31 Try.results31 τ_ok (by kernel_rfl) (ckK_ok ⟨cB_ok next_ok rfl, cB_ok axis_ok rfl, trivial⟩) (by simp) rfl rfl ?_
  conv => whnf
  refine ⟨d, 90, 40, rfl, rfl, hd, by omega, by omega, fun lv d hd hl1 hl2 hlx => ?_⟩
  conv => whnf
  refine ⟨d, 0, 12, rfl, rfl, hd, by omega, by omega, fun inf d hd hi1 hi2 hix => ?_⟩
  have hml := eL_len lv
  have hmi := eL_len inf
  conv => whnf
  refine ⟨List Ls × Dk, fun s => ([(0, .c (.ptr (.x 0) 0)), (2, .c (.ptr (.l 2 0) 0)), (3, .c (.ptr (.l 3 1) 0)), (15, I (eL lv).length), (16, I s.1.length)], ⟨[(.x 0, .blk (dkC s.2)), (.l 2 0, .blk [.sc (.slice none 0 0), .sc (.slice none 0 0), .sc (.slice none 0 0)]), (.l 3 1, .blk [.lst (eL lv), .lst (eL inf), .view (.l 58 2) 0 s.1.length]), (.l 58 2, .arr 22 1 (eW s.1) false)], 3, []⟩),
    fun s => s.2.ok ∧ okRs inf.length s.1 ∧ s.1.length ≤ lv.length, fun s => lv.length - s.1.length, ([], d), ⟨hd, .nil _, Nat.zero_le _⟩,
    Shift.trans (Shift.rename [] ⟨rfl, rfl, rfl, rfl, rfl, trivial⟩ ⟨rfl, rfl, rfl, rfl, trivial⟩ rfl rfl rfl) (Shift.nilCell (i := .l 3 1) (cs := [.lst (eL lv), .lst (eL inf), .sc (.slice none 0 0)]) (j := 2) rfl rfl 58 22 1), fun s hs => ?_⟩
  obtain ⟨rs, d⟩ := s
  obtain ⟨hd, hrs, hrl⟩ := hs
  dsimp only at hd hrs hrl ⊢
  have hmr := eW_len rs
  conv => whnf
  refine Fork.mk (fun h => ?_) (fun h => ?_)
  · have hlt : rs.length < lv.length := by simp at h; omega
    clear h
    conv => whnf
    refine ⟨Ls × Dk, fun s => ([(0, .c (.ptr (.x 0) 0)), (2, .c (.ptr (.l 2 0) 0)), (3, .c (.ptr (.l 3 1) 0)), (4, I rs.length), (5, .c (.view (.l 52 3) 0 s.1.length)), (15, I (eL lv).length), (16, I rs.length), (21, I (eL inf).length), (22, I s.1.length)], ⟨[(.x 0, .blk (dkC s.2)), (.l 2 0, .blk [.sc (.slice none 0 0), .sc (.slice none 0 0), .sc (.slice none 0 0)]), (.l 3 1, .blk [.lst (eL lv), .lst (eL inf), .view (.l 58 2) 0 rs.length]), (.l 58 2, .arr 22 1 (eW rs) false), (.l 52 3, .arr 3 1 (eL s.1) false)], 4, []⟩),
      fun s => s.2.ok ∧ okRw rs.getLast? s.1 ∧ s.1.length ≤ inf.length, fun s => inf.length - s.1.length, ([], d), ⟨hd, .nil _, Nat.zero_le _⟩,
      Shift.trans (Shift.rename [] ⟨rfl, rfl, rfl, rfl, rfl, rfl, rfl, rfl, rfl, trivial⟩ ⟨rfl, rfl, rfl, rfl, rfl, trivial⟩ rfl rfl rfl) (Shift.nilArr (t := 5) rfl 52 3 1), fun s hs => ?_⟩
    obtain ⟨l, d⟩ := s
    obtain ⟨hd, hrw, hll⟩ := hs
    dsimp only at hd hrw hll ⊢
    have hm := eL_len l
    conv => whnf
    refine Fork.mk (fun h => ?_) (fun h => ?_)
    · have hlt2 : l.length < inf.length := by simp at h; omega
      clear h
      have hw1 := wr_succ (i := l.length) (by omega)
      conv => whnf
      refine ⟨d, rfl, hd, by omega, fun v d hd hv1 hv2 => ?_⟩
      have hv : 0 ≤ v ∧ v ≤ 7 := by omega
      clear hv1 hv2
      conv => whnf
      refine Fork.mk (fun h => ?_) (fun h => ?_)
      · have hl0 : 1 ≤ l.length := by simp at h; omega
        clear h
        have hcq := List.getElem?_eq_getElem (show l.length - 1 < l.length by omega)
        generalize l[l.length - 1] = q at hcq
        have hqb := hrw.b _ _ hcq
        have e1 : IntKind.i64.wrap ((l.length : Int) - 1) = ((l.length - 1 : Nat) : Int) := by rw [wrap_in (by omega) (by omega)]; omega
        have e2 : IntKind.i64.wrap (v + q) = v + q := wrap_in (by omega) (by omega)
        conv => whnf
        rw [e1]
        refine ⟨by omega, rfl, ?_⟩
        conv => whnf
        refine ⟨eI q, by rw [Int.toNat_natCast, Nat.zero_add, List.getElem?_map, hcq]; rfl, ?_⟩
        conv => whnf
        rw [e2]
        have hx : 0 ≤ v + q ∧ v + q ≤ 8 * ((l.length : Int) + 1) := by omega
        have hxq : ∀ p, l[l.length - 1]? = some p → p ≤ v + q := fun p hp => by rw [hcq] at hp; cases hp; omega
        clear e1 e2
        generalize v + q = x at hx hxq ⊢
        refine Fork.mk (fun h => ?_) (fun h => ?_)
        · have hr0 : 1 ≤ rs.length := by simp at h; omega
          clear h
          have hcr := List.getElem?_eq_getElem (show rs.length - 1 < rs.length by omega)
          have hrm := List.mem_of_getElem? hcr
          generalize rs[rs.length - 1] = pr at hcr hrm
          have hpl : pr.length = inf.length := by have := rlE_ok hrs.e pr hrm; omega
          have hcy := List.getElem?_eq_getElem (show l.length < pr.length by omega)
          generalize pr[l.length] = y at hcy
          have hyb := hrs.b pr hrm _ _ hcy
          have e1 : IntKind.i64.wrap ((rs.length : Int) - 1) = ((rs.length - 1 : Nat) : Int) := by rw [wrap_in (by omega) (by omega)]; omega
          have hlast : rs.getLast? = some pr := by rw [List.getLast?_eq_getElem?]; exact hcr
          conv => whnf
          rw [e1]
          refine ⟨by omega, rfl, ?_⟩
          conv => whnf
          refine ⟨rwC pr, by rw [Int.toNat_natCast, Nat.zero_add, List.getElem?_map, hcr]; rfl, ?_⟩
          conv => whnf
          refine ⟨by omega, eI y, by rw [Int.toNat_natCast, List.getElem?_map, hcy]; rfl, rfl, ?_⟩
          conv => whnf
          refine ⟨by simp, ?_⟩
          conv => whnf
          refine ⟨rfl, ?_⟩
          conv => whnf
          refine ⟨⟨rfl, rfl, rfl, hm.symm, by rw [hm]; simp; omega⟩, ?_⟩
          conv => whnf
          rw [hw1]
          refine ⟨(l ++ [if x < y then y else x], d), ⟨hd, hrw.snoc (by omega) (by split <;> omega) (fun p hp => by have := hxq p hp; split <;> omega) (fun a z e hz => by rw [hlast] at e; cases e; rw [hcy] at hz; cases hz; split <;> omega), by dsimp only; simp; omega⟩, Shift.rename [(.l 52 3, .l 52 5)] ⟨rfl, rfl, rfl, rfl, ?_, rfl, rfl, rfl, ?_, trivial⟩ ⟨rfl, rfl, rfl, rfl, ?_, trivial⟩ rfl rfl rfl, ?_⟩
          · dsimp only; rw [List.length_append, ← hm]; rfl
          · dsimp only; rw [List.length_append]; rfl
          · dsimp only; rw [← eL_snoc]; rfl
          · show inf.length - (l ++ [if x < y then y else x]).length < inf.length - l.length
            rw [List.length_append]; simp; omega
        have hr0 : rs.length = 0 := by simp at h; simp [h]
        clear h
        have hlast : rs.getLast? = none := by rw [List.getLast?_eq_getElem?]; exact List.getElem?_eq_none (by omega)
        conv => whnf
        refine ⟨by simp, ?_⟩
        conv => whnf
        refine ⟨rfl, ?_⟩
        conv => whnf
        refine ⟨⟨rfl, rfl, rfl, hm.symm, by rw [hm]; simp; omega⟩, ?_⟩
        conv => whnf
        rw [hw1]
        refine ⟨(l ++ [x], d), ⟨hd, hrw.snoc (by omega) hx hxq (fun a z e hz => by rw [hlast] at e; cases e), by dsimp only; simp; omega⟩, Shift.rename [(.l 52 3, .l 52 5)] ⟨rfl, rfl, rfl, rfl, ?_, rfl, rfl, rfl, ?_, trivial⟩ ⟨rfl, rfl, rfl, rfl, ?_, trivial⟩ rfl rfl rfl, ?_⟩
        · dsimp only; rw [List.length_append, ← hm]; rfl
        · dsimp only; rw [List.length_append]; rfl
        · dsimp only; rw [← eL_snoc]; rfl
        · show inf.length - (l ++ [x]).length < inf.length - l.length
          rw [List.length_append]; simp; omega
      have hl0 : l.length = 0 := by simp at h; simp [h]
      clear h
      have hx : 0 ≤ v ∧ v ≤ 8 * ((l.length : Int) + 1) := by omega
      have hxq : ∀ p, l[l.length - 1]? = some p → p ≤ v := fun p hp => by rw [List.getElem?_eq_none (by omega)] at hp; cases hp
      conv => whnf
      generalize v = x at hx hxq ⊢
      refine Fork.mk (fun h => ?_) (fun h => ?_)
      · have hr0 : 1 ≤ rs.length := by simp at h; omega
        clear h
        have hcr := List.getElem?_eq_getElem (show rs.length - 1 < rs.length by omega)
        have hrm := List.mem_of_getElem? hcr
        generalize rs[rs.length - 1] = pr at hcr hrm
        have hpl : pr.length = inf.length := by have := rlE_ok hrs.e pr hrm; omega
        have hcy := List.getElem?_eq_getElem (show l.length < pr.length by omega)
        generalize pr[l.length] = y at hcy
        have hyb := hrs.b pr hrm _ _ hcy
        have e1 : IntKind.i64.wrap ((rs.length : Int) - 1) = ((rs.length - 1 : Nat) : Int) := by rw [wrap_in (by omega) (by omega)]; omega
        have hlast : rs.getLast? = some pr := by rw [List.getLast?_eq_getElem?]; exact hcr
        conv => whnf
        rw [e1]
        refine ⟨by omega, rfl, ?_⟩
        conv => whnf
        refine ⟨rwC pr, by rw [Int.toNat_natCast, Nat.zero_add, List.getElem?_map, hcr]; rfl, ?_⟩
        conv => whnf
        refine ⟨by omega, eI y, by rw [Int.toNat_natCast, List.getElem?_map, hcy]; rfl, rfl, ?_⟩
        conv => whnf
        refine ⟨by simp, ?_⟩
        conv => whnf
        refine ⟨rfl, ?_⟩
        conv => whnf
        refine ⟨⟨rfl, rfl, rfl, hm.symm, by rw [hm]; simp; omega⟩, ?_⟩
        conv => whnf
        rw [hw1]
        refine ⟨(l ++ [if x < y then y else x], d), ⟨hd, hrw.snoc (by omega) (by split <;> omega) (fun p hp => by have := hxq p hp; split <;> omega) (fun a z e hz => by rw [hlast] at e; cases e; rw [hcy] at hz; cases hz; split <;> omega), by dsimp only; simp; omega⟩, Shift.rename [(.l 52 3, .l 52 5)] ⟨rfl, rfl, rfl, rfl, ?_, rfl, rfl, rfl, ?_, trivial⟩ ⟨rfl, rfl, rfl, rfl, ?_, trivial⟩ rfl rfl rfl, ?_⟩
        · dsimp only; rw [List.length_append, ← hm]; rfl
        · dsimp only; rw [List.length_append]; rfl
        · dsimp only; rw [← eL_snoc]; rfl
        · show inf.length - (l ++ [if x < y then y else x]).length < inf.length - l.length
          rw [List.length_append]; simp; omega
      have hr0 : rs.length = 0 := by simp at h; simp [h]
      clear h
      have hlast : rs.getLast? = none := by rw [List.getLast?_eq_getElem?]; exact List.getElem?_eq_none (by omega)
      conv => whnf
      refine ⟨by simp, ?_⟩
      conv => whnf
      refine ⟨rfl, ?_⟩
      conv => whnf
      refine ⟨⟨rfl, rfl, rfl, hm.symm, by rw [hm]; simp; omega⟩, ?_⟩
      conv => whnf
      rw [hw1]
      refine ⟨(l ++ [x], d), ⟨hd, hrw.snoc (by omega) hx hxq (fun a z e hz => by rw [hlast] at e; cases e), by dsimp only; simp; omega⟩, Shift.rename [(.l 52 3, .l 52 5)] ⟨rfl, rfl, rfl, rfl, ?_, rfl, rfl, rfl, ?_, trivial⟩ ⟨rfl, rfl, rfl, rfl, ?_, trivial⟩ rfl rfl rfl, ?_⟩
      · dsimp only; rw [List.length_append, ← hm]; rfl
      · dsimp only; rw [List.length_append]; rfl
      · dsimp only; rw [← eL_snoc]; rfl
      · show inf.length - (l ++ [x]).length < inf.length - l.length
        rw [List.length_append]; simp; omega
    have hle : l.length = inf.length := by simp at h; omega
    clear h
    have hw1 := wr_succ (i := rs.length) (by omega)
    conv => whnf
    refine ⟨by simp, ?_⟩
    conv => whnf
    refine ⟨by simp, ?_⟩
    conv => whnf
    refine ⟨rfl, ?_⟩
    conv => whnf
    refine ⟨⟨rfl, rfl, rfl, hmr.symm, by rw [hmr]; simp; omega⟩, ?_⟩
    conv => whnf
    have htk : List.take l.length (List.drop 0 (eL l)) = eL l := by rw [List.drop_zero, List.take_of_length_le (by rw [hm]; exact Nat.le_refl _)]
    rw [hw1]
    refine ⟨(rs ++ [l], d), ⟨hd, hrs.snoc hrw hle, by dsimp only; simp; omega⟩, Shift.rename [(.l 58 2, .l 58 5)] ⟨rfl, rfl, rfl, rfl, ?_, trivial⟩ ⟨rfl, rfl, ?_, ?_, trivial⟩ rfl rfl rfl, ?_⟩
    · dsimp only; rw [List.length_append]; rfl
    · dsimp only; rw [List.length_append, ← hmr]; rfl
    · dsimp only; rw [htk, show eW (rs ++ [l]) = eW rs ++ [rwC l] from List.map_append]; rfl
    · show lv.length - (rs ++ [l]).length < lv.length - rs.length
      rw [List.length_append]; simp; omega
  have hle : rs.length = lv.length := by simp at h; omega
  clear h
  conv => whnf
  refine ⟨by rw [hmr]; omega, ?_⟩
  conv => whnf
  rw [List.drop_zero, List.take_of_length_le (by rw [hmr]; exact Nat.le_refl _)]
  exact ⟨rfl, rfl, hk ⟨lv, inf, rs⟩ d hd (mkT.of hlx (by omega) hix (by omega) ⟨hl1, hl2⟩ ⟨hi1, hi2⟩ hrs hle)⟩
end Go.Proofs
