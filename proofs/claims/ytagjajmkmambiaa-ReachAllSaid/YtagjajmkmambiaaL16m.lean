/- Proved here: what functions of the given program come to, for the statements of this chapter; no condition but those in the theorems. -/
import Derived.Test.YtagjajmkmambiaaL16l
namespace Go.Proofs
open Go.Abs
set_option linter.unusedSimpArgs false
set_option linter.unusedVariables false
set_option maxRecDepth 4000
theorem prefOk_drop {x y z : Ls} {i : Nat} {D : Int} (hx : i < x.length) (hy : i < y.length) (hz : i < z.length) (h : prefOk (x.drop i) (y.drop i) (z.drop i) D) :
    (0 ≤ D + z[i] - x[i] - y[i] ∧ D + z[i] - x[i] - y[i] ≤ 1) ∧ prefOk (x.drop (i + 1)) (y.drop (i + 1)) (z.drop (i + 1)) (D + z[i] - x[i] - y[i]) := by
  rw [List.drop_eq_getElem_cons hx, List.drop_eq_getElem_cons hy, List.drop_eq_getElem_cons hz, prefOk] at h
  exact h
theorem mixes_ok : FunR Try.prog 6 (R_law1 0) := by
  intro args k h
  unfold R_law1 at h
  split at h
  case h_2 => exact h.elim
  obtain ⟨⟨l, rfl, hl⟩, ⟨xs, rfl, hx⟩, hk⟩ := h
  obtain rfl : xs = [] := List.eq_nil_of_length_eq_zero hx
  refine does_ex (qc := qc1) (np := []) (CK := ckK [(10, cN R_new), (11, cB R_reach), (17, cB R_flows), (13, cPu R_run), (16, cSc R_true)]) mixed Try.func6 rfl rfl Try.ntmps6 Try.results6 τ_ok (by kernel_rfl) (ckK_ok ⟨cN_ok new_ok rfl, cB_ok reach_ok rfl, cB_ok flows_ok rfl, cPu_ok run_ok rfl, cSc_ok awake_ok, trivial⟩) (by simp) ?_
  conv => whnf
  refine ⟨l, rfl, ?_⟩
  conv => whnf
  refine ⟨⟨l, 0⟩, rfl, ⟨Nat.zero_le _, hl⟩, fun ws den d hd hr hw5 hw => ?_⟩
  conv => whnf
  refine ⟨d, 9, rfl, hd, rfl, by omega, by omega, fun q1 d hd hl1 hq1 => ?_⟩
  conv => whnf
  refine ⟨d, 9, rfl, hd, rfl, by omega, by omega, fun q2 d hd hl2 hq2 => ?_⟩
  conv => whnf
  have hml := eL_len q1
  have hme := eL_len q2
  obtain ⟨p1, o1, p2, o2, p3, o3, e1, e2, e3, n1, n2, n3, b1, b2, b3, hpref⟩ := mixes_law hr hq1 hq2 hl1 hl2
  refine ⟨Nat, fun i => ([(4, .c (.ptr (.l 4 1) 0)), (5, .c (.lst (eL q1))), (6, .c (.lst (eL q2))), (7, .c (.view (.l 45 2) 0 (addL (q1.take i) (q2.take i)).length)), (30, I (eL q1).length), (31, I i)],
      ⟨[(.l 4 1, .blk (RcC ws den)), (.l 45 2, .arr 3 1 (eL (addL (q1.take i) (q2.take i))) false)], 3, []⟩),
    fun i => i ≤ 9, fun i => 9 - i, 0, Nat.zero_le _,
    Shift.trans (Shift.rename [] ⟨rfl, rfl, rfl, rfl, rfl, rfl, trivial⟩ ⟨rfl, rfl, trivial⟩ rfl rfl rfl) (Shift.nilArr (t := 7) rfl 45 3 1), fun i hi => ?_⟩
  dsimp only at hi ⊢
  conv => whnf
  refine Fork.mk (fun h => ?_) (fun h => ?_)
  · have hi : i < 9 := by simp at h; omega
    have hi1 : i < q1.length := by omega
    have hi2 : i < q2.length := by omega
    have hat1 := map_at eI q1 hi1
    have hat2 := map_at eI q2 hi2
    have hv1 := hq1 _ (List.getElem_mem hi1)
    have hv2 := hq2 _ (List.getElem_mem hi2)
    have htk : addL (q1.take (i + 1)) (q2.take (i + 1)) = addL (q1.take i) (q2.take i) ++ [q1[i] + q2[i]] := by
      rw [show q1.take (i + 1) = q1.take i ++ [q1[i]] from (List.take_append_getElem hi1).symm, show q2.take (i + 1) = q2.take i ++ [q2[i]] from (List.take_append_getElem hi2).symm]
      exact addL_snoc _ _ (by rw [List.length_take, List.length_take]; omega)
    have hlt : (addL (q1.take i) (q2.take i)).length = i := by rw [addL_len (by rw [List.length_take, List.length_take]; omega), List.length_take]; omega
    generalize q1[i] = x at *
    generalize q2[i] = y at *
    conv => whnf
    refine ⟨by omega, eI x, hat1, rfl, ?_⟩
    conv => whnf
    refine ⟨by omega, eI y, hat2, rfl, ?_⟩
    conv => whnf
    rw [wrap_in (z := x + y) (by omega) (by omega)]
    refine ⟨by simp, ?_⟩
    conv => whnf
    refine ⟨rfl, ?_⟩
    conv => whnf
    refine ⟨⟨rfl, rfl, rfl, (eL_len _).symm, by rw [eL_len]; simp; omega⟩, ?_⟩
    conv => whnf
    have hw1 : IntKind.i64.wrap ((i : Int) + 1) = ((i + 1 : Nat) : Int) := by rw [wrap_in (by omega) (by omega)]; omega
    rw [hw1]
    refine ⟨i + 1, hi, Shift.rename [(.l 45 2, .l 45 3)] ⟨rfl, rfl, rfl, ?_, rfl, rfl, trivial⟩ ⟨rfl, ?_, trivial⟩ rfl rfl rfl, ?_⟩
    · dsimp only
      rw [htk, snoc_len]; rfl
    · dsimp only
      rw [htk, ← eL_snoc]; rfl
    · show 9 - (i + 1) < 9 - i
      omega
  · have hie : i = 9 := by simp at h; omega
    subst hie
    rw [List.take_of_length_le (by omega : q1.length ≤ 9), List.take_of_length_le (by omega : q2.length ≤ 9)]
    have hl3 := addL_len (show q1.length = q2.length by omega)
    conv => whnf
    refine ⟨ws, [], q1, rfl, rfl, rfl, by omega, by simp, by omega, ?_⟩
    rw [e1]
    conv => whnf
    refine ⟨ws, [], q2, rfl, rfl, rfl, by omega, by simp, by omega, ?_⟩
    rw [e2]
    conv => whnf
    refine ⟨by rw [eL_len]; omega, ?_⟩
    conv => whnf
    have hfull : List.take (addL q1 q2).length (List.drop 0 (eL (addL q1 q2))) = eL (addL q1 q2) := by rw [List.drop_zero, List.take_of_length_le (by rw [eL_len]; exact Nat.le_refl _)]
    refine ⟨ws, [], addL q1 q2, rfl, rfl, hfull, by omega, by simp, by omega, ?_⟩
    rw [e3]
    conv => whnf
    rw [show IntKind.i64.wrap ((p1, o1, (0 : Int)).2.2 + (p2, o2, (0 : Int)).2.2) = 0 from wr00, show IntKind.i64.wrap (0 + (p3, o3, (0 : Int)).2.2) = 0 from wr00]
    have hm1 := eL_len o1
    have hm2 := eL_len o2
    have hm3 := eL_len o3
    refine Fork.mk (fun h => (by simp at h)) (fun h => ?_)
    conv => whnf
    refine Fork.mk (fun h => (by simp at h; omega)) (fun h => ?_)
    conv => whnf
    refine Fork.mk (fun h => (by simp at h; omega)) (fun h => ?_)
    conv => whnf
    refine Fork.mk (fun h => (by simp at h; omega)) (fun h => ?_)
    conv => whnf
    refine ⟨Nat × Int × Int, fun s => ([(10, .c (.lst (eL o1))), (13, .c (.lst (eL o2))), (16, .c (.lst (eL o3))), (18, I s.2.1), (19, I s.2.2), (99, I (eL q1).length), (100, I s.1)], ⟨[], 0, []⟩),
      fun s => s.1 ≤ 9 ∧ (0 ≤ s.2.1 ∧ s.2.1 ≤ 40000 * s.1) ∧ (0 ≤ s.2.2 - s.2.1 ∧ s.2.2 - s.2.1 ≤ 1) ∧ prefOk (o1.drop s.1) (o2.drop s.1) (o3.drop s.1) (s.2.2 - s.2.1), fun s => 9 - s.1, (0, 0, 0),
      ⟨by omega, ⟨by dsimp only; omega, by simp⟩, ⟨by dsimp only; omega, by dsimp only; omega⟩, hpref⟩, Shift.reset ⟨rfl, rfl, rfl, rfl, rfl, rfl, rfl, trivial⟩ trivial rfl rfl, fun s hs => ?_⟩
    obtain ⟨i, sm, bt⟩ := s
    obtain ⟨hi, hs1, hs2, hp⟩ := hs
    dsimp only at hi hs1 hs2 hp ⊢
    conv => whnf
    refine Fork.mk (fun h => ?_) (fun h => ?_)
    · have hi : i < 9 := by simp at h; omega
      have hi1 : i < o1.length := by omega
      have hi2 : i < o2.length := by omega
      have hi3 : i < o3.length := by omega
      obtain ⟨hp1, hp2⟩ := prefOk_drop hi1 hi2 hi3 hp
      have hat1 := map_at eI o1 hi1
      have hat2 := map_at eI o2 hi2
      have hat3 := map_at eI o3 hi3
      have hv1 := b1 _ (List.getElem_mem hi1)
      have hv2 := b2 _ (List.getElem_mem hi2)
      have hv3 := b3 _ (List.getElem_mem hi3)
      generalize o1[i] = x at *
      generalize o2[i] = y at *
      generalize o3[i] = z at *
      conv => whnf
      refine ⟨by omega, eI x, hat1, rfl, ?_⟩
      conv => whnf
      refine ⟨by omega, eI y, hat2, rfl, ?_⟩
      conv => whnf
      refine ⟨by omega, eI z, hat3, rfl, ?_⟩
      conv => whnf
      rw [show IntKind.i64.wrap (sm + x) = sm + x from wrap_in (by omega) (by omega), show IntKind.i64.wrap (sm + x + y) = sm + x + y from wrap_in (by omega) (by omega), show IntKind.i64.wrap (bt + z) = bt + z from wrap_in (by omega) (by omega)]
      refine Fork.mk (fun h => (by simp at h; omega)) (fun h => ?_)
      conv => whnf
      rw [show IntKind.i64.wrap (sm + x + y + 1) = sm + x + y + 1 from wrap_in (by omega) (by omega)]
      refine Fork.mk (fun h => (by simp at h; omega)) (fun h => ?_)
      conv => whnf
      have hw1 : IntKind.i64.wrap ((i : Int) + 1) = ((i + 1 : Nat) : Int) := by rw [wrap_in (by omega) (by omega)]; omega
      rw [hw1]
      refine ⟨(i + 1, sm + x + y, bt + z), ⟨hi, ⟨by dsimp only; omega, by dsimp only; omega⟩, ⟨by dsimp only; omega, by dsimp only; omega⟩, ?_⟩, Shift.reset ⟨rfl, rfl, rfl, rfl, rfl, rfl, rfl, trivial⟩ trivial rfl rfl, ?_⟩
      · show prefOk _ _ _ (bt + z - (sm + x + y))
        rw [show bt + z - (sm + x + y) = bt - sm + z - x - y by omega]
        exact hp2
      · show 9 - (i + 1) < 9 - i
        omega
    · conv => whnf
      exact hk
end Go.Proofs
