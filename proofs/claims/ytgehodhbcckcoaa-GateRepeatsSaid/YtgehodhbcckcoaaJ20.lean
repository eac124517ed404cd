/- Proved here: what functions of the given program come to, for the statements of this chapter; no condition but those in the theorems. -/
import Derived.Test.YtgehodhbcckcoaaI20
namespace Go.Proofs
open Go Go.Abs
set_option linter.unusedSimpArgs false
set_option linter.unusedVariables false
set_option maxRecDepth 4000
theorem kS {k : AV → Prop} {r : List Gs × Int × Int} {l : List Gs} {b c : Int} (h : k (.tup [.c (.lst (eS r.1)), I r.2.1, I r.2.2])) (e : r = (l, b, c)) : k (.tup [.c (.lst (eS l)), I b, I c]) := by subst e; exact h
theorem least_ok : FunG Try.prog 34 (R_least 30 35) := by
  intro args os k h
  obtain ⟨c, w, lo, hi, rfl, rfl, hc, ⟨⟨hb1, hb2⟩, hb3⟩, hk⟩ := h
  have hw1 : IntKind.i64.wrap (hi - lo) = hi - lo := wrap_in (by omega) (by omega)
  have hw2 : IntKind.i64.wrap (hi - lo + 1) = hi - lo + 1 := wrap_in (by omega) (by omega)
  refine doesG_ex (qc := qc1) (np := [(1, [(1, 9), (9, 12)])]) (CK := ckK [(48, cGr (R_search 30 35 49))]) mixed Try.func34 rfl rfl Try.ntmps34 Try.results34 τ_ok (by kernel_rfl) (ckK_ok ⟨cGr_ok search_ok, trivial⟩) (by simp) rfl rfl ?_
  conv => whnf
  rw [hw1, hw2]
  refine ⟨[.l 3 1, .l 2 0, .x 0, .x 1], rfl, rfl, ?_⟩
  conv => whnf
  refine ⟨rfl, ?_⟩
  conv => whnf
  refine ⟨c, w, hi - lo + 1, lo, hi, rfl, rfl, hc, ⟨⟨by omega, by omega⟩, by omega, by omega⟩, fun j hj => ?_⟩
  have hw3 : IntKind.i64.wrap (lo + j) = lo + j := wrap_in (by have := hj.1; omega) (by have := hj.1; omega)
  have hr := isSr_fst hj hb2
  conv => whnf
  refine ⟨rfl, ?_⟩
  conv => whnf
  rw [hw3]
  refine ⟨rfl, rfl, ?_⟩
  exact hk _ hr
theorem set_ok : FunR Try.prog 14 R_setS := by
  intro args k h
  obtain ⟨gs, ss, lv, w, rfl, hf, hk⟩ := h
  have hm := eG_len gs
  have hn := eS_len ss
  refine does_ex (qc := qc1) (np := [(12, [(0, 9), (0, 10), (2, 9), (2, 10), (3, 9), (3, 10), (6, 9), (6, 10), (7, 9), (7, 10), (8, 9), (8, 10), (9, 10)])]) (CK := ckK [(27, cSc R_rngS), (29, cSc R_within), (31, cPq R_atG), (32, cPq R_rch), (33, cSc R_vflow), (34, cGr (R_least 30 35))]) mixed Try.func14 rfl rfl Try.ntmps14 Try.results14 τ_ok (by kernel_rfl) (ckK_ok ⟨cSc_ok rng_ok, cSc_ok within_ok, cPq_ok at_ok, cPq_ok reach_ok, cSc_ok vflow_ok, cGr_ok least_ok, trivial⟩) (by simp) ?_
  conv => whnf
  refine ⟨gs, ss, lv, rfl, hf, ?_⟩
  conv => whnf
  refine Fork.mk (fun h => ?_) (fun h => ?_)
  · have h1 : askG gs ss lv ≠ 0 := fun e => by
      rw [rngS, if_neg (by simp [e])] at h
      simp at h
    conv => whnf
    rw [show (rngS gs ss lv).2.2 = askG gs ss lv by rw [rngS, if_pos h1]]
    exact kS hk (by rw [setS, if_pos h1])
  have h1 : askG gs ss lv = 0 := Classical.byContradiction fun e => by
    rw [rngS, if_pos e] at h
    simp [e] at h
  have hA := askG_ok h1
  have hAn := hA.n
  have hAl := hA.l
  have hAv := hA.lv
  have hAg := hA.g
  clear h
  have htot := totL_in (gs := gs) (lv := lv) (os := losL gs ss) hAg
  conv => whnf
  refine Fork.mk (fun h => ?_) (fun h => ?_)
  · conv => whnf
    exact kS hk (by rw [setS, if_neg (by simp [h1]), if_pos (by simp [inB] at h ⊢; omega)])
  have hw : 0 ≤ w ∧ w ≤ 1073741824 := by simp at h; omega
  have e1 : setS gs ss lv w = ((setL w lv (totL gs (losL gs ss) lv) gs ss).1, (setL w lv (totL gs (losL gs ss) lv) gs ss).2, 0) := by
    rw [setS, if_neg (by simp [h1]), if_neg (by simp [inB, hw])]
  clear h
  rw [show (rngS gs ss lv).1 = totL gs (losL gs ss) lv by rw [rngS, if_neg (by simp [h1])]]
  generalize totL gs (losL gs ss) lv = T at htot e1 ⊢
  conv => whnf
  refine ⟨Nat × List Gs × Int, fun s => ([(1, .c (.lst (eS ss))), (2, I lv), (3, I w), (13, I s.2.2), (14, .c (.ptr (.l 14 1) 0)), (15, .c (.view (.l 83 2) 0 s.2.1.length)), (36, .c (.lst (eG gs))), (37, I (eG gs).length), (38, I s.1)], ⟨[(.l 14 1, .blk [.fn 30 []]), (.l 83 2, .arr 35 2 (eS s.2.1) false)], 3, []⟩),
    fun s => s.1 ≤ gs.length ∧ (setL w lv T gs ss = (s.2.1 ++ (setL w lv s.2.2 (gs.drop s.1) (ss.drop s.1)).1, (setL w lv s.2.2 (gs.drop s.1) (ss.drop s.1)).2) ∧ badS (gs.drop s.1) (ss.drop s.1) = false ∧ s.2.1.length = s.1) ∧ -(1073741824 * (8 + s.1)) ≤ s.2.2 ∧ s.2.2 ≤ 1073741824 * (8 + s.1), fun s => gs.length - s.1, (0, [], T), ⟨Nat.zero_le _, ⟨rfl, hA.s, rfl⟩, by dsimp only; omega, by dsimp only; omega⟩,
    Shift.trans (Shift.rename [] ⟨rfl, rfl, rfl, rfl, rfl, rfl, rfl, rfl, rfl, trivial⟩ ⟨rfl, rfl, trivial⟩ rfl rfl rfl) (Shift.nilArr (t := 15) rfl 83 35 2), fun s hi => ?_⟩
  obtain ⟨i, out, s⟩ := s
  obtain ⟨hi1, hi2, hi3, hi4⟩ := hi
  dsimp only at hi1 hi2 hi3 hi4 ⊢
  have hol := eS_len out
  conv => whnf
  refine Fork.mk (fun h => ?_) (fun h => ?_)
  · have hi : i < gs.length := by simp at h; omega
    clear h
    have hci := List.getElem?_eq_getElem hi
    have hcf := hAg _ (List.getElem_mem hi)
    have hcn := hf.f _ (List.getElem_mem hi)
    have hdi := List.getElem?_eq_getElem (show i < ss.length by omega)
    generalize gs[i] = g at hci hcf hcn
    generalize ss[i] = z at hdi
    rw [drop_of hci, drop_of hdi, setL_cons, badS] at hi2
    have hz : okS g z = true := by
      cases e : okS g z
      · rw [if_pos e] at hi2; simp at hi2
      · rfl
    rw [if_neg (by simp [hz])] at hi2
    have hw1 := wr_succ (i := i) (by omega)
    conv => whnf
    refine ⟨by omega, gtC g, by rw [Int.toNat_natCast, List.getElem?_map, hci]; rfl, rfl, ?_⟩
    conv => whnf
    refine ⟨g, lv, rfl, hcn, ?_⟩
    conv => whnf
    refine ⟨by omega, gsC z, by rw [Int.toNat_natCast, List.getElem?_map, hdi]; rfl, rfl, ?_⟩
    conv => whnf
    refine ⟨g, z, rfl, hcf, hz, ?_⟩
    conv => whnf
    have hfl := gfl_in (atG_ok hcf lv) (rch g z).1
    have hrc := rch_in hcf hz
    refine Fork.mk (fun h => ?_) (fun h => ?_)
    · have hlt : s < w := by simpa using h
      have hw2 : IntKind.i64.wrap (s - gfl (atG g lv) (rch g z).1) = s - gfl (atG g lv) (rch g z).1 := wrap_in (by omega) (by omega)
      have hw3 : IntKind.i64.wrap (w - (s - gfl (atG g lv) (rch g z).1)) = w - (s - gfl (atG g lv) (rch g z).1) := wrap_in (by omega) (by omega)
      conv => whnf
      refine ⟨atG g lv, 0, (rch g z).1, rfl, atG_ok hcf lv, ?_⟩
      conv => whnf
      rw [hw2, hw3]
      refine ⟨[.l 14 1, .l 18 4], rfl, rfl, ?_⟩
      conv => whnf
      refine ⟨rfl, ?_⟩
      conv => whnf
      refine ⟨atG g lv, w - (s - gfl (atG g lv) (rch g z).1), (rch g z).1, (rch g z).2, rfl, rfl, atG_ok hcf lv, ⟨hrc.1, by omega⟩, fun o ho => ?_⟩
      have ho := isFst_one ho (opO_is hrc.1.2 hlt)
      subst ho
      have hfo := gfl_in (atG_ok hcf lv) (opO (atG g lv) w s (rch g z).1 (rch g z).2)
      have hw4 : IntKind.i64.wrap (s - gfl (atG g lv) (rch g z).1 + gfl (atG g lv) (opO (atG g lv) w s (rch g z).1 (rch g z).2)) = s - gfl (atG g lv) (rch g z).1 + gfl (atG g lv) (opO (atG g lv) w s (rch g z).1 (rch g z).2) := wrap_in (by omega) (by omega)
      conv => whnf
      refine ⟨rfl, ?_⟩
      conv => whnf
      refine ⟨atG g lv, w - (s - gfl (atG g lv) (rch g z).1), opO (atG g lv) w s (rch g z).1 (rch g z).2, rfl, atG_ok hcf lv, ?_⟩
      conv => whnf
      rw [hw4]
      refine ⟨by omega, gsC z, by rw [Int.toNat_natCast, List.getElem?_map, hdi]; rfl, rfl, ?_⟩
      conv => whnf
      refine ⟨by simp, ?_⟩
      conv => whnf
      refine ⟨rfl, ?_⟩
      conv => whnf
      refine ⟨⟨rfl, rfl, rfl, by simp, by simp; omega⟩, ?_⟩
      conv => whnf
      rw [hw1]
      refine ⟨(i + 1, out ++ [⟨opO (atG g lv) w s (rch g z).1 (rch g z).2, z.jm⟩], sNx w lv s g z), ⟨hi, ⟨hi2.1.trans (by simp only [List.append_assoc, List.singleton_append]), hi2.2.1, by simp; omega⟩, by dsimp only [sNx]; omega, by dsimp only [sNx]; omega⟩, Shift.rename [(.l 83 2, .l 83 6)] ⟨rfl, rfl, rfl, rfl, rfl, ?_, rfl, rfl, rfl, trivial⟩ ⟨rfl, ?_, trivial⟩ rfl rfl rfl, by dsimp only; omega⟩
      · dsimp only; simp; rfl
      · dsimp only; rw [show eS (out ++ [⟨opO (atG g lv) w s (rch g z).1 (rch g z).2, z.jm⟩]) = eS out ++ [gsC ⟨opO (atG g lv) w s (rch g z).1 (rch g z).2, z.jm⟩] from List.map_append]; rfl
    have hlt : ¬ s < w := by simpa using h
    have ho : opO (atG g lv) w s (rch g z).1 (rch g z).2 = (rch g z).1 := by rw [opO, if_neg hlt]
    have hs : sNx w lv s g z = s := by unfold sNx; rw [ho]; omega
    rw [hs, ho] at hi2
    conv => whnf
    refine ⟨by omega, gsC z, by rw [Int.toNat_natCast, List.getElem?_map, hdi]; rfl, rfl, ?_⟩
    conv => whnf
    refine ⟨by simp, ?_⟩
    conv => whnf
    refine ⟨rfl, ?_⟩
    conv => whnf
    refine ⟨⟨rfl, rfl, rfl, by simp, by simp; omega⟩, ?_⟩
    conv => whnf
    rw [hw1]
    refine ⟨(i + 1, out ++ [⟨(rch g z).1, z.jm⟩], s), ⟨hi, ⟨hi2.1.trans (by simp only [List.append_assoc, List.singleton_append]), hi2.2.1, by simp; omega⟩, by dsimp only [sNx]; omega, by dsimp only [sNx]; omega⟩, Shift.rename [(.l 83 2, .l 83 6)] ⟨rfl, rfl, rfl, rfl, rfl, ?_, rfl, rfl, rfl, trivial⟩ ⟨rfl, ?_, trivial⟩ rfl rfl rfl, by dsimp only; omega⟩
    · dsimp only; simp; rfl
    · dsimp only; rw [show eS (out ++ [⟨(rch g z).1, z.jm⟩]) = eS out ++ [gsC ⟨(rch g z).1, z.jm⟩] from List.map_append]; rfl
  have hie : i = gs.length := by simp at h; omega
  subst hie
  rw [List.drop_length, setL_nil, List.append_nil] at hi2
  have htl : List.take out.length (List.drop 0 (eS out)) = eS out := by rw [List.drop_zero, List.take_of_length_le (by omega)]
  rw [hi2.1] at e1
  conv => whnf
  refine ⟨by omega, ?_⟩
  conv => whnf
  rw [htl]
  exact kS hk e1
end Go.Proofs
