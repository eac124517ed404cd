/- Proved here: what functions of the given program come to, for the statements of this chapter; no condition but those in the theorems. -/
import Derived.Test.YtgehodhbcckcoaaF20
namespace Go.Proofs
open Go Go.Abs
set_option linter.unusedSimpArgs false
set_option linter.unusedVariables false
set_option maxRecDepth 4000
theorem asked_ok : FunR Try.prog 46 R_askG := by
  intro args k h
  obtain ⟨gs, ss, lv, rfl, hf, hk⟩ := h
  have hm := eG_len gs
  have hn := eS_len ss
  have hg1 := hf.g
  have hs1 := hf.s
  refine does_ex (qc := qc1) (np := []) (CK := ckK [(41, cSc R_okS), (22, cSc (R_gI ckG)), (29, cSc R_within)]) mixed Try.func46 rfl rfl Try.ntmps46 Try.results46 τ_ok (by kernel_rfl) (ckK_ok ⟨cSc_ok okS_ok, cSc_ok ckG_prog, cSc_ok within_ok, trivial⟩) (by simp) ?_
  conv => whnf
  refine Fork.mk (fun h => ?_) (fun h => ?_)
  · have h1 : 8 < gs.length := by simp at h; omega
    conv => whnf
    exact kI hk (by rw [askG, if_pos h1])
  have h1 : ¬ 8 < gs.length := by simp at h; omega
  clear h
  conv => whnf
  refine Fork.mk (fun h => ?_) (fun h => ?_)
  · have h2 : gs.length ≠ ss.length := by simp at h; omega
    conv => whnf
    exact kI hk (by rw [askG, if_neg h1, if_pos h2])
  have h2 : gs.length = ss.length := by simp at h; omega
  clear h
  conv => whnf
  refine ⟨Nat, fun i => ([(0, .c (.lst (eG gs))), (1, .c (.lst (eS ss))), (2, I lv), (22, .c (.lst (eG gs))), (23, I (eG gs).length), (24, I i)], ⟨[], 40, []⟩), fun i => i ≤ gs.length ∧ badS gs ss = badS (gs.drop i) (ss.drop i), fun i => gs.length - i, 0, ⟨Nat.zero_le _, rfl⟩, Shift.reset ⟨rfl, rfl, rfl, rfl, rfl, rfl, trivial⟩ trivial rfl rfl, fun i hi => ?_⟩
  obtain ⟨hi1, hi2⟩ := hi
  dsimp only
  conv => whnf
  refine Fork.mk (fun h => ?_) (fun h => ?_)
  · have hi : i < gs.length := by simp at h; omega
    clear h
    have hci := List.getElem?_eq_getElem hi
    have hdi := List.getElem?_eq_getElem (show i < ss.length by omega)
    generalize gs[i] = g at hci
    generalize ss[i] = z at hdi
    rw [drop_of hci, drop_of hdi, badS] at hi2
    have hw1 := wr_succ (i := i) (by omega)
    conv => whnf
    refine ⟨by omega, gtC g, by rw [Int.toNat_natCast, List.getElem?_map, hci]; rfl, rfl, ?_⟩
    conv => whnf
    refine ⟨by omega, gsC z, by rw [Int.toNat_natCast, List.getElem?_map, hdi]; rfl, rfl, ?_⟩
    conv => whnf
    refine ⟨g, z, rfl, ?_⟩
    conv => whnf
    refine Fork.mk (fun h => ?_) (fun h => ?_)
    · have h3 : okS g z = false := by simpa using h
      rw [if_pos h3] at hi2
      conv => whnf
      exact kI hk (by rw [askG, if_neg h1, if_neg (by omega), if_pos hi2])
    have h3 : ¬ okS g z = false := by simpa using h
    rw [if_neg h3] at hi2
    conv => whnf
    rw [hw1]
    exact ⟨_, ⟨hi, hi2⟩, Shift.reset ⟨rfl, rfl, rfl, rfl, rfl, rfl, trivial⟩ trivial rfl rfl, by omega⟩
  have hie : i = gs.length := by simp at h; omega
  have hb : badS gs ss = false := by
    rw [hi2, hie, List.drop_length]
    cases ss.drop gs.length <;> rfl
  clear h hi1 hi2 hie
  conv => whnf
  refine ⟨Nat, fun i => ([(2, I lv), (37, .c (.lst (eG gs))), (38, I (eG gs).length), (39, I i)], ⟨[], 80, []⟩), fun i => i ≤ gs.length ∧ ckGs gs = ckGs (gs.drop i), fun i => gs.length - i, 0, ⟨Nat.zero_le _, rfl⟩, Shift.reset ⟨rfl, rfl, rfl, rfl, trivial⟩ trivial rfl rfl, fun i hi => ?_⟩
  obtain ⟨hi1, hi2⟩ := hi
  dsimp only
  conv => whnf
  refine Fork.mk (fun h => ?_) (fun h => ?_)
  · have hi : i < gs.length := by simp at h; omega
    clear h
    have hci := List.getElem?_eq_getElem hi
    have hcf := hf.f _ (List.getElem_mem hi)
    generalize gs[i] = g at hci hcf
    rw [drop_of hci, ckGs] at hi2
    have hw1 := wr_succ (i := i) (by omega)
    conv => whnf
    refine ⟨by omega, gtC g, by rw [Int.toNat_natCast, List.getElem?_map, hci]; rfl, rfl, ?_⟩
    conv => whnf
    refine ⟨g, rfl, hcf, ?_⟩
    conv => whnf
    refine Fork.mk (fun h => ?_) (fun h => ?_)
    · have h3 : ckG g ≠ 0 := by simpa using h
      rw [if_pos h3] at hi2
      conv => whnf
      exact kI hk (by rw [askG, if_neg h1, if_neg (by omega), if_neg (by simp [hb]), if_pos (by rw [hi2]; exact h3), hi2])
    have h3 : ¬ ckG g ≠ 0 := by simpa using h
    rw [if_neg h3] at hi2
    conv => whnf
    rw [hw1]
    exact ⟨_, ⟨hi, hi2⟩, Shift.reset ⟨rfl, rfl, rfl, rfl, trivial⟩ trivial rfl rfl, by omega⟩
  have hie : i = gs.length := by simp at h; omega
  have hc : ckGs gs = 0 := by
    rw [hi2, hie, List.drop_length]
    rfl
  clear h hi1 hi2 hie
  conv => whnf
  refine Fork.mk (fun h => ?_) (fun h => ?_)
  · conv => whnf
    exact kI hk (by rw [askG, if_neg h1, if_neg (by omega), if_neg (by simp [hb]), if_neg (by simp [hc]), if_pos (by simp [inB] at h ⊢; omega)])
  have h3 : 0 ≤ lv ∧ lv ≤ 16777216 := by simp at h; omega
  conv => whnf
  exact kI hk (by rw [askG, if_neg h1, if_neg (by omega), if_neg (by simp [hb]), if_neg (by simp [hc]), if_neg (by simp [inB, h3])])
theorem wrong_ok : FunR Try.prog 36 R_askG := by
  intro args k h
  obtain ⟨gs, ss, lv, rfl, hf, hk⟩ := h
  have hm := eG_len gs
  have hn := eS_len ss
  have hg1 := hf.g
  have hs1 := hf.s
  refine does_ex (qc := qc1) (np := []) (CK := ckK [(50, cSc R_okS), (23, cSc (R_gI ckG)), (37, cSc R_within)]) mixed Try.func36 rfl rfl Try.ntmps36 Try.results36 τ_ok (by kernel_rfl) (ckK_ok ⟨cSc_ok rokS_ok, cSc_ok rckG_ok, cSc_ok rIn_ok, trivial⟩) (by simp) ?_
  conv => whnf
  refine Fork.mk (fun h => ?_) (fun h => ?_)
  · have h1 : 8 < gs.length := by simp at h; omega
    conv => whnf
    exact kI hk (by rw [askG, if_pos h1])
  have h1 : ¬ 8 < gs.length := by simp at h; omega
  clear h
  conv => whnf
  refine Fork.mk (fun h => ?_) (fun h => ?_)
  · have h2 : gs.length ≠ ss.length := by simp at h; omega
    conv => whnf
    exact kI hk (by rw [askG, if_neg h1, if_pos h2])
  have h2 : gs.length = ss.length := by simp at h; omega
  clear h
  conv => whnf
  refine ⟨Nat, fun i => ([(0, .c (.lst (eG gs))), (1, .c (.lst (eS ss))), (2, I lv), (20, .c (.lst (eG gs))), (21, I (eG gs).length), (22, I i)], ⟨[], 40, []⟩), fun i => i ≤ gs.length ∧ badS gs ss = badS (gs.drop i) (ss.drop i), fun i => gs.length - i, 0, ⟨Nat.zero_le _, rfl⟩, Shift.reset ⟨rfl, rfl, rfl, rfl, rfl, rfl, trivial⟩ trivial rfl rfl, fun i hi => ?_⟩
  obtain ⟨hi1, hi2⟩ := hi
  dsimp only
  conv => whnf
  refine Fork.mk (fun h => ?_) (fun h => ?_)
  · have hi : i < gs.length := by simp at h; omega
    clear h
    have hci := List.getElem?_eq_getElem hi
    have hdi := List.getElem?_eq_getElem (show i < ss.length by omega)
    generalize gs[i] = g at hci
    generalize ss[i] = z at hdi
    rw [drop_of hci, drop_of hdi, badS] at hi2
    have hw1 := wr_succ (i := i) (by omega)
    conv => whnf
    refine ⟨by omega, gtC g, by rw [Int.toNat_natCast, List.getElem?_map, hci]; rfl, rfl, ?_⟩
    conv => whnf
    refine ⟨by omega, gsC z, by rw [Int.toNat_natCast, List.getElem?_map, hdi]; rfl, rfl, ?_⟩
    conv => whnf
    refine ⟨g, z, rfl, ?_⟩
    conv => whnf
    refine Fork.mk (fun h => ?_) (fun h => ?_)
    · have h3 : okS g z = false := by simpa using h
      rw [if_pos h3] at hi2
      conv => whnf
      exact kI hk (by rw [askG, if_neg h1, if_neg (by omega), if_pos hi2])
    have h3 : ¬ okS g z = false := by simpa using h
    rw [if_neg h3] at hi2
    conv => whnf
    rw [hw1]
    exact ⟨_, ⟨hi, hi2⟩, Shift.reset ⟨rfl, rfl, rfl, rfl, rfl, rfl, trivial⟩ trivial rfl rfl, by omega⟩
  have hie : i = gs.length := by simp at h; omega
  have hb : badS gs ss = false := by
    rw [hi2, hie, List.drop_length]
    cases ss.drop gs.length <;> rfl
  clear h hi1 hi2 hie
  conv => whnf
  refine ⟨Nat, fun i => ([(2, I lv), (35, .c (.lst (eG gs))), (36, I (eG gs).length), (37, I i)], ⟨[], 80, []⟩), fun i => i ≤ gs.length ∧ ckGs gs = ckGs (gs.drop i), fun i => gs.length - i, 0, ⟨Nat.zero_le _, rfl⟩, Shift.reset ⟨rfl, rfl, rfl, rfl, trivial⟩ trivial rfl rfl, fun i hi => ?_⟩
  obtain ⟨hi1, hi2⟩ := hi
  dsimp only
  conv => whnf
  refine Fork.mk (fun h => ?_) (fun h => ?_)
  · have hi : i < gs.length := by simp at h; omega
    clear h
    have hci := List.getElem?_eq_getElem hi
    have hcf := hf.f _ (List.getElem_mem hi)
    generalize gs[i] = g at hci hcf
    rw [drop_of hci, ckGs] at hi2
    have hw1 := wr_succ (i := i) (by omega)
    conv => whnf
    refine ⟨by omega, gtC g, by rw [Int.toNat_natCast, List.getElem?_map, hci]; rfl, rfl, ?_⟩
    conv => whnf
    refine ⟨g, rfl, hcf, ?_⟩
    conv => whnf
    refine Fork.mk (fun h => ?_) (fun h => ?_)
    · have h3 : ckG g ≠ 0 := by simpa using h
      rw [if_pos h3] at hi2
      conv => whnf
      exact kI hk (by rw [askG, if_neg h1, if_neg (by omega), if_neg (by simp [hb]), if_pos (by rw [hi2]; exact h3), hi2])
    have h3 : ¬ ckG g ≠ 0 := by simpa using h
    rw [if_neg h3] at hi2
    conv => whnf
    rw [hw1]
    exact ⟨_, ⟨hi, hi2⟩, Shift.reset ⟨rfl, rfl, rfl, rfl, trivial⟩ trivial rfl rfl, by omega⟩
  have hie : i = gs.length := by simp at h; omega
  have hc : ckGs gs = 0 := by
    rw [hi2, hie, List.drop_length]
    rfl
  clear h hi1 hi2 hie
  conv => whnf
  refine Fork.mk (fun h => ?_) (fun h => ?_)
  · conv => whnf
    exact kI hk (by rw [askG, if_neg h1, if_neg (by omega), if_neg (by simp [hb]), if_neg (by simp [hc]), if_pos (by simp [inB] at h ⊢; omega)])
  have h3 : 0 ≤ lv ∧ lv ≤ 16777216 := by simp at h; omega
  conv => whnf
  exact kI hk (by rw [askG, if_neg h1, if_neg (by omega), if_neg (by simp [hb]), if_neg (by simp [hc]), if_neg (by simp [inB, h3])])
theorem tot_ok : FunR Try.prog 25 R_totS := by
  intro args k h
  obtain ⟨gs, ss, lv, rfl, hf, hk⟩ := h
  have hm := eG_len gs
  have hn := eS_len ss
  refine does_ex (qc := qc1) (np := []) (CK := ckK [(46, cSc R_askG), (31, cPq R_atG), (33, cSc R_vflow)]) mixed Try.func25 rfl rfl Try.ntmps25 Try.results25 τ_ok (by kernel_rfl) (ckK_ok ⟨cSc_ok asked_ok, cPq_ok at_ok, cSc_ok vflow_ok, trivial⟩) (by simp) ?_
  conv => whnf
  refine ⟨gs, ss, lv, rfl, hf, ?_⟩
  conv => whnf
  refine Fork.mk (fun h => ?_) (fun h => ?_)
  · have h1 : askG gs ss lv ≠ 0 := by simpa using h
    conv => whnf
    exact kI2 hk (by rw [totS, if_pos h1])
  have h1 : askG gs ss lv = 0 := by simpa using h
  have hA := askG_ok h1
  have hAn := hA.n
  have hAl := hA.l
  have hAv := hA.lv
  have hAg := hA.g
  clear h
  conv => whnf
  refine ⟨Nat × Int, fun s => ([(1, .c (.lst (eS ss))), (2, I lv), (9, I s.2), (19, .c (.lst (eG gs))), (20, I (eG gs).length), (21, I s.1)], ⟨[], 40, []⟩), fun s => s.1 ≤ gs.length ∧ totL gs (opsL ss) lv = s.2 + totL (gs.drop s.1) (opsL (ss.drop s.1)) lv ∧ 0 ≤ s.2 ∧ s.2 ≤ 1073741824 * s.1, fun s => gs.length - s.1, (0, 0), ⟨Nat.zero_le _, by simp, Int.le_refl _, by simp⟩, Shift.reset ⟨rfl, rfl, rfl, rfl, rfl, rfl, trivial⟩ trivial rfl rfl, fun s hi => ?_⟩
  obtain ⟨i, s⟩ := s
  obtain ⟨hi1, hi2, hi3, hi4⟩ := hi
  dsimp only at hi1 hi2 hi3 hi4 ⊢
  conv => whnf
  refine Fork.mk (fun h => ?_) (fun h => ?_)
  · have hi : i < gs.length := by simp at h; omega
    clear h
    have hci := List.getElem?_eq_getElem hi
    have hcf := hAg _ (List.getElem_mem hi)
    have hcn := hf.f _ (List.getElem_mem hi)
    have hdi := List.getElem?_eq_getElem (show i < ss.length by omega)
    generalize gs[i] = g at hci hcf hcn
    generalize ss[i] = z at hdi
    rw [drop_of hci, drop_of hdi] at hi2
    have hw1 := wr_succ (i := i) (by omega)
    conv => whnf
    refine ⟨by omega, gtC g, by rw [Int.toNat_natCast, List.getElem?_map, hci]; rfl, rfl, ?_⟩
    conv => whnf
    refine ⟨g, lv, rfl, hcn, ?_⟩
    conv => whnf
    refine ⟨by omega, gsC z, by rw [Int.toNat_natCast, List.getElem?_map, hdi]; rfl, rfl, ?_⟩
    conv => whnf
    have hfl := gfl_in (atG_ok hcf lv) z.op
    have hw2 : IntKind.i64.wrap (s + gfl (atG g lv) z.op) = s + gfl (atG g lv) z.op := wrap_in (by omega) (by omega)
    refine ⟨atG g lv, 0, z.op, rfl, atG_ok hcf lv, ?_⟩
    conv => whnf
    rw [hw1, hw2]
    exact ⟨(i + 1, s + gfl (atG g lv) z.op), ⟨hi, by rw [hi2]; show _ = s + gfl (atG g lv) z.op + _; rw [Int.add_assoc]; rfl, by dsimp only; omega, by dsimp only; omega⟩, Shift.reset ⟨rfl, rfl, rfl, rfl, rfl, rfl, trivial⟩ trivial rfl rfl, by dsimp only; omega⟩
  have hie : i = gs.length := by simp at h; omega
  subst hie
  conv => whnf
  refine kI2 hk ?_
  rw [totS, if_neg (by simp [h1]), hi2, List.drop_length]
  exact Prod.ext (show s + totL [] _ lv = s by cases opsL (ss.drop gs.length) <;> simp [totL]) rfl
theorem reach_ok : FunR Try.prog 32 R_rch := by
  intro args k h
  obtain ⟨g, z, rfl, hg, hz, hk⟩ := h
  have ho := (ckG_ok hg).o
  have hv := (ckG_ok hg).v
  have hz1 := hz
  simp [okS, inB] at hz1
  have hw1 : IntKind.i64.wrap (z.op - g.mv) = z.op - g.mv := wrap_in (by omega) (by omega)
  have hw2 : IntKind.i64.wrap (z.op + g.mv) = z.op + g.mv := wrap_in (by omega) (by omega)
  refine does_ex (qc := qc1) (np := []) (CK := ckK []) mixed Try.func32 rfl rfl Try.ntmps32 Try.results32 τ_ok (by kernel_rfl) (ckK_ok trivial) (by simp) ?_
  conv => whnf
  refine Fork.mk (fun h => ?_) (fun h => ?_)
  · have h1 : rch g z = (z.op, z.op) := if_pos (by simpa using h)
    conv => whnf
    rw [h1] at hk
    exact hk
  have h1 : rch g z = (mx (z.op - g.mv) 0, mnG (z.op + g.mv) g.mo) := if_neg (by simpa using h)
  conv => whnf
  rw [hw1, hw2]
  rw [h1] at hk
  exact hk
theorem rreach_ok : FunR Try.prog 42 R_rch := by
  intro args k h
  obtain ⟨g, z, rfl, hg, hz, hk⟩ := h
  have ho := (ckG_ok hg).o
  have hv := (ckG_ok hg).v
  have hz1 := hz
  simp [okS, inB] at hz1
  have hw1 : IntKind.i64.wrap (z.op - g.mv) = z.op - g.mv := wrap_in (by omega) (by omega)
  have hw2 : IntKind.i64.wrap (z.op + g.mv) = z.op + g.mv := wrap_in (by omega) (by omega)
  refine does_ex (qc := qc1) (np := []) (CK := ckK []) mixed Try.func42 rfl rfl Try.ntmps42 Try.results42 τ_ok (by kernel_rfl) (ckK_ok trivial) (by simp) ?_
  conv => whnf
  refine Fork.mk (fun h => ?_) (fun h => ?_)
  · have h1 : rch g z = (z.op, z.op) := if_pos (by simpa using h)
    conv => whnf
    rw [h1] at hk
    exact hk
  have h1 : rch g z = (mx (z.op - g.mv) 0, mnG (z.op + g.mv) g.mo) := if_neg (by simpa using h)
  conv => whnf
  rw [hw1, hw2]
  rw [h1, show mx (z.op - g.mv) 0 = (if 0 < z.op - g.mv then z.op - g.mv else 0) by unfold mx; split <;> split <;> omega, show mnG (z.op + g.mv) g.mo = (if z.op + g.mv < g.mo then z.op + g.mv else g.mo) by unfold mnG; split <;> split <;> omega] at hk
  exact hk
theorem kRch {k : AV → Prop} {r : Int × Int × Int} {a b c : Int} (h : k (.tup [.agg [IC r.1, IC r.2.1], I r.2.2])) (e : r = (a, b, c)) : k (.tup [.agg [IC a, IC b], I c]) := by subst e; exact h
theorem Reach_ok : FunR Try.prog 19 R_rchS := by
  intro args k h
  obtain ⟨g, z, rfl, hg, hk⟩ := h
  refine does_ex (qc := qc1) (np := []) (CK := ckK [(41, cSc R_okS), (22, cSc (R_gI ckG)), (32, cPq R_rch)]) mixed Try.func19 rfl rfl Try.ntmps19 Try.results19 τ_ok (by kernel_rfl) (ckK_ok ⟨cSc_ok okS_ok, cSc_ok ckG_prog, cPq_ok reach_ok, trivial⟩) (by simp) ?_
  conv => whnf
  refine ⟨g, z, rfl, ?_⟩
  conv => whnf
  refine Fork.mk (fun h => ?_) (fun h => ?_)
  · have h3 : okS g z = false := by simpa using h
    conv => whnf
    exact kRch hk (by rw [rchS, if_pos h3])
  have h3 : okS g z = true := by simpa using h
  clear h
  conv => whnf
  refine ⟨g, rfl, hg, ?_⟩
  conv => whnf
  refine Fork.mk (fun h => ?_) (fun h => ?_)
  · have h1 : ckG g ≠ 0 := by simpa using h
    conv => whnf
    exact kRch hk (by rw [rchS, if_neg (by simp [h3]), if_pos h1])
  have h1 : ckG g = 0 := by simpa using h
  conv => whnf
  refine ⟨g, z, rfl, h1, h3, ?_⟩
  conv => whnf
  exact kRch hk (by rw [rchS, if_neg (by simp [h3]), if_neg (by simp [h1])])
theorem rng_ok : FunR Try.prog 27 R_rngS := by
  intro args k h
  obtain ⟨gs, ss, lv, rfl, hf, hk⟩ := h
  have hm := eG_len gs
  have hn := eS_len ss
  refine does_ex (qc := qc1) (np := [(8, [(0, 9), (0, 10), (2, 9), (2, 10), (3, 9), (3, 10), (6, 9), (6, 10), (7, 9), (7, 10), (8, 9), (8, 10), (9, 10)])]) (CK := ckK [(46, cSc R_askG), (31, cPq R_atG), (32, cPq R_rch), (33, cSc R_vflow)]) mixed Try.func27 rfl rfl Try.ntmps27 Try.results27 τ_ok (by kernel_rfl) (ckK_ok ⟨cSc_ok asked_ok, cPq_ok at_ok, cPq_ok reach_ok, cSc_ok vflow_ok, trivial⟩) (by simp) ?_
  conv => whnf
  refine ⟨gs, ss, lv, rfl, hf, ?_⟩
  conv => whnf
  refine Fork.mk (fun h => ?_) (fun h => ?_)
  · have h1 : askG gs ss lv ≠ 0 := by simpa using h
    conv => whnf
    exact kRch hk (by rw [rngS, if_pos h1])
  have h1 : askG gs ss lv = 0 := by simpa using h
  have hA := askG_ok h1
  have hAn := hA.n
  have hAl := hA.l
  have hAv := hA.lv
  have hAg := hA.g
  clear h
  conv => whnf
  refine ⟨Nat × Int × Int, fun s => ([(1, .c (.lst (eS ss))), (2, I lv), (6, .c (.ptr (.l 6 0) 0)), (9, .c (.ptr (.l 9 1) 0)), (22, .c (.lst (eG gs))), (23, I (eG gs).length), (24, I s.1)], ⟨[(.l 6 0, .blk [IC 0, IC 0]), (.l 9 1, .blk [IC s.2.1, IC s.2.2])], 40, []⟩), fun s => s.1 ≤ gs.length ∧ (totL gs (losL gs ss) lv = s.2.1 + totL (gs.drop s.1) (losL (gs.drop s.1) (ss.drop s.1)) lv ∧ totL gs (hisL gs ss) lv = s.2.2 + totL (gs.drop s.1) (hisL (gs.drop s.1) (ss.drop s.1)) lv ∧ badS (gs.drop s.1) (ss.drop s.1) = false) ∧ (0 ≤ s.2.1 ∧ s.2.1 ≤ 1073741824 * s.1) ∧ (0 ≤ s.2.2 ∧ s.2.2 ≤ 1073741824 * s.1), fun s => gs.length - s.1, (0, 0, 0), ⟨Nat.zero_le _, ⟨by simp, by simp, hA.s⟩, ⟨Int.le_refl _, by simp⟩, Int.le_refl _, by simp⟩, Shift.reset ⟨rfl, rfl, rfl, rfl, rfl, rfl, rfl, trivial⟩ ⟨rfl, rfl, trivial⟩ rfl rfl, fun s hi => ?_⟩
  obtain ⟨i, s, t⟩ := s
  obtain ⟨hi1, hi2, hi3, hi4⟩ := hi
  dsimp only at hi1 hi2 hi3 hi4 ⊢
  conv => whnf
  refine Fork.mk (fun h => ?_) (fun h => ?_)
  · have hi : i < gs.length := by simp at h; omega
    clear h
    have hci := List.getElem?_eq_getElem hi
    have hcf := hAg _ (List.getElem_mem hi)
    have hcn := hf.f _ (List.getElem_mem hi)
    have hdi := List.getElem?_eq_getElem (show i < ss.length by omega)
    generalize gs[i] = g at hci hcf hcn
    generalize ss[i] = z at hdi
    rw [drop_of hci, drop_of hdi, losL, hisL, totL, totL, badS] at hi2
    have hz : okS g z = true := by
      cases e : okS g z
      · rw [if_pos e] at hi2; simp at hi2
      · rfl
    rw [if_neg (by simp [hz])] at hi2
    have hw1 := wr_succ (i := i) (by omega)
    conv => whnf
    refine ⟨by omega, gtC g, by rw [Int.toNat_natCast, List.getElem?_map, hci]; rfl, rfl, ?_⟩
    conv => whnf
    refine ⟨g, lv, rfl, hcn, ?_⟩
    conv => whnf
    refine ⟨by omega, gsC z, by rw [Int.toNat_natCast, List.getElem?_map, hdi]; rfl, rfl, ?_⟩
    conv => whnf
    refine ⟨g, z, rfl, hcf, hz, ?_⟩
    conv => whnf
    have hfl := gfl_in (atG_ok hcf lv) (rch g z).1
    have hfh := gfl_in (atG_ok hcf lv) (rch g z).2
    have hw2 : IntKind.i64.wrap (s + gfl (atG g lv) (rch g z).1) = s + gfl (atG g lv) (rch g z).1 := wrap_in (by omega) (by omega)
    have hw3 : IntKind.i64.wrap (t + gfl (atG g lv) (rch g z).2) = t + gfl (atG g lv) (rch g z).2 := wrap_in (by omega) (by omega)
    refine ⟨atG g lv, 0, (rch g z).1, rfl, atG_ok hcf lv, ?_⟩
    conv => whnf
    refine ⟨atG g lv, 0, (rch g z).2, rfl, atG_ok hcf lv, ?_⟩
    conv => whnf
    rw [hw1, hw2, hw3]
    exact ⟨(i + 1, s + gfl (atG g lv) (rch g z).1, t + gfl (atG g lv) (rch g z).2), ⟨hi, ⟨by dsimp only; omega, by dsimp only; omega, hi2.2.2⟩, by dsimp only; omega, by dsimp only; omega⟩, Shift.reset ⟨rfl, rfl, rfl, rfl, rfl, rfl, rfl, trivial⟩ ⟨rfl, rfl, trivial⟩ rfl rfl, by dsimp only; omega⟩
  have hie : i = gs.length := by simp at h; omega
  subst hie
  conv => whnf
  refine kRch hk ?_
  rw [List.drop_length] at hi2
  have e1 : ∀ x, totL [] x lv = 0 := fun x => by cases x <;> rfl
  rw [e1, e1] at hi2
  rw [rngS, if_neg (by simp [h1]), hi2.1, hi2.2.1, Int.add_zero, Int.add_zero]
theorem rtotal_ok : FunR Try.prog 39 R_rtot := by
  intro args k h
  obtain ⟨gs, os, lv, rfl, hol, hgl, hAg, hk⟩ := h
  have hm := eG_len gs
  have hn := eL_len os
  refine does_ex (qc := qc1) (np := []) (CK := ckK [(45, cSc R_rflow)]) mixed Try.func39 rfl rfl Try.ntmps39 Try.results39 τ_ok (by kernel_rfl) (ckK_ok ⟨cSc_ok rflow_ok, trivial⟩) (by simp) ?_
  conv => whnf
  refine ⟨Nat × Int, fun s => ([(1, .c (.lst (eL os))), (2, I lv), (7, I s.2), (10, .c (.lst (eG gs))), (11, I (eG gs).length), (12, I s.1)], ⟨[], 40, []⟩), fun s => s.1 ≤ gs.length ∧ totL gs os lv = s.2 + totL (gs.drop s.1) (os.drop s.1) lv ∧ 0 ≤ s.2 ∧ s.2 ≤ 1073741824 * s.1, fun s => gs.length - s.1, (0, 0), ⟨Nat.zero_le _, by simp, Int.le_refl _, by simp⟩, Shift.reset ⟨rfl, rfl, rfl, rfl, rfl, rfl, trivial⟩ trivial rfl rfl, fun s hi => ?_⟩
  obtain ⟨i, s⟩ := s
  obtain ⟨hi1, hi2, hi3, hi4⟩ := hi
  dsimp only at hi1 hi2 hi3 hi4 ⊢
  conv => whnf
  refine Fork.mk (fun h => ?_) (fun h => ?_)
  · have hi : i < gs.length := by simp at h; omega
    clear h
    have hci := List.getElem?_eq_getElem hi
    have hcf := hAg _ (List.getElem_mem hi)
    have hdi := List.getElem?_eq_getElem (show i < os.length by omega)
    generalize gs[i] = g at hci hcf
    generalize os[i] = o at hdi
    rw [drop_of hci, drop_of hdi, totL] at hi2
    have hw1 := wr_succ (i := i) (by omega)
    conv => whnf
    refine ⟨by omega, gtC g, by rw [Int.toNat_natCast, List.getElem?_map, hci]; rfl, rfl, ?_⟩
    conv => whnf
    refine ⟨by omega, eI o, by rw [Int.toNat_natCast, List.getElem?_map, hdi]; rfl, rfl, ?_⟩
    have hfl := gfl_in (atG_ok hcf lv) o
    have hw2 : IntKind.i64.wrap (s + gfl (atG g lv) o) = s + gfl (atG g lv) o := wrap_in (by omega) (by omega)
    conv => whnf
    refine ⟨g, o, lv, rfl, hcf, ?_⟩
    conv => whnf
    rw [hw1, hw2]
    exact ⟨(i + 1, s + gfl (atG g lv) o), ⟨hi, by dsimp only; omega, by dsimp only; omega, by dsimp only; omega⟩, Shift.reset ⟨rfl, rfl, rfl, rfl, rfl, rfl, trivial⟩ trivial rfl rfl, by dsimp only; omega⟩
  have hie : i = gs.length := by simp at h; omega
  subst hie
  conv => whnf
  refine kI hk ?_
  rw [hi2, List.drop_length]
  cases os.drop gs.length <;> simp [totL]
end Go.Proofs
