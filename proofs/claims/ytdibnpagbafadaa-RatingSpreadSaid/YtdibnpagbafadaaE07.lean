/- Proved here: what functions of the given program come to, for the statements of this chapter; no condition but those in the theorems. -/
import Derived.Test.YtdibnpagbafadaaD07
import Derived.Test.YtdibnpagbafadaaPRating
namespace Go.Proofs
open Go Go.Abs
set_option linter.unusedSimpArgs false
set_option linter.unusedVariables false
set_option maxRecDepth 4000
theorem ckRd_ok : FunR Try.prog 28 R_ckRd := by
  intro args k h
  unfold R_ckRd at h
  split at h
  case h_2 => exact h.elim
  rename_i g t v f
  refine does_ex (qc := qc1) (np := []) (CK := ckK [(20, cSc R_within)]) mixed Try.func28 rfl rfl Try.ntmps28 Try.results28 τ_ok (by kernel_rfl) (ckK_ok ⟨cSc_ok within_ok, trivial⟩) (by simp) ?_
  conv => whnf
  refine Fork.mk (fun h1 => ?_) (fun h1 => ?_)
  · have e : inB 0 255 g = false := by simp [inB] at h1 ⊢; omega
    rw [show ckRd ⟨g, t, v, f⟩ = 1 by unfold ckRd; rw [if_pos e]] at h
    conv => whnf
    exact h
  have e1 : ¬ inB 0 255 g = false := by simp [inB] at h1 ⊢; omega
  conv => whnf
  refine Fork.mk (fun h1 => ?_) (fun h1 => ?_)
  · have e : inB 0 16777216 t = false := by simp [inB] at h1 ⊢; omega
    rw [show ckRd ⟨g, t, v, f⟩ = 6 by unfold ckRd; rw [if_neg e1, if_pos e]] at h
    conv => whnf
    exact h
  have e2 : ¬ inB 0 16777216 t = false := by simp [inB] at h1 ⊢; omega
  conv => whnf
  refine Fork.mk (fun h1 => ?_) (fun h1 => ?_)
  · have e : inB 0 1073741824 v = false := by simp [inB] at h1 ⊢; omega
    rw [show ckRd ⟨g, t, v, f⟩ = 1 by unfold ckRd; rw [if_neg e1, if_neg e2, if_pos e]] at h
    conv => whnf
    exact h
  have e3 : ¬ inB 0 1073741824 v = false := by simp [inB] at h1 ⊢; omega
  conv => whnf
  refine Fork.mk (fun h1 => ?_) (fun h1 => ?_)
  · have e : inB 0 2 f = false := by simp [inB] at h1 ⊢; omega
    rw [show ckRd ⟨g, t, v, f⟩ = 5 by unfold ckRd; rw [if_neg e1, if_neg e2, if_neg e3, if_pos e]] at h
    conv => whnf
    exact h
  have e4 : ¬ inB 0 2 f = false := by simp [inB] at h1 ⊢; omega
  rw [show ckRd ⟨g, t, v, f⟩ = 0 by unfold ckRd; rw [if_neg e1, if_neg e2, if_neg e3, if_neg e4]] at h
  conv => whnf
  exact h
theorem eR_at (l : List Rd) {i : Nat} {r : Rd} (h : l[i]? = some r) : (eR l)[i]? = some (rdC r) := by rw [List.getElem?_map, h]; rfl
theorem ckAll_ok : FunR Try.prog 23 R_ckAll := by
  intro args k h
  unfold R_ckAll at h
  split at h
  case h_2 => exact h.elim
  obtain ⟨l, rfl, hl, hk⟩ := h
  have hm : (eR l).length = l.length := List.length_map _
  refine does_ex (qc := qc1) (np := []) (CK := ckK [(28, cSc R_ckRd)]) mixed Try.func23 rfl rfl Try.ntmps23 Try.results23 τ_ok (by kernel_rfl) (ckK_ok ⟨cSc_ok ckRd_ok, trivial⟩) (by simp) ?_
  conv => whnf
  refine ⟨Nat, fun i => ([(0, .c (.lst (eR l))), (2, I 0), (6, .c (.lst (eR l))), (7, I (eR l).length), (8, I i)], ⟨[], 5, []⟩), fun i => i ≤ l.length ∧ ckAll l = ckAll (l.drop i), fun i => l.length - i, 0, ⟨Nat.zero_le _, rfl⟩,
    Shift.reset ⟨rfl, rfl, rfl, rfl, rfl, trivial⟩ trivial rfl rfl, fun i hi => ?_⟩
  obtain ⟨hi1, hi2⟩ := hi
  dsimp only
  conv => whnf
  refine Fork.mk (fun h => ?_) (fun h => ?_)
  · have hi : i < l.length := by simp at h; omega
    have hci := List.getElem?_eq_getElem hi
    generalize l[i] = r at hci
    rw [drop_of hci] at hi2
    have hw1 := wr_succ (i := i) (by omega)
    conv => whnf
    refine ⟨by omega, rdC r, by rw [Int.toNat_natCast]; exact eR_at l hci, rfl, ?_⟩
    conv => whnf
    refine Fork.mk (fun h => ?_) (fun h => ?_)
    · have h1 : ckRd r ≠ 0 := by simpa using h
      rw [hi2, show ckAll (r :: l.drop (i + 1)) = ckRd r from if_pos h1] at hk
      conv => whnf
      exact hk
    have h1 : ¬ ckRd r ≠ 0 := by simpa using h
    conv => whnf
    rw [hw1]
    refine ⟨i + 1, ⟨hi, by rw [hi2]; exact if_neg h1⟩, Shift.reset ⟨rfl, rfl, rfl, rfl, rfl, trivial⟩ trivial rfl rfl, ?_⟩
    show l.length - (i + 1) < l.length - i
    omega
  · have hie : i = l.length := by simp at h; omega
    subst hie
    rw [hi2, List.drop_length] at hk
    conv => whnf
    exact hk
theorem rkR_ok' : FunR Try.prog 19 R_rkR := by
  intro args k h
  unfold R_rkR at h
  split at h
  case h_2 => exact h.elim
  rename_i ice
  obtain ⟨c, rfl, hl, hk⟩ := h
  refine does_ex (qc := qc1) (np := []) (CK := ckK [(26, cSc R_ckC), (20, cSc R_within)]) mixed Try.func19 rfl rfl Try.ntmps19 Try.results19 τ_ok (by kernel_rfl) (ckK_ok ⟨cSc_ok ckC_ok', cSc_ok within_ok, trivial⟩) (by simp) ?_
  conv => whnf
  refine ⟨c, rfl, hl, ?_⟩
  conv => whnf
  refine Fork.mk (fun h => ?_) (fun h => ?_)
  · have h1 : ckC c ≠ 0 := by simpa using h
    rw [show rkR c ice = ckC c from if_pos h1] at hk
    conv => whnf
    exact hk
  have h1 : ¬ ckC c ≠ 0 := by simpa using h
  conv => whnf
  refine Fork.mk (fun h => ?_) (fun h => ?_)
  · have h2 : ¬ inB 0 16777216 ice = true := by simp [inB] at h ⊢; omega
    rw [show rkR c ice = 1 by unfold rkR; rw [if_neg h1, if_neg h2]] at hk
    conv => whnf
    exact hk
  have h2 : inB 0 16777216 ice = true := by simp [inB] at h ⊢; omega
  rw [show rkR c ice = 0 by unfold rkR; rw [if_neg h1, if_pos h2]] at hk
  conv => whnf
  exact hk
theorem tAt_ok : FunR Try.prog 21 R_tAt := by
  intro args k h
  unfold R_tAt at h
  split at h
  case h_2 => exact h.elim
  rename_i ice x
  obtain ⟨c, rfl, hv, hk⟩ := h
  refine does_ex (qc := qc1) (np := []) (CK := ckK [(27, cSc R_val)]) mixed Try.func21 rfl rfl Try.ntmps21 Try.results21 τ_ok (by kernel_rfl) (ckK_ok ⟨cSc_ok val_ok, trivial⟩) (by simp) ?_
  conv => whnf
  refine ⟨c, rfl, hv, ?_⟩
  conv => whnf
  exact hk
theorem flowV_ok : FunR Try.prog 24 R_flowV := by
  intro args k h
  unfold R_flowV at h
  split at h
  case h_2 => exact h.elim
  rename_i ice g t v f
  obtain ⟨c, rfl, hr, hd, hk⟩ := h
  obtain ⟨hv, hi1, hi2⟩ := rkR_ok hr
  obtain ⟨hv1, hf1⟩ := ckRd_in hd
  dsimp only at hv1 hf1
  refine does_ex (qc := qc1) (np := []) (CK := ckK [(21, cSc R_tAt)]) mixed Try.func24 rfl rfl Try.ntmps24 Try.results24 τ_ok (by kernel_rfl) (ckK_ok ⟨cSc_ok tAt_ok, trivial⟩) (by simp) ?_
  conv => whnf
  refine Fork.mk (fun h => ?_) (fun h => ?_)
  · have h1 : f = 2 := by simpa using h
    rw [show flowV c ice ⟨g, t, v, f⟩ = (0, false) from if_pos h1] at hk
    conv => whnf
    exact hk
  have h1 : ¬ f = 2 := by simpa using h
  conv => whnf
  refine Fork.mk (fun h => ?_) (fun h => ?_)
  · have h2 : f = 1 := by simpa using h
    rw [show flowV c ice ⟨g, t, v, f⟩ = (tAt c (v - ice), true) by unfold flowV; rw [if_neg h1, if_pos h2]] at hk
    conv => whnf
    refine ⟨c, rfl, hv, ?_⟩
    rw [show IntKind.i64.wrap (v - ice) = v - ice from wrap_in (by omega) (by omega)]
    conv => whnf
    exact hk
  have h2 : ¬ f = 1 := by simpa using h
  rw [show flowV c ice ⟨g, t, v, f⟩ = (tAt c v, true) by unfold flowV; rw [if_neg h1, if_neg h2]] at hk
  conv => whnf
  refine ⟨c, rfl, hv, ?_⟩
  conv => whnf
  exact hk
theorem flowsV_ok : FunR Try.prog 15 R_flowsV := by
  intro args k h
  unfold R_flowsV at h
  split at h
  case h_2 => exact h.elim
  rename_i ice _
  obtain ⟨c, l, rfl, rfl, hcl, hl, hk⟩ := h
  have hm : (eR l).length = l.length := List.length_map _
  refine does_ex (qc := qc1) (np := []) (CK := ckK [(19, cSc R_rkR), (23, cSc R_ckAll), (24, cSc R_flowV)]) mixed Try.func15 rfl rfl Try.ntmps15 Try.results15 τ_ok (by kernel_rfl) (ckK_ok ⟨cSc_ok rkR_ok', cSc_ok ckAll_ok, cSc_ok flowV_ok, trivial⟩) (by simp) ?_
  conv => whnf
  refine ⟨c, rfl, hcl, ?_⟩
  conv => whnf
  refine Fork.mk (fun h => ?_) (fun h => ?_)
  · have h1 : rkR c ice ≠ 0 := by simpa using h
    rw [show flowsV c ice l = ([], [], rkR c ice) from if_pos h1] at hk
    conv => whnf
    exact hk
  have h1 : rkR c ice = 0 := by simpa using h
  conv => whnf
  refine ⟨l, rfl, by omega, ?_⟩
  conv => whnf
  refine Fork.mk (fun h => ?_) (fun h => ?_)
  · have h2 : ckAll l ≠ 0 := by simpa using h
    rw [show flowsV c ice l = ([], [], ckAll l) by unfold flowsV; rw [if_neg (by rw [h1]; simp), if_pos h2]] at hk
    conv => whnf
    exact hk
  have h2 : ckAll l = 0 := by simpa using h
  rw [flowsV_good h1 h2] at hk
  conv => whnf
  let f1 : Rd → Int := fun r => (flowV c ice r).1
  let f2 : Rd → Bool := fun r => (flowV c ice r).2
  have hk : k (.tup [.c (.lst (eL (l.map f1))), .c (.lst (eB (l.map f2))), I 0]) := hk
  refine ⟨Nat, fun i => ([(2, .c (.ptr (.l 2 0) 0)), (9, .c (.view (.l 41 1) 0 (l.take i).length)), (10, .c (.view (.l 45 2) 0 (l.take i).length)), (25, .c (.lst (eR l))), (26, I (eR l).length), (27, I i)],
      ⟨[(.l 2 0, .blk [.lst (eP c), IC ice]), (.l 41 1, .arr 3 1 (eL ((l.take i).map f1)) false), (.l 45 2, .arr 4 1 (eB ((l.take i).map f2)) false)], 3, []⟩),
    fun i => i ≤ l.length, fun i => l.length - i, 0, Nat.zero_le _,
    Shift.trans (Shift.rename [] ⟨rfl, rfl, rfl, rfl, rfl, rfl, trivial⟩ ⟨rfl, rfl, rfl, trivial⟩ rfl rfl rfl) (Shift.trans (Shift.nilArr (t := 10) rfl 45 4 1) (Shift.nilArr (t := 9) rfl 41 3 1)), fun i hi => ?_⟩
  dsimp only at hi ⊢
  conv => whnf
  refine Fork.mk (fun h => ?_) (fun h => ?_)
  · have hi : i < l.length := by simp at h; omega
    have hci := List.getElem?_eq_getElem hi
    have hrd := ckAll_mem h2 _ (List.getElem_mem hi)
    have htk : l.take (i + 1) = l.take i ++ [l[i]] := (List.take_append_getElem hi).symm
    have hlt : (l.take i).length = i := by rw [List.length_take]; omega
    generalize l[i] = r at *
    have hw1 := wr_succ (i := i) (by omega)
    conv => whnf
    refine ⟨by omega, rdC r, by rw [Int.toNat_natCast]; exact eR_at l hci, rfl, ?_⟩
    conv => whnf
    refine ⟨c, rfl, h1, hrd, ?_⟩
    conv => whnf
    refine ⟨by simp, ?_⟩
    conv => whnf
    refine ⟨rfl, ?_⟩
    conv => whnf
    refine ⟨⟨rfl, rfl, rfl, by rw [eL_len, List.length_map], by rw [eL_len, List.length_map, hlt]; simp; omega⟩, ?_⟩
    conv => whnf
    refine ⟨by simp, ?_⟩
    conv => whnf
    refine ⟨rfl, ?_⟩
    conv => whnf
    refine ⟨⟨rfl, rfl, rfl, by simp, by simp; omega⟩, ?_⟩
    conv => whnf
    rw [hw1]
    refine ⟨i + 1, hi, Shift.rename [(.l 41 1, .l 41 5), (.l 45 2, .l 45 7)] ⟨rfl, ?_, ?_, rfl, rfl, rfl, trivial⟩ ⟨rfl, ?_, ?_, trivial⟩ rfl rfl rfl, ?_⟩
    · dsimp only; rw [htk]; simp; rfl
    · dsimp only; rw [htk]; simp; rfl
    · dsimp only; rw [htk, List.map_append, show eL (List.map f1 (l.take i) ++ List.map f1 [r]) = eL (List.map f1 (l.take i)) ++ [[IC (f1 r)]] from List.map_append]; rfl
    · dsimp only; rw [htk, List.map_append, show eB (List.map f2 (l.take i) ++ List.map f2 [r]) = eB (List.map f2 (l.take i)) ++ [[BC (f2 r)]] from List.map_append]; rfl
    · show l.length - (i + 1) < l.length - i
      omega
  · have hie : i = l.length := by simp at h; omega
    subst hie
    rw [List.take_length]
    conv => whnf
    have hml : (eL (l.map f1)).length = l.length := by rw [eL_len, List.length_map]
    have hmb : (eB (l.map f2)).length = l.length := by simp
    refine ⟨by omega, ?_⟩
    conv => whnf
    refine ⟨by omega, ?_⟩
    conv => whnf
    rw [List.drop_zero, List.take_of_length_le (by omega), List.drop_zero, List.take_of_length_le (by omega)]
    exact hk
theorem flow1_ok : FunR Try.prog 10 R_flow1 := by
  intro args k h
  unfold R_flow1 at h
  split at h
  case h_2 => exact h.elim
  rename_i ice g t v f
  obtain ⟨c, rfl, hcl, hk⟩ := h
  refine does_ex (qc := qc1) (np := []) (CK := ckK [(15, cPu R_flowsV)]) mixed Try.func10 rfl rfl Try.ntmps10 Try.results10 τ_ok (by kernel_rfl) (ckK_ok ⟨cPu_ok flowsV_ok rfl, trivial⟩) (by simp) ?_
  conv => whnf
  refine ⟨by simp, ?_⟩
  conv => whnf
  refine ⟨c, [⟨g, t, v, f⟩], rfl, rfl, hcl, by simp, ?_⟩
  conv => whnf
  refine Fork.mk (fun h => ?_) (fun h => ?_)
  · have h1 : (flowsV c ice [⟨g, t, v, f⟩]).2.2 ≠ 0 := by simpa using h
    have e : flow1 c ice ⟨g, t, v, f⟩ = (0, false, (flowsV c ice [⟨g, t, v, f⟩]).2.2) := by
      unfold flowsV at h1 ⊢
      unfold flow1
      split at h1
      · rename_i h2; rw [if_pos h2, if_pos h2]
      · rename_i h2
        rw [if_neg h2, if_neg h2]
        by_cases h3 : ckRd ⟨g, t, v, f⟩ ≠ 0
        · rw [if_pos h3, if_pos (by show ckAll [_] ≠ 0; rw [show ckAll [(⟨g, t, v, f⟩ : Rd)] = ckRd ⟨g, t, v, f⟩ from if_pos h3]; exact h3), show ckAll [(⟨g, t, v, f⟩ : Rd)] = ckRd ⟨g, t, v, f⟩ from if_pos h3]
        · have h4 : ¬ ckAll [(⟨g, t, v, f⟩ : Rd)] ≠ 0 := by rw [show ckAll [(⟨g, t, v, f⟩ : Rd)] = ckAll [] from if_neg h3]; simp [ckAll]
          rw [if_neg h4] at h1
          exact absurd rfl h1
    rw [e] at hk
    conv => whnf
    exact hk
  have h1 : (flowsV c ice [⟨g, t, v, f⟩]).2.2 = 0 := by simpa using h
  have e : flowsV c ice [⟨g, t, v, f⟩] = ([(flowV c ice ⟨g, t, v, f⟩).1], [(flowV c ice ⟨g, t, v, f⟩).2], 0) ∧ flow1 c ice ⟨g, t, v, f⟩ = ((flowV c ice ⟨g, t, v, f⟩).1, (flowV c ice ⟨g, t, v, f⟩).2, 0) := by
    unfold flowsV at h1
    split at h1
    · rename_i h2; exact absurd h1 h2
    · rename_i h2
      have h2 : rkR c ice = 0 := by simpa using h2
      split at h1
      · rename_i h3; exact absurd h1 h3
      · rename_i h3
        have h3 : ckAll [(⟨g, t, v, f⟩ : Rd)] = 0 := by simpa using h3
        exact ⟨flowsV_good h2 h3, flow1_good h2 (ckAll_mem h3 _ (by simp))⟩
  rw [e.1]
  rw [e.2] at hk
  conv => whnf
  refine ⟨by omega, eI (flowV c ice ⟨g, t, v, f⟩).1, rfl, rfl, ?_⟩
  conv => whnf
  refine ⟨by omega, [BC (flowV c ice ⟨g, t, v, f⟩).2], rfl, rfl, ?_⟩
  conv => whnf
  exact hk
theorem mkrating_ok : FunB Try.prog 7 R_rating := by
  intro cs args k h
  unfold R_rating at h
  split at h
  case h_2 => exact h.elim
  obtain ⟨d, rfl, hd, hk⟩ := h
  refine doesB_ex (qc := qc1) (np := []) (CK := ckK [(18, cB R_next), (17, cB R_curve)]) mixed Try.func7 rfl rfl Try.ntmps7 Try.results7 τ_ok (by kernel_rfl) (ckK_ok ⟨cB_ok next_ok rfl, cB_ok mkcurve_ok rfl, trivial⟩) (by simp) rfl rfl ?_
  conv => whnf
  refine ⟨d, rfl, hd, by omega, fun x d hd hx1 hx2 => ?_⟩
  conv => whnf
  refine ⟨d, rfl, hd, by omega, fun y d hd hy1 hy2 => ?_⟩
  conv => whnf
  refine ⟨d, rfl, hd, by omega, by omega, by omega, by omega, fun r d hd hr1 hr2 hch => ?_⟩
  conv => whnf
  refine ⟨d, rfl, hd, by omega, fun ice d hd hi1 hi2 => ?_⟩
  conv => whnf
  exact ⟨rfl, rfl, hk (x, y) r ice d hd (by dsimp only; omega) (by dsimp only; omega) ⟨hr1, hr2⟩ hch (by omega)⟩
theorem awake_ok : FunR Try.prog 11 R_true := by
  intro args k h
  unfold R_true at h
  split at h
  case h_2 => exact h.elim
  have hk := h
  refine does_ex (qc := qc1) (np := []) (CK := ckK [(10, cSc R_flow1), (19, cSc R_rkR)]) mixed Try.func11 rfl rfl Try.ntmps11 Try.results11 τ_ok (by kernel_rfl) (ckK_ok ⟨cSc_ok flow1_ok, cSc_ok rkR_ok', trivial⟩) (by simp) ?_
  conv => whnf
  refine ⟨by simp, ?_⟩
  conv => whnf
  refine ⟨[(0, 0), (100, 1000)], rfl, by simp, ?_⟩
  rw [show flow1 [(0, 0), (100, 1000)] 20 ⟨0, 0, 50, 1⟩ = (300, true, 0) by decide]
  conv => whnf
  refine fork_t ?_
  conv => whnf
  refine fork_t ?_
  conv => whnf
  refine fork_t ?_
  conv => whnf
  refine ⟨by simp, ?_⟩
  conv => whnf
  refine ⟨[(0, 0), (100, 1000)], rfl, by simp, ?_⟩
  rw [show rkR [(0, 0), (100, 1000)] 20 = 0 by decide]
  conv => whnf
  exact hk
end Go.Proofs
