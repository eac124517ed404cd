/- Proved here: what functions of the given program come to, for the statements of this chapter; no condition but those in the theorems. -/
import Derived.Test.YtgehodhbcckcoaaH20
namespace Go.Proofs
open Go Go.Abs
set_option linter.unusedSimpArgs false
set_option linter.unusedVariables false
set_option maxRecDepth 4000
theorem rtot_ok : FunR Try.prog 26 R_totS := by
  intro args k h
  obtain ⟨gs, ss, lv, rfl, hf, hk⟩ := h
  have hm := eG_len gs
  have hn := eS_len ss
  have ho : (opsL ss).length = ss.length := List.length_map _
  refine does_ex (qc := qc1) (np := []) (CK := ckK [(36, cSc R_askG), (39, cSc R_rtot)]) mixed Try.func26 rfl rfl Try.ntmps26 Try.results26 τ_ok (by kernel_rfl) (ckK_ok ⟨cSc_ok wrong_ok, cSc_ok rtotal_ok, trivial⟩) (by simp) ?_
  conv => whnf
  refine ⟨gs, ss, lv, rfl, hf, ?_⟩
  conv => whnf
  refine Fork.mk (fun h => ?_) (fun h => ?_)
  · have h1 : askG gs ss lv ≠ 0 := by simpa using h
    conv => whnf
    exact kI2 hk (by rw [totS, if_pos h1])
  have h1 : askG gs ss lv = 0 := by simpa using h
  have hA := askG_ok h1
  have hAn := hA.n
  have hAl := hA.l
  have hAv := hA.lv
  have hAg := hA.g
  clear h
  conv => whnf
  refine ⟨Nat, fun i => ([(0, .c (.lst (eG gs))), (2, I lv), (9, .c (.view (.l 29 0) 0 ((opsL ss).take i).length)), (19, .c (.lst (eS ss))), (20, I (eS ss).length), (21, I i)], ⟨[(.l 29 0, .arr 3 1 (eL ((opsL ss).take i)) false)], 1, []⟩),
    fun i => i ≤ ss.length, fun i => ss.length - i, 0, Nat.zero_le _,
    Shift.trans (Shift.rename [] ⟨rfl, rfl, rfl, rfl, rfl, rfl, trivial⟩ ⟨rfl, trivial⟩ rfl rfl rfl) (Shift.nilArr (t := 9) rfl 29 3 1), fun i hi => ?_⟩
  dsimp only at hi ⊢
  conv => whnf
  refine Fork.mk (fun h => ?_) (fun h => ?_)
  · have hi : i < ss.length := by simp at h; omega
    clear h
    have hdi := List.getElem?_eq_getElem hi
    have hoi : (opsL ss)[i]? = some (ss[i]).op := by simp [opsL, hdi]
    have htk : (opsL ss).take (i + 1) = (opsL ss).take i ++ [(ss[i]).op] := by rw [List.take_add_one, hoi]; rfl
    have hlt : ((opsL ss).take i).length = i := by rw [List.length_take]; omega
    generalize ss[i] = z at *
    have hw1 := wr_succ (i := i) (by omega)
    conv => whnf
    refine ⟨by omega, gsC z, by rw [Int.toNat_natCast, List.getElem?_map, hdi]; rfl, rfl, ?_⟩
    conv => whnf
    refine ⟨by simp, ?_⟩
    conv => whnf
    refine ⟨rfl, ?_⟩
    conv => whnf
    refine ⟨⟨rfl, rfl, rfl, by simp, by simp; omega⟩, ?_⟩
    conv => whnf
    rw [hw1]
    refine ⟨i + 1, hi, Shift.rename [(.l 29 0, .l 29 3)] ⟨rfl, rfl, ?_, rfl, rfl, rfl, trivial⟩ ⟨?_, trivial⟩ rfl rfl rfl, by omega⟩
    · dsimp only; rw [htk]; simp; rfl
    · dsimp only; rw [htk, ← eL_snoc]; rfl
  have hie : i = ss.length := by simp at h; omega
  subst hie
  rw [show List.take ss.length (opsL ss) = opsL ss from List.take_of_length_le (by omega)]
  have hol := eL_len (opsL ss)
  conv => whnf
  have htl : List.take (opsL ss).length (List.drop 0 (eL (opsL ss))) = eL (opsL ss) := by rw [List.drop_zero, List.take_of_length_le (by omega)]
  refine ⟨by omega, ?_⟩
  conv => whnf
  refine ⟨gs, opsL ss, lv, by rw [htl]; rfl, by omega, hAn, hAg, ?_⟩
  conv => whnf
  exact kI2 hk (by rw [totS, if_neg (by simp [h1])])
theorem rReach_ok : FunR Try.prog 20 R_rchS := by
  intro args k h
  obtain ⟨g, z, rfl, hg, hk⟩ := h
  refine does_ex (qc := qc1) (np := []) (CK := ckK [(36, cSc R_askG), (42, cPq R_rch)]) mixed Try.func20 rfl rfl Try.ntmps20 Try.results20 τ_ok (by kernel_rfl) (ckK_ok ⟨cSc_ok wrong_ok, cPq_ok rreach_ok, trivial⟩) (by simp) ?_
  conv => whnf
  refine ⟨by simp, ?_⟩
  conv => whnf
  refine ⟨by simp, ?_⟩
  conv => whnf
  refine ⟨[g], [z], 0, rfl, ⟨by simp, by simp, fun x hx => by simp at hx; subst hx; exact hg⟩, ?_⟩
  rw [askG_one]
  conv => whnf
  refine Fork.mk (fun h => ?_) (fun h => ?_)
  · conv => whnf
    refine kRch hk ?_
    unfold rchS
    split
    · rfl
    rename_i h3
    rw [if_neg h3] at h
    rw [if_pos (by simpa using h)]
  have h2 : (if okS g z = false then 3 else ckG g) = 0 := by simpa using h
  have h3 : okS g z = true := by
    cases e : okS g z
    · rw [if_pos e] at h2; cases h2
    · rfl
  rw [if_neg (by simp [h3])] at h2
  conv => whnf
  refine ⟨g, z, rfl, h2, h3, ?_⟩
  conv => whnf
  exact kRch hk (by rw [rchS, if_neg (by simp [h3]), if_neg (by simp [h2])])
theorem ends_ok : FunA Try.prog 38 (R_ends 3) := by
  intro args k h
  obtain ⟨gs, ss, rfl, ⟨hgl, hsl, hb⟩, hAg, hk⟩ := h
  have hm := eG_len gs
  have hn := eS_len ss
  obtain ⟨hl1, hl2⟩ := losL_len hsl
  refine doesA_ex (qc := qc1) (np := [(5, [(0, 6), (3, 6), (4, 6), (5, 6)]), (6, [(2, 8), (3, 7), (3, 8), (4, 7), (4, 8)])]) (CK := ckK [(42, cPq R_rch)]) mixed Try.func38 rfl rfl Try.ntmps38 Try.results38 τ_ok (by kernel_rfl) (ckK_ok ⟨cPq_ok rreach_ok, trivial⟩) (by simp) rfl ?_
  conv => whnf
  refine ⟨Nat, fun i => ([(1, .c (.lst (eS ss))), (6, .c (.view (.l 28 0) 0 ((losL gs ss).take i).length)), (7, .c (.view (.l 29 1) 0 ((hisL gs ss).take i).length)), (11, .c (.lst (eG gs))), (12, I (eG gs).length), (13, I i)], ⟨[(.l 28 0, .arr 3 1 (eL ((losL gs ss).take i)) false), (.l 29 1, .arr 3 1 (eL ((hisL gs ss).take i)) false)], 2, []⟩),
    fun i => i ≤ gs.length, fun i => gs.length - i, 0, Nat.zero_le _,
    Shift.trans (Shift.rename [] ⟨rfl, rfl, rfl, rfl, rfl, rfl, trivial⟩ ⟨rfl, rfl, trivial⟩ rfl rfl rfl) (Shift.trans (Shift.nilArr (t := 7) rfl 29 3 1) (Shift.nilArr (t := 6) rfl 28 3 1)), fun i hi => ?_⟩
  dsimp only at hi ⊢
  conv => whnf
  refine Fork.mk (fun h => ?_) (fun h => ?_)
  · have hi : i < gs.length := by simp at h; omega
    clear h
    have hci := List.getElem?_eq_getElem hi
    have hcf := hAg _ (List.getElem_mem hi)
    have hdi := List.getElem?_eq_getElem (show i < ss.length by omega)
    obtain ⟨htk1, htk2⟩ := losL_take hci hdi
    have hz := badS_at hb hci hdi
    have hlt1 : ((losL gs ss).take i).length = i := by rw [List.length_take]; omega
    have hlt2 : ((hisL gs ss).take i).length = i := by rw [List.length_take]; omega
    generalize gs[i] = g at *
    generalize ss[i] = z at *
    have hw1 := wr_succ (i := i) (by omega)
    conv => whnf
    refine ⟨by omega, gtC g, by rw [Int.toNat_natCast, List.getElem?_map, hci]; rfl, rfl, ?_⟩
    conv => whnf
    refine ⟨by omega, gsC z, by rw [Int.toNat_natCast, List.getElem?_map, hdi]; rfl, rfl, ?_⟩
    conv => whnf
    refine ⟨g, z, rfl, hcf, hz, ?_⟩
    conv => whnf
    refine ⟨by simp, ?_⟩
    conv => whnf
    refine ⟨rfl, ?_⟩
    conv => whnf
    refine ⟨⟨rfl, rfl, rfl, by simp, by simp; omega⟩, ?_⟩
    conv => whnf
    refine ⟨by simp, ?_⟩
    conv => whnf
    refine ⟨rfl, ?_⟩
    conv => whnf
    refine ⟨⟨rfl, rfl, rfl, by simp, by simp; omega⟩, ?_⟩
    conv => whnf
    rw [hw1]
    refine ⟨i + 1, hi, Shift.rename [(.l 28 0, .l 28 4), (.l 29 1, .l 33 4)] ⟨rfl, ?_, ?_, rfl, rfl, rfl, trivial⟩ ⟨?_, ?_, trivial⟩ rfl rfl rfl, by omega⟩
    · dsimp only; rw [htk1]; simp; rfl
    · dsimp only; rw [htk2]; simp; rfl
    · dsimp only; rw [htk1, ← eL_snoc]; rfl
    · dsimp only; rw [htk2, ← eL_snoc]; rfl
  have hie : i = gs.length := by simp at h; omega
  subst hie
  rw [show (losL gs ss).take gs.length = losL gs ss from List.take_of_length_le (by omega), show (hisL gs ss).take gs.length = hisL gs ss from List.take_of_length_le (by omega)]
  have hq1 := eL_len (losL gs ss)
  have hq2 := eL_len (hisL gs ss)
  have htl : List.take (hisL gs ss).length (List.drop 0 (eL (hisL gs ss))) = eL (hisL gs ss) := by rw [List.drop_zero, List.take_of_length_le (by omega)]
  conv => whnf
  refine ⟨.l 28 0, ?_⟩
  conv => whnf
  refine ⟨by omega, ?_⟩
  conv => whnf
  rw [htl]
  refine ⟨rfl, ?_⟩
  conv => whnf
  exact ⟨rfl, rfl, hk⟩
theorem rrng_ok : FunR Try.prog 28 R_rngS := by
  intro args k h
  obtain ⟨gs, ss, lv, rfl, hf, hk⟩ := h
  have hm := eG_len gs
  have hn := eS_len ss
  refine does_ex (qc := qc1) (np := []) (CK := ckK [(36, cSc R_askG), (38, cA (R_ends 3)), (39, cSc R_rtot)]) mixed Try.func28 rfl rfl Try.ntmps28 Try.results28 τ_ok (by kernel_rfl) (ckK_ok ⟨cSc_ok wrong_ok, cA_ok ends_ok rfl, cSc_ok rtotal_ok, trivial⟩) (by simp) ?_
  conv => whnf
  refine ⟨gs, ss, lv, rfl, hf, ?_⟩
  conv => whnf
  refine Fork.mk (fun h => ?_) (fun h => ?_)
  · have h1 : askG gs ss lv ≠ 0 := by simpa using h
    conv => whnf
    exact kRch hk (by rw [rngS, if_pos h1])
  have h1 : askG gs ss lv = 0 := by simpa using h
  have hA := askG_ok h1
  have hAn := hA.n
  have hAl := hA.l
  have hAv := hA.lv
  have hAg := hA.g
  clear h
  obtain ⟨hl1, hl2⟩ := losL_len hAl
  conv => whnf
  refine ⟨gs, ss, rfl, ⟨hAn, hAl, hA.s⟩, hAg, ?_⟩
  conv => whnf
  have hq1 := eL_len (losL gs ss)
  have hq2 := eL_len (hisL gs ss)
  have htl : List.take (losL gs ss).length (List.drop 0 (eL (losL gs ss))) = eL (losL gs ss) := by rw [List.drop_zero, List.take_of_length_le (by omega)]
  refine ⟨by omega, ?_⟩
  conv => whnf
  refine ⟨gs, losL gs ss, lv, by rw [htl]; rfl, by omega, hAn, hAg, ?_⟩
  conv => whnf
  refine ⟨gs, hisL gs ss, lv, rfl, by omega, hAn, hAg, ?_⟩
  conv => whnf
  exact kRch hk (by rw [rngS, if_neg (by simp [h1])])
theorem same_ok : FunR Try.prog 16 R_sameS := by
  intro args k h
  obtain ⟨a, b, rfl, ⟨ha, hb⟩, hk⟩ := h
  have hm := eS_len a
  have hn := eS_len b
  refine does_ex (qc := qc1) (np := []) (CK := ckK []) mixed Try.func16 rfl rfl Try.ntmps16 Try.results16 τ_ok (by kernel_rfl) (ckK_ok trivial) (by simp) ?_
  conv => whnf
  refine Fork.mk (fun h => ?_) (fun h => ?_)
  · have h1 : a ≠ b := fun e => by subst e; simp at h
    rw [show decide (a = b) = false by simp [h1]] at hk
    conv => whnf
    exact hk
  have h1 : a.length = b.length := by simp at h; omega
  clear h
  conv => whnf
  refine ⟨Nat, fun i => ([(0, .c (.lst (eS a))), (1, .c (.lst (eS b))), (12, I (eS a).length), (13, I i)], ⟨[], 40, []⟩), fun i => i ≤ a.length ∧ ∀ j < i, a[j]? = b[j]?, fun i => a.length - i, 0, ⟨Nat.zero_le _, fun j h => by omega⟩, Shift.reset ⟨rfl, rfl, rfl, rfl, trivial⟩ trivial rfl rfl, fun i hi => ?_⟩
  obtain ⟨hi1, hi2⟩ := hi
  dsimp only
  conv => whnf
  refine Fork.mk (fun h => ?_) (fun h => ?_)
  · have hi : i < a.length := by simp at h; omega
    clear h
    have hci := List.getElem?_eq_getElem hi
    have hdi := List.getElem?_eq_getElem (show i < b.length by omega)
    generalize a[i] = x at hci
    generalize b[i] = y at hdi
    have hw1 := wr_succ (i := i) (by omega)
    conv => whnf
    refine ⟨by omega, gsC x, by rw [Int.toNat_natCast, List.getElem?_map, hci]; rfl, rfl, ?_⟩
    conv => whnf
    refine ⟨by omega, gsC y, by rw [Int.toNat_natCast, List.getElem?_map, hdi]; rfl, rfl, ?_⟩
    conv => whnf
    refine Fork.mk (fun h => ?_) (fun h => ?_)
    · have h2 : x ≠ y := fun e => by subst e; simp at h
      have h3 : a ≠ b := fun e => by subst e; rw [hci] at hdi; simp at hdi; exact h2 hdi
      rw [show decide (a = b) = false by simp [h3]] at hk
      conv => whnf
      exact hk
    have h2 : x = y := by
      obtain ⟨p, q⟩ := x
      obtain ⟨p', q'⟩ := y
      simp at h
      obtain ⟨rfl, rfl⟩ := h
      rfl
    subst h2
    conv => whnf
    rw [hw1]
    exact ⟨_, ⟨hi, fun j hj => by
      by_cases e : j = i
      · rw [e, hci, hdi]
      · exact hi2 j (by omega)⟩, Shift.reset ⟨rfl, rfl, rfl, rfl, trivial⟩ trivial rfl rfl, by omega⟩
  have hie : i = a.length := by simp at h; omega
  have h2 : a = b := List.ext_getElem? fun j => by
    by_cases hj : j < i
    · exact hi2 j hj
    · rw [List.getElem?_eq_none (by omega), List.getElem?_eq_none (by omega)]
  rw [show decide (a = b) = true by simp [h2]] at hk
  conv => whnf
  exact hk
end Go.Proofs
