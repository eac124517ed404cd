/- Proved here: what functions of the given program come to, for the statements of this chapter; no condition but those in the theorems. -/
import Derived.Test.YtagjajmkmambiaaL16f
namespace Go.Proofs
open Go.Abs
set_option linter.unusedSimpArgs false
set_option linter.unusedVariables false
set_option maxRecDepth 4000
def R_step : RT := fun args k => match args with
  | [.agg [.lst es, .sc (.int .i64 den)], .agg [.lst es2], .c (.sc (.int .i64 q))] => ∃ ws ps, es = eL ws ∧ es2 = eL ps ∧ rkCheck ws den = 0 ∧ fitsB ws.length ps = true ∧
      (0 ≤ q ∧ q ≤ 1073741824 ∧ stepOk ws ps q → k (.tup [.agg [.lst (eL (stepF ws den ps q))], I (outF ws den ps q), I 0])) ∧ (¬ (0 ≤ q ∧ q ≤ 1073741824 ∧ stepOk ws ps q) → k (.tup [.agg [.lst []], I 0, I 1]))
  | _ => False
theorem step_ok : FunR Try.prog 39 R_step := by
  intro args k h
  unfold R_step at h
  split at h
  case h_2 => exact h.elim
  rename_i den _ q
  obtain ⟨ws, ps, rfl, rfl, hr, hf, hk1, hk2⟩ := h
  obtain ⟨hn1, hn2, hw, hd1, hd2, hsum, hwm⟩ := rk_facts hr
  obtain ⟨hpl, hlast, hpm, hp⟩ := fits_facts hf
  have hml := eL_len ws
  have hmp := eL_len ps
  refine does_ex (qc := qc1) (np := []) (CK := ckK [(37, cSc R_within)]) mixed Try.func39 rfl rfl Try.ntmps39 Try.results39 τ_ok (by kernel_rfl) (ckK_ok ⟨cSc_ok rIn_ok, trivial⟩) (by simp) ?_
  conv => whnf
  refine Fork.mk (fun h => ?_) (fun h => ?_)
  · have hq : ¬ (0 ≤ q ∧ q ≤ 1073741824) := by simp at h; omega
    conv => whnf
    exact hk2 (fun hh => hq ⟨hh.1, hh.2.1⟩)
  have hq : 0 ≤ q ∧ q ≤ 1073741824 := by simpa using h
  have hg := g_in hw hp hq.1 hq.2
  conv => whnf
  have hwn : IntKind.i64.wrap (((eL ws).length : Int) + 1) = ((ws.length + 1 : Nat) : Int) := by rw [hml, wrap_in (by omega) (by omega)]; omega
  rw [hwn]
  refine ⟨⟨rfl, by omega, by show ((ws.length + 1 : Nat) : Int) * 8 ≤ _; omega⟩, ?_⟩
  conv => whnf
  refine ⟨by simp [eL, eI], ?_⟩
  conv => whnf
  refine ⟨⟨rfl, rfl, by simp⟩, ?_⟩
  conv => whnf
  let Li : Nat → Ls := fun i => tab (ws.length + 1) fun k => if k < i then gP ws ps q k else fP ps k
  have hLi : ∀ i, Li i = tab (ws.length + 1) fun k => if k < i then gP ws ps q k else fP ps k := fun _ => rfl
  refine ⟨Nat, fun i => ([(2, I q), (3, .c (.ptr (.l 3 0) 0)), (6, .c (.ptr (.l 6 2) 0)), (7, I 0), (8, I 0), (9, .c (.view (.l 21 3) 0 (ws.length + 1))), (27, .c (.lst (eL ws))), (28, I (eL ws).length), (29, I i)],
      ⟨[(.l 3 0, .blk (RcC ws den)), (.l 6 2, .blk [.sc (.slice none 0 0)]), (.l 21 3, .arr 3 1 (eL (Li i)) false)], 4, []⟩),
    fun i => i ≤ ws.length ∧ ∀ k, k < i → gP ws ps q k ≤ 1125899906842624, fun i => ws.length - i, 0, ⟨Nat.zero_le _, fun k hk => absurd hk (Nat.not_lt_zero _)⟩,
    Shift.reset ⟨rfl, rfl, rfl, rfl, rfl, rfl, rfl, rfl, rfl, trivial⟩ ⟨rfl, rfl, ?_, trivial⟩ rfl rfl, fun i hi => ?_⟩
  · show some (MObj.arr 3 1 (wrE (List.replicate (ws.length + 1) (eI 0)) 0 ((eL ps).take (Nat.min (eL ps).length (ws.length + 1)))) false) = _
    rw [copy_tab (by omega), hLi]
    rfl
  obtain ⟨hi1, hi2⟩ := hi
  dsimp only
  clear_value Li
  conv => whnf
  refine Fork.mk (fun h => ?_) (fun h => ?_)
  · have hi : i < ws.length := by simp at h; omega
    have hat := map_at eI ws hi
    have hwi : ws[i] = fP ws i := (fP_at hi).symm
    rw [hwi] at hat
    have hgi := hg i
    conv => whnf
    refine ⟨by omega, eI (fP ws i), hat, rfl, ?_⟩
    conv => whnf
    refine ⟨by omega, rfl, ?_⟩
    conv => whnf
    have hLg : ∀ j k, k < ws.length + 1 → (eL (Li j))[0 + k]? = some (eI (if k < j then gP ws ps q k else fP ps k)) := fun j k hk => by rw [hLi]; exact eL_tab hk
    have hL0 : (eL (Li i))[0 + (i : Int).toNat]? = some (eI (fP ps i)) := by rw [Int.toNat_natCast, hLg i i (by omega), if_neg (Nat.lt_irrefl _)]
    refine ⟨eI (fP ps i), hL0, ?_⟩
    conv => whnf
    have hpi := hp i
    rw [show IntKind.i64.wrap (q * fP ws i) = q * fP ws i from wrap_in (by omega) (by omega), show IntKind.i64.wrap (fP ps i + q * fP ws i) = gP ws ps q i from wrap_in (by omega) (by omega)]
    refine ⟨by omega, rfl, ?_⟩
    conv => whnf
    refine ⟨eI (fP ps i), hL0, by show 0 + 1 ≤ 1; omega, ?_⟩
    conv => whnf
    have hset : (eL (Li i)).set (0 + (i : Int).toNat) [nrm (Value.int IntKind.i64 (gP ws ps q i))] = eL (Li (i + 1)) := by
      rw [Nat.zero_add, Int.toNat_natCast, show [nrm (Value.int IntKind.i64 (gP ws ps q i))] = eI (gP ws ps q i) from rfl, eL_set, hLi, hLi, tab_set]
      congr 1
      refine tab_ext fun k hk => ?_
      by_cases hki : k = i
      · subst hki; rw [if_pos rfl, if_pos (by omega)]
      · rw [if_neg hki]
        by_cases hlt : k < i
        · rw [if_pos hlt, if_pos (by omega)]
        · rw [if_neg hlt, if_neg (by omega)]
    rw [hset]
    refine ⟨by omega, rfl, ?_⟩
    conv => whnf
    have hL1 : (eL (Li (i + 1)))[0 + (i : Int).toNat]? = some (eI (gP ws ps q i)) := by rw [Int.toNat_natCast, hLg (i + 1) i (by omega), if_pos (by omega)]
    refine ⟨eI (gP ws ps q i), hL1, ?_⟩
    conv => whnf
    refine Fork.mk (fun h => ?_) (fun h => ?_)
    · have hbig : ¬ gP ws ps q i ≤ 1125899906842624 := by simp at h; omega
      conv => whnf
      exact hk2 (fun hh => hbig (hh.2.2 i hi))
    · have hok : gP ws ps q i ≤ 1125899906842624 := by simp at h; omega
      conv => whnf
      have hw1 : IntKind.i64.wrap ((i : Int) + 1) = ((i + 1 : Nat) : Int) := by rw [wrap_in (by omega) (by omega)]; omega
      rw [hw1]
      refine ⟨i + 1, ⟨hi, fun k hk => ?_⟩, Shift.reset ⟨rfl, rfl, rfl, rfl, rfl, rfl, rfl, rfl, rfl, trivial⟩ ⟨rfl, rfl, rfl, trivial⟩ rfl rfl, ?_⟩
      · by_cases hki : k = i
        · rw [hki]; exact hok
        · exact hi2 k (by omega)
      · show ws.length - (i + 1) < ws.length - i
        omega
  · have hie : i = ws.length := by simp at h; omega
    subst hie
    have hk := hk1 ⟨hq.1, hq.2, hi2⟩
    clear hk1 hk2
    have hLe : Li ws.length = tab (ws.length + 1) (gP ws ps q) := by
      rw [hLi]
      refine tab_ext fun k hk => ?_
      by_cases hlt : k < ws.length
      · rw [if_pos hlt]
      · rw [if_neg hlt, show k = ws.length by omega]
        unfold gP
        rw [fP_out (l := ws) (Nat.le_refl _)]; omega
    rw [hLe]
    have hG : ∀ k, k < ws.length + 1 → (eL (tab (ws.length + 1) (gP ws ps q)))[0 + k]? = some (eI (gP ws ps q k)) := fun k hk => eL_tab hk
    have hg0 := hg 0
    have hg1 := hg 1
    conv => whnf
    refine ⟨by omega, rfl, ?_⟩
    conv => whnf
    refine ⟨_, hG 0 (by omega), ?_⟩
    conv => whnf
    refine ⟨by omega, ?_⟩
    conv => whnf
    refine ⟨by omega, rfl, ?_⟩
    conv => whnf
    refine ⟨_, hG 1 (by omega), ?_⟩
    conv => whnf
    refine ⟨by omega, rfl, ?_⟩
    conv => whnf
    refine ⟨_, hG 0 (by omega), ?_⟩
    conv => whnf
    refine ⟨by omega, ?_⟩
    conv => whnf
    have hdiv : 0 ≤ gP ws ps q 0 / den ∧ gP ws ps q 0 / den ≤ 2262537231925248 := ⟨Int.ediv_nonneg (by omega) (by omega), Int.le_trans (Int.ediv_le_self _ hg0.2.1) hg0.2.2⟩
    have hmod : 0 ≤ gP ws ps q 0 % den ∧ gP ws ps q 0 % den < den := ⟨Int.emod_nonneg _ (by omega), Int.emod_lt_of_pos _ (by omega)⟩
    have e1 : IntKind.i64.wrap ((gP ws ps q 0).tdiv den) = gP ws ps q 0 / den := by rw [Int.tdiv_eq_ediv_of_nonneg (by omega), wrap_in (by omega) (by omega)]
    have e2 : IntKind.i64.wrap (gP ws ps q 1 + (gP ws ps q 0).tmod den) = gP ws ps q 1 + gP ws ps q 0 % den := by rw [Int.tmod_eq_emod_of_nonneg (by omega), wrap_in (by omega) (by omega)]
    rw [e1, e2]
    refine ⟨by omega, rfl, ?_⟩
    conv => whnf
    refine ⟨_, hG 1 (by omega), by show 0 + 1 ≤ 1; omega, ?_⟩
    conv => whnf
    have hset : (eL (tab (ws.length + 1) (gP ws ps q))).set (0 + (1 : Int).toNat) [nrm (Value.int IntKind.i64 (gP ws ps q 1 + gP ws ps q 0 % den))] = eL (tab (ws.length + 1) fun k => if k = 1 then gP ws ps q 1 + gP ws ps q 0 % den else gP ws ps q k) := by
      rw [show [nrm (Value.int IntKind.i64 (gP ws ps q 1 + gP ws ps q 0 % den))] = eI (gP ws ps q 1 + gP ws ps q 0 % den) from rfl, eL_set, tab_set]; rfl
    rw [hset]
    have hQl : (eL (tab (ws.length + 1) fun k => if k = 1 then gP ws ps q 1 + gP ws ps q 0 % den else gP ws ps q k)).length = ws.length + 1 := by rw [eL_len, tab_len]
    refine ⟨by omega, ?_⟩
    conv => whnf
    refine ⟨rfl, ?_⟩
    conv => whnf
    have hstep : stepF ws den ps q = trimZ (tab ws.length (hP ws den ps q)) := rfl
    have hQt : ((tab (ws.length + 1) fun k => if k = 1 then gP ws ps q 1 + gP ws ps q 0 % den else gP ws ps q k).drop 1).take ws.length = tab ws.length (hP ws den ps q) := by
      rw [tab_tail]
      refine tab_ext fun k hk => ?_
      unfold hP
      by_cases hk0 : k = 0
      · subst hk0; rfl
      · rw [if_neg (by omega), if_neg hk0]; omega
    have hQl2 : (tab (ws.length + 1) fun k => if k = 1 then gP ws ps q 1 + gP ws ps q 0 % den else gP ws ps q k).length = ws.length + 1 := tab_len _ _
    rw [hstep, ← hQt] at hk
    generalize (tab (ws.length + 1) fun k => if k = 1 then gP ws ps q 1 + gP ws ps q 0 % den else gP ws ps q k) = Q at *
    have hQd : (Q.drop 1).length = ws.length := by rw [List.length_drop]; omega
    refine ⟨Nat, fun n => ([(6, .c (.ptr (.l 6 2) 0)), (9, .c (.view (.l 21 3) 1 n)), (12, I (gP ws ps q 0 / den))], ⟨[(.l 6 2, .blk [.sc (.slice none 0 0)]), (.l 21 3, .arr 3 1 (eL Q) false)], 4, []⟩),
      fun n => n ≤ ws.length ∧ trimZ ((Q.drop 1).take n) = trimZ ((Q.drop 1).take ws.length), fun n => n, ws.length, ⟨Nat.le_refl _, rfl⟩, Shift.reset ⟨rfl, rfl, rfl, trivial⟩ ⟨rfl, rfl, trivial⟩ rfl rfl, fun n hn => ?_⟩
    obtain ⟨hn1', hn2'⟩ := hn
    dsimp only
    have done_ : trimZ ((Q.drop 1).take n) = (Q.drop 1).take n → eL (trimZ ((Q.drop 1).take ws.length)) = List.take n (List.drop 1 (eL Q)) := fun h => by
      rw [eL_drop, eL_take, ← hn2', h]
    conv => whnf
    refine Fork.mk (fun h => ?_) (fun h => ?_)
    · have hn0 : 0 < n := by simpa using h
      conv => whnf
      have hw1 : IntKind.i64.wrap ((n : Int) - 1) = ((n - 1 : Nat) : Int) := by rw [wrap_in (by omega) (by omega)]; omega
      rw [hw1]
      have hnl : n - 1 < (Q.drop 1).length := by omega
      have hat : (eL Q)[1 + (n - 1)]? = some (eI (Q.drop 1)[n - 1]) := by
        rw [← List.getElem?_drop, eL_drop, List.getElem?_map, List.getElem?_eq_getElem hnl]; rfl
      have hsp : (Q.drop 1).take n = (Q.drop 1).take (n - 1) ++ [(Q.drop 1)[n - 1]] := by
        have := List.take_append_getElem hnl
        rw [show n - 1 + 1 = n by omega] at this
        exact this.symm
      generalize (Q.drop 1)[n - 1] = v at *
      refine ⟨by omega, rfl, ?_⟩
      conv => whnf
      refine ⟨_, hat, ?_⟩
      conv => whnf
      refine Fork.mk (fun h => ?_) (fun h => ?_)
      · have hv : v = 0 := by simpa using h
        subst hv
        conv => whnf
        rw [hw1]
        refine ⟨by omega, ?_⟩
        conv => whnf
        refine ⟨rfl, ?_⟩
        conv => whnf
        refine ⟨n - 1, ⟨by omega, ?_⟩, Shift.reset ⟨rfl, rfl, rfl, trivial⟩ ⟨rfl, rfl, trivial⟩ rfl rfl, ?_⟩
        · rw [← hn2', hsp, trim_zero]
        · show n - 1 < n
          omega
      · have hv : v ≠ 0 := by simpa using h
        have hd := done_ (by rw [hsp]; exact trim_snoc hv _)
        conv => whnf
        refine ⟨by rw [eL_len]; omega, ?_⟩
        conv => whnf
        rw [hd] at hk
        exact hk
    · have hn0 : n = 0 := by simpa using h
      subst hn0
      have hd := done_ rfl
      conv => whnf
      repeat (first | ((with_reducible refine fork_t ?_); conv => whnf) | ((with_reducible refine fork_f ?_); conv => whnf))
      refine ⟨by omega, ?_⟩
      conv => whnf
      rw [hd] at hk
      exact hk
end Go.Proofs
