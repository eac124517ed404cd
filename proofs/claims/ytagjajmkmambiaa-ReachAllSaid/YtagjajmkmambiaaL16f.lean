/- Proved here: what functions of the given program come to, for the statements of this chapter; no condition but those in the theorems. -/
import Derived.Test.YtagjajmkmambiaaL16e
namespace Go.Proofs
open Go.Abs
set_option linter.unusedSimpArgs false
set_option linter.unusedVariables false
set_option maxRecDepth 4000
/-- The table of a function. -/
def tab (n : Nat) (g : Nat → Int) : Ls := (List.range n).map g
theorem tab_len (n : Nat) (g : Nat → Int) : (tab n g).length = n := by simp [tab]
theorem tab_get {n : Nat} {g : Nat → Int} {k : Nat} (h : k < n) : (tab n g)[k]? = some (g k) := by simp [tab, h]
theorem tab_set (n : Nat) (g : Nat → Int) (i : Nat) (v : Int) : (tab n g).set i v = tab n fun k => if k = i then v else g k := by
  apply List.ext_getElem?
  intro j
  rw [List.getElem?_set]
  by_cases hj : j < n
  · rw [tab_get hj, tab_get hj, tab_len]
    by_cases h : i = j
    · subst h; simp [hj]
    · rw [if_neg h, if_neg (Ne.symm h)]
  · have h1 : (tab n g)[j]? = none := List.getElem?_eq_none (by rw [tab_len]; omega)
    have h2 : (tab n fun k => if k = i then v else g k)[j]? = none := List.getElem?_eq_none (by rw [tab_len]; omega)
    rw [h1, h2, tab_len]
    split
    · split
      · omega
      · rfl
    · rfl
theorem tab_ext {n : Nat} {g h : Nat → Int} (e : ∀ k, k < n → g k = h k) : tab n g = tab n h := List.map_congr_left fun k hk => e k (List.mem_range.1 hk)
theorem eL_tab {n : Nat} {g : Nat → Int} {k : Nat} (h : k < n) : (eL (tab n g))[0 + k]? = some (eI (g k)) := by
  rw [Nat.zero_add, List.getElem?_map, tab_get h]; rfl
theorem eL_set (l : Ls) (i : Nat) (v : Int) : (eL l).set i (eI v) = eL (l.set i v) := (List.map_set ..).symm
/-- Zeros at the end are struck. -/
def trimZ : Ls → Ls
  | [] => []
  | x :: r => match trimZ r with
    | [] => if x = 0 then [] else [x]
    | y :: t => x :: y :: t
theorem trim_zero : ∀ l : Ls, trimZ (l ++ [0]) = trimZ l
  | [] => rfl
  | x :: r => by
    show trimZ (x :: (r ++ [0])) = trimZ (x :: r)
    rw [trimZ, trimZ, trim_zero r]
theorem trim_snoc {v : Int} (hv : v ≠ 0) : ∀ l : Ls, trimZ (l ++ [v]) = l ++ [v]
  | [] => by simp [trimZ, hv]
  | x :: r => by
    show trimZ (x :: (r ++ [v])) = _
    rw [trimZ, trim_snoc hv r]
    cases r <;> rfl
def fP (ps : Ls) (k : Nat) : Int := ps.getD k 0
def gP (ws ps : Ls) (q : Int) (k : Nat) : Int := fP ps k + q * fP ws k
def hP (ws : Ls) (den : Int) (ps : Ls) (q : Int) (k : Nat) : Int := gP ws ps q (k + 1) + if k = 0 then gP ws ps q 0 % den else 0
def stepF (ws : Ls) (den : Int) (ps : Ls) (q : Int) : Ls := trimZ (tab ws.length (hP ws den ps q))
def outF (ws : Ls) (den : Int) (ps : Ls) (q : Int) : Int := gP ws ps q 0 / den
def stepOk (ws ps : Ls) (q : Int) : Prop := ∀ k, k < ws.length → gP ws ps q k ≤ 1125899906842624
theorem fP_at {l : Ls} {k : Nat} (h : k < l.length) : fP l k = l[k] := by unfold fP; rw [List.getD_eq_getElem?_getD, List.getElem?_eq_getElem h]; rfl
theorem fP_out {l : Ls} {k : Nat} (h : l.length ≤ k) : fP l k = 0 := by unfold fP; rw [List.getD_eq_getElem?_getD, List.getElem?_eq_none h]; rfl
theorem copy_tab {n : Nat} {ps : Ls} (h : ps.length ≤ n) : wrE (List.replicate n (eI 0)) 0 ((eL ps).take (Nat.min (eL ps).length n)) = eL (tab n (fP ps)) := by
  have e : Nat.min (eL ps).length n = (eL ps).length := Nat.min_eq_left (by rw [eL_len]; exact h)
  rw [e, List.take_length]
  unfold wrE
  rw [List.take_zero, List.nil_append, Nat.zero_add, eL_len]
  apply List.ext_getElem?
  intro j
  rw [List.getElem?_append, eL_len]
  by_cases hj : j < ps.length
  · rw [if_pos hj, List.getElem?_map, List.getElem?_map, tab_get (by omega), fP_at hj, List.getElem?_eq_getElem hj]
  · rw [if_neg hj, List.getElem?_drop, List.getElem?_map]
    by_cases hn : j < n
    · rw [tab_get hn, fP_out (by omega), List.getElem?_replicate, if_pos (by omega)]; rfl
    · rw [List.getElem?_eq_none (by simp; omega), List.getElem?_eq_none (by rw [tab_len]; omega)]; rfl
theorem rk_facts {ws : Ls} {den : Int} (h : rkCheck ws den = 0) : 1 ≤ ws.length ∧ ws.length ≤ 24 ∧ (∀ k, 0 ≤ fP ws k ∧ fP ws k ≤ 10000) ∧ 1 ≤ den ∧ den ≤ 240000 ∧ ws.sum = den ∧ (∀ w ∈ ws, 0 ≤ w ∧ w ≤ 10000) := by
  unfold rkCheck at h
  split at h
  · cases h
  · rename_i h1
    split at h
    · cases h
    · split at h
      · rename_i h3
        split at h
        · rename_i h4
          have hw : ∀ w ∈ ws, 0 ≤ w ∧ w ≤ 10000 := fun w hw => okW_in (all_in h3 w hw)
          have hl : ws.length ≠ 0 := fun e => h1 (.inl e)
          have hs := sum_in (l := ws) (a := 10000) (by omega) hw
          have hpos : 1 ≤ ws.sum := by
            have hla := last_at hl
            have hne : ws[ws.length - 1]'(by omega) ≠ 0 := fun e => h1 (.inr (by rw [hla, e]))
            have hge := hw _ (List.getElem_mem (by omega : ws.length - 1 < ws.length))
            have hsp : ws = ws.take (ws.length - 1) ++ [ws[ws.length - 1]'(by omega)] := by
              have := List.take_append_getElem (by omega : ws.length - 1 < ws.length)
              rw [show ws.length - 1 + 1 = ws.length by omega, List.take_length] at this
              exact this.symm
            have h5 : ws.sum = (ws.take (ws.length - 1)).sum + ws[ws.length - 1]'(by omega) := by
              conv => lhs; rw [hsp]
              rw [List.sum_append]; simp
            have h6 := sum_in (l := ws.take (ws.length - 1)) (a := 10000) (by omega) (fun x hx => hw x (List.mem_of_mem_take hx))
            omega
          refine ⟨by omega, by omega, fun k => ?_, by omega, by omega, h4, hw⟩
          by_cases hk : k < ws.length
          · rw [fP_at hk]; exact hw _ (List.getElem_mem _)
          · rw [fP_out (by omega)]; omega
        · cases h
      · cases h
theorem fits_facts {n : Nat} {ps : Ls} (h : fitsB n ps = true) : ps.length ≤ n ∧ ps.getLast? ≠ some 0 ∧ (∀ p ∈ ps, 0 ≤ p ∧ p ≤ 2251799813685248) ∧ ∀ k, 0 ≤ fP ps k ∧ fP ps k ≤ 2251799813685248 := by
  unfold fitsB at h
  simp only [Bool.and_eq_true, decide_eq_true_eq, Bool.not_eq_true', decide_eq_false_iff_not] at h
  obtain ⟨h1, h2, h3⟩ := h
  have hp : ∀ p ∈ ps, 0 ≤ p ∧ p ≤ 2251799813685248 := fun p hp => okP_in (all_in h3 p hp)
  refine ⟨h1, h2, hp, fun k => ?_⟩
  by_cases hk : k < ps.length
  · rw [fP_at hk]; exact hp _ (List.getElem_mem _)
  · rw [fP_out (by omega)]; omega
theorem g_in {ws ps : Ls} {q : Int} (hw : ∀ k, 0 ≤ fP ws k ∧ fP ws k ≤ 10000) (hp : ∀ k, 0 ≤ fP ps k ∧ fP ps k ≤ 2251799813685248) (h0 : 0 ≤ q) (h1 : q ≤ 1073741824) (k : Nat) : (0 ≤ q * fP ws k ∧ q * fP ws k ≤ 10737418240000) ∧ 0 ≤ gP ws ps q k ∧ gP ws ps q k ≤ 2262537231925248 := by
  have a := hw k
  have b := hp k
  have h2 : 0 ≤ q * fP ws k := Int.mul_nonneg h0 a.1
  have h3 : q * fP ws k ≤ 1073741824 * 10000 := Int.mul_le_mul h1 a.2 a.1 (by omega)
  unfold gP
  omega
theorem tab_tail {n : Nat} {g : Nat → Int} : ((tab (n + 1) g).drop 1).take n = tab n fun k => g (k + 1) := by
  apply List.ext_getElem?
  intro j
  rw [List.getElem?_take, List.getElem?_drop]
  by_cases hj : j < n
  · rw [if_pos hj, tab_get hj, tab_get (by omega), Nat.add_comm]
  · rw [if_neg hj, List.getElem?_eq_none (by rw [tab_len]; omega)]
theorem eL_take (l : Ls) (n : Nat) : (eL l).take n = eL (l.take n) := (List.map_take ..).symm
theorem eL_drop (l : Ls) (n : Nat) : (eL l).drop n = eL (l.drop n) := (List.map_drop ..).symm
theorem eL_all (l : Ls) : (eL l).all (fun e => e.length == 1) = true := by simp [List.all_eq_true, eL, eI]
theorem wrE_all {T Q : Ls} {n : Nat} (h : T.length ≤ n) : wrE (eL Q) 0 ((eL T).take (Nat.min (eL T).length n)) = eL (T ++ Q.drop T.length) := by
  have e : Nat.min (eL T).length n = (eL T).length := Nat.min_eq_left (by rw [eL_len]; exact h)
  rw [e, List.take_length]
  unfold wrE
  rw [List.take_zero, List.nil_append, Nat.zero_add, eL_len, eL_drop]
  simp [eL]
def R_pass : RT := fun args k => match args with
  | [.agg [.lst es, .sc (.int .i64 den)], .agg [.lst es2], .c (.sc (.int .i64 q))] => ∃ ws ps, es = eL ws ∧ es2 = eL ps ∧ rkCheck ws den = 0 ∧ fitsB ws.length ps = true ∧ (0 ≤ q ∧ q ≤ 1073741824) ∧
      (stepOk ws ps q → k (.tup [.agg [.lst (eL (stepF ws den ps q))], I (outF ws den ps q), Bo true])) ∧ (¬ stepOk ws ps q → k (.tup [.agg [.lst []], I 0, Bo false]))
  | _ => False
theorem pass_ok : FunR Try.prog 36 R_pass := by
  intro args k h
  unfold R_pass at h
  split at h
  case h_2 => exact h.elim
  rename_i den _ q
  obtain ⟨ws, ps, rfl, rfl, hr, hf, hq, hk1, hk2⟩ := h
  obtain ⟨hn1, hn2, hw, hd1, hd2, hsum, hwm⟩ := rk_facts hr
  obtain ⟨hpl, hlast, hpm, hp⟩ := fits_facts hf
  have hg := g_in hw hp hq.1 hq.2
  have hml := eL_len ws
  have hmp := eL_len ps
  refine does_ex (qc := qc1) (np := []) (CK := ckK []) mixed Try.func36 rfl rfl Try.ntmps36 Try.results36 τ_ok (by kernel_rfl) (ckK_ok trivial) (by simp) ?_
  conv => whnf
  have hwn : IntKind.i64.wrap (((eL ws).length : Int) + 1) = ((ws.length + 1 : Nat) : Int) := by rw [hml, wrap_in (by omega) (by omega)]; omega
  rw [hwn]
  refine ⟨⟨rfl, by omega, by show ((ws.length + 1 : Nat) : Int) * 8 ≤ _; omega⟩, ?_⟩
  conv => whnf
  refine ⟨by simp [eL, eI], ?_⟩
  conv => whnf
  refine ⟨⟨rfl, rfl, by simp⟩, ?_⟩
  conv => whnf
  let Li : Nat → Ls := fun i => tab (ws.length + 1) fun k => if k < i then gP ws ps q k else fP ps k
  have hLi : ∀ i, Li i = tab (ws.length + 1) fun k => if k < i then gP ws ps q k else fP ps k := fun _ => rfl
  refine ⟨Nat, fun i => ([(2, I q), (3, .c (.ptr (.l 3 0) 0)), (6, .c (.ptr (.l 6 2) 0)), (7, I 0), (8, Bo false), (9, .c (.view (.l 17 3) 0 (ws.length + 1))), (23, .c (.lst (eL ws))), (24, I (eL ws).length), (25, I i)],
      ⟨[(.l 3 0, .blk (RcC ws den)), (.l 6 2, .blk [.sc (.slice none 0 0)]), (.l 17 3, .arr 3 1 (eL (Li i)) false)], 4, []⟩),
    fun i => i ≤ ws.length ∧ ∀ k, k < i → gP ws ps q k ≤ 1125899906842624, fun i => ws.length - i, 0, ⟨Nat.zero_le _, fun k hk => absurd hk (Nat.not_lt_zero _)⟩,
    Shift.reset ⟨rfl, rfl, rfl, rfl, rfl, rfl, rfl, rfl, rfl, trivial⟩ ⟨rfl, rfl, ?_, trivial⟩ rfl rfl, fun i hi => ?_⟩
  · show some (MObj.arr 3 1 (wrE (List.replicate (ws.length + 1) (eI 0)) 0 ((eL ps).take (Nat.min (eL ps).length (ws.length + 1)))) false) = _
    rw [copy_tab (by omega), hLi]
    rfl
  obtain ⟨hi1, hi2⟩ := hi
  dsimp only
  clear_value Li
  conv => whnf
  refine Fork.mk (fun h => ?_) (fun h => ?_)
  · have hi : i < ws.length := by simp at h; omega
    have hat := map_at eI ws hi
    have hwi : ws[i] = fP ws i := (fP_at hi).symm
    rw [hwi] at hat
    have hgi := hg i
    conv => whnf
    refine ⟨by omega, eI (fP ws i), hat, rfl, ?_⟩
    conv => whnf
    refine ⟨by omega, rfl, ?_⟩
    conv => whnf
    have hLg : ∀ j k, k < ws.length + 1 → (eL (Li j))[0 + k]? = some (eI (if k < j then gP ws ps q k else fP ps k)) := fun j k hk => by rw [hLi]; exact eL_tab hk
    have hL0 : (eL (Li i))[0 + (i : Int).toNat]? = some (eI (fP ps i)) := by rw [Int.toNat_natCast, hLg i i (by omega), if_neg (Nat.lt_irrefl _)]
    refine ⟨eI (fP ps i), hL0, ?_⟩
    conv => whnf
    have hpi := hp i
    rw [show IntKind.i64.wrap (q * fP ws i) = q * fP ws i from wrap_in (by omega) (by omega), show IntKind.i64.wrap (fP ps i + q * fP ws i) = gP ws ps q i from wrap_in (by omega) (by omega)]
    refine ⟨by omega, rfl, ?_⟩
    conv => whnf
    refine ⟨eI (fP ps i), hL0, by show 0 + 1 ≤ 1; omega, ?_⟩
    conv => whnf
    have hset : (eL (Li i)).set (0 + (i : Int).toNat) [nrm (Value.int IntKind.i64 (gP ws ps q i))] = eL (Li (i + 1)) := by
      rw [Nat.zero_add, Int.toNat_natCast, show [nrm (Value.int IntKind.i64 (gP ws ps q i))] = eI (gP ws ps q i) from rfl, eL_set, hLi, hLi, tab_set]
      congr 1
      refine tab_ext fun k hk => ?_
      by_cases hki : k = i
      · subst hki; rw [if_pos rfl, if_pos (by omega)]
      · rw [if_neg hki]
        by_cases hlt : k < i
        · rw [if_pos hlt, if_pos (by omega)]
        · rw [if_neg hlt, if_neg (by omega)]
    rw [hset]
    refine ⟨by omega, rfl, ?_⟩
    conv => whnf
    have hL1 : (eL (Li (i + 1)))[0 + (i : Int).toNat]? = some (eI (gP ws ps q i)) := by rw [Int.toNat_natCast, hLg (i + 1) i (by omega), if_pos (by omega)]
    refine ⟨eI (gP ws ps q i), hL1, ?_⟩
    conv => whnf
    refine Fork.mk (fun h => ?_) (fun h => ?_)
    · have hbig : ¬ gP ws ps q i ≤ 1125899906842624 := by simp at h; omega
      conv => whnf
      exact hk2 (fun hh => hbig (hh i hi))
    · have hok : gP ws ps q i ≤ 1125899906842624 := by simp at h; omega
      conv => whnf
      have hw1 : IntKind.i64.wrap ((i : Int) + 1) = ((i + 1 : Nat) : Int) := by rw [wrap_in (by omega) (by omega)]; omega
      rw [hw1]
      refine ⟨i + 1, ⟨hi, fun k hk => ?_⟩, Shift.reset ⟨rfl, rfl, rfl, rfl, rfl, rfl, rfl, rfl, rfl, trivial⟩ ⟨rfl, rfl, rfl, trivial⟩ rfl rfl, ?_⟩
      · by_cases hki : k = i
        · rw [hki]; exact hok
        · exact hi2 k (by omega)
      · show ws.length - (i + 1) < ws.length - i
        omega
  · have hie : i = ws.length := by simp at h; omega
    subst hie
    have hk := hk1 hi2
    clear hk1 hk2
    have hLe : Li ws.length = tab (ws.length + 1) (gP ws ps q) := by
      rw [hLi]
      refine tab_ext fun k hk => ?_
      by_cases hlt : k < ws.length
      · rw [if_pos hlt]
      · rw [if_neg hlt, show k = ws.length by omega]
        unfold gP
        rw [fP_out (l := ws) (Nat.le_refl _)]; omega
    rw [hLe]
    have hG : ∀ k, k < ws.length + 1 → (eL (tab (ws.length + 1) (gP ws ps q)))[0 + k]? = some (eI (gP ws ps q k)) := fun k hk => eL_tab hk
    have hg0 := hg 0
    have hg1 := hg 1
    conv => whnf
    refine ⟨by omega, rfl, ?_⟩
    conv => whnf
    refine ⟨_, hG 0 (by omega), ?_⟩
    conv => whnf
    refine ⟨by omega, ?_⟩
    conv => whnf
    refine ⟨by omega, rfl, ?_⟩
    conv => whnf
    refine ⟨_, hG 1 (by omega), ?_⟩
    conv => whnf
    refine ⟨by omega, rfl, ?_⟩
    conv => whnf
    refine ⟨_, hG 0 (by omega), ?_⟩
    conv => whnf
    refine ⟨by omega, ?_⟩
    conv => whnf
    have hdiv : 0 ≤ gP ws ps q 0 / den ∧ gP ws ps q 0 / den ≤ 2262537231925248 := ⟨Int.ediv_nonneg (by omega) (by omega), Int.le_trans (Int.ediv_le_self _ hg0.2.1) hg0.2.2⟩
    have hmod : 0 ≤ gP ws ps q 0 % den ∧ gP ws ps q 0 % den < den := ⟨Int.emod_nonneg _ (by omega), Int.emod_lt_of_pos _ (by omega)⟩
    have e1 : IntKind.i64.wrap ((gP ws ps q 0).tdiv den) = gP ws ps q 0 / den := by rw [Int.tdiv_eq_ediv_of_nonneg (by omega), wrap_in (by omega) (by omega)]
    have e2 : IntKind.i64.wrap (gP ws ps q 1 + (gP ws ps q 0).tmod den) = gP ws ps q 1 + gP ws ps q 0 % den := by rw [Int.tmod_eq_emod_of_nonneg (by omega), wrap_in (by omega) (by omega)]
    rw [e1, e2]
    refine ⟨by omega, rfl, ?_⟩
    conv => whnf
    refine ⟨_, hG 1 (by omega), by show 0 + 1 ≤ 1; omega, ?_⟩
    conv => whnf
    have hset : (eL (tab (ws.length + 1) (gP ws ps q))).set (0 + (1 : Int).toNat) [nrm (Value.int IntKind.i64 (gP ws ps q 1 + gP ws ps q 0 % den))] = eL (tab (ws.length + 1) fun k => if k = 1 then gP ws ps q 1 + gP ws ps q 0 % den else gP ws ps q k) := by
      rw [show [nrm (Value.int IntKind.i64 (gP ws ps q 1 + gP ws ps q 0 % den))] = eI (gP ws ps q 1 + gP ws ps q 0 % den) from rfl, eL_set, tab_set]; rfl
    rw [hset]
    have hQl : (eL (tab (ws.length + 1) fun k => if k = 1 then gP ws ps q 1 + gP ws ps q 0 % den else gP ws ps q k)).length = ws.length + 1 := by rw [eL_len, tab_len]
    refine ⟨by omega, ?_⟩
    conv => whnf
    refine ⟨rfl, ?_⟩
    conv => whnf
    refine ⟨by rw [hQl]; simp; omega, ?_⟩
    conv => whnf
    have hsrc : List.take (((ws.length + 1 : Nat) : Int).toNat - Int.toNat 1) (List.drop (0 + Int.toNat 1) (eL (tab (ws.length + 1) fun k => if k = 1 then gP ws ps q 1 + gP ws ps q 0 % den else gP ws ps q k))) = eL (tab ws.length (hP ws den ps q)) := by
      show List.take ws.length (List.drop 1 _) = _
      rw [eL_drop, eL_take, tab_tail]
      congr 1
      refine tab_ext fun k hk => ?_
      unfold hP
      by_cases hk0 : k = 0
      · subst hk0; rfl
      · rw [if_neg (by omega), if_neg hk0]; omega
    rw [hsrc]
    refine ⟨eL_all _, ?_⟩
    conv => whnf
    refine ⟨⟨rfl, rfl, by rw [hQl]; omega⟩, ?_⟩
    have hTl : (tab ws.length (hP ws den ps q)).length = ws.length := tab_len _ _
    rw [wrE_all (by rw [hTl]; omega)]
    have hmin : Nat.min (eL (tab ws.length (hP ws den ps q))).length (ws.length + 1) = ws.length := by rw [eL_len, hTl]; exact Nat.min_eq_left (by omega)
    rw [hmin]
    conv => whnf
    refine ⟨by omega, ?_⟩
    conv => whnf
    refine ⟨rfl, ?_⟩
    conv => whnf
    have hstep : stepF ws den ps q = trimZ (tab ws.length (hP ws den ps q)) := rfl
    have hQt : (tab ws.length (hP ws den ps q) ++ (tab (ws.length + 1) fun k => if k = 1 then gP ws ps q 1 + gP ws ps q 0 % den else gP ws ps q k).drop (tab ws.length (hP ws den ps q)).length).take ws.length = tab ws.length (hP ws den ps q) := by
      rw [List.take_append_of_le_length (by omega), List.take_of_length_le (by omega)]
    have hQl2 : (tab ws.length (hP ws den ps q) ++ (tab (ws.length + 1) fun k => if k = 1 then gP ws ps q 1 + gP ws ps q 0 % den else gP ws ps q k).drop (tab ws.length (hP ws den ps q)).length).length = ws.length + 1 := by
      rw [List.length_append, hTl, List.length_drop, tab_len]; omega
    rw [hstep, ← hQt] at hk
    generalize tab ws.length (hP ws den ps q) ++ (tab (ws.length + 1) fun k => if k = 1 then gP ws ps q 1 + gP ws ps q 0 % den else gP ws ps q k).drop (tab ws.length (hP ws den ps q)).length = Q at *
    refine ⟨Nat, fun n => ([(6, .c (.ptr (.l 6 2) 0)), (9, .c (.view (.l 17 3) 0 n)), (12, I (gP ws ps q 0 / den))], ⟨[(.l 6 2, .blk [.sc (.slice none 0 0)]), (.l 17 3, .arr 3 1 (eL Q) false)], 4, []⟩),
      fun n => n ≤ ws.length ∧ trimZ (Q.take n) = trimZ (Q.take ws.length), fun n => n, ws.length, ⟨Nat.le_refl _, rfl⟩, Shift.reset ⟨rfl, rfl, rfl, trivial⟩ ⟨rfl, rfl, trivial⟩ rfl rfl, fun n hn => ?_⟩
    obtain ⟨hn1', hn2'⟩ := hn
    dsimp only
    have done_ : trimZ (Q.take n) = Q.take n → eL (trimZ (Q.take ws.length)) = List.take n (List.drop 0 (eL Q)) := fun h => by
      rw [List.drop_zero, eL_take, ← hn2', h]
    conv => whnf
    refine Fork.mk (fun h => ?_) (fun h => ?_)
    · have hn0 : 0 < n := by simpa using h
      conv => whnf
      have hw1 : IntKind.i64.wrap ((n : Int) - 1) = ((n - 1 : Nat) : Int) := by rw [wrap_in (by omega) (by omega)]; omega
      rw [hw1]
      have hnl : n - 1 < Q.length := by omega
      have hat := map_at0 eI Q hnl
      have hsp : Q.take n = Q.take (n - 1) ++ [Q[n - 1]] := by
        have := List.take_append_getElem hnl
        rw [show n - 1 + 1 = n by omega] at this
        exact this.symm
      generalize Q[n - 1] = v at *
      refine ⟨by omega, rfl, ?_⟩
      conv => whnf
      refine ⟨_, hat, ?_⟩
      conv => whnf
      refine Fork.mk (fun h => ?_) (fun h => ?_)
      · have hv : v = 0 := by simpa using h
        subst hv
        conv => whnf
        rw [hw1]
        refine ⟨by omega, ?_⟩
        conv => whnf
        refine ⟨rfl, ?_⟩
        conv => whnf
        refine ⟨n - 1, ⟨by omega, ?_⟩, Shift.reset ⟨rfl, rfl, rfl, trivial⟩ ⟨rfl, rfl, trivial⟩ rfl rfl, ?_⟩
        · rw [← hn2', hsp, trim_zero]
        · show n - 1 < n
          omega
      · have hv : v ≠ 0 := by simpa using h
        have hd := done_ (by rw [hsp]; exact trim_snoc hv _)
        conv => whnf
        refine ⟨by rw [eL_len]; omega, ?_⟩
        conv => whnf
        rw [hd] at hk
        exact hk
    · have hn0 : n = 0 := by simpa using h
      subst hn0
      have hd := done_ rfl
      conv => whnf
      repeat (first | ((with_reducible refine fork_t ?_); conv => whnf) | ((with_reducible refine fork_f ?_); conv => whnf))
      refine ⟨by omega, ?_⟩
      conv => whnf
      rw [hd] at hk
      exact hk
end Go.Proofs
