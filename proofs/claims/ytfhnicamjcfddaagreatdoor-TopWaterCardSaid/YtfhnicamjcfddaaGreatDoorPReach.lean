/- Reaches and waves: what the functions answer. No program. -/
import Derived.Test.YtfhnicamjcfddaaGreatDoorPCurve
namespace Go.Proofs
open Go Go.Abs
set_option linter.unusedSimpArgs false
set_option linter.unusedVariables false
abbrev RcC (ws : Ls) (den : Int) : List Cell := [.lst (eL ws), IC den]
abbrev WvC (ps : Ls) : List Cell := [.lst (eL ps)]
def okW (w : Int) : Bool := decide (0 ≤ w) && decide (w ≤ 10000)
def rkCheck (ws : Ls) (den : Int) : Int := if ws.length = 0 ∨ ws.getLast? = some 0 then 3 else if 24 < ws.length then 10 else if ws.all okW then (if ws.sum = den then 0 else 2) else 1
theorem all_take {f : Int → Bool} {l : Ls} {i : Nat} (h : i < l.length) : (l.take (i + 1)).all f = ((l.take i).all f && f l[i]) := by
  rw [← List.take_append_getElem h, List.all_append]; simp
theorem all_in {l : Ls} {f : Int → Bool} (h : l.all f = true) : ∀ x ∈ l, f x = true := fun x hx => List.all_eq_true.1 h x hx
theorem okW_in {w : Int} (h : okW w = true) : 0 ≤ w ∧ w ≤ 10000 := by simpa [okW] using h
theorem last_at {l : Ls} (h : l.length ≠ 0) : l.getLast? = some (l[l.length - 1]'(by omega)) := by
  rw [List.getLast?_eq_getElem?, List.getElem?_eq_getElem]
def R_rk : RT := fun args k => match args with
  | [.agg [.lst es, .sc (.int .i64 den)]] => ∃ ws, es = eL ws ∧ ws.length ≤ 9223372036854775807 ∧ k (I (rkCheck ws den))
  | _ => False
def okP (p : Int) : Bool := decide (0 ≤ p) && decide (p ≤ 2251799813685248)
def fitsB (n : Nat) (ps : Ls) : Bool := decide (ps.length ≤ n) && (!decide (ps.getLast? = some 0) && ps.all okP)
theorem okP_in {w : Int} (h : okP w = true) : 0 ≤ w ∧ w ≤ 2251799813685248 := by simpa [okP] using h
def R_fits : RT := fun args k => match args with
  | [.agg [.lst es, .sc (.int .i64 den)], .agg [.lst es2]] => ∃ ws ps, es = eL ws ∧ es2 = eL ps ∧ ws.length ≤ 9223372036854775807 ∧ ps.length ≤ 9223372036854775807 ∧ k (Bo (fitsB ws.length ps))
  | _ => False
def R_valid : RT := fun args k => match args with
  | [.agg [.lst es, .sc (.int .i64 den)], .agg [.lst es2]] => ∃ ws ps, es = eL ws ∧ es2 = eL ps ∧ ws.length ≤ 9223372036854775807 ∧ ps.length ≤ 9223372036854775807 ∧ k (Bo (decide (rkCheck ws den = 0) && fitsB ws.length ps))
  | _ => False
def inH (p : Int) : Prop := -36028797018963968 ≤ p ∧ p ≤ 36028797018963968
theorem sum_abs {l : Ls} (h : ∀ x ∈ l, inH x) : -(36028797018963968 * (l.length : Int)) ≤ l.sum ∧ l.sum ≤ 36028797018963968 * l.length := by
  induction l with
  | nil => simp
  | cons x r ih =>
    have := ih (fun y hy => h y (by simp [hy]))
    have h1 := h x (by simp)
    unfold inH at h1
    rw [List.sum_cons, List.length_cons, Int.natCast_add, Int.mul_add]
    omega
def R_held : RT := fun args k => match args with
  | [.agg [.lst es]] => ∃ ps, es = eL ps ∧ ps.length ≤ 128 ∧ (∀ p ∈ ps, inH p) ∧ k (I ps.sum)
  | _ => False
def R_sameR : RT := fun args k => match args with
  | [.c (.lst es), .c (.lst es2)] => ∃ a b : Ls, es = eL a ∧ es2 = eL b ∧ a.length ≤ 9223372036854775807 ∧ k (Bo (decide (a = b)))
  | _ => False
def R_wsame : RT := fun args k => match args with
  | [.agg [.lst es], .agg [.lst es2]] => ∃ a b : Ls, es = eL a ∧ es2 = eL b ∧ a.length ≤ 9223372036854775807 ∧ k (Bo (decide (a = b)))
  | _ => False
def R_flows : RB := fun cs args k => match args with
  | [.c (.sc (.int .i64 n)), .c (.sc (.int .i64 most))] => ∃ d : Dk, ∃ N : Nat, cs = dkC d ∧ d.ok ∧ n = N ∧ N ≤ 1000 ∧ (1 ≤ most ∧ most ≤ 1000) ∧ ∀ (l : Ls) d', Dk.ok d' → l.length = N → (∀ x ∈ l, 0 ≤ x ∧ x < most) → k (.c (.lst (eL l))) (dkC d')
  | _ => False
theorem snoc_len (l : Ls) (p : Int) : (l ++ [p]).length = (eL l).length + 1 := by simp [eL]
theorem rk_of {ws : Ls} {den : Int} (h0 : ws.length ≠ 0) (h1 : ws.getLast? ≠ some 0) (h2 : ws.length ≤ 24) (h3 : ∀ w ∈ ws, 0 ≤ w ∧ w ≤ 10000) (h4 : ws.sum = den) : rkCheck ws den = 0 := by
  unfold rkCheck
  have hn : ¬ (ws.length = 0 ∨ ws.getLast? = some 0) := fun h => h.elim h0 h1
  rw [if_neg hn, if_neg (by omega), if_pos (List.all_eq_true.2 fun w hw => by have := h3 w hw; simp [okW, this]), if_pos h4]
def R_reach : RB := fun cs args k => match args with
  | [] => ∃ d : Dk, cs = dkC d ∧ d.ok ∧ ∀ (ws : Ls) den d', Dk.ok d' → rkCheck ws den = 0 → ws.length ≤ 5 → (∀ w ∈ ws, 0 ≤ w ∧ w ≤ 4) → k (.agg [.lst (eL ws), IC den]) (dkC d')
  | _ => False
/-- The table of a function. -/
def tab (n : Nat) (g : Nat → Int) : Ls := (List.range n).map g
theorem tab_len (n : Nat) (g : Nat → Int) : (tab n g).length = n := by simp [tab]
theorem tab_get {n : Nat} {g : Nat → Int} {k : Nat} (h : k < n) : (tab n g)[k]? = some (g k) := by simp [tab, h]
theorem tab_set (n : Nat) (g : Nat → Int) (i : Nat) (v : Int) : (tab n g).set i v = tab n fun k => if k = i then v else g k := by
  apply List.ext_getElem?
  intro j
  rw [List.getElem?_set]
  by_cases hj : j < n
  · rw [tab_get hj, tab_get hj, tab_len]
    by_cases h : i = j
    · subst h; simp [hj]
    · rw [if_neg h, if_neg (Ne.symm h)]
  · have h1 : (tab n g)[j]? = none := List.getElem?_eq_none (by rw [tab_len]; omega)
    have h2 : (tab n fun k => if k = i then v else g k)[j]? = none := List.getElem?_eq_none (by rw [tab_len]; omega)
    rw [h1, h2, tab_len]
    split
    · split
      · omega
      · rfl
    · rfl
theorem tab_ext {n : Nat} {g h : Nat → Int} (e : ∀ k, k < n → g k = h k) : tab n g = tab n h := List.map_congr_left fun k hk => e k (List.mem_range.1 hk)
theorem eL_tab {n : Nat} {g : Nat → Int} {k : Nat} (h : k < n) : (eL (tab n g))[0 + k]? = some (eI (g k)) := by
  rw [Nat.zero_add, List.getElem?_map, tab_get h]; rfl
/-- Zeros at the end are struck. -/
def trimZ : Ls → Ls
  | [] => []
  | x :: r => match trimZ r with
    | [] => if x = 0 then [] else [x]
    | y :: t => x :: y :: t
theorem trim_zero : ∀ l : Ls, trimZ (l ++ [0]) = trimZ l
  | [] => rfl
  | x :: r => by
    show trimZ (x :: (r ++ [0])) = trimZ (x :: r)
    rw [trimZ, trimZ, trim_zero r]
theorem trim_snoc {v : Int} (hv : v ≠ 0) : ∀ l : Ls, trimZ (l ++ [v]) = l ++ [v]
  | [] => by simp [trimZ, hv]
  | x :: r => by
    show trimZ (x :: (r ++ [v])) = _
    rw [trimZ, trim_snoc hv r]
    cases r <;> rfl
def fP (ps : Ls) (k : Nat) : Int := ps.getD k 0
def gP (ws ps : Ls) (q : Int) (k : Nat) : Int := fP ps k + q * fP ws k
def hP (ws : Ls) (den : Int) (ps : Ls) (q : Int) (k : Nat) : Int := gP ws ps q (k + 1) + if k = 0 then gP ws ps q 0 % den else 0
def stepF (ws : Ls) (den : Int) (ps : Ls) (q : Int) : Ls := trimZ (tab ws.length (hP ws den ps q))
def outF (ws : Ls) (den : Int) (ps : Ls) (q : Int) : Int := gP ws ps q 0 / den
def stepOk (ws ps : Ls) (q : Int) : Prop := ∀ k, k < ws.length → gP ws ps q k ≤ 1125899906842624
theorem fP_at {l : Ls} {k : Nat} (h : k < l.length) : fP l k = l[k] := by unfold fP; rw [List.getD_eq_getElem?_getD, List.getElem?_eq_getElem h]; rfl
theorem fP_out {l : Ls} {k : Nat} (h : l.length ≤ k) : fP l k = 0 := by unfold fP; rw [List.getD_eq_getElem?_getD, List.getElem?_eq_none h]; rfl
theorem copy_tab {n : Nat} {ps : Ls} (h : ps.length ≤ n) : wrE (List.replicate n (eI 0)) 0 ((eL ps).take (Nat.min (eL ps).length n)) = eL (tab n (fP ps)) := by
  have e : Nat.min (eL ps).length n = (eL ps).length := Nat.min_eq_left (by rw [eL_len]; exact h)
  rw [e, List.take_length]
  unfold wrE
  rw [List.take_zero, List.nil_append, Nat.zero_add, eL_len]
  apply List.ext_getElem?
  intro j
  rw [List.getElem?_append, eL_len]
  by_cases hj : j < ps.length
  · rw [if_pos hj, List.getElem?_map, List.getElem?_map, tab_get (by omega), fP_at hj, List.getElem?_eq_getElem hj]
  · rw [if_neg hj, List.getElem?_drop, List.getElem?_map]
    by_cases hn : j < n
    · rw [tab_get hn, fP_out (by omega), List.getElem?_replicate, if_pos (by omega)]; rfl
    · rw [List.getElem?_eq_none (by simp; omega), List.getElem?_eq_none (by rw [tab_len]; omega)]; rfl
theorem rk_facts {ws : Ls} {den : Int} (h : rkCheck ws den = 0) : 1 ≤ ws.length ∧ ws.length ≤ 24 ∧ (∀ k, 0 ≤ fP ws k ∧ fP ws k ≤ 10000) ∧ 1 ≤ den ∧ den ≤ 240000 ∧ ws.sum = den ∧ (∀ w ∈ ws, 0 ≤ w ∧ w ≤ 10000) := by
  unfold rkCheck at h
  split at h
  · cases h
  · rename_i h1
    split at h
    · cases h
    · split at h
      · rename_i h3
        split at h
        · rename_i h4
          have hw : ∀ w ∈ ws, 0 ≤ w ∧ w ≤ 10000 := fun w hw => okW_in (all_in h3 w hw)
          have hl : ws.length ≠ 0 := fun e => h1 (.inl e)
          have hs := sum_in (l := ws) (a := 10000) (by omega) hw
          have hpos : 1 ≤ ws.sum := by
            have hla := last_at hl
            have hne : ws[ws.length - 1]'(by omega) ≠ 0 := fun e => h1 (.inr (by rw [hla, e]))
            have hge := hw _ (List.getElem_mem (by omega : ws.length - 1 < ws.length))
            have hsp : ws = ws.take (ws.length - 1) ++ [ws[ws.length - 1]'(by omega)] := by
              have := List.take_append_getElem (by omega : ws.length - 1 < ws.length)
              rw [show ws.length - 1 + 1 = ws.length by omega, List.take_length] at this
              exact this.symm
            have h5 : ws.sum = (ws.take (ws.length - 1)).sum + ws[ws.length - 1]'(by omega) := by
              conv => lhs; rw [hsp]
              rw [List.sum_append]; simp
            have h6 := sum_in (l := ws.take (ws.length - 1)) (a := 10000) (by omega) (fun x hx => hw x (List.mem_of_mem_take hx))
            omega
          refine ⟨by omega, by omega, fun k => ?_, by omega, by omega, h4, hw⟩
          by_cases hk : k < ws.length
          · rw [fP_at hk]; exact hw _ (List.getElem_mem _)
          · rw [fP_out (by omega)]; omega
        · cases h
      · cases h
theorem fits_facts {n : Nat} {ps : Ls} (h : fitsB n ps = true) : ps.length ≤ n ∧ ps.getLast? ≠ some 0 ∧ (∀ p ∈ ps, 0 ≤ p ∧ p ≤ 2251799813685248) ∧ ∀ k, 0 ≤ fP ps k ∧ fP ps k ≤ 2251799813685248 := by
  unfold fitsB at h
  simp only [Bool.and_eq_true, decide_eq_true_eq, Bool.not_eq_true', decide_eq_false_iff_not] at h
  obtain ⟨h1, h2, h3⟩ := h
  have hp : ∀ p ∈ ps, 0 ≤ p ∧ p ≤ 2251799813685248 := fun p hp => okP_in (all_in h3 p hp)
  refine ⟨h1, h2, hp, fun k => ?_⟩
  by_cases hk : k < ps.length
  · rw [fP_at hk]; exact hp _ (List.getElem_mem _)
  · rw [fP_out (by omega)]; omega
theorem g_in {ws ps : Ls} {q : Int} (hw : ∀ k, 0 ≤ fP ws k ∧ fP ws k ≤ 10000) (hp : ∀ k, 0 ≤ fP ps k ∧ fP ps k ≤ 2251799813685248) (h0 : 0 ≤ q) (h1 : q ≤ 1073741824) (k : Nat) : (0 ≤ q * fP ws k ∧ q * fP ws k ≤ 10737418240000) ∧ 0 ≤ gP ws ps q k ∧ gP ws ps q k ≤ 2262537231925248 := by
  have a := hw k
  have b := hp k
  have h2 : 0 ≤ q * fP ws k := Int.mul_nonneg h0 a.1
  have h3 : q * fP ws k ≤ 1073741824 * 10000 := Int.mul_le_mul h1 a.2 a.1 (by omega)
  unfold gP
  omega
theorem tab_tail {n : Nat} {g : Nat → Int} : ((tab (n + 1) g).drop 1).take n = tab n fun k => g (k + 1) := by
  apply List.ext_getElem?
  intro j
  rw [List.getElem?_take, List.getElem?_drop]
  by_cases hj : j < n
  · rw [if_pos hj, tab_get hj, tab_get (by omega), Nat.add_comm]
  · rw [if_neg hj, List.getElem?_eq_none (by rw [tab_len]; omega)]
theorem wrE_all {T Q : Ls} {n : Nat} (h : T.length ≤ n) : wrE (eL Q) 0 ((eL T).take (Nat.min (eL T).length n)) = eL (T ++ Q.drop T.length) := by
  have e : Nat.min (eL T).length n = (eL T).length := Nat.min_eq_left (by rw [eL_len]; exact h)
  rw [e, List.take_length]
  unfold wrE
  rw [List.take_zero, List.nil_append, Nat.zero_add, eL_len, eL_drop]
  simp [eL]
def R_pass : RT := fun args k => match args with
  | [.agg [.lst es, .sc (.int .i64 den)], .agg [.lst es2], .c (.sc (.int .i64 q))] => ∃ ws ps, es = eL ws ∧ es2 = eL ps ∧ rkCheck ws den = 0 ∧ fitsB ws.length ps = true ∧ (0 ≤ q ∧ q ≤ 1073741824) ∧
      (stepOk ws ps q → k (.tup [.agg [.lst (eL (stepF ws den ps q))], I (outF ws den ps q), Bo true])) ∧ (¬ stepOk ws ps q → k (.tup [.agg [.lst []], I 0, Bo false]))
  | _ => False
def R_step : RT := fun args k => match args with
  | [.agg [.lst es, .sc (.int .i64 den)], .agg [.lst es2], .c (.sc (.int .i64 q))] => ∃ ws ps, es = eL ws ∧ es2 = eL ps ∧ rkCheck ws den = 0 ∧ fitsB ws.length ps = true ∧
      (0 ≤ q ∧ q ≤ 1073741824 ∧ stepOk ws ps q → k (.tup [.agg [.lst (eL (stepF ws den ps q))], I (outF ws den ps q), I 0])) ∧ (¬ (0 ≤ q ∧ q ≤ 1073741824 ∧ stepOk ws ps q) → k (.tup [.agg [.lst []], I 0, I 1]))
  | _ => False
theorem trim_spec : ∀ l : Ls, (∃ m, l = trimZ l ++ List.replicate m 0) ∧ (trimZ l).getLast? ≠ some 0
  | [] => ⟨⟨0, rfl⟩, by simp [trimZ]⟩
  | x :: r => by
    obtain ⟨⟨m, h1⟩, h2⟩ := trim_spec r
    rw [trimZ]
    cases ht : trimZ r with
    | nil =>
      rw [ht] at h1
      simp only
      by_cases hx : x = 0
      · rw [if_pos hx]
        exact ⟨⟨m + 1, by rw [hx, h1, List.replicate_succ]; simp⟩, by simp⟩
      · rw [if_neg hx]
        exact ⟨⟨m, by rw [h1]; simp⟩, by simp [hx]⟩
    | cons y t =>
      rw [ht] at h1 h2
      simp only
      exact ⟨⟨m, by rw [h1]; simp⟩, by simpa using h2⟩
theorem fP_trim (l : Ls) (k : Nat) : fP (trimZ l) k = fP l k := by
  obtain ⟨⟨m, h⟩, _⟩ := trim_spec l
  by_cases hk : k < (trimZ l).length
  · have hl : l.length = (trimZ l).length + m := by conv => lhs; rw [h]
                                                    simp
    have hz : l[k]? = some (trimZ l)[k] := by
      conv => lhs; lhs; rw [h]
      rw [List.getElem?_append_left hk, List.getElem?_eq_getElem hk]
    rw [fP_at hk, fP_at (by omega)]
    rw [List.getElem?_eq_getElem (by omega)] at hz
    simp at hz
    exact hz.symm
  · rw [fP_out (by omega)]
    by_cases hk2 : k < l.length
    · have hz : l[k]? = some 0 := by
        conv => lhs; lhs; rw [h]
        rw [List.getElem?_append_right (by omega), List.getElem?_replicate, if_pos]
        have hl : l.length = (trimZ l).length + m := by conv => lhs; rw [h]
                                                        simp
        omega
      rw [fP_at hk2]
      rw [List.getElem?_eq_getElem hk2] at hz
      simp at hz
      exact hz.symm
    · rw [fP_out (by omega)]
theorem fP_tab {n : Nat} {g : Nat → Int} (k : Nat) : fP (tab n g) k = if k < n then g k else 0 := by
  split
  · rename_i h
    unfold fP
    rw [List.getD_eq_getElem?_getD, tab_get h]; rfl
  · rename_i h
    exact fP_out (by rw [tab_len]; omega)
theorem trim_len (l : Ls) : (trimZ l).length ≤ l.length := by
  obtain ⟨⟨m, h⟩, _⟩ := trim_spec l
  conv => rhs; rw [h]
  simp
theorem fits_of {n : Nat} {ps : Ls} (h1 : ps.length ≤ n) (h2 : ps.getLast? ≠ some 0) (h3 : ∀ k, 0 ≤ fP ps k ∧ fP ps k ≤ 2251799813685248) : fitsB n ps = true := by
  unfold fitsB
  rw [decide_eq_true h1, decide_eq_false h2, Bool.true_and]
  refine List.all_eq_true.2 fun p hp => ?_
  obtain ⟨j, hj, rfl⟩ := List.getElem_of_mem hp
  have := h3 j
  rw [fP_at hj] at this
  simp [okP, this]
theorem step_fits {ws : Ls} {den : Int} {ps : Ls} {q : Int} (hr : rkCheck ws den = 0) (hf : fitsB ws.length ps = true) (h0 : 0 ≤ q) (h1 : q ≤ 1073741824) (hok : stepOk ws ps q) : fitsB ws.length (stepF ws den ps q) = true := by
  obtain ⟨hn1, hn2, hw, hd1, hd2, _, _⟩ := rk_facts hr
  obtain ⟨hpl, _, _, hp⟩ := fits_facts hf
  have hg := g_in hw hp h0 h1
  unfold stepF
  refine fits_of (Nat.le_trans (trim_len _) (by rw [tab_len]; exact Nat.le_refl _)) (trim_spec _).2 fun k => ?_
  rw [fP_trim, fP_tab]
  split
  · rename_i hk
    unfold hP
    have hg1 := hg (k + 1)
    have hb : gP ws ps q (k + 1) ≤ 1125899906842624 := by
      by_cases hk1 : k + 1 < ws.length
      · exact hok _ hk1
      · unfold gP
        rw [fP_out (l := ws) (by omega), fP_out (l := ps) (by omega)]; omega
    have hm := Int.emod_lt_of_pos (gP ws ps q 0) (show 0 < den by omega)
    have hm2 := Int.emod_nonneg (gP ws ps q 0) (show den ≠ 0 by omega)
    split <;> omega
  · omega
def stepB (ws ps : Ls) (q : Int) : Bool := (List.range ws.length).all fun k => decide (gP ws ps q k ≤ 1125899906842624)
theorem stepB_iff {ws ps : Ls} {q : Int} : stepB ws ps q = true ↔ stepOk ws ps q := by
  unfold stepB stepOk
  rw [List.all_eq_true]
  exact ⟨fun h k hk => by simpa using h k (List.mem_range.2 hk), fun h k hk => by simpa using h k (List.mem_range.1 hk)⟩
/-- The steps of a run. -/
def runGo (ws : Ls) (den : Int) : Ls → Ls → Option (Ls × Ls)
  | ps, [] => some (ps, [])
  | ps, q :: qs => match decide (0 ≤ q ∧ q ≤ 1073741824) && stepB ws ps q with
    | true => match runGo ws den (stepF ws den ps q) qs with
      | some (p, o) => some (p, outF ws den ps q :: o)
      | none => none
    | false => none
def preO (out : Ls) : Option (Ls × Ls) → Option (Ls × Ls)
  | some (p, o) => some (p, out ++ o)
  | none => none
theorem runGo_bad {ws : Ls} {den : Int} {ps : Ls} {q : Int} {qs : Ls} (h : ¬ (0 ≤ q ∧ q ≤ 1073741824 ∧ stepOk ws ps q)) : runGo ws den ps (q :: qs) = none := by
  rw [runGo]
  have e : (decide (0 ≤ q ∧ q ≤ 1073741824) && stepB ws ps q) = false := by
    cases hb : (decide (0 ≤ q ∧ q ≤ 1073741824) && stepB ws ps q) with
    | false => rfl
    | true =>
      rw [Bool.and_eq_true, decide_eq_true_eq, stepB_iff] at hb
      exact absurd ⟨hb.1.1, hb.1.2, hb.2⟩ h
  rw [e]
theorem runGo_good {ws : Ls} {den : Int} {ps : Ls} {q : Int} {qs : Ls} (h : 0 ≤ q ∧ q ≤ 1073741824 ∧ stepOk ws ps q) : runGo ws den ps (q :: qs) = preO [outF ws den ps q] (runGo ws den (stepF ws den ps q) qs) := by
  rw [runGo]
  have e : (decide (0 ≤ q ∧ q ≤ 1073741824) && stepB ws ps q) = true := by rw [Bool.and_eq_true, decide_eq_true_eq, stepB_iff]; exact ⟨⟨h.1, h.2.1⟩, h.2.2⟩
  rw [e]
  cases runGo ws den (stepF ws den ps q) qs <;> rfl
theorem preO_app (a b : Ls) (x : Option (Ls × Ls)) : preO a (preO b x) = preO (a ++ b) x := by cases x <;> simp [preO]
def rkRun (ws : Ls) (den : Int) (ps qs : Ls) : Ls × Ls × Int :=
  if rkCheck ws den ≠ 0 then ([], [], rkCheck ws den) else if fitsB ws.length ps = false then ([], [], 3) else if 4096 < qs.length then ([], [], 10) else match runGo ws den ps qs with
    | some (p, o) => (p, o, 0)
    | none => ([], [], 1)
abbrev runT (x : Ls × Ls × Int) : AV := .tup [.agg [.lst (eL x.1)], .c (.lst (eL x.2.1)), I x.2.2]
def R_run : RT := fun args k => match args with
  | [.agg [.lst es, .sc (.int .i64 den)], .agg [.lst es2], .c (.lst es3)] => ∃ ws ps qs : Ls, es = eL ws ∧ es2 = eL ps ∧ es3 = eL qs ∧ ws.length ≤ 9223372036854775807 ∧ ps.length ≤ 9223372036854775807 ∧ qs.length ≤ 9223372036854775807 ∧ k (runT (rkRun ws den ps qs))
  | _ => False
def R_wrong : RT := fun args k => match args with
  | [.agg [.lst es, .sc (.int .i64 den)], .agg [.lst es2]] => ∃ ws ps : Ls, es = eL ws ∧ es2 = eL ps ∧ ws.length ≤ 9223372036854775807 ∧ ps.length ≤ 9223372036854775807 ∧ k (I (if rkCheck ws den ≠ 0 then rkCheck ws den else if fitsB ws.length ps = false then 3 else 0))
  | _ => False
theorem tab_succ (n : Nat) (g : Nat → Int) : tab (n + 1) g = tab n g ++ [g n] := by simp [tab, List.range_succ]
theorem sum_succ (n : Nat) (g : Nat → Int) : (tab (n + 1) g).sum = (tab n g).sum + g n := by rw [tab_succ, List.sum_append]; simp
theorem sum_shift (n : Nat) (g : Nat → Int) : (tab (n + 1) g).sum = g 0 + (tab n fun k => g (k + 1)).sum := by
  induction n with
  | zero => simp [tab]
  | succ n ih => rw [sum_succ, ih, sum_succ]; omega
theorem sum_add (n : Nat) (f g : Nat → Int) : (tab n fun k => f k + g k).sum = (tab n f).sum + (tab n g).sum := by
  induction n with
  | zero => simp [tab]
  | succ n ih => rw [sum_succ, sum_succ, sum_succ, ih]; omega
theorem sum_mul (n : Nat) (q : Int) (g : Nat → Int) : (tab n fun k => q * g k).sum = q * (tab n g).sum := by
  induction n with
  | zero => simp [tab]
  | succ n ih => rw [sum_succ, sum_succ, ih, Int.mul_add]
theorem sum_if0 (n : Nat) (c : Int) (h : 1 ≤ n) : (tab n fun k => if k = 0 then c else 0).sum = c := by
  induction n with
  | zero => omega
  | succ n ih =>
    rw [sum_succ]
    by_cases hn : n = 0
    · subst hn; simp [tab]
    · rw [ih (by omega), if_neg hn, Int.add_zero]
theorem sum_pad {ps : Ls} {n : Nat} (h : ps.length ≤ n) : (tab n (fP ps)).sum = ps.sum := by
  have e : tab ps.length (fP ps) = ps := by
    apply List.ext_getElem?
    intro j
    by_cases hj : j < ps.length
    · rw [tab_get hj, fP_at hj, List.getElem?_eq_getElem hj]
    · rw [List.getElem?_eq_none (by rw [tab_len]; omega), List.getElem?_eq_none (by omega)]
  have : ∀ m, (tab (ps.length + m) (fP ps)).sum = ps.sum := fun m => by
    induction m with
    | zero => rw [Nat.add_zero, e]
    | succ m ih => rw [← Nat.add_assoc, sum_succ, ih, fP_out (by omega), Int.add_zero]
  rw [show n = ps.length + (n - ps.length) by omega]
  exact this _
theorem trim_sum (l : Ls) : (trimZ l).sum = l.sum := by
  obtain ⟨⟨m, h⟩, _⟩ := trim_spec l
  conv => rhs; rw [h]
  rw [List.sum_append]
  have : ∀ m : Nat, (List.replicate m (0 : Int)).sum = 0 := fun m => by
    induction m with
    | zero => rfl
    | succ m ih => rw [List.replicate_succ, List.sum_cons, ih]; rfl
  have := this m
  omega
theorem tab_le {n : Nat} {g : Nat → Int} (h : ∀ k, 0 ≤ g k) {k : Nat} (hk : k < n) : g k ≤ (tab n g).sum ∧ 0 ≤ (tab n g).sum := by
  induction n with
  | zero => omega
  | succ n ih =>
    rw [sum_succ]
    have h0 : 0 ≤ (tab n g).sum := (sum_in (l := tab n g) (a := (tab n g).foldl max 0) ?_ ?_).1
    · have hn := h n
      by_cases hkn : k = n
      · subst hkn; omega
      · have := ih (by omega); omega
    · clear ih hk
      have : ∀ (l : Ls) (a : Int), a ≤ l.foldl max a := by
        intro l
        induction l with
        | nil => intro a; exact Int.le_refl _
        | cons x r ih => intro a; exact Int.le_trans (Int.le_max_left a x) (ih _)
      exact this _ _
    · intro x hx
      have hm : ∀ (l : Ls) (a : Int), ∀ x ∈ l, x ≤ l.foldl max a := by
        intro l
        induction l with
        | nil => intro a x hx; simp at hx
        | cons y r ih =>
          intro a x hx
          have hge : ∀ (l : Ls) (a : Int), a ≤ l.foldl max a := by
            intro l
            induction l with
            | nil => intro a; exact Int.le_refl _
            | cons x r ih => intro a; exact Int.le_trans (Int.le_max_left a x) (ih _)
          rcases List.mem_cons.1 hx with rfl | hx
          · exact Int.le_trans (Int.le_max_right a x) (hge _ _)
          · exact ih _ x hx
      unfold tab at hx
      obtain ⟨j, hj, rfl⟩ := List.mem_map.1 hx
      exact ⟨h j, hm _ _ _ (by unfold tab; exact List.mem_map.2 ⟨j, hj, rfl⟩)⟩
/-- What a step keeps. -/
theorem g_sum {ws : Ls} {den : Int} {ps : Ls} {q : Int} (hr : rkCheck ws den = 0) (hf : fitsB ws.length ps = true) : (tab (ws.length + 1) (gP ws ps q)).sum = ps.sum + q * den := by
  obtain ⟨hn1, hn2, hw, hd1, hd2, hsum, _⟩ := rk_facts hr
  obtain ⟨hpl, _, _, hp⟩ := fits_facts hf
  have e : tab (ws.length + 1) (gP ws ps q) = tab (ws.length + 1) fun k => fP ps k + q * fP ws k := rfl
  rw [e, sum_add, sum_mul, sum_pad (by omega), sum_pad (by omega), hsum]
theorem step_sum {ws : Ls} {den : Int} {ps : Ls} {q : Int} (hr : rkCheck ws den = 0) (hf : fitsB ws.length ps = true) : (stepF ws den ps q).sum = ps.sum + q * den - den * outF ws den ps q := by
  obtain ⟨hn1, _⟩ := rk_facts hr
  have h1 := g_sum (q := q) hr hf
  rw [sum_shift] at h1
  have e : tab ws.length (hP ws den ps q) = tab ws.length fun k => gP ws ps q (k + 1) + if k = 0 then gP ws ps q 0 % den else 0 := rfl
  unfold stepF outF
  rw [trim_sum, e, sum_add, sum_if0 _ _ hn1]
  have h2 := Int.mul_ediv_add_emod (gP ws ps q 0) den
  omega
theorem fits_sum {n : Nat} {ps : Ls} (h : fitsB n ps = true) : 0 ≤ ps.sum := by
  obtain ⟨_, _, hp, _⟩ := fits_facts h
  exact (sum_in (l := ps) (a := 2251799813685248) (by omega) hp).1
theorem step_ok_of {ws : Ls} {den : Int} {ps : Ls} {q : Int} (hr : rkCheck ws den = 0) (hf : fitsB ws.length ps = true) (h0 : 0 ≤ q) (h1 : q ≤ 1073741824) (hb : ps.sum + q * den ≤ 1125899906842624) : stepOk ws ps q ∧ 0 ≤ outF ws den ps q := by
  obtain ⟨hn1, hn2, hw, hd1, hd2, hsum, _⟩ := rk_facts hr
  obtain ⟨hpl, _, _, hp⟩ := fits_facts hf
  have hg := g_in hw hp h0 h1
  refine ⟨fun k hk => ?_, Int.ediv_nonneg (hg 0).2.1 (by omega)⟩
  have := (tab_le (n := ws.length + 1) (g := gP ws ps q) (fun k => (hg k).2.1) (k := k) (by omega)).1
  rw [g_sum hr hf] at this
  omega
/-- A run of small flows. -/
theorem runGo_ok {ws : Ls} {den : Int} (hr : rkCheck ws den = 0) : ∀ (qs ps : Ls), fitsB ws.length ps = true → (∀ q ∈ qs, 0 ≤ q ∧ q ≤ 1073741824) → ps.sum + den * qs.sum ≤ 1125899906842624 →
    ∃ p o, runGo ws den ps qs = some (p, o) ∧ o.length = qs.length ∧ fitsB ws.length p = true ∧ p.sum + den * o.sum = ps.sum + den * qs.sum ∧ ∀ x ∈ o, 0 ≤ x
  | [], ps, hf, _, _ => ⟨ps, [], rfl, rfl, hf, rfl, fun x hx => by simp at hx⟩
  | q :: qs, ps, hf, hq, hb => by
    obtain ⟨_, _, _, hd1, _⟩ := rk_facts hr
    have h0 := hq q (by simp)
    have hqs : ∀ x ∈ qs, 0 ≤ x ∧ x ≤ 1073741824 := fun x hx => hq x (by simp [hx])
    have hs := (sum_in (l := qs) (a := 1073741824) (by omega) hqs).1
    have hds : 0 ≤ den * qs.sum := Int.mul_nonneg (by omega) hs
    rw [List.sum_cons, Int.mul_add] at hb
    have hcm : den * q = q * den := Int.mul_comm _ _
    obtain ⟨h1, h2⟩ := step_ok_of hr hf h0.1 h0.2 (by omega)
    have h3 := step_fits hr hf h0.1 h0.2 h1
    have h4 := step_sum (q := q) hr hf
    have h5 : 0 ≤ den * outF ws den ps q := Int.mul_nonneg (by omega) h2
    obtain ⟨p, o, r1, r2, r3, r4, r5⟩ := runGo_ok hr qs (stepF ws den ps q) h3 hqs (by omega)
    refine ⟨p, outF ws den ps q :: o, ?_, by simp [r2], r3, ?_, fun x hx => ?_⟩
    · rw [runGo_good ⟨h0.1, h0.2, h1⟩, r1]; rfl
    · rw [List.sum_cons, List.sum_cons, Int.mul_add, Int.mul_add]; omega
    · rcases List.mem_cons.1 hx with rfl | hx
      · exact h2
      · exact r5 x hx
theorem rkRun_ok {ws : Ls} {den : Int} {ps qs : Ls} (hr : rkCheck ws den = 0) (hf : fitsB ws.length ps = true) (hl : qs.length ≤ 4096) {p o : Ls} (h : runGo ws den ps qs = some (p, o)) : rkRun ws den ps qs = (p, o, 0) := by
  unfold rkRun
  rw [if_neg (by rw [hr]; simp), if_neg (by rw [hf]; simp), if_neg (by omega), h]
theorem fits_nil (n : Nat) : fitsB n [] = true := by simp [fitsB]
def rkStep (ws : Ls) (den : Int) (ps : Ls) (q : Int) : Ls × Int × Int := if (rkRun ws den ps [q]).2.2 ≠ 0 then ([], 0, (rkRun ws den ps [q]).2.2) else ((rkRun ws den ps [q]).1, (rkRun ws den ps [q]).2.1.headD 0, 0)
def R_stepA : RT := fun args k => match args with
  | [.agg [.lst es, .sc (.int .i64 den)], .agg [.lst es2], .c (.sc (.int .i64 q))] => ∃ ws ps : Ls, es = eL ws ∧ es2 = eL ps ∧ ws.length ≤ 9223372036854775807 ∧ ps.length ≤ 9223372036854775807 ∧
      k (.tup [.agg [.lst (eL (rkStep ws den ps q).1)], I (rkStep ws den ps q).2.1, I (rkStep ws den ps q).2.2])
  | _ => False
theorem runGo_len {ws : Ls} {den : Int} : ∀ {qs ps p o : Ls}, runGo ws den ps qs = some (p, o) → o.length = qs.length
  | [], ps, p, o, h => by simp [runGo] at h; simp [← h.2]
  | q :: qs, ps, p, o, h => by
    by_cases hg : 0 ≤ q ∧ q ≤ 1073741824 ∧ stepOk ws ps q
    · rw [runGo_good hg] at h
      cases hr : runGo ws den (stepF ws den ps q) qs with
      | none => rw [hr] at h; cases h
      | some x =>
        rw [hr] at h
        simp [preO] at h
        rw [← h.2]
        simp [runGo_len hr]
    · rw [runGo_bad hg] at h; cases h
theorem rkRun_len {ws : Ls} {den : Int} {ps qs : Ls} (h : (rkRun ws den ps qs).2.2 = 0) : (rkRun ws den ps qs).2.1.length = qs.length := by
  unfold rkRun at h ⊢
  split at h
  · rename_i h1; exact absurd h h1
  · split at h
    · cases h
    · split at h
      · cases h
      · rename_i h1 h2 h3
        rw [if_neg h1, if_neg h2, if_neg h3]
        cases hr : runGo ws den ps qs with
        | none => rw [hr] at h; cases h
        | some x => exact runGo_len hr
theorem sum_nn : ∀ {l : Ls}, (∀ x ∈ l, 0 ≤ x) → 0 ≤ l.sum ∧ ∀ x ∈ l, x ≤ l.sum
  | [], _ => ⟨by simp, fun x hx => by simp at hx⟩
  | y :: r, h => by
    obtain ⟨h1, h2⟩ := sum_nn (l := r) (fun x hx => h x (by simp [hx]))
    have h0 := h y (by simp)
    rw [List.sum_cons]
    refine ⟨by omega, fun x hx => ?_⟩
    rcases List.mem_cons.1 hx with rfl | hx
    · omega
    · have := h2 x hx; omega
/-- A wave, made by a run of a few flows. -/
def R_wave : RB := fun cs args k => match args with
  | [.agg [.lst es, .sc (.int .i64 den)]] => ∃ d : Dk, ∃ ws : Ls, es = eL ws ∧ cs = dkC d ∧ d.ok ∧ rkCheck ws den = 0 ∧ ∀ (ps : Ls) d', Dk.ok d' → fitsB ws.length ps = true → ps.sum ≤ 24000000 → k (.agg [.lst (eL ps)]) (dkC d')
  | _ => False
theorem wave_law {ws : Ls} {den : Int} (hr : rkCheck ws den = 0) {qs : Ls} (hq : ∀ q ∈ qs, 0 ≤ q ∧ q < 20) (hl : qs.length ≤ 5) : ∃ p o, rkRun ws den [] qs = (p, o, 0) ∧ fitsB ws.length p = true ∧ p.sum ≤ 24000000 := by
  obtain ⟨a1, a2, _, a4, a5, a6, _⟩ := rk_facts hr
  have hqs := sum_in (l := qs) (a := 20) (by omega) (fun q h => by have := hq q h; omega)
  have hqb : qs.sum ≤ 100 := by omega
  have hdq : den * qs.sum ≤ 240000 * 100 := Int.mul_le_mul a5 hqb hqs.1 (by omega)
  obtain ⟨p, o, r1, r2, r3, r4, r5⟩ := runGo_ok hr qs [] (fits_nil _) (fun q h => by have := hq q h; omega) (by simp; omega)
  have hos := (sum_nn r5).1
  have := Int.mul_nonneg (show 0 ≤ den by omega) hos
  simp at r4
  exact ⟨p, o, rkRun_ok hr (fits_nil _) (by omega) r1, r3, by omega⟩
theorem kS {k : AV → Prop} {r : Ls × Int × Int} {a : Ls} {b c : Int} (h : k (.tup [.agg [.lst (eL r.1)], I r.2.1, I r.2.2])) (e : r = (a, b, c)) : k (.tup [.agg [.lst (eL a)], I b, I c]) := by subst e; exact h
theorem rkRun_err {ws : Ls} {den : Int} {ps qs : Ls} (h : rkCheck ws den ≠ 0) : rkRun ws den ps qs = ([], [], rkCheck ws den) := by rw [rkRun, if_pos h]
theorem rkRun_out {ws : Ls} {den : Int} {ps qs : Ls} : (rkRun ws den ps qs).2.1.length ≤ qs.length := by
  by_cases h : (rkRun ws den ps qs).2.2 = 0
  · rw [rkRun_len h]; exact Nat.le_refl _
  · unfold rkRun at h ⊢
    split
    · simp
    · split
      · simp
      · split
        · simp
        · split
          · rename_i h1 h2 h3 _ p o hr
            rw [if_neg h1, if_neg h2, if_neg h3, hr] at h
            exact absurd rfl h
          · simp
end Go.Proofs
