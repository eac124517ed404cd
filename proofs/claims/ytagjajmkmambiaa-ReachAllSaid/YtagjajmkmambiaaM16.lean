/- Proved here: what functions of the given program come to, for the statements of this chapter; no condition but those in the theorems. -/
import Derived.Test.YtagjajmkmambiaaL16i
namespace Go.Proofs
open Go.Abs
set_option linter.unusedSimpArgs false
set_option linter.unusedVariables false
theorem tab_succ (n : Nat) (g : Nat → Int) : tab (n + 1) g = tab n g ++ [g n] := by simp [tab, List.range_succ]
theorem sum_succ (n : Nat) (g : Nat → Int) : (tab (n + 1) g).sum = (tab n g).sum + g n := by rw [tab_succ, List.sum_append]; simp
theorem sum_shift (n : Nat) (g : Nat → Int) : (tab (n + 1) g).sum = g 0 + (tab n fun k => g (k + 1)).sum := by
  induction n with
  | zero => simp [tab]
  | succ n ih => rw [sum_succ, ih, sum_succ]; omega
theorem sum_add (n : Nat) (f g : Nat → Int) : (tab n fun k => f k + g k).sum = (tab n f).sum + (tab n g).sum := by
  induction n with
  | zero => simp [tab]
  | succ n ih => rw [sum_succ, sum_succ, sum_succ, ih]; omega
theorem sum_mul (n : Nat) (q : Int) (g : Nat → Int) : (tab n fun k => q * g k).sum = q * (tab n g).sum := by
  induction n with
  | zero => simp [tab]
  | succ n ih => rw [sum_succ, sum_succ, ih, Int.mul_add]
theorem sum_if0 (n : Nat) (c : Int) (h : 1 ≤ n) : (tab n fun k => if k = 0 then c else 0).sum = c := by
  induction n with
  | zero => omega
  | succ n ih =>
    rw [sum_succ]
    by_cases hn : n = 0
    · subst hn; simp [tab]
    · rw [ih (by omega), if_neg hn, Int.add_zero]
theorem sum_pad {ps : Ls} {n : Nat} (h : ps.length ≤ n) : (tab n (fP ps)).sum = ps.sum := by
  have e : tab ps.length (fP ps) = ps := by
    apply List.ext_getElem?
    intro j
    by_cases hj : j < ps.length
    · rw [tab_get hj, fP_at hj, List.getElem?_eq_getElem hj]
    · rw [List.getElem?_eq_none (by rw [tab_len]; omega), List.getElem?_eq_none (by omega)]
  have : ∀ m, (tab (ps.length + m) (fP ps)).sum = ps.sum := fun m => by
    induction m with
    | zero => rw [Nat.add_zero, e]
    | succ m ih => rw [← Nat.add_assoc, sum_succ, ih, fP_out (by omega), Int.add_zero]
  rw [show n = ps.length + (n - ps.length) by omega]
  exact this _
theorem trim_sum (l : Ls) : (trimZ l).sum = l.sum := by
  obtain ⟨⟨m, h⟩, _⟩ := trim_spec l
  conv => rhs; rw [h]
  rw [List.sum_append]
  have : ∀ m : Nat, (List.replicate m (0 : Int)).sum = 0 := fun m => by
    induction m with
    | zero => rfl
    | succ m ih => rw [List.replicate_succ, List.sum_cons, ih]; rfl
  have := this m
  omega
theorem tab_le {n : Nat} {g : Nat → Int} (h : ∀ k, 0 ≤ g k) {k : Nat} (hk : k < n) : g k ≤ (tab n g).sum ∧ 0 ≤ (tab n g).sum := by
  induction n with
  | zero => omega
  | succ n ih =>
    rw [sum_succ]
    have h0 : 0 ≤ (tab n g).sum := (sum_in (l := tab n g) (a := (tab n g).foldl max 0) ?_ ?_).1
    · have hn := h n
      by_cases hkn : k = n
      · subst hkn; omega
      · have := ih (by omega); omega
    · clear ih hk
      have : ∀ (l : Ls) (a : Int), a ≤ l.foldl max a := by
        intro l
        induction l with
        | nil => intro a; exact Int.le_refl _
        | cons x r ih => intro a; exact Int.le_trans (Int.le_max_left a x) (ih _)
      exact this _ _
    · intro x hx
      have hm : ∀ (l : Ls) (a : Int), ∀ x ∈ l, x ≤ l.foldl max a := by
        intro l
        induction l with
        | nil => intro a x hx; simp at hx
        | cons y r ih =>
          intro a x hx
          have hge : ∀ (l : Ls) (a : Int), a ≤ l.foldl max a := by
            intro l
            induction l with
            | nil => intro a; exact Int.le_refl _
            | cons x r ih => intro a; exact Int.le_trans (Int.le_max_left a x) (ih _)
          rcases List.mem_cons.1 hx with rfl | hx
          · exact Int.le_trans (Int.le_max_right a x) (hge _ _)
          · exact ih _ x hx
      unfold tab at hx
      obtain ⟨j, hj, rfl⟩ := List.mem_map.1 hx
      exact ⟨h j, hm _ _ _ (by unfold tab; exact List.mem_map.2 ⟨j, hj, rfl⟩)⟩
/-- What a step keeps. -/
theorem g_sum {ws : Ls} {den : Int} {ps : Ls} {q : Int} (hr : rkCheck ws den = 0) (hf : fitsB ws.length ps = true) : (tab (ws.length + 1) (gP ws ps q)).sum = ps.sum + q * den := by
  obtain ⟨hn1, hn2, hw, hd1, hd2, hsum, _⟩ := rk_facts hr
  obtain ⟨hpl, _, _, hp⟩ := fits_facts hf
  have e : tab (ws.length + 1) (gP ws ps q) = tab (ws.length + 1) fun k => fP ps k + q * fP ws k := rfl
  rw [e, sum_add, sum_mul, sum_pad (by omega), sum_pad (by omega), hsum]
theorem step_sum {ws : Ls} {den : Int} {ps : Ls} {q : Int} (hr : rkCheck ws den = 0) (hf : fitsB ws.length ps = true) : (stepF ws den ps q).sum = ps.sum + q * den - den * outF ws den ps q := by
  obtain ⟨hn1, _⟩ := rk_facts hr
  have h1 := g_sum (q := q) hr hf
  rw [sum_shift] at h1
  have e : tab ws.length (hP ws den ps q) = tab ws.length fun k => gP ws ps q (k + 1) + if k = 0 then gP ws ps q 0 % den else 0 := rfl
  unfold stepF outF
  rw [trim_sum, e, sum_add, sum_if0 _ _ hn1]
  have h2 := Int.mul_ediv_add_emod (gP ws ps q 0) den
  omega
theorem fits_sum {n : Nat} {ps : Ls} (h : fitsB n ps = true) : 0 ≤ ps.sum := by
  obtain ⟨_, _, hp, _⟩ := fits_facts h
  exact (sum_in (l := ps) (a := 2251799813685248) (by omega) hp).1
theorem step_ok_of {ws : Ls} {den : Int} {ps : Ls} {q : Int} (hr : rkCheck ws den = 0) (hf : fitsB ws.length ps = true) (h0 : 0 ≤ q) (h1 : q ≤ 1073741824) (hb : ps.sum + q * den ≤ 1125899906842624) : stepOk ws ps q ∧ 0 ≤ outF ws den ps q := by
  obtain ⟨hn1, hn2, hw, hd1, hd2, hsum, _⟩ := rk_facts hr
  obtain ⟨hpl, _, _, hp⟩ := fits_facts hf
  have hg := g_in hw hp h0 h1
  refine ⟨fun k hk => ?_, Int.ediv_nonneg (hg 0).2.1 (by omega)⟩
  have := (tab_le (n := ws.length + 1) (g := gP ws ps q) (fun k => (hg k).2.1) (k := k) (by omega)).1
  rw [g_sum hr hf] at this
  omega
/-- A run of small flows. -/
theorem runGo_ok {ws : Ls} {den : Int} (hr : rkCheck ws den = 0) : ∀ (qs ps : Ls), fitsB ws.length ps = true → (∀ q ∈ qs, 0 ≤ q ∧ q ≤ 1073741824) → ps.sum + den * qs.sum ≤ 1125899906842624 →
    ∃ p o, runGo ws den ps qs = some (p, o) ∧ o.length = qs.length ∧ fitsB ws.length p = true ∧ p.sum + den * o.sum = ps.sum + den * qs.sum ∧ ∀ x ∈ o, 0 ≤ x
  | [], ps, hf, _, _ => ⟨ps, [], rfl, rfl, hf, rfl, fun x hx => by simp at hx⟩
  | q :: qs, ps, hf, hq, hb => by
    obtain ⟨_, _, _, hd1, _⟩ := rk_facts hr
    have h0 := hq q (by simp)
    have hqs : ∀ x ∈ qs, 0 ≤ x ∧ x ≤ 1073741824 := fun x hx => hq x (by simp [hx])
    have hs := (sum_in (l := qs) (a := 1073741824) (by omega) hqs).1
    have hds : 0 ≤ den * qs.sum := Int.mul_nonneg (by omega) hs
    rw [List.sum_cons, Int.mul_add] at hb
    have hcm : den * q = q * den := Int.mul_comm _ _
    obtain ⟨h1, h2⟩ := step_ok_of hr hf h0.1 h0.2 (by omega)
    have h3 := step_fits hr hf h0.1 h0.2 h1
    have h4 := step_sum (q := q) hr hf
    have h5 : 0 ≤ den * outF ws den ps q := Int.mul_nonneg (by omega) h2
    obtain ⟨p, o, r1, r2, r3, r4, r5⟩ := runGo_ok hr qs (stepF ws den ps q) h3 hqs (by omega)
    refine ⟨p, outF ws den ps q :: o, ?_, by simp [r2], r3, ?_, fun x hx => ?_⟩
    · rw [runGo_good ⟨h0.1, h0.2, h1⟩, r1]; rfl
    · rw [List.sum_cons, List.sum_cons, Int.mul_add, Int.mul_add]; omega
    · rcases List.mem_cons.1 hx with rfl | hx
      · exact h2
      · exact r5 x hx
theorem rkRun_ok {ws : Ls} {den : Int} {ps qs : Ls} (hr : rkCheck ws den = 0) (hf : fitsB ws.length ps = true) (hl : qs.length ≤ 4096) {p o : Ls} (h : runGo ws den ps qs = some (p, o)) : rkRun ws den ps qs = (p, o, 0) := by
  unfold rkRun
  rw [if_neg (by rw [hr]; simp), if_neg (by rw [hf]; simp), if_neg (by omega), h]
theorem fits_nil (n : Nat) : fitsB n [] = true := by simp [fitsB]
end Go.Proofs
