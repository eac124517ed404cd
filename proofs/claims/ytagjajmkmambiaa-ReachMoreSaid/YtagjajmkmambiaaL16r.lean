/- More inflow, not less outflow; a run in two parts: the plain law. -/
import Derived.Test.YtagjajmkmambiaaL16p
import Derived.Test.YtagjajmkmambiaaL16j
namespace Go.Proofs
open Go Go.Abs
theorem runGo_app {ws : Ls} {den : Int} : ∀ (q1 q2 ps : Ls), runGo ws den ps (q1 ++ q2) = match runGo ws den ps q1 with
    | some (p, o) => preO o (runGo ws den p q2)
    | none => none
  | [], q2, ps => by
    simp only [runGo, List.nil_append]
    cases runGo ws den ps q2 <;> simp [preO]
  | q :: q1, q2, ps => by
    rw [List.cons_append]
    by_cases hg : 0 ≤ q ∧ q ≤ 1073741824 ∧ stepOk ws ps q
    · rw [runGo_good hg, runGo_good hg, runGo_app q1 q2]
      cases runGo ws den (stepF ws den ps q) q1 with
      | none => rfl
      | some u =>
        obtain ⟨p, o⟩ := u
        simp only [preO]
        cases runGo ws den p q2 <;> simp [preO]
    · rw [runGo_bad hg, runGo_bad hg]
/-- Up to any step not less. -/
def prefLe : Ls → Ls → Int → Prop
  | x :: r, y :: t, D => 0 ≤ D + y - x ∧ prefLe r t (D + y - x)
  | _, _, _ => True
theorem prefLe_at : ∀ {p q : Ls} {D : Int}, prefLe p q D → p.length = q.length → 0 ≤ D → ∀ i, i ≤ p.length → (p.take i).sum ≤ D + (q.take i).sum
  | [], [], D, _, _, h0, i, hi => by simp at hi; subst hi; simp; exact h0
  | x :: r, y :: t, D, h, hl, h0, i, hi => by
    cases i with
    | zero => simp; exact h0
    | succ i =>
      have := prefLe_at h.2 (by simpa using hl) h.1 i (by simpa using hi)
      rw [List.take_succ_cons, List.take_succ_cons, List.sum_cons, List.sum_cons]
      omega
  | [], _ :: _, _, _, hl, _, _, _ => by simp at hl
  | _ :: _, [], _, _, hl, _, _, _ => by simp at hl
def More (den : Int) (a b : Ls) (D : Int) : Prop := (∀ k, fP a (k + 1) ≤ fP b (k + 1)) ∧ fP a 0 ≤ fP b 0 + den * D
theorem more_run {ws : Ls} {den : Int} (hr : rkCheck ws den = 0) : ∀ (q1 q2 a b p1 o1 p2 o2 : Ls) (D : Int), q1.length = q2.length → (∀ i, fP q1 i ≤ fP q2 i) → a.length ≤ ws.length → b.length ≤ ws.length → More den a b D →
    runGo ws den a q1 = some (p1, o1) → runGo ws den b q2 = some (p2, o2) → prefLe o1 o2 D
  | [], [], a, b, p1, o1, p2, o2, D, _, _, _, _, _, h1, h2 => by
    simp [runGo] at h1 h2
    rw [h1.2, h2.2]
    trivial
  | x :: q1, y :: q2, a, b, p1, o1, p2, o2, D, hl, hq, ha, hb, hm, h1, h2 => by
    obtain ⟨hn1, _, hw, hd1, _⟩ := rk_facts hr
    by_cases g1 : 0 ≤ x ∧ x ≤ 1073741824 ∧ stepOk ws a x
    · by_cases g2 : 0 ≤ y ∧ y ≤ 1073741824 ∧ stepOk ws b y
      · rw [runGo_good g1] at h1
        rw [runGo_good g2] at h2
        cases r1 : runGo ws den (stepF ws den a x) q1 with
        | none => rw [r1] at h1; cases h1
        | some u1 =>
        cases r2 : runGo ws den (stepF ws den b y) q2 with
        | none => rw [r2] at h2; cases h2
        | some u2 =>
        have hxy : x ≤ y := by have := hq 0; simpa [fP] using this
        have hgk : ∀ k, gP ws a x k ≤ gP ws b y k + (fP a k - fP b k) := fun k => by
          have := Int.mul_le_mul_of_nonneg_right hxy (hw k).1
          unfold gP
          omega
        have hg1 : ∀ k, gP ws a x (k + 1) ≤ gP ws b y (k + 1) := fun k => by have := hgk (k + 1); have := hm.1 k; omega
        have hg0 : gP ws a x 0 ≤ gP ws b y 0 + den * D := by have := hgk 0; have := hm.2; omega
        have hD : outF ws den a x ≤ D + outF ws den b y := by
          unfold outF
          have := Int.ediv_le_ediv (show 0 < den by omega) hg0
          rw [Int.add_mul_ediv_left _ _ (by omega)] at this
          omega
        have hl' : ∀ ps q, (stepF ws den ps q).length ≤ ws.length := fun ps q => by
          unfold stepF
          exact Nat.le_trans (trim_len _) (by rw [tab_len]; exact Nat.le_refl _)
        have hms : More den (stepF ws den a x) (stepF ws den b y) (D + outF ws den b y - outF ws den a x) := by
          refine ⟨fun k => ?_, ?_⟩
          · rw [step_fP' hn1 ha, step_fP' hn1 hb]
            unfold hP
            rw [if_neg (by omega), if_neg (by omega)]
            have := hg1 (k + 1)
            omega
          · rw [step_fP' hn1 ha, step_fP' hn1 hb]
            unfold hP outF
            rw [if_pos rfl, if_pos rfl]
            have e1 := Int.mul_ediv_add_emod (gP ws a x 0) den
            have e2 := Int.mul_ediv_add_emod (gP ws b y 0) den
            have := hg1 0
            rw [Int.mul_sub, Int.mul_add]
            omega
        have ih := more_run hr q1 q2 _ _ _ _ _ _ _ (by simpa using hl) (fun i => by have := hq (i + 1); simpa [fP] using this) (hl' _ _) (hl' _ _) hms r1 r2
        rw [r1] at h1
        rw [r2] at h2
        simp [preO] at h1 h2
        rw [← h1.2, ← h2.2]
        exact ⟨by omega, ih⟩
      · rw [runGo_bad g2] at h2; cases h2
    · rw [runGo_bad g1] at h1; cases h1
  | [], _ :: _, _, _, _, _, _, _, _, hl, _, _, _, _, _, _ => by simp at hl
  | _ :: _, [], _, _, _, _, _, _, _, hl, _, _, _, _, _, _ => by simp at hl
theorem run_mid {ws : Ls} {den : Int} (hr : rkCheck ws den = 0) {ps : Ls} (hf : fitsB ws.length ps = true) (hs : ps.sum ≤ 100000000) {qs : Ls} (hq : ∀ q ∈ qs, 0 ≤ q ∧ q ≤ 49) (hl : qs.length ≤ 10) :
    ∃ p o, runGo ws den ps qs = some (p, o) ∧ rkRun ws den ps qs = (p, o, 0) ∧ o.length = qs.length ∧ fitsB ws.length p = true ∧ p.sum ≤ ps.sum + 240000 * qs.sum ∧ ∀ x ∈ o, 0 ≤ x ∧ x ≤ 300000000 := by
  obtain ⟨a1, a2, _, a4, a5, a6, _⟩ := rk_facts hr
  have hqs := sum_in (l := qs) (a := 49) (by omega) hq
  have hqb : qs.sum ≤ 490 := by omega
  have hdq : den * qs.sum ≤ 240000 * qs.sum := Int.mul_le_mul_of_nonneg_right a5 hqs.1
  obtain ⟨p, o, r1, r2, r3, r4, r5⟩ := runGo_ok hr qs ps hf (fun q h => by have := hq q h; omega) (by omega)
  obtain ⟨s1, s2⟩ := sum_nn r5
  have h0 := fits_sum r3
  have h1 := fits_sum hf
  have hos : o.sum ≤ den * o.sum := by have := Int.mul_le_mul_of_nonneg_right a4 s1; omega
  have hdos : 0 ≤ den * o.sum := Int.mul_nonneg (by omega) s1
  exact ⟨p, o, r1, rkRun_ok hr hf (by omega) r1, r2, r3, by omega, fun x hx => ⟨r5 x hx, by have := s2 x hx; omega⟩⟩
theorem more_law {ws : Ls} {den : Int} (hr : rkCheck ws den = 0) {ps : Ls} (hf : fitsB ws.length ps = true) (hs : ps.sum ≤ 24000000) {a : Ls} (ha : ∀ q ∈ a, 0 ≤ q ∧ q < 30) (hl : a.length = 10) {j : Nat} (hj : j < a.length) {y : Int} (hy0 : 0 ≤ y) (hy : y < 20) {k : Nat} (hk : k ≤ 10) :
    ∃ x p x' q z u v, rkRun ws den ps a = (x, p, 0) ∧ rkRun ws den ps (a.set j (a[j] + y)) = (x', q, 0) ∧ rkRun ws den ps (a.take k) = (z, u, 0) ∧ rkRun ws den z (a.drop k) = (x, v, 0) ∧ p = u ++ v ∧ p.length = 10 ∧ q.length = 10 ∧
      (∀ n ∈ p, 0 ≤ n ∧ n ≤ 300000000) ∧ (∀ n ∈ q, 0 ≤ n ∧ n ≤ 300000000) ∧ prefLe p q 0 ∧ x.length ≤ 24 ∧ z.length ≤ 24 ∧ u.length ≤ 10 ∧ v.length ≤ 10 := by
  have ha' : ∀ q ∈ a, 0 ≤ q ∧ q ≤ 29 := fun q h => by have := ha q h; omega
  have hjv := ha _ (List.getElem_mem hj)
  have hb : ∀ q ∈ a.set j (a[j] + y), 0 ≤ q ∧ q ≤ 49 := fun q h => by
    rcases List.mem_or_eq_of_mem_set h with h | h
    · have := ha q h; omega
    · omega
  obtain ⟨x, p, c1, c2, c3, c4, c5, c6⟩ := run_mid hr hf (by omega) (qs := a) (fun q h => by have := ha q h; omega) (by omega)
  obtain ⟨x', q, d1, d2, d3, d4, d5, d6⟩ := run_mid hr hf (by omega) hb (by rw [List.length_set]; omega)
  have hts := sum_in (l := a.take k) (a := 29) (by omega) (fun q h => ha' q (List.mem_of_mem_take h))
  have htl : (a.take k).length ≤ 10 := by rw [List.length_take]; omega
  obtain ⟨z, u, e1, e2, e3, e4, e5, e6⟩ := run_mid hr hf (by omega) (qs := a.take k) (fun q h => by have := ha q (List.mem_of_mem_take h); omega) htl
  have happ := runGo_app (ws := ws) (den := den) (a.take k) (a.drop k) ps
  rw [List.take_append_drop, c1, e1] at happ
  simp only at happ
  cases g : runGo ws den z (a.drop k) with
  | none => rw [g] at happ; cases happ
  | some w =>
    obtain ⟨x2, v⟩ := w
    rw [g] at happ
    simp [preO] at happ
    obtain ⟨rfl, rfl⟩ := happ
    have hvl := runGo_len g
    rw [List.length_drop] at hvl
    obtain ⟨a1, a2, _, a4, a5, a6, _⟩ := rk_facts hr
    have hx := (fits_facts c4).1
    have hz := (fits_facts e4).1
    refine ⟨x, u ++ v, x', q, z, u, v, c2, d2, e2, rkRun_ok hr e4 (by rw [List.length_drop]; omega) g, rfl, by omega, by rw [d3, List.length_set]; omega, c6, d6, ?_, by omega, by omega, by omega, by omega⟩
    refine more_run hr a (a.set j (a[j] + y)) ps ps _ _ _ _ 0 (by rw [List.length_set]) (fun i => ?_) (fits_facts hf).1 (fits_facts hf).1 ⟨fun _ => Int.le_refl _, by omega⟩ c1 d1
    by_cases hi : i < a.length
    · rw [fP_at hi, fP_at (by rw [List.length_set]; exact hi), List.getElem_set]
      split
      · rename_i e; subst e; omega
      · exact Int.le_refl _
    · rw [fP_out (by omega), fP_out (by rw [List.length_set]; omega)]; exact Int.le_refl _
end Go.Proofs
