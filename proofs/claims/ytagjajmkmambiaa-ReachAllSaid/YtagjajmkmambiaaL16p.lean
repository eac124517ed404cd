/- Without inflow a reach empties: the plain law. -/
import Derived.Test.YtagjajmkmambiaaL16n
namespace Go.Proofs
open Go Go.Abs
theorem gP_zero (ws ps : Ls) (k : Nat) : gP ws ps 0 k = fP ps k := by unfold gP; rw [Int.zero_mul]; omega
theorem last_fP {l : Ls} (h : l.getLast? ≠ some 0) (h0 : l.length ≠ 0) : fP l (l.length - 1) ≠ 0 := by
  rw [fP_at (by omega)]
  intro e
  rw [last_at h0, e] at h
  exact h rfl
theorem len_fP {l : Ls} (h : l.getLast? ≠ some 0) {L : Nat} (hz : ∀ k, L ≤ k → fP l k = 0) : l.length ≤ L := by
  rcases Nat.lt_or_ge L l.length with hl | hl
  · exact absurd (hz (l.length - 1) (by omega)) (last_fP h (by omega))
  · exact hl
theorem ext_fP {a b : Ls} (ha : a.getLast? ≠ some 0) (hb : b.getLast? ≠ some 0) (h : ∀ k, fP a k = fP b k) : a = b := by
  have h1 := len_fP ha (L := b.length) fun k hk => by rw [h]; exact fP_out hk
  have h2 := len_fP hb (L := a.length) fun k hk => by rw [← h]; exact fP_out hk
  refine List.ext_getElem (by omega) fun i hi hi' => ?_
  have := h i
  rwa [fP_at hi, fP_at hi'] at this
theorem zero_step {ws : Ls} {den : Int} (h1 : 1 ≤ ws.length) {ps : Ls} (hl : ps.length ≤ ws.length) {L : Nat} (hz : ∀ k, L ≤ k → fP ps k = 0) :
    (∀ k, max (L - 1) 1 ≤ k → fP (stepF ws den ps 0) k = 0) ∧ (L ≤ 1 → fP (stepF ws den ps 0) 0 = fP ps 0 % den) := by
  refine ⟨fun k hk => ?_, fun hL => ?_⟩
  · rw [step_fP' h1 hl]
    unfold hP
    rw [gP_zero, if_neg (by omega), hz (k + 1) (by omega)]; rfl
  · rw [step_fP' h1 hl]
    unfold hP
    rw [gP_zero, gP_zero, if_pos rfl, hz 1 hL]; omega
theorem zero_run {ws : Ls} {den : Int} (hr : rkCheck ws den = 0) : ∀ (m : Nat) (ps p o : Ls) (L : Nat), 1 ≤ L → fitsB ws.length ps = true → (∀ k, L ≤ k → fP ps k = 0) → runGo ws den ps (List.replicate m 0) = some (p, o) →
    (∀ k, max (L - m) 1 ≤ k → fP p k = 0) ∧ (1 ≤ m → L ≤ m → fP p 0 < den)
  | 0, ps, p, o, L, hL, hf, hz, h => by
    simp [runGo] at h
    obtain ⟨rfl, rfl⟩ := h
    exact ⟨fun k hk => hz k (by omega), fun h => by omega⟩
  | m + 1, ps, p, o, L, hL, hf, hz, h => by
    obtain ⟨hn1, _, _, hd1, _⟩ := rk_facts hr
    obtain ⟨hpl, _, _, hp⟩ := fits_facts hf
    rw [List.replicate_succ] at h
    by_cases hg : (0 : Int) ≤ 0 ∧ (0 : Int) ≤ 1073741824 ∧ stepOk ws ps 0
    · rw [runGo_good hg] at h
      cases hr1 : runGo ws den (stepF ws den ps 0) (List.replicate m 0) with
      | none => rw [hr1] at h; cases h
      | some u =>
        obtain ⟨p', o'⟩ := u
        rw [hr1] at h
        simp [preO] at h
        obtain ⟨rfl, _⟩ := h
        obtain ⟨z1, z2⟩ := zero_step (den := den) hn1 hpl hz
        obtain ⟨i1, i2⟩ := zero_run hr m _ _ _ (max (L - 1) 1) (by omega) (step_fits hr hf (by omega) (by omega) hg.2.2) z1 hr1
        refine ⟨fun k hk => i1 k (by omega), fun _ hLm => ?_⟩
        by_cases hm : m = 0
        · subst hm
          simp [runGo] at hr1
          rw [← hr1.1, z2 (by omega)]
          exact Int.emod_lt_of_pos _ (by omega)
        · exact i2 (by omega) (by omega)
    · rw [runGo_bad hg] at h; cases h
theorem sum_rep0 (n : Nat) : (List.replicate n (0 : Int)).sum = 0 := by
  induction n with
  | zero => rfl
  | succ n ih => rw [List.replicate_succ, List.sum_cons, ih]; rfl
theorem sum_one {p : Ls} (h : p.length ≤ 1) : p.sum = fP p 0 := by
  match p, h with
  | [], _ => rfl
  | [x], _ => simp [fP]
theorem empties_law {ws : Ls} {den : Int} (hr : rkCheck ws den = 0) {ps : Ls} (hf : fitsB ws.length ps = true) (hs : ps.sum ≤ 24000000) :
    ∃ x o o2, rkRun ws den ps (List.replicate ws.length 0) = (x, o, 0) ∧ rkRun ws den x (List.replicate 5 0) = (x, o2, 0) ∧ fitsB ws.length x = true ∧ x.sum < den ∧ 0 ≤ x.sum ∧ o.sum = ps.sum / den ∧ o.length = ws.length ∧ (∀ q ∈ o, 0 ≤ q ∧ q ≤ 24000000) ∧
      o2.length = 5 ∧ (∀ q ∈ o2, q = 0) ∧ 0 ≤ ps.sum := by
  obtain ⟨a1, a2, _, a4, a5, a6, _⟩ := rk_facts hr
  obtain ⟨hpl, _⟩ := fits_facts hf
  have hps := fits_sum hf
  have hrep : ∀ n, ∀ q ∈ List.replicate n (0 : Int), 0 ≤ q ∧ q ≤ 1073741824 := fun n q hq => by rw [List.eq_of_mem_replicate hq]; omega
  obtain ⟨x, o, r1, r2, r3, r4, r5⟩ := runGo_ok hr (List.replicate ws.length 0) ps hf (hrep _) (by rw [sum_rep0, Int.mul_zero]; omega)
  rw [sum_rep0, Int.mul_zero] at r4
  rw [List.length_replicate] at r2
  obtain ⟨z1, z2⟩ := zero_run hr ws.length ps x o ws.length a1 hf (fun k hk => fP_out (Nat.le_trans hpl hk)) r1
  obtain ⟨hxl, hxlast, _⟩ := fits_facts r3
  have hx1 : x.length ≤ 1 := Nat.le_trans (len_fP hxlast z1) (by omega)
  have hxs := fits_sum r3
  have hxd : x.sum < den := by rw [sum_one hx1]; exact z2 a1 (Nat.le_refl _)
  obtain ⟨s1, s2⟩ := sum_nn r5
  have hos : o.sum = ps.sum / den := by
    rw [show ps.sum = x.sum + den * o.sum by omega, Int.add_mul_ediv_left _ _ (by omega), Int.ediv_eq_zero_of_lt hxs hxd]; omega
  have hob : o.sum ≤ 24000000 := by
    have := Int.mul_le_mul_of_nonneg_right a4 s1
    omega
  obtain ⟨y, o2, t1, t2, t3, t4, t5⟩ := runGo_ok hr (List.replicate 5 0) x r3 (hrep _) (by rw [sum_rep0, Int.mul_zero]; omega)
  rw [sum_rep0, Int.mul_zero] at t4
  rw [List.length_replicate] at t2
  obtain ⟨w1, _⟩ := zero_run hr 5 x y o2 1 (by omega) r3 (fun k hk => fP_out (by omega)) t1
  obtain ⟨hyl, hylast, _⟩ := fits_facts t3
  have hy1 : y.length ≤ 1 := len_fP hylast w1
  have hys := fits_sum t3
  obtain ⟨u1, u2⟩ := sum_nn t5
  have ho2 : o2.sum = 0 := by
    rcases Int.lt_or_le 0 o2.sum with h | h
    · have := Int.mul_le_mul_of_nonneg_left (show 1 ≤ o2.sum by omega) (show 0 ≤ den by omega)
      omega
    · omega
  have hyx : y = x := by
    refine ext_fP hylast hxlast fun k => ?_
    cases k with
    | zero => rw [← sum_one hy1, ← sum_one hx1]; rw [ho2] at t4; omega
    | succ k => rw [fP_out (by omega), fP_out (by omega)]
  subst hyx
  refine ⟨y, o, o2, rkRun_ok hr hf (by rw [List.length_replicate]; omega) r1, rkRun_ok hr r3 (by simp) t1, r3, hxd, hxs, hos, r2, fun q hq => ⟨r5 q hq, by have := s2 q hq; omega⟩, t2, fun q hq => ?_, hps⟩
  have := t5 q hq
  have := u2 q hq
  omega
end Go.Proofs
