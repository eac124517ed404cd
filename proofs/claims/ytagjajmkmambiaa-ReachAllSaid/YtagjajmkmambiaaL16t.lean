/- A pulse comes out by the weights: the plain law. -/
import Derived.Test.YtagjajmkmambiaaL16p
namespace Go.Proofs
open Go Go.Abs
theorem pulse_run {ws : Ls} {den : Int} (hr : rkCheck ws den = 0) {kk : Int} : ∀ (m j : Nat) (ps p o : Ls), (∀ i, fP ps i = den * (kk * fP ws (j + i))) → fitsB ws.length ps = true → runGo ws den ps (List.replicate m 0) = some (p, o) →
    o.length = m ∧ ∀ i, i < m → o[i]? = some (kk * fP ws (j + i))
  | 0, j, ps, p, o, _, _, h => by
    simp [runGo] at h
    obtain ⟨rfl, rfl⟩ := h
    exact ⟨rfl, fun i hi => by omega⟩
  | m + 1, j, ps, p, o, hp, hf, h => by
    obtain ⟨hn1, _, _, hd1, _⟩ := rk_facts hr
    obtain ⟨hpl, _⟩ := fits_facts hf
    rw [List.replicate_succ] at h
    by_cases hg : (0 : Int) ≤ 0 ∧ (0 : Int) ≤ 1073741824 ∧ stepOk ws ps 0
    · rw [runGo_good hg] at h
      cases hr1 : runGo ws den (stepF ws den ps 0) (List.replicate m 0) with
      | none => rw [hr1] at h; cases h
      | some u =>
        obtain ⟨p', o'⟩ := u
        rw [hr1] at h
        simp [preO] at h
        obtain ⟨rfl, rfl⟩ := h
        have ho : outF ws den ps 0 = kk * fP ws j := by
          unfold outF
          rw [gP_zero, hp 0, Nat.add_zero]
          exact Int.mul_ediv_cancel_left _ (by omega)
        obtain ⟨i1, i2⟩ := pulse_run (kk := kk) hr m (j + 1) _ _ _ (fun i => by
          rw [step_fP' hn1 hpl]
          unfold hP
          rw [gP_zero, gP_zero, hp (i + 1), hp 0, show j + (i + 1) = j + 1 + i by omega]
          have : den * (kk * fP ws (j + 0)) % den = 0 := Int.mul_emod_right _ _
          rw [this]
          split <;> omega) (step_fits hr hf (by omega) (by omega) hg.2.2) hr1
        refine ⟨by simp [i1], fun i hi => ?_⟩
        cases i with
        | zero => simp [ho]
        | succ i => rw [List.getElem?_cons_succ, i2 i (by omega), show j + 1 + i = j + (i + 1) by omega]
    · rw [runGo_bad hg] at h; cases h
theorem pulse_law {ws : Ls} {den : Int} (hr : rkCheck ws den = 0) {kk : Int} (hk : 0 ≤ kk ∧ kk ≤ 1000) (hd : den ≤ 1000) :
    ∃ p o, rkRun ws den [] (kk * den :: List.replicate (ws.length - 1) 0) = (p, o, 0) ∧ o.length = ws.length ∧ ∀ i, i < ws.length → o[i]? = some (kk * fP ws i) := by
  obtain ⟨hn1, hn2, _, hd1, _⟩ := rk_facts hr
  have hb0 : 0 ≤ kk * den := Int.mul_nonneg hk.1 (by omega)
  have hb1 : kk * den ≤ 1000 * 1000 := Int.mul_le_mul hk.2 hd (by omega) (by omega)
  have hb2 : den * (kk * den) ≤ 1000 * (1000 * 1000) := Int.mul_le_mul hd hb1 hb0 (by omega)
  have hf := fits_nil ws.length
  obtain ⟨p, o, r1, r2, r3, r4, r5⟩ := runGo_ok hr (kk * den :: List.replicate (ws.length - 1) 0) [] hf (fun q hq => by
    rcases List.mem_cons.1 hq with rfl | hq
    · omega
    · rw [List.eq_of_mem_replicate hq]; omega) (by rw [List.sum_cons, sum_rep0, Int.add_zero]; simp only [List.sum_nil]; omega)
  refine ⟨p, o, rkRun_ok hr hf (by simp; omega) r1, by rw [r2]; simp; omega, ?_⟩
  by_cases hg : 0 ≤ kk * den ∧ kk * den ≤ 1073741824 ∧ stepOk ws [] (kk * den)
  · rw [runGo_good hg] at r1
    cases hr1 : runGo ws den (stepF ws den [] (kk * den)) (List.replicate (ws.length - 1) 0) with
    | none => rw [hr1] at r1; cases r1
    | some u =>
      obtain ⟨p', o'⟩ := u
      rw [hr1] at r1
      simp [preO] at r1
      obtain ⟨rfl, rfl⟩ := r1
      have g0 : ∀ i, gP ws [] (kk * den) i = den * (kk * fP ws i) := fun i => by
        unfold gP
        rw [show fP [] i = 0 from fP_out (by simp), Int.zero_add, Int.mul_comm kk den, Int.mul_assoc]
      have ho : outF ws den [] (kk * den) = kk * fP ws 0 := by
        unfold outF
        rw [g0]
        exact Int.mul_ediv_cancel_left _ (by omega)
      obtain ⟨i1, i2⟩ := pulse_run (kk := kk) hr (ws.length - 1) 1 _ _ _ (fun i => by
        rw [step_fP' hn1 (by simp)]
        unfold hP
        rw [g0, g0, show 1 + i = i + 1 by omega]
        have : den * (kk * fP ws 0) % den = 0 := Int.mul_emod_right _ _
        rw [this]
        split <;> omega) (step_fits hr hf hg.1 hg.2.1 hg.2.2) hr1
      intro i hi
      cases i with
      | zero => simp [ho]
      | succ i => rw [List.getElem?_cons_succ, i2 i (by omega), show 1 + i = i + 1 by omega]
  · rw [runGo_bad hg] at r1; cases r1
/-- The weights by their places, summed. -/
def lagN (ws : Ls) : Nat → Int
  | 0 => 0
  | i + 1 => lagN ws i + i * fP ws i
theorem lagN_in {ws : Ls} (hw : ∀ k, 0 ≤ fP ws k ∧ fP ws k ≤ 10000) : ∀ i : Nat, i ≤ 24 → 0 ≤ lagN ws i ∧ lagN ws i ≤ 240000 * i
  | 0, _ => by simp [lagN]
  | i + 1, h => by
    have ih := lagN_in hw i (by omega)
    have a := hw i
    have h1 : 0 ≤ (i : Int) * fP ws i := Int.mul_nonneg (by omega) a.1
    have h2 : (i : Int) * fP ws i ≤ 24 * 10000 := Int.mul_le_mul (by omega) a.2 a.1 (by omega)
    show 0 ≤ lagN ws i + i * fP ws i ∧ lagN ws i + i * fP ws i ≤ 240000 * ((i + 1 : Nat) : Int)
    omega
end Go.Proofs
