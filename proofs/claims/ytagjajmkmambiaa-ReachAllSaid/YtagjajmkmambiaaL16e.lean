/- Proved here: what functions of the given program come to, for the statements of this chapter; no condition but those in the theorems. -/
import Derived.Test.YtagjajmkmambiaaL16d
namespace Go.Proofs
open Go.Abs
set_option linter.unusedSimpArgs false
set_option linter.unusedVariables false
set_option maxRecDepth 4000
theorem rk_of {ws : Ls} {den : Int} (h0 : ws.length ≠ 0) (h1 : ws.getLast? ≠ some 0) (h2 : ws.length ≤ 24) (h3 : ∀ w ∈ ws, 0 ≤ w ∧ w ≤ 10000) (h4 : ws.sum = den) : rkCheck ws den = 0 := by
  unfold rkCheck
  have hn : ¬ (ws.length = 0 ∨ ws.getLast? = some 0) := fun h => h.elim h0 h1
  rw [if_neg hn, if_neg (by omega), if_pos (List.all_eq_true.2 fun w hw => by have := h3 w hw; simp [okW, this]), if_pos h4]
def R_reach : RB := fun cs args k => match args with
  | [] => ∃ d : Dk, cs = dkC d ∧ d.ok ∧ ∀ (ws : Ls) den d', Dk.ok d' → rkCheck ws den = 0 → ws.length ≤ 5 → (∀ w ∈ ws, 0 ≤ w ∧ w ≤ 4) → k (.agg [.lst (eL ws), IC den]) (dkC d')
  | _ => False
theorem reach_ok : FunB Try.prog 11 R_reach := by
  intro cs args k h
  unfold R_reach at h
  split at h
  case h_2 => exact h.elim
  obtain ⟨d, rfl, hd, hk⟩ := h
  refine doesB_ex (qc := qc1) (np := [(8, [(1, 3), (3, 6), (4, 6)])]) (CK := ckK [(20, cB R_next)]) mixed Try.func11 rfl rfl Try.ntmps11 Try.results11 τ_ok (by kernel_rfl) (ckK_ok ⟨cB_ok next_ok rfl, trivial⟩) (by simp) rfl rfl ?_
  conv => whnf
  refine ⟨d, rfl, hd, by omega, fun k0 d hd hk1 hk2 => ?_⟩
  conv => whnf
  refine ⟨Ls × Dk × Int, fun s => ([(0, .c (.ptr (.x 0) 0)), (2, .c (.ptr (.l 2 0) 0)), (3, .c (.ptr (.l 3 1) 0)), (4, I s.2.2)], ⟨[(.x 0, .blk (dkC s.2.1)), (.l 2 0, .blk [.sc (.slice none 0 0), IC 0]), (.l 3 1, .blk [.view (.l 22 2) 0 s.1.length, IC s.1.sum]), (.l 22 2, .arr 3 1 (eL s.1) false)], 3, []⟩),
    fun s => s.2.1.ok ∧ (∀ x ∈ s.1, 0 ≤ x ∧ x ≤ 4) ∧ -1 ≤ s.2.2 ∧ s.1.length + s.2.2 ≤ 4 ∧ (s.2.2 = -1 → s.1.getLast? ≠ some 0 ∧ s.1.length ≠ 0), fun s => (s.2.2 + 1).toNat, ([], d, k0),
    ⟨hd, by simp, by dsimp only; omega, by simp; omega, fun h => by dsimp only at h; omega⟩,
    Shift.trans (Shift.rename [] ⟨rfl, rfl, rfl, rfl, trivial⟩ ⟨rfl, rfl, rfl, rfl, trivial⟩ rfl rfl rfl) (Shift.nilCell (i := .l 3 1) (cs := [.sc (.slice none 0 0), IC 0]) (j := 0) rfl rfl 22 3 1), fun s hs => ?_⟩
  obtain ⟨ws, d, kk⟩ := s
  obtain ⟨h1, h2, h3, h4, h5⟩ := hs
  dsimp only at h1 h2 h3 h4 h5 ⊢
  have hsum := sum_in (l := ws) (a := 4) (by omega) h2
  conv => whnf
  refine Fork.mk (fun h => ?_) (fun h => ?_)
  · have h6 : 0 ≤ kk := by simpa using h
    conv => whnf
    refine ⟨d, rfl, h1, by omega, fun v d hd hv1 hv2 => ?_⟩
    conv => whnf
    have go : ∀ v, 0 ≤ v → v ≤ 4 → (kk = 0 → 1 ≤ v) → ((ws ++ [v]).getLast? ≠ some 0 ∨ kk ≠ 0) ∧ (∀ x ∈ ws ++ [v], 0 ≤ x ∧ x ≤ 4) := fun v a b c => ⟨by
        by_cases h0 : kk = 0
        · left; simp; have := c h0; omega
        · exact .inr h0, fun x hx => by
        rcases List.mem_append.1 hx with hx | hx
        · exact h2 x hx
        · simp at hx; subst hx; exact ⟨a, b⟩⟩
    refine Fork.mk (fun h => ?_) (fun h => ?_)
    · have h7 : kk = 0 := by simpa using h
      conv => whnf
      rw [wrap_in (z := v + 1) (by omega) (by omega)]
      obtain ⟨g1, g2⟩ := go (v + 1) (by omega) (by omega) (by omega)
      have hvb : 0 ≤ v + 1 ∧ v + 1 ≤ 4 := by omega
      generalize v + 1 = v at *
      refine ⟨by simp, ?_⟩
      conv => whnf
      refine ⟨rfl, ?_⟩
      conv => whnf
      refine ⟨⟨rfl, rfl, rfl, (eL_len ws).symm, by rw [eL_len]; simp; omega⟩, ?_⟩
      conv => whnf
      rw [wrap_in (z := ws.sum + v) (by omega) (by omega), wrap_in (z := kk - 1) (by omega) (by omega)]
      have hs2 : (ws ++ [v]).sum = ws.sum + v := by simp
      refine ⟨(ws ++ [v], d, kk - 1), ⟨hd, g2, by dsimp only; omega, by simp; omega, fun hh => ⟨by dsimp only at hh ⊢; exact g1.resolve_right (fun hn => hn (by omega)), by simp⟩⟩, Shift.rename [(.l 22 2, .l 22 3)] ⟨rfl, rfl, rfl, rfl, trivial⟩ ⟨rfl, rfl, ?_, ?_, trivial⟩ rfl rfl rfl, ?_⟩
      · dsimp only
        rw [snoc_len, hs2]; rfl
      · dsimp only
        rw [← eL_snoc]; rfl
      · show (kk - 1 + 1).toNat < (kk + 1).toNat
        omega
    · have h7 : kk ≠ 0 := by simpa using h
      conv => whnf
      obtain ⟨g1, g2⟩ := go v (by omega) (by omega) (by omega)
      refine ⟨by simp, ?_⟩
      conv => whnf
      refine ⟨rfl, ?_⟩
      conv => whnf
      refine ⟨⟨rfl, rfl, rfl, (eL_len ws).symm, by rw [eL_len]; simp; omega⟩, ?_⟩
      conv => whnf
      rw [wrap_in (z := ws.sum + v) (by omega) (by omega), wrap_in (z := kk - 1) (by omega) (by omega)]
      have hs2 : (ws ++ [v]).sum = ws.sum + v := by simp
      refine ⟨(ws ++ [v], d, kk - 1), ⟨hd, g2, by dsimp only; omega, by simp; omega, fun hh => ⟨by dsimp only at hh ⊢; exact g1.resolve_right (fun hn => hn (by omega)), by simp⟩⟩, Shift.rename [(.l 22 2, .l 22 3)] ⟨rfl, rfl, rfl, rfl, trivial⟩ ⟨rfl, rfl, ?_, ?_, trivial⟩ rfl rfl rfl, ?_⟩
      · dsimp only
        rw [snoc_len, hs2]; rfl
      · dsimp only
        rw [← eL_snoc]; rfl
      · show (kk - 1 + 1).toNat < (kk + 1).toNat
        omega
  · have hkk : kk = -1 := by simp at h; omega
    obtain ⟨g1, g2⟩ := h5 hkk
    conv => whnf
    refine ⟨by rw [eL_len]; omega, ?_⟩
    conv => whnf
    rw [List.drop_zero, List.take_of_length_le (by rw [eL_len]; exact Nat.le_refl _)]
    exact ⟨rfl, rfl, hk ws ws.sum d h1 (rk_of g2 g1 (by omega) (fun w hw => by have := h2 w hw; omega) rfl) (by omega) h2⟩
end Go.Proofs
