/- Proved here: what functions of the given program come to, for the statements of this chapter; no condition but those in the theorems. -/
import Derived.Test.YtknjncmgohjpkaaI25
namespace Go.Proofs
open Go Go.Abs
set_option linter.unusedSimpArgs false
set_option linter.unusedVariables false
set_option maxRecDepth 4000
theorem axis_ok : FunB Try.prog 50 R_axis := by
  intro cs args k h
  obtain ⟨d, a, b, rfl, rfl, hd, ha, hb, hk⟩ := h
  refine doesB_ex (qc := qc1) (np := []) (CK := ckK [(23, cB R_next)]) mixed Try.func50 rfl rfl Try.ntmps50 Try.results50 τ_ok (by kernel_rfl) (ckK_ok ⟨cB_ok next_ok rfl, trivial⟩) (by simp) rfl rfl ?_
  conv => whnf
  refine ⟨d, rfl, hd, by omega, fun v d hd hv1 hv2 => ?_⟩
  have e1 : IntKind.i64.wrap (a + v) = a + v := wrap_in (by omega) (by omega)
  conv => whnf
  refine ⟨d, rfl, hd, by omega, fun k0 d hd hk1 hk2 => ?_⟩
  conv => whnf
  rw [e1]
  refine ⟨Ls × Dk × Int × Int, fun s => ([(0, .c (.ptr (.x 0) 0)), (2, I b), (7, .c (.view (.l 24 0) 0 s.1.length)), (8, I s.2.2.1), (9, I s.2.2.2)], ⟨[(.x 0, .blk (dkC s.2.1)), (.l 24 0, .arr 3 1 (eL s.1) false)], 1, []⟩),
    fun s => s.2.1.ok ∧ mkX s.1 a s.2.2.1 ∧ (-1 ≤ s.2.2.2 ∧ 1 ≤ s.1.length + s.2.2.2 + 1 ∧ s.1.length + s.2.2.2 ≤ 3) ∧ (a ≤ s.2.2.1 ∧ s.2.2.1 ≤ a + 1001 * (s.1.length + 1)), fun s => (s.2.2.2 + 1).toNat, ([], d, a + v, k0),
    ⟨hd, ⟨by simp, .nil⟩, by dsimp only; simp; omega, by dsimp only; simp; omega⟩,
    Shift.trans (Shift.rename [] ⟨rfl, rfl, rfl, rfl, rfl, trivial⟩ ⟨rfl, rfl, trivial⟩ rfl rfl rfl) (Shift.nilArr (t := 7) rfl 24 3 1), fun s hs => ?_⟩
  obtain ⟨l, d, x, kk⟩ := s
  obtain ⟨hd, hr, ⟨hk3, hk4, hk5⟩, hk6, hk7⟩ := hs
  dsimp only at hd hr hk3 hk4 hk5 hk6 hk7 ⊢
  have hm := eL_len l
  conv => whnf
  refine Fork.mk (fun h => ?_) (fun h => ?_)
  · have hkk : 0 ≤ kk := by simpa using h
    conv => whnf
    refine ⟨by simp, ?_⟩
    conv => whnf
    refine ⟨rfl, ?_⟩
    conv => whnf
    refine ⟨⟨rfl, rfl, rfl, hm.symm, by rw [hm]; simp; omega⟩, ?_⟩
    conv => whnf
    refine ⟨d, rfl, hd, by omega, fun w d hd hw1 hw2 => ?_⟩
    have e2 : IntKind.i64.wrap (1 + w) = 1 + w := wrap_in (by omega) (by omega)
    have e3 : IntKind.i64.wrap (x + (1 + w)) = x + (1 + w) := wrap_in (by omega) (by omega)
    conv => whnf
    rw [e2, e3, show IntKind.i64.wrap (kk - 1) = kk - 1 from wrap_in (by omega) (by omega)]
    refine ⟨(l ++ [x], d, x + (1 + w), kk - 1), ⟨hd, hr.snoc hk6 (by dsimp only; omega), by dsimp only; simp; omega, by dsimp only; omega, by dsimp only; rw [List.length_append]; show _ ≤ a + 1001 * (((l.length + 1 : Nat) : Int) + 1); omega⟩, Shift.rename [(.l 24 0, .l 24 2)] ⟨rfl, rfl, ?_, rfl, rfl, trivial⟩ ⟨rfl, ?_, trivial⟩ rfl rfl rfl, ?_⟩
    · dsimp only; rw [List.length_append, ← hm]; rfl
    · dsimp only; rw [← eL_snoc]; rfl
    · show (kk - 1 + 1).toNat < (kk + 1).toNat
      omega
  have hkk : kk = -1 := by simp at h; omega
  subst hkk
  conv => whnf
  refine ⟨by rw [hm]; omega, ?_⟩
  conv => whnf
  exact leaf_l _ rfl rfl (hk l d hd (by omega) (by omega) ⟨fun y hy => by have := hr.r y hy; omega, hr.p⟩)
end Go.Proofs
