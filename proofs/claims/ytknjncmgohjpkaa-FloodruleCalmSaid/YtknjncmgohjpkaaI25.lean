/- Proved here: what functions of the given program come to, for the statements of this chapter; no condition but those in the theorems. -/
import Derived.Test.YtknjncmgohjpkaaH25
namespace Go.Proofs
open Go Go.Abs
set_option linter.unusedSimpArgs false
set_option linter.unusedVariables false
set_option maxRecDepth 4000
def sF : Fr := ⟨⟨[0], [0], [[9]]⟩, 200, 150, 2⟩
theorem sF_fin : sF.t.fin := ⟨by decide, by decide, by decide, fun r h => by simp [sF] at h; subst h; decide⟩
def sS : Nat → Fs := fun i => match i with | 0 => ⟨true, 0⟩ | 1 => ⟨true, 1⟩ | 2 => ⟨true, 0⟩ | _ => ⟨true, 1⟩
def R_few : RT := fun args k => ∃ l : Ls, args = [.c (.lst (eL l))] ∧ k (Bo (decide (l.length ≤ 500)))
theorem few_ok : FunR Try.prog 9 R_few := by
  intro args k h
  obtain ⟨l, rfl, hk⟩ := h
  have hm := eL_len l
  refine does_ex (qc := qc1) (np := []) (CK := ckK []) mixed Try.func9 rfl rfl Try.ntmps9 Try.results9 τ_ok (by kernel_rfl) (ckK_ok trivial) (by simp) ?_
  conv => whnf
  rw [show decide (l.length ≤ 500) = decide (((eL l).length : Int) ≤ 500) by rw [hm]; simp; omega] at hk
  exact hk
theorem sane_ok : FunR Try.prog 8 R_tt := by
  intro args k h
  obtain ⟨rfl, hk⟩ := h
  refine does_ex (qc := qc1) (np := []) (CK := ckK [(14, cSc R_nextF), (19, cSc R_relF), (21, cSc R_turnT)]) mixed Try.func8 rfl rfl Try.ntmps8 Try.results8 τ_ok (by kernel_rfl) (ckK_ok ⟨cSc_ok next_okF, cSc_ok relF_ok, cSc_ok turn_ok, trivial⟩) (by simp) ?_
  conv => whnf
  (repeat (refine ⟨by simp, ?_⟩; (conv => whnf)))
  refine ⟨sF, ⟨false, 0⟩, 200, rfl, by decide, ?_⟩
  rw [show nextF sF ⟨false, 0⟩ 200 = ⟨true, 0⟩ by decide]
  conv => whnf
  (repeat (refine ⟨by simp, ?_⟩; (conv => whnf)))
  refine ⟨sF, ⟨true, 0⟩, 200, 5, rfl, sF_fin, ?_⟩
  rw [show (relF sF ⟨true, 0⟩ 200 5).1 = 9 by decide, show (relF sF ⟨true, 0⟩ 200 5).2 = true by decide]
  conv => whnf
  refine ⟨Nat, fun i => ([(1, .c (.ptr (.l 1 4) 0)), (2, .c (.ptr (.l 2 5) 0)), (3, I 9), (4, Bo true), (27, .c (.view (.l 27 6) 0 3)), (28, I ((3 : Nat) : Int)), (29, I i)], ⟨[(.l 1 4, .blk (frC sF)), (.l 2 5, .blk (fsC (sS i))), (.l 27 6, .arr 3 1 [eI 149, eI 160, eI 149] false)], 20, []⟩),
    fun i => i ≤ 3, fun i => 3 - i, 0, Nat.zero_le _,
    Shift.trans (Shift.reset ⟨rfl, rfl, rfl, rfl, rfl, rfl, rfl, trivial⟩ ⟨rfl, rfl, rfl, trivial⟩ rfl rfl) (Shift.trans (Shift.purCell (i := .l 1 4) (cs := [.lst [eI 0], .lst [eI 0], .view (.l 15 3) 0 1, IC 200, IC 150, IC 2]) (j := 2) (c' := .lst [[.lst [eI 9]]]) rfl rfl rfl)
      (Shift.trans (Shift.purCell (i := .l 1 4) (cs := [.lst [eI 0], .view (.l 13 1) 0 1, .view (.l 15 3) 0 1, IC 200, IC 150, IC 2]) (j := 1) (c' := .lst [eI 0]) rfl rfl rfl)
        (Shift.purCell (i := .l 1 4) (cs := [.view (.l 12 0) 0 1, .view (.l 13 1) 0 1, .view (.l 15 3) 0 1, IC 200, IC 150, IC 2]) (j := 0) (c' := .lst [eI 0]) rfl rfl rfl))), fun i hi => ?_⟩
  dsimp only at hi ⊢
  obtain rfl | rfl | rfl | rfl : i = 0 ∨ i = 1 ∨ i = 2 ∨ i = 3 := by omega
  · conv => whnf
    refine fork_t ?_
    conv => whnf
    refine ⟨by omega, rfl, ?_⟩
    conv => whnf
    refine ⟨eI 149, rfl, ?_⟩
    conv => whnf
    refine ⟨sF, ⟨true, 0⟩, 149, rfl, by decide, ?_⟩
    rw [show nextF sF ⟨true, 0⟩ 149 = ⟨true, 1⟩ by decide]
    conv => whnf
    exact ⟨1, by omega, Shift.reset ⟨rfl, rfl, rfl, rfl, rfl, rfl, rfl, trivial⟩ ⟨rfl, rfl, rfl, trivial⟩ rfl rfl, by omega⟩
  · conv => whnf
    refine fork_t ?_
    conv => whnf
    refine ⟨by omega, rfl, ?_⟩
    conv => whnf
    refine ⟨eI 160, rfl, ?_⟩
    conv => whnf
    refine ⟨sF, ⟨true, 1⟩, 160, rfl, by decide, ?_⟩
    rw [show nextF sF ⟨true, 1⟩ 160 = ⟨true, 0⟩ by decide]
    conv => whnf
    exact ⟨2, by omega, Shift.reset ⟨rfl, rfl, rfl, rfl, rfl, rfl, rfl, trivial⟩ ⟨rfl, rfl, rfl, trivial⟩ rfl rfl, by omega⟩
  · conv => whnf
    refine fork_t ?_
    conv => whnf
    refine ⟨by omega, rfl, ?_⟩
    conv => whnf
    refine ⟨eI 149, rfl, ?_⟩
    conv => whnf
    refine ⟨sF, ⟨true, 0⟩, 149, rfl, by decide, ?_⟩
    rw [show nextF sF ⟨true, 0⟩ 149 = ⟨true, 1⟩ by decide]
    conv => whnf
    exact ⟨3, by omega, Shift.reset ⟨rfl, rfl, rfl, rfl, rfl, rfl, rfl, trivial⟩ ⟨rfl, rfl, rfl, trivial⟩ rfl rfl, by omega⟩
  · conv => whnf
    refine fork_f ?_
    conv => whnf
    refine ⟨sF, ⟨true, 1⟩, 149, rfl, by decide, ?_⟩
    rw [show nextF sF ⟨true, 1⟩ 149 = ⟨false, 0⟩ by decide]
    conv => whnf
    refine ⟨sF, 9, rfl, sF_fin, ?_⟩
    rw [show (turnT sF.t 9).1 = 0 by decide, show (turnT sF.t 9).2 = true by decide]
    conv => whnf
    refine ⟨sF, 10, rfl, sF_fin, ?_⟩
    rw [show (turnT sF.t 10).1 = 0 by decide, show (turnT sF.t 10).2 = false by decide]
    conv => whnf
    (repeat ((first | refine fork_t ?_ | refine fork_f ?_); (conv => whnf)))
    exact hk
end Go.Proofs
