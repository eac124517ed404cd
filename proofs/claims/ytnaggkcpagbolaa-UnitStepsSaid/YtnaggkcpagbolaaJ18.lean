/- Proved here: what functions of the given program come to, for the statements of this chapter; no condition but those in the theorems. -/
import Derived.Test.YtnaggkcpagbolaaI18
namespace Go.Proofs
open Go Go.Abs
set_option linter.unusedSimpArgs false
set_option linter.unusedVariables false
set_option maxRecDepth 4000
theorem same_ok : FunR Try.prog 32 R_same := by
  intro args k h
  obtain ⟨a, b, rfl, hl, hk⟩ := h
  have hma := eL_len a
  have hmb := eL_len b
  refine does_ex (qc := qc1) (np := []) (CK := ckK []) mixed Try.func32 rfl rfl Try.ntmps32 Try.results32 τ_ok (by kernel_rfl) (ckK_ok trivial) (by simp) ?_
  conv => whnf
  refine Fork.mk (fun h => ?_) (fun h => ?_)
  · have h1 : a.length ≠ b.length := by simp at h; omega
    conv => whnf
    exact kB hk (by simp; exact fun e => h1 (by rw [e]))
  have h1 : a.length = b.length := by simp at h; omega
  conv => whnf
  refine ⟨Nat, fun i => ([(0, .c (.lst (eL a))), (1, .c (.lst (eL b))), (12, I (eL a).length), (13, I i)], ⟨[], 5, []⟩),
    fun i => i ≤ a.length ∧ a.take i = b.take i, fun i => a.length - i, 0, ⟨Nat.zero_le _, rfl⟩,
    Shift.reset ⟨rfl, rfl, rfl, rfl, trivial⟩ trivial rfl rfl, fun i hi => ?_⟩
  obtain ⟨hi1, hi2⟩ := hi
  dsimp only
  conv => whnf
  refine Fork.mk (fun h => ?_) (fun h => ?_)
  · have hi : i < a.length := by simp at h; omega
    have ha := List.getElem?_eq_getElem hi
    have hb := List.getElem?_eq_getElem (show i < b.length by omega)
    have ta := List.take_append_getElem hi
    have tb := List.take_append_getElem (show i < b.length by omega)
    generalize a[i] = x at ha ta
    generalize b[i] = y at hb tb
    have hw1 := wr_succ (i := i) (by omega)
    conv => whnf
    refine ⟨by omega, eI x, by rw [Int.toNat_natCast, List.getElem?_map, ha]; rfl, rfl, ?_⟩
    conv => whnf
    refine ⟨by omega, eI y, by rw [Int.toNat_natCast, List.getElem?_map, hb]; rfl, rfl, ?_⟩
    conv => whnf
    refine Fork.mk (fun h => ?_) (fun h => ?_)
    · have h2 : x ≠ y := by simpa using h
      conv => whnf
      refine kB hk (by simp; rintro rfl; rw [ha] at hb; simp at hb; exact h2 hb)
    have h2 : x = y := by simpa using h
    subst h2
    conv => whnf
    rw [hw1]
    refine ⟨i + 1, ⟨hi, by rw [← ta, ← tb, hi2]⟩, Shift.reset ⟨rfl, rfl, rfl, rfl, trivial⟩ trivial rfl rfl, ?_⟩
    show a.length - (i + 1) < a.length - i
    omega
  have hie : i = a.length := by simp at h; omega
  subst hie
  have h2 : a = b := by rw [List.take_length, h1, List.take_length] at hi2; exact hi2
  conv => whnf
  exact kB hk (by simp [h2])
end Go.Proofs
