/- Proved here: what functions of the given program come to, for the statements of this chapter; no condition but those in the theorems. -/
import Derived.Test.YtgehodhbcckcoaaG20
import Derived.Test.YtgehodhbcckcoaaAbsS
namespace Go.Proofs
open Go Go.Abs
set_option linter.unusedSimpArgs false
set_option linter.unusedVariables false
set_option maxRecDepth 4000
theorem set1_ok : FunG Try.prog 35 (R_set1 30) := by
  intro args os k h
  obtain ⟨c, w, x, rfl, rfl, hc, hk⟩ := h
  refine doesG_ex (qc := qc1) (np := []) (CK := ckK [(30, cSc R_enough)]) mixed Try.func35 rfl rfl Try.ntmps35 Try.results35 τ_ok (by kernel_rfl) (ckK_ok ⟨cSc_ok enough_ok, trivial⟩) (by simp) rfl rfl ?_
  conv => whnf
  refine ⟨c, w, x, rfl, hc, ?_⟩
  conv => whnf
  refine ⟨rfl, rfl, ?_⟩
  exact hk
theorem least1_ok : FunG Try.prog 49 (R_least1 30 35) := by
  intro args os k h
  obtain ⟨c, w, x, lo, hi, rfl, rfl, hc, hb, hk⟩ := h
  have hw : IntKind.i64.wrap (lo + x) = lo + x := wrap_in (by omega) (by omega)
  refine doesG_ex (qc := qc1) (np := []) (CK := ckK [(35, cG (R_set1 30))]) mixed Try.func49 rfl rfl Try.ntmps49 Try.results49 τ_ok (by kernel_rfl) (ckK_ok ⟨cG_ok set1_ok rfl, trivial⟩) (by simp) rfl rfl ?_
  conv => whnf
  rw [hw]
  refine ⟨[.x 2, .x 3], rfl, ?_⟩
  conv => whnf
  refine ⟨rfl, ?_⟩
  conv => whnf
  refine ⟨rfl, ?_⟩
  conv => whnf
  refine ⟨c, w, lo + x, rfl, rfl, hc, ?_⟩
  conv => whnf
  refine ⟨rfl, rfl, ?_⟩
  exact hk
theorem search_ok : FunG Try.prog 48 (R_search 30 35 49) := by
  intro args os k h
  obtain ⟨c, w, n, lo, hi, rfl, rfl, hc, hb, hk⟩ := h
  refine doesG_ex (qc := qc1) (np := []) (CK := ckK [(49, cG (R_least1 30 35))]) mixed Try.func48 rfl rfl Try.ntmps48 Try.results48 τ_ok (by kernel_rfl) (ckK_ok ⟨cG_ok least1_ok rfl, trivial⟩) (by simp) rfl rfl ?_
  conv => whnf
  refine ⟨Int × Int, fun s => ([(1, .c (.fn 49 [.ptr (.x 0) 0, .ptr (.x 1) 0])), (5, I s.1), (6, I s.2)], ⟨[(.x 0, .blk [.fn 35 [.ptr (.x 2) 0, .ptr (.x 3) 0]]), (.x 1, .blk [IC lo, IC hi]), (.x 2, .blk [.fn 30 []]), (.x 3, .blk [.lst (eP c), IC w])], 0, []⟩),
    fun s => (0 ≤ s.1 ∧ s.1 ≤ s.2 ∧ s.2 ≤ n) ∧ (∀ x, 0 ≤ x → x < s.1 → gfl c (lo + x) < w) ∧ (s.2 = n ∨ w ≤ gfl c (lo + s.2)), fun s => (s.2 - s.1).toNat, (0, n), ⟨⟨Int.le_refl _, by omega, Int.le_refl _⟩, fun x h1 h2 => by omega, .inl rfl⟩,
    Shift.reset ⟨rfl, rfl, rfl, trivial⟩ ⟨rfl, rfl, rfl, rfl, trivial⟩ rfl rfl, fun s hs => ?_⟩
  obtain ⟨i, j⟩ := s
  obtain ⟨⟨a1, a2, a3⟩, a4, a5⟩ := hs
  dsimp only at a1 a2 a3 a4 a5 ⊢
  conv => whnf
  refine Fork.mk (fun h => ?_) (fun h => ?_)
  · have hlt : i < j := by simpa using h
    clear h
    conv => whnf
    have hw : IntKind.i64.wrap (shrI IntKind.u64 (IntKind.u64.wrap (IntKind.i64.wrap (i + j))) 1) = (i + j) / 2 := by
      rw [show IntKind.i64.wrap (i + j) = i + j from wrap_in (by omega) (by omega), Go.IntWalk.u64_in (i + j) ⟨by omega, by omega⟩]
      have e : shrI IntKind.u64 (i + j) 1 = (i + j) / 2 := Int.fdiv_eq_ediv_of_nonneg _ (show (0 : Int) ≤ 2 by omega)
      rw [e]
      exact wrap_in (by omega) (by omega)
    refine ⟨by omega, ?_⟩
    conv => whnf
    rw [hw]
    have b1 : i ≤ (i + j) / 2 := by omega
    have b2 : (i + j) / 2 < j := by omega
    clear hw
    generalize (i + j) / 2 = m at b1 b2 ⊢
    conv => whnf
    refine ⟨[.x 0, .x 1, .x 2, .x 3], rfl, ?_⟩
    conv => whnf
    refine ⟨rfl, ?_⟩
    conv => whnf
    refine ⟨rfl, ?_⟩
    conv => whnf
    refine ⟨c, w, m, lo, hi, rfl, rfl, hc, ⟨hb.1, by omega, by omega⟩, ?_⟩
    conv => whnf
    refine Fork.mk (fun h => ?_) (fun h => ?_)
    · have h1 : gfl c (lo + m) < w := by simpa using h
      have hw : IntKind.i64.wrap (m + 1) = m + 1 := wrap_in (by omega) (by omega)
      conv => whnf
      rw [hw]
      refine ⟨(m + 1, j), ⟨⟨by dsimp only; omega, by dsimp only; omega, a3⟩, fun x h2 h3 => ?_, a5⟩, Shift.reset ⟨rfl, rfl, rfl, trivial⟩ ⟨rfl, rfl, rfl, rfl, trivial⟩ rfl rfl, by dsimp only; omega⟩
      have := gfl_mono hc (show lo + x ≤ lo + m by dsimp only at h3; omega)
      omega
    have h1 : w ≤ gfl c (lo + m) := by simpa using h
    conv => whnf
    exact ⟨(i, m), ⟨⟨a1, b1, by dsimp only; omega⟩, a4, .inr h1⟩, Shift.reset ⟨rfl, rfl, rfl, trivial⟩ ⟨rfl, rfl, rfl, rfl, trivial⟩ rfl rfl, by dsimp only; omega⟩
  have hij : i = j := by simp at h; omega
  subst hij
  conv => whnf
  refine ⟨rfl, rfl, ?_⟩
  exact hk i ⟨⟨a1, a3⟩, a4, a5⟩
end Go.Proofs
