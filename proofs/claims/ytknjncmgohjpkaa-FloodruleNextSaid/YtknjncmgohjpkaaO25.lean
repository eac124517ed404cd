/- Proved here: what functions of the given program come to, for the statements of this chapter; no condition but those in the theorems. -/
import Derived.Test.YtknjncmgohjpkaaN25
namespace Go.Proofs
open Go Go.Abs
set_option linter.unusedSimpArgs false
set_option linter.unusedVariables false
set_option maxRecDepth 4000
theorem quo_in {a n : Int} (h : 0 ≤ a) (h2 : a ≤ 1000000) (hn : 0 < n) : 0 ≤ a.tdiv n ∧ a.tdiv n ≤ a := by
  rw [Int.tdiv_eq_ediv_of_nonneg h]
  exact ⟨Int.ediv_nonneg h (by omega), Int.ediv_le_self _ h⟩
theorem resv_ok : FunB Try.prog 12 R_resv := by
  intro cs args k h
  unfold R_resv at h
  split at h
  case h_2 => exact h.elim
  obtain ⟨d, rfl, hd, hk⟩ := h
  refine doesB_ex (qc := qc1) (np := [(11, [(2, 11), (3, 11), (4, 11), (4, 13), (5, 11), (5, 13), (6, 11), (6, 13), (6, 15), (7, 11), (7, 13), (7, 15), (8, 11), (8, 13), (8, 15), (8, 17), (9, 11), (9, 13), (9, 15), (9, 17)])]) (CK := ckK [(23, cB R_next), (32, cB R_curve)]) mixed Try.func12 rfl rfl Try.ntmps12 Try.results12 τ_ok (by kernel_rfl) (ckK_ok ⟨cB_ok next_ok rfl, cB_ok mkcurve_ok rfl, trivial⟩) (by simp) rfl rfl ?_
  conv => whnf
  refine ⟨d, rfl, hd, by omega, fun x d hd hx1 hx2 => ?_⟩
  conv => whnf
  refine ⟨d, rfl, hd, by omega, fun y d hd hy1 hy2 => ?_⟩
  conv => whnf
  rw [show IntKind.i64.wrap (100 + x) = 100 + x from wrap_in (by omega) (by omega)]
  refine ⟨d, rfl, hd, by omega, by omega, by omega, by omega, fun r d hd hr1 hr2 hch => ?_⟩
  rw [show loB true = 1 from rfl] at hch
  conv => whnf
  refine ⟨by omega, ePt (100 + x, y), rfl, rfl, ?_⟩
  conv => whnf
  have hw2 : IntKind.i64.wrap (((eP ((100 + x, y) :: r)).length : Int) - 1) = (r.length : Int) := by rw [eP_len, List.length_cons, wrap_in (by omega) (by omega)]; omega
  rw [hw2]
  have hend := end_in (by omega) (by omega) (by omega) hch
  dsimp only at hend
  refine ⟨by omega, ePt (endP (100 + x, y) r), by rw [Int.toNat_natCast]; exact eP_at _ (endP_at _ _), rfl, ?_⟩
  conv => whnf
  have hE : (endP (100 + x, y) r).1 ≤ 1000000 := by omega
  have hk : ∀ (a b c e f : Int) (d' : Dk), d'.ok → (100 + x ≤ a ∧ a ≤ b ∧ b ≤ c ∧ c ≤ e ∧ e ≤ f ∧ f ≤ (endP (100 + x, y) r).1) → k (AV.agg [.lst (eP ((100 + x, y) :: r)), IC a, IC b, IC c, IC e, IC f]) (dkC d') := fun a b c e f d' hd' h =>
    hk ⟨(100 + x, y) :: r, a, b, c, e, f⟩ d' hd' (made_of (by dsimp only; omega) (by dsimp only; omega) ⟨hr1, hr2⟩ hch h) (by simp; omega)
  have hE0 : 100 + x ≤ (endP (100 + x, y) r).1 := hend.1
  generalize (endP (100 + x, y) r).1 = E at *
  generalize (100 + x, y) :: r = c at *
  generalize hx0 : 100 + x = x0 at *
  refine ⟨Nat × (Int × Int × Int × Int × Int) × Int × Dk, fun s => ([(0, .c (.ptr (.x 0) 0)), (2, .c (.ptr (.l 2 0) 0)), (3, .c (.ptr (.l 3 3) 0)), (4, I s.2.2.1), (5, I E), (6, .c (.ptr (.l 6 6) 0)), (30, I s.1)],
      ⟨[(.x 0, .blk (dkC s.2.2.2)), (.l 2 0, .blk [.sc (.slice none 0 0), IC 0, IC 0, IC 0, IC 0, IC 0]), (.l 3 3, .blk [.lst (eP c), IC 0, IC 0, IC 0, IC 0, IC 0]), (.l 6 6, .blk [IC s.2.1.1, IC s.2.1.2.1, IC s.2.1.2.2.1, IC s.2.1.2.2.2.1, IC s.2.1.2.2.2.2])], 10, []⟩),
    fun s => s.2.2.2.ok ∧ s.1 ≤ 5 ∧ (x0 ≤ s.2.2.1 ∧ s.2.2.1 ≤ E) ∧ (1 ≤ s.1 → x0 ≤ s.2.1.1) ∧ (2 ≤ s.1 → s.2.1.1 ≤ s.2.1.2.1) ∧ (3 ≤ s.1 → s.2.1.2.1 ≤ s.2.1.2.2.1) ∧ (4 ≤ s.1 → s.2.1.2.2.1 ≤ s.2.1.2.2.2.1) ∧ (5 ≤ s.1 → s.2.1.2.2.2.1 ≤ s.2.1.2.2.2.2) ∧
      (s.1 = 1 → s.2.2.1 = s.2.1.1) ∧ (s.1 = 2 → s.2.2.1 = s.2.1.2.1) ∧ (s.1 = 3 → s.2.2.1 = s.2.1.2.2.1) ∧ (s.1 = 4 → s.2.2.1 = s.2.1.2.2.2.1) ∧ (s.1 = 5 → s.2.2.1 = s.2.1.2.2.2.2),
    fun s => 5 - s.1, (0, (0, 0, 0, 0, 0), x0, d), ⟨hd, by omega, by dsimp only; omega, by dsimp only; omega⟩, Shift.rename [(.l 3 3, .l 3 1), (.l 6 6, .l 6 2)] ⟨rfl, rfl, rfl, rfl, rfl, rfl, rfl, trivial⟩ ⟨rfl, rfl, rfl, rfl, trivial⟩ rfl rfl rfl, fun s hs => ?_⟩
  obtain ⟨i, ⟨a, b, cc, dd, e⟩, at_, d⟩ := s
  dsimp only at hs ⊢
  obtain ⟨hd, hi5, hat, hs⟩ := hs
  conv => whnf
  refine Fork.mk (fun h => ?_) (fun h => ?_)
  · have hi : i < 5 := by simp at h; omega
    clear h
    have hw1 := wr_succ (i := i) (by omega)
    have hw3 : IntKind.i64.wrap (5 - (i : Int)) = 5 - i := wrap_in (by omega) (by omega)
    have hw4 : IntKind.i64.wrap (E - at_) = E - at_ := wrap_in (by omega) (by omega)
    conv => whnf
    rw [hw3, hw4]
    refine ⟨by omega, ?_⟩
    obtain ⟨q1, q2⟩ := quo_in (a := E - at_) (n := 5 - (i : Int)) (by omega) (by omega) (by omega)
    generalize hq : (E - at_).tdiv (5 - (i : Int)) = q at *
    have hw5 : IntKind.i64.wrap q = q := wrap_in (by omega) (by omega)
    have hw6 : IntKind.i64.wrap (q + 1) = q + 1 := wrap_in (by omega) (by omega)
    conv => whnf
    rw [hw5, hw6]
    refine ⟨d, rfl, hd, by omega, fun v d hd hv1 hv2 => ?_⟩
    have hw7 : IntKind.i64.wrap (at_ + v) = at_ + v := wrap_in (by omega) (by omega)
    clear hq hw5 hw6 hw3 hw4
    conv => whnf
    rw [hw7]
    have hlt : at_ + v ≤ E := by omega
    clear hv2 q1 q2
    generalize hb : at_ + v = b_ at *
    refine ⟨by omega, ?_⟩
    rcases (by omega : i = 0 ∨ i = 1 ∨ i = 2 ∨ i = 3 ∨ i = 4) with rfl | rfl | rfl | rfl | rfl
    · conv => whnf
      rw [hw1]
      exact ⟨(_, (b_, b, cc, dd, e), b_, d), ⟨hd, by omega, by dsimp only; omega, by dsimp only; omega⟩, Shift.reset ⟨rfl, rfl, rfl, rfl, rfl, rfl, rfl, trivial⟩ ⟨rfl, rfl, rfl, rfl, trivial⟩ rfl rfl, by dsimp only; omega⟩
    · conv => whnf
      rw [hw1]
      exact ⟨(_, (a, b_, cc, dd, e), b_, d), ⟨hd, by omega, by dsimp only; omega, by dsimp only; omega⟩, Shift.reset ⟨rfl, rfl, rfl, rfl, rfl, rfl, rfl, trivial⟩ ⟨rfl, rfl, rfl, rfl, trivial⟩ rfl rfl, by dsimp only; omega⟩
    · conv => whnf
      rw [hw1]
      exact ⟨(_, (a, b, b_, dd, e), b_, d), ⟨hd, by omega, by dsimp only; omega, by dsimp only; omega⟩, Shift.reset ⟨rfl, rfl, rfl, rfl, rfl, rfl, rfl, trivial⟩ ⟨rfl, rfl, rfl, rfl, trivial⟩ rfl rfl, by dsimp only; omega⟩
    · conv => whnf
      rw [hw1]
      exact ⟨(_, (a, b, cc, b_, e), b_, d), ⟨hd, by omega, by dsimp only; omega, by dsimp only; omega⟩, Shift.reset ⟨rfl, rfl, rfl, rfl, rfl, rfl, rfl, trivial⟩ ⟨rfl, rfl, rfl, rfl, trivial⟩ rfl rfl, by dsimp only; omega⟩
    · conv => whnf
      rw [hw1]
      exact ⟨(_, (a, b, cc, dd, b_), b_, d), ⟨hd, by omega, by dsimp only; omega, by dsimp only; omega⟩, Shift.reset ⟨rfl, rfl, rfl, rfl, rfl, rfl, rfl, trivial⟩ ⟨rfl, rfl, rfl, rfl, trivial⟩ rfl rfl, by dsimp only; omega⟩
  · have hi : i = 5 := by simp at h; omega
    clear h
    subst hi
    conv => whnf
    refine ⟨by omega, ?_⟩
    conv => whnf
    refine ⟨by omega, ?_⟩
    conv => whnf
    refine ⟨by omega, ?_⟩
    conv => whnf
    refine ⟨by omega, ?_⟩
    conv => whnf
    refine ⟨by omega, ?_⟩
    conv => whnf
    exact ⟨rfl, rfl, hk a b cc dd e d hd (by omega)⟩
end Go.Proofs
