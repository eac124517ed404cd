/- Proved here: what functions of the given program come to, and the plain laws of it; no condition but those in the theorems. -/
import Derived.Test.YtknjncmgohjpkaaK25
import Derived.Test.YtknjncmgohjpkaaPCurve2
namespace Go.Proofs
open Go Go.Abs
set_option linter.unusedSimpArgs false
set_option linter.unusedVariables false
set_option maxRecDepth 4000
theorem rule_ok : FunB Try.prog 11 R_mkF := by
  intro cs args k h
  obtain ⟨d, r, rfl, rfl, hd, hr, hk⟩ := h
  refine doesB_ex (qc := qc1) (np := [(2, [(1, 9)]), (3, [(1, 7)])]) (CK := ckK [(23, cB R_next), (31, cB R_mkT)]) mixed Try.func11 rfl rfl Try.ntmps11 Try.results11 τ_ok (by kernel_rfl) (ckK_ok ⟨cB_ok next_ok rfl, cB_ok table_ok rfl, trivial⟩) (by simp) rfl rfl ?_
  conv => whnf
  refine ⟨d, rfl, rfl, hd, fun t d hd ht => ?_⟩
  conv => whnf
  refine ⟨d, rfl, hd, by omega, fun c d hd hc1 hc2 => ?_⟩
  have e1 : IntKind.i64.wrap (1 + c) = 1 + c := wrap_in (by omega) (by omega)
  have e2 : IntKind.i64.wrap (r.sur - r.dead) = r.sur - r.dead := wrap_in (by omega) (by omega)
  have e3 : IntKind.i64.wrap (r.sur - r.dead + 1) = r.sur - r.dead + 1 := wrap_in (by omega) (by omega)
  conv => whnf
  rw [e1, e2, e3]
  refine ⟨d, rfl, hd, by omega, fun v d hd hv1 hv2 => ?_⟩
  have e4 : IntKind.i64.wrap (r.sur - v) = r.sur - v := wrap_in (by omega) (by omega)
  conv => whnf
  rw [e4]
  have hb : ∀ b, (if 1 < r.sur - v then r.sur - v else 1) = b → 1 ≤ b ∧ b ≤ r.sur := fun b e => by subst e; split <;> omega
  generalize (if 1 < r.sur - v then r.sur - v else 1) = b at hb
  have hb := hb b rfl
  have hm : ∀ m, (if b < 20 then b else 20) = m → 1 ≤ m ∧ m ≤ b := fun m e => by subst e; split <;> omega
  generalize (if b < 20 then b else 20) = m at hm
  have hm := hm m rfl
  refine ⟨d, rfl, hd, by omega, fun w d hd hw1 hw2 => ?_⟩
  have e5 : IntKind.i64.wrap (b - 1) = b - 1 := wrap_in (by omega) (by omega)
  have e6 : IntKind.i64.wrap (b - 1 - w) = b - 1 - w := wrap_in (by omega) (by omega)
  conv => whnf
  rw [e5, e6]
  exact ⟨rfl, rfl, hk ⟨t, b, b - 1 - w, 1 + c⟩ d hd ⟨ht, by dsimp only; omega, by dsimp only; omega, by dsimp only; omega, by dsimp only; omega⟩⟩
end Go.Proofs

namespace Go.Proofs
open Go Go.Abs
set_option linter.unusedSimpArgs false
set_option linter.unusedVariables false
set_option maxRecDepth 4000
theorem mkcurve_ok : FunB Try.prog 32 R_curve := by
  intro cs args k h
  unfold R_curve at h
  split at h
  case h_2 => exact h.elim
  rename_i x0 y0 dx dy b
  obtain ⟨d, rfl, hd, hx0, hy0, hdx, hdy, hk⟩ := h
  refine doesB_ex (qc := qc1) (np := []) (CK := ckK [(23, cB R_next)]) mixed Try.func32 rfl rfl Try.ntmps32 Try.results32 τ_ok (by kernel_rfl) (ckK_ok ⟨cB_ok next_ok rfl, trivial⟩) (by simp) rfl rfl ?_
  conv => whnf
  refine Fork.mk (fun h => ?_) (fun h => ?_)
  · subst h
    conv => whnf
    refine ⟨d, rfl, hd, by omega, fun v d hd hv1 hv2 => ?_⟩
    conv => whnf
    rw [show IntKind.i64.wrap (1 + v) = 1 + v from wrap_in (by omega) (by omega)]
    have hk : ∀ (r : List Pt) (d' : Dk), d'.ok → 1 ≤ r.length → r.length ≤ 4 → chainP dx 1 (1 + dy - 1) (x0, y0) r → k (AV.c (Cell.lst (eP ((x0, y0) :: r)))) (dkC d') := hk
    refine ⟨List Pt × Dk × Int, fun s => ([(0, .c (.ptr (.x 0) 0)), (1, I (endP (x0, y0) s.1).1), (2, I (endP (x0, y0) s.1).2), (3, I dx), (4, I dy), (13, I 1), (14, .c (.view (.l 46 3) 0 (s.1.length + 1))), (15, I s.2.2)],
        ⟨[(.x 0, .blk (dkC s.2.1)), (.l 46 3, .arr 54 2 (eP ((x0, y0) :: s.1)) false)], 4, []⟩),
      fun s => s.2.1.ok ∧ chainP dx 1 (1 + dy - 1) (x0, y0) s.1 ∧ 0 ≤ s.2.2 ∧ (1 ≤ s.2.2 + s.1.length ∧ s.2.2 + s.1.length ≤ 4), fun s => s.2.2.toNat, ([], d, 1 + v), ⟨hd, trivial, by dsimp only; omega, by dsimp only; simp; omega⟩,
      Shift.rename [(.l 46 3, .l 20 0)] ⟨rfl, rfl, rfl, rfl, rfl, rfl, rfl, rfl, trivial⟩ ⟨rfl, rfl, trivial⟩ rfl rfl rfl, fun s hs => ?_⟩
    obtain ⟨r, d, kk⟩ := s
    obtain ⟨hd, hch, hk0, hk1⟩ := hs
    dsimp only at hd hch hk0 hk1 ⊢
    have hin := end_in (by omega) (by omega) (by omega) hch
    have hdl : dx * (r.length : Int) ≤ 10000 * 4 := Int.mul_le_mul hdx.2 (by omega) (by omega) (by omega)
    have hyl : (1 + dy - 1) * (r.length : Int) ≤ 10000 * 4 := Int.mul_le_mul (by omega) (by omega) (by omega) (by omega)
    dsimp only at hin
    generalize hE : endP (x0, y0) r = E at *
    conv => whnf
    refine Fork.mk (fun h => ?_) (fun h => ?_)
    · have hkk : 0 < kk := by simpa using h
      conv => whnf
      refine ⟨d, rfl, hd, by omega, fun u d hd hu1 hu2 => ?_⟩
      conv => whnf
      refine ⟨d, rfl, hd, by omega, fun w d hd hw1 hw2 => ?_⟩
      conv => whnf
      rw [show IntKind.i64.wrap (E.1 + 1) = E.1 + 1 from wrap_in (by omega) (by omega), show IntKind.i64.wrap (E.2 + 1) = E.2 + 1 from wrap_in (by omega) (by omega), show IntKind.i64.wrap (E.1 + 1 + u) = E.1 + 1 + u from wrap_in (by omega) (by omega), show IntKind.i64.wrap (E.2 + 1 + w) = E.2 + 1 + w from wrap_in (by omega) (by omega)]
      refine ⟨by simp, ?_⟩
      conv => whnf
      refine ⟨rfl, ?_⟩
      conv => whnf
      refine ⟨⟨rfl, rfl, rfl, by simp, by simp; omega⟩, ?_⟩
      conv => whnf
      rw [show IntKind.i64.wrap (kk - 1) = kk - 1 from wrap_in (by omega) (by omega)]
      refine ⟨(r ++ [(E.1 + 1 + u, E.2 + 1 + w)], d, kk - 1), ⟨hd, chain_snoc hch (by rw [hE]; dsimp only; omega) (by rw [hE]; dsimp only; omega), by dsimp only; omega, by dsimp only; simp; omega⟩, Shift.rename [(.l 46 3, .l 46 5)] ⟨rfl, ?_, ?_, rfl, rfl, rfl, ?_, rfl, trivial⟩ ⟨rfl, ?_, trivial⟩ rfl rfl rfl, ?_⟩
      · dsimp only; rw [endP_snoc]; rfl
      · dsimp only; rw [endP_snoc]; rfl
      · dsimp only; simp; rfl
      · dsimp only; rw [show (x0, y0) :: (r ++ [(E.1 + 1 + u, E.2 + 1 + w)]) = ((x0, y0) :: r) ++ [(E.1 + 1 + u, E.2 + 1 + w)] from rfl, ← eP_snoc]; rfl
      · show (kk - 1).toNat < kk.toNat
        omega
    · have hkk : ¬ 0 < kk := by simpa using h
      conv => whnf
      refine ⟨by simp, ?_⟩
      conv => whnf
      exact leaf_p _ (by simp) rfl (hk r d hd (by omega) (by omega) hch)
  · subst h
    conv => whnf
    refine ⟨d, rfl, hd, by omega, fun v d hd hv1 hv2 => ?_⟩
    conv => whnf
    rw [show IntKind.i64.wrap (1 + v) = 1 + v from wrap_in (by omega) (by omega)]
    have hk : ∀ (r : List Pt) (d' : Dk), d'.ok → 1 ≤ r.length → r.length ≤ 4 → chainP dx 0 (0 + dy - 1) (x0, y0) r → k (AV.c (Cell.lst (eP ((x0, y0) :: r)))) (dkC d') := hk
    refine ⟨List Pt × Dk × Int, fun s => ([(0, .c (.ptr (.x 0) 0)), (1, I (endP (x0, y0) s.1).1), (2, I (endP (x0, y0) s.1).2), (3, I dx), (4, I dy), (13, I 0), (14, .c (.view (.l 46 3) 0 (s.1.length + 1))), (15, I s.2.2)],
        ⟨[(.x 0, .blk (dkC s.2.1)), (.l 46 3, .arr 54 2 (eP ((x0, y0) :: s.1)) false)], 4, []⟩),
      fun s => s.2.1.ok ∧ chainP dx 0 (0 + dy - 1) (x0, y0) s.1 ∧ 0 ≤ s.2.2 ∧ (1 ≤ s.2.2 + s.1.length ∧ s.2.2 + s.1.length ≤ 4), fun s => s.2.2.toNat, ([], d, 1 + v), ⟨hd, trivial, by dsimp only; omega, by dsimp only; simp; omega⟩,
      Shift.rename [(.l 46 3, .l 20 0)] ⟨rfl, rfl, rfl, rfl, rfl, rfl, rfl, rfl, trivial⟩ ⟨rfl, rfl, trivial⟩ rfl rfl rfl, fun s hs => ?_⟩
    obtain ⟨r, d, kk⟩ := s
    obtain ⟨hd, hch, hk0, hk1⟩ := hs
    dsimp only at hd hch hk0 hk1 ⊢
    have hin := end_in (by omega) (by omega) (by omega) hch
    have hdl : dx * (r.length : Int) ≤ 10000 * 4 := Int.mul_le_mul hdx.2 (by omega) (by omega) (by omega)
    have hyl : (0 + dy - 1) * (r.length : Int) ≤ 10000 * 4 := Int.mul_le_mul (by omega) (by omega) (by omega) (by omega)
    dsimp only at hin
    generalize hE : endP (x0, y0) r = E at *
    conv => whnf
    refine Fork.mk (fun h => ?_) (fun h => ?_)
    · have hkk : 0 < kk := by simpa using h
      conv => whnf
      refine ⟨d, rfl, hd, by omega, fun u d hd hu1 hu2 => ?_⟩
      conv => whnf
      refine ⟨d, rfl, hd, by omega, fun w d hd hw1 hw2 => ?_⟩
      conv => whnf
      rw [show IntKind.i64.wrap (E.1 + 1) = E.1 + 1 from wrap_in (by omega) (by omega), show IntKind.i64.wrap (E.2 + 0) = E.2 + 0 from wrap_in (by omega) (by omega), show IntKind.i64.wrap (E.1 + 1 + u) = E.1 + 1 + u from wrap_in (by omega) (by omega), show IntKind.i64.wrap (E.2 + 0 + w) = E.2 + 0 + w from wrap_in (by omega) (by omega)]
      refine ⟨by simp, ?_⟩
      conv => whnf
      refine ⟨rfl, ?_⟩
      conv => whnf
      refine ⟨⟨rfl, rfl, rfl, by simp, by simp; omega⟩, ?_⟩
      conv => whnf
      rw [show IntKind.i64.wrap (kk - 1) = kk - 1 from wrap_in (by omega) (by omega)]
      refine ⟨(r ++ [(E.1 + 1 + u, E.2 + 0 + w)], d, kk - 1), ⟨hd, chain_snoc hch (by rw [hE]; dsimp only; omega) (by rw [hE]; dsimp only; omega), by dsimp only; omega, by dsimp only; simp; omega⟩, Shift.rename [(.l 46 3, .l 46 5)] ⟨rfl, ?_, ?_, rfl, rfl, rfl, ?_, rfl, trivial⟩ ⟨rfl, ?_, trivial⟩ rfl rfl rfl, ?_⟩
      · dsimp only; rw [endP_snoc]; rfl
      · dsimp only; rw [endP_snoc]; rfl
      · dsimp only; simp; rfl
      · dsimp only; rw [show (x0, y0) :: (r ++ [(E.1 + 1 + u, E.2 + 0 + w)]) = ((x0, y0) :: r) ++ [(E.1 + 1 + u, E.2 + 0 + w)] from rfl, ← eP_snoc]; rfl
      · show (kk - 1).toNat < kk.toNat
        omega
    · have hkk : ¬ 0 < kk := by simpa using h
      conv => whnf
      refine ⟨by simp, ?_⟩
      conv => whnf
      exact leaf_p _ (by simp) rfl (hk r d hd (by omega) (by omega) hch)
end Go.Proofs

namespace Go.Proofs
open Go Go.Abs
set_option linter.unusedSimpArgs false
set_option linter.unusedVariables false
set_option maxRecDepth 4000
theorem quo_in {a n : Int} (h : 0 ≤ a) (h2 : a ≤ 1000000) (hn : 0 < n) : 0 ≤ a.tdiv n ∧ a.tdiv n ≤ a := by
  rw [Int.tdiv_eq_ediv_of_nonneg h]
  exact ⟨Int.ediv_nonneg h (by omega), Int.ediv_le_self _ h⟩
theorem resv_ok : FunB Try.prog 12 R_resv := by
  intro cs args k h
  unfold R_resv at h
  split at h
  case h_2 => exact h.elim
  obtain ⟨d, rfl, hd, hk⟩ := h
  refine doesB_ex (qc := qc1) (np := [(11, [(2, 11), (3, 11), (4, 11), (4, 13), (5, 11), (5, 13), (6, 11), (6, 13), (6, 15), (7, 11), (7, 13), (7, 15), (8, 11), (8, 13), (8, 15), (8, 17), (9, 11), (9, 13), (9, 15), (9, 17)])]) (CK := ckK [(23, cB R_next), (32, cB R_curve)]) mixed Try.func12 rfl rfl Try.ntmps12 Try.results12 τ_ok (by kernel_rfl) (ckK_ok ⟨cB_ok next_ok rfl, cB_ok mkcurve_ok rfl, trivial⟩) (by simp) rfl rfl ?_
  conv => whnf
  refine ⟨d, rfl, hd, by omega, fun x d hd hx1 hx2 => ?_⟩
  conv => whnf
  refine ⟨d, rfl, hd, by omega, fun y d hd hy1 hy2 => ?_⟩
  conv => whnf
  rw [show IntKind.i64.wrap (100 + x) = 100 + x from wrap_in (by omega) (by omega)]
  refine ⟨d, rfl, hd, by omega, by omega, by omega, by omega, fun r d hd hr1 hr2 hch => ?_⟩
  rw [show loB true = 1 from rfl] at hch
  conv => whnf
  refine ⟨by omega, ePt (100 + x, y), rfl, rfl, ?_⟩
  conv => whnf
  have hw2 : IntKind.i64.wrap (((eP ((100 + x, y) :: r)).length : Int) - 1) = (r.length : Int) := by rw [eP_len, List.length_cons, wrap_in (by omega) (by omega)]; omega
  rw [hw2]
  have hend := end_in (by omega) (by omega) (by omega) hch
  dsimp only at hend
  refine ⟨by omega, ePt (endP (100 + x, y) r), by rw [Int.toNat_natCast]; exact eP_at _ (endP_at _ _), rfl, ?_⟩
  conv => whnf
  have hE : (endP (100 + x, y) r).1 ≤ 1000000 := by omega
  have hk : ∀ (a b c e f : Int) (d' : Dk), d'.ok → (100 + x ≤ a ∧ a ≤ b ∧ b ≤ c ∧ c ≤ e ∧ e ≤ f ∧ f ≤ (endP (100 + x, y) r).1) → k (AV.agg [.lst (eP ((100 + x, y) :: r)), IC a, IC b, IC c, IC e, IC f]) (dkC d') := fun a b c e f d' hd' h =>
    hk ⟨(100 + x, y) :: r, a, b, c, e, f⟩ d' hd' (made_of (by dsimp only; omega) (by dsimp only; omega) ⟨hr1, hr2⟩ hch h) (by simp; omega)
  have hE0 : 100 + x ≤ (endP (100 + x, y) r).1 := hend.1
  generalize (endP (100 + x, y) r).1 = E at *
  generalize (100 + x, y) :: r = c at *
  generalize hx0 : 100 + x = x0 at *
  refine ⟨Nat × (Int × Int × Int × Int × Int) × Int × Dk, fun s => ([(0, .c (.ptr (.x 0) 0)), (2, .c (.ptr (.l 2 0) 0)), (3, .c (.ptr (.l 3 3) 0)), (4, I s.2.2.1), (5, I E), (6, .c (.ptr (.l 6 6) 0)), (30, I s.1)],
      ⟨[(.x 0, .blk (dkC s.2.2.2)), (.l 2 0, .blk [.sc (.slice none 0 0), IC 0, IC 0, IC 0, IC 0, IC 0]), (.l 3 3, .blk [.lst (eP c), IC 0, IC 0, IC 0, IC 0, IC 0]), (.l 6 6, .blk [IC s.2.1.1, IC s.2.1.2.1, IC s.2.1.2.2.1, IC s.2.1.2.2.2.1, IC s.2.1.2.2.2.2])], 10, []⟩),
    fun s => s.2.2.2.ok ∧ s.1 ≤ 5 ∧ (x0 ≤ s.2.2.1 ∧ s.2.2.1 ≤ E) ∧ (1 ≤ s.1 → x0 ≤ s.2.1.1) ∧ (2 ≤ s.1 → s.2.1.1 ≤ s.2.1.2.1) ∧ (3 ≤ s.1 → s.2.1.2.1 ≤ s.2.1.2.2.1) ∧ (4 ≤ s.1 → s.2.1.2.2.1 ≤ s.2.1.2.2.2.1) ∧ (5 ≤ s.1 → s.2.1.2.2.2.1 ≤ s.2.1.2.2.2.2) ∧
      (s.1 = 1 → s.2.2.1 = s.2.1.1) ∧ (s.1 = 2 → s.2.2.1 = s.2.1.2.1) ∧ (s.1 = 3 → s.2.2.1 = s.2.1.2.2.1) ∧ (s.1 = 4 → s.2.2.1 = s.2.1.2.2.2.1) ∧ (s.1 = 5 → s.2.2.1 = s.2.1.2.2.2.2),
    fun s => 5 - s.1, (0, (0, 0, 0, 0, 0), x0, d), ⟨hd, by omega, by dsimp only; omega, by dsimp only; omega⟩, Shift.rename [(.l 3 3, .l 3 1), (.l 6 6, .l 6 2)] ⟨rfl, rfl, rfl, rfl, rfl, rfl, rfl, trivial⟩ ⟨rfl, rfl, rfl, rfl, trivial⟩ rfl rfl rfl, fun s hs => ?_⟩
  obtain ⟨i, ⟨a, b, cc, dd, e⟩, at_, d⟩ := s
  dsimp only at hs ⊢
  obtain ⟨hd, hi5, hat, hs⟩ := hs
  conv => whnf
  refine Fork.mk (fun h => ?_) (fun h => ?_)
  · have hi : i < 5 := by simp at h; omega
    clear h
    have hw1 := wr_succ (i := i) (by omega)
    have hw3 : IntKind.i64.wrap (5 - (i : Int)) = 5 - i := wrap_in (by omega) (by omega)
    have hw4 : IntKind.i64.wrap (E - at_) = E - at_ := wrap_in (by omega) (by omega)
    conv => whnf
    rw [hw3, hw4]
    refine ⟨by omega, ?_⟩
    obtain ⟨q1, q2⟩ := quo_in (a := E - at_) (n := 5 - (i : Int)) (by omega) (by omega) (by omega)
    generalize hq : (E - at_).tdiv (5 - (i : Int)) = q at *
    have hw5 : IntKind.i64.wrap q = q := wrap_in (by omega) (by omega)
    have hw6 : IntKind.i64.wrap (q + 1) = q + 1 := wrap_in (by omega) (by omega)
    conv => whnf
    rw [hw5, hw6]
    refine ⟨d, rfl, hd, by omega, fun v d hd hv1 hv2 => ?_⟩
    have hw7 : IntKind.i64.wrap (at_ + v) = at_ + v := wrap_in (by omega) (by omega)
    clear hq hw5 hw6 hw3 hw4
    conv => whnf
    rw [hw7]
    have hlt : at_ + v ≤ E := by omega
    clear hv2 q1 q2
    generalize hb : at_ + v = b_ at *
    refine ⟨by omega, ?_⟩
    rcases (by omega : i = 0 ∨ i = 1 ∨ i = 2 ∨ i = 3 ∨ i = 4) with rfl | rfl | rfl | rfl | rfl
    · conv => whnf
      rw [hw1]
      exact ⟨(_, (b_, b, cc, dd, e), b_, d), ⟨hd, by omega, by dsimp only; omega, by dsimp only; omega⟩, Shift.reset ⟨rfl, rfl, rfl, rfl, rfl, rfl, rfl, trivial⟩ ⟨rfl, rfl, rfl, rfl, trivial⟩ rfl rfl, by dsimp only; omega⟩
    · conv => whnf
      rw [hw1]
      exact ⟨(_, (a, b_, cc, dd, e), b_, d), ⟨hd, by omega, by dsimp only; omega, by dsimp only; omega⟩, Shift.reset ⟨rfl, rfl, rfl, rfl, rfl, rfl, rfl, trivial⟩ ⟨rfl, rfl, rfl, rfl, trivial⟩ rfl rfl, by dsimp only; omega⟩
    · conv => whnf
      rw [hw1]
      exact ⟨(_, (a, b, b_, dd, e), b_, d), ⟨hd, by omega, by dsimp only; omega, by dsimp only; omega⟩, Shift.reset ⟨rfl, rfl, rfl, rfl, rfl, rfl, rfl, trivial⟩ ⟨rfl, rfl, rfl, rfl, trivial⟩ rfl rfl, by dsimp only; omega⟩
    · conv => whnf
      rw [hw1]
      exact ⟨(_, (a, b, cc, b_, e), b_, d), ⟨hd, by omega, by dsimp only; omega, by dsimp only; omega⟩, Shift.reset ⟨rfl, rfl, rfl, rfl, rfl, rfl, rfl, trivial⟩ ⟨rfl, rfl, rfl, rfl, trivial⟩ rfl rfl, by dsimp only; omega⟩
    · conv => whnf
      rw [hw1]
      exact ⟨(_, (a, b, cc, dd, b_), b_, d), ⟨hd, by omega, by dsimp only; omega, by dsimp only; omega⟩, Shift.reset ⟨rfl, rfl, rfl, rfl, rfl, rfl, rfl, trivial⟩ ⟨rfl, rfl, rfl, rfl, trivial⟩ rfl rfl, by dsimp only; omega⟩
  · have hi : i = 5 := by simp at h; omega
    clear h
    subst hi
    conv => whnf
    refine ⟨by omega, ?_⟩
    conv => whnf
    refine ⟨by omega, ?_⟩
    conv => whnf
    refine ⟨by omega, ?_⟩
    conv => whnf
    refine ⟨by omega, ?_⟩
    conv => whnf
    refine ⟨by omega, ?_⟩
    conv => whnf
    exact ⟨rfl, rfl, hk a b cc dd e d hd (by omega)⟩
end Go.Proofs
