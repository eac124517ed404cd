/- Proved here: what functions of the given program come to, and the plain laws of it; no condition but those in the theorems. -/
import Derived.Test.YtknjncmgohjpkaaK25
import Derived.Test.YtknjncmgohjpkaaPRating
namespace Go.Proofs
open Go Go.Abs
set_option linter.unusedSimpArgs false
set_option linter.unusedVariables false
set_option maxRecDepth 4000
theorem rule_ok : FunB Try.prog 11 R_mkF := by
  intro cs args k h
  obtain ⟨d, r, rfl, rfl, hd, hr, hk⟩ := h
  refine doesB_ex (qc := qc1) (np := [(2, [(1, 9)]), (3, [(1, 7)])]) (CK := ckK [(23, cB R_next), (31, cB R_mkT)]) mixed Try.func11 rfl rfl Try.ntmps11 Try.results11 τ_ok (by kernel_rfl) (ckK_ok ⟨cB_ok next_ok rfl, cB_ok table_ok rfl, trivial⟩) (by simp) rfl rfl ?_
  conv => whnf
  refine ⟨d, rfl, rfl, hd, fun t d hd ht => ?_⟩
  conv => whnf
  refine ⟨d, rfl, hd, by omega, fun c d hd hc1 hc2 => ?_⟩
  have e1 : IntKind.i64.wrap (1 + c) = 1 + c := wrap_in (by omega) (by omega)
  have e2 : IntKind.i64.wrap (r.sur - r.dead) = r.sur - r.dead := wrap_in (by omega) (by omega)
  have e3 : IntKind.i64.wrap (r.sur - r.dead + 1) = r.sur - r.dead + 1 := wrap_in (by omega) (by omega)
  conv => whnf
  rw [e1, e2, e3]
  refine ⟨d, rfl, hd, by omega, fun v d hd hv1 hv2 => ?_⟩
  have e4 : IntKind.i64.wrap (r.sur - v) = r.sur - v := wrap_in (by omega) (by omega)
  conv => whnf
  rw [e4]
  have hb : ∀ b, (if 1 < r.sur - v then r.sur - v else 1) = b → 1 ≤ b ∧ b ≤ r.sur := fun b e => by subst e; split <;> omega
  generalize (if 1 < r.sur - v then r.sur - v else 1) = b at hb
  have hb := hb b rfl
  have hm : ∀ m, (if b < 20 then b else 20) = m → 1 ≤ m ∧ m ≤ b := fun m e => by subst e; split <;> omega
  generalize (if b < 20 then b else 20) = m at hm
  have hm := hm m rfl
  refine ⟨d, rfl, hd, by omega, fun w d hd hw1 hw2 => ?_⟩
  have e5 : IntKind.i64.wrap (b - 1) = b - 1 := wrap_in (by omega) (by omega)
  have e6 : IntKind.i64.wrap (b - 1 - w) = b - 1 - w := wrap_in (by omega) (by omega)
  conv => whnf
  rw [e5, e6]
  exact ⟨rfl, rfl, hk ⟨t, b, b - 1 - w, 1 + c⟩ d hd ⟨ht, by dsimp only; omega, by dsimp only; omega, by dsimp only; omega, by dsimp only; omega⟩⟩
end Go.Proofs

namespace Go.Proofs
open Go Go.Abs
set_option linter.unusedSimpArgs false
set_option linter.unusedVariables false
set_option maxRecDepth 4000
theorem mkcurve_ok : FunB Try.prog 32 R_curve := by
  intro cs args k h
  unfold R_curve at h
  split at h
  case h_2 => exact h.elim
  rename_i x0 y0 dx dy b
  obtain ⟨d, rfl, hd, hx0, hy0, hdx, hdy, hk⟩ := h
  refine doesB_ex (qc := qc1) (np := []) (CK := ckK [(23, cB R_next)]) mixed Try.func32 rfl rfl Try.ntmps32 Try.results32 τ_ok (by kernel_rfl) (ckK_ok ⟨cB_ok next_ok rfl, trivial⟩) (by simp) rfl rfl ?_
  conv => whnf
  refine Fork.mk (fun h => ?_) (fun h => ?_)
  · subst h
    conv => whnf
    refine ⟨d, rfl, hd, by omega, fun v d hd hv1 hv2 => ?_⟩
    conv => whnf
    rw [show IntKind.i64.wrap (1 + v) = 1 + v from wrap_in (by omega) (by omega)]
    have hk : ∀ (r : List Pt) (d' : Dk), d'.ok → 1 ≤ r.length → r.length ≤ 4 → chainP dx 1 (1 + dy - 1) (x0, y0) r → k (AV.c (Cell.lst (eP ((x0, y0) :: r)))) (dkC d') := hk
    refine ⟨List Pt × Dk × Int, fun s => ([(0, .c (.ptr (.x 0) 0)), (1, I (endP (x0, y0) s.1).1), (2, I (endP (x0, y0) s.1).2), (3, I dx), (4, I dy), (13, I 1), (14, .c (.view (.l 46 3) 0 (s.1.length + 1))), (15, I s.2.2)],
        ⟨[(.x 0, .blk (dkC s.2.1)), (.l 46 3, .arr 54 2 (eP ((x0, y0) :: s.1)) false)], 4, []⟩),
      fun s => s.2.1.ok ∧ chainP dx 1 (1 + dy - 1) (x0, y0) s.1 ∧ 0 ≤ s.2.2 ∧ (1 ≤ s.2.2 + s.1.length ∧ s.2.2 + s.1.length ≤ 4), fun s => s.2.2.toNat, ([], d, 1 + v), ⟨hd, trivial, by dsimp only; omega, by dsimp only; simp; omega⟩,
      Shift.rename [(.l 46 3, .l 20 0)] ⟨rfl, rfl, rfl, rfl, rfl, rfl, rfl, rfl, trivial⟩ ⟨rfl, rfl, trivial⟩ rfl rfl rfl, fun s hs => ?_⟩
    obtain ⟨r, d, kk⟩ := s
    obtain ⟨hd, hch, hk0, hk1⟩ := hs
    dsimp only at hd hch hk0 hk1 ⊢
    have hin := end_in (by omega) (by omega) (by omega) hch
    have hdl : dx * (r.length : Int) ≤ 10000 * 4 := Int.mul_le_mul hdx.2 (by omega) (by omega) (by omega)
    have hyl : (1 + dy - 1) * (r.length : Int) ≤ 10000 * 4 := Int.mul_le_mul (by omega) (by omega) (by omega) (by omega)
    dsimp only at hin
    generalize hE : endP (x0, y0) r = E at *
    conv => whnf
    refine Fork.mk (fun h => ?_) (fun h => ?_)
    · have hkk : 0 < kk := by simpa using h
      conv => whnf
      refine ⟨d, rfl, hd, by omega, fun u d hd hu1 hu2 => ?_⟩
      conv => whnf
      refine ⟨d, rfl, hd, by omega, fun w d hd hw1 hw2 => ?_⟩
      conv => whnf
      rw [show IntKind.i64.wrap (E.1 + 1) = E.1 + 1 from wrap_in (by omega) (by omega), show IntKind.i64.wrap (E.2 + 1) = E.2 + 1 from wrap_in (by omega) (by omega), show IntKind.i64.wrap (E.1 + 1 + u) = E.1 + 1 + u from wrap_in (by omega) (by omega), show IntKind.i64.wrap (E.2 + 1 + w) = E.2 + 1 + w from wrap_in (by omega) (by omega)]
      refine ⟨by simp, ?_⟩
      conv => whnf
      refine ⟨rfl, ?_⟩
      conv => whnf
      refine ⟨⟨rfl, rfl, rfl, by simp, by simp; omega⟩, ?_⟩
      conv => whnf
      rw [show IntKind.i64.wrap (kk - 1) = kk - 1 from wrap_in (by omega) (by omega)]
      refine ⟨(r ++ [(E.1 + 1 + u, E.2 + 1 + w)], d, kk - 1), ⟨hd, chain_snoc hch (by rw [hE]; dsimp only; omega) (by rw [hE]; dsimp only; omega), by dsimp only; omega, by dsimp only; simp; omega⟩, Shift.rename [(.l 46 3, .l 46 5)] ⟨rfl, ?_, ?_, rfl, rfl, rfl, ?_, rfl, trivial⟩ ⟨rfl, ?_, trivial⟩ rfl rfl rfl, ?_⟩
      · dsimp only; rw [endP_snoc]; rfl
      · dsimp only; rw [endP_snoc]; rfl
      · dsimp only; simp; rfl
      · dsimp only; rw [show (x0, y0) :: (r ++ [(E.1 + 1 + u, E.2 + 1 + w)]) = ((x0, y0) :: r) ++ [(E.1 + 1 + u, E.2 + 1 + w)] from rfl, ← eP_snoc]; rfl
      · show (kk - 1).toNat < kk.toNat
        omega
    · have hkk : ¬ 0 < kk := by simpa using h
      conv => whnf
      refine ⟨by simp, ?_⟩
      conv => whnf
      exact leaf_p _ (by simp) rfl (hk r d hd (by omega) (by omega) hch)
  · subst h
    conv => whnf
    refine ⟨d, rfl, hd, by omega, fun v d hd hv1 hv2 => ?_⟩
    conv => whnf
    rw [show IntKind.i64.wrap (1 + v) = 1 + v from wrap_in (by omega) (by omega)]
    have hk : ∀ (r : List Pt) (d' : Dk), d'.ok → 1 ≤ r.length → r.length ≤ 4 → chainP dx 0 (0 + dy - 1) (x0, y0) r → k (AV.c (Cell.lst (eP ((x0, y0) :: r)))) (dkC d') := hk
    refine ⟨List Pt × Dk × Int, fun s => ([(0, .c (.ptr (.x 0) 0)), (1, I (endP (x0, y0) s.1).1), (2, I (endP (x0, y0) s.1).2), (3, I dx), (4, I dy), (13, I 0), (14, .c (.view (.l 46 3) 0 (s.1.length + 1))), (15, I s.2.2)],
        ⟨[(.x 0, .blk (dkC s.2.1)), (.l 46 3, .arr 54 2 (eP ((x0, y0) :: s.1)) false)], 4, []⟩),
      fun s => s.2.1.ok ∧ chainP dx 0 (0 + dy - 1) (x0, y0) s.1 ∧ 0 ≤ s.2.2 ∧ (1 ≤ s.2.2 + s.1.length ∧ s.2.2 + s.1.length ≤ 4), fun s => s.2.2.toNat, ([], d, 1 + v), ⟨hd, trivial, by dsimp only; omega, by dsimp only; simp; omega⟩,
      Shift.rename [(.l 46 3, .l 20 0)] ⟨rfl, rfl, rfl, rfl, rfl, rfl, rfl, rfl, trivial⟩ ⟨rfl, rfl, trivial⟩ rfl rfl rfl, fun s hs => ?_⟩
    obtain ⟨r, d, kk⟩ := s
    obtain ⟨hd, hch, hk0, hk1⟩ := hs
    dsimp only at hd hch hk0 hk1 ⊢
    have hin := end_in (by omega) (by omega) (by omega) hch
    have hdl : dx * (r.length : Int) ≤ 10000 * 4 := Int.mul_le_mul hdx.2 (by omega) (by omega) (by omega)
    have hyl : (0 + dy - 1) * (r.length : Int) ≤ 10000 * 4 := Int.mul_le_mul (by omega) (by omega) (by omega) (by omega)
    dsimp only at hin
    generalize hE : endP (x0, y0) r = E at *
    conv => whnf
    refine Fork.mk (fun h => ?_) (fun h => ?_)
    · have hkk : 0 < kk := by simpa using h
      conv => whnf
      refine ⟨d, rfl, hd, by omega, fun u d hd hu1 hu2 => ?_⟩
      conv => whnf
      refine ⟨d, rfl, hd, by omega, fun w d hd hw1 hw2 => ?_⟩
      conv => whnf
      rw [show IntKind.i64.wrap (E.1 + 1) = E.1 + 1 from wrap_in (by omega) (by omega), show IntKind.i64.wrap (E.2 + 0) = E.2 + 0 from wrap_in (by omega) (by omega), show IntKind.i64.wrap (E.1 + 1 + u) = E.1 + 1 + u from wrap_in (by omega) (by omega), show IntKind.i64.wrap (E.2 + 0 + w) = E.2 + 0 + w from wrap_in (by omega) (by omega)]
      refine ⟨by simp, ?_⟩
      conv => whnf
      refine ⟨rfl, ?_⟩
      conv => whnf
      refine ⟨⟨rfl, rfl, rfl, by simp, by simp; omega⟩, ?_⟩
      conv => whnf
      rw [show IntKind.i64.wrap (kk - 1) = kk - 1 from wrap_in (by omega) (by omega)]
      refine ⟨(r ++ [(E.1 + 1 + u, E.2 + 0 + w)], d, kk - 1), ⟨hd, chain_snoc hch (by rw [hE]; dsimp only; omega) (by rw [hE]; dsimp only; omega), by dsimp only; omega, by dsimp only; simp; omega⟩, Shift.rename [(.l 46 3, .l 46 5)] ⟨rfl, ?_, ?_, rfl, rfl, rfl, ?_, rfl, trivial⟩ ⟨rfl, ?_, trivial⟩ rfl rfl rfl, ?_⟩
      · dsimp only; rw [endP_snoc]; rfl
      · dsimp only; rw [endP_snoc]; rfl
      · dsimp only; simp; rfl
      · dsimp only; rw [show (x0, y0) :: (r ++ [(E.1 + 1 + u, E.2 + 0 + w)]) = ((x0, y0) :: r) ++ [(E.1 + 1 + u, E.2 + 0 + w)] from rfl, ← eP_snoc]; rfl
      · show (kk - 1).toNat < kk.toNat
        omega
    · have hkk : ¬ 0 < kk := by simpa using h
      conv => whnf
      refine ⟨by simp, ?_⟩
      conv => whnf
      exact leaf_p _ (by simp) rfl (hk r d hd (by omega) (by omega) hch)
end Go.Proofs
