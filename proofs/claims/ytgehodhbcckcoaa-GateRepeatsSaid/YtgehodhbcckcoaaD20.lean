/- Proved here: what functions of the given program come to, and the plain laws of it; no condition but those in the theorems. -/
import Derived.Test.YtgehodhbcckcoaaPCurve
import Derived.Test.YtgehodhbcckcoaaC20
/- What is made out of decks: curves. No program. -/
namespace Go.Proofs
open Go Go.Abs
set_option linter.unusedSimpArgs false
set_option linter.unusedVariables false
def chainP (dx lo hi : Int) : Pt → List Pt → Prop
  | _, [] => True
  | p, q :: r => (p.1 < q.1 ∧ q.1 ≤ p.1 + dx) ∧ (p.2 + lo ≤ q.2 ∧ q.2 ≤ p.2 + hi) ∧ chainP dx lo hi q r
def endP : Pt → List Pt → Pt
  | p, [] => p
  | _, q :: r => endP q r
theorem endP_snoc : ∀ (p : Pt) (r : List Pt) (n : Pt), endP p (r ++ [n]) = n
  | _, [], _ => rfl
  | _, q :: r, n => endP_snoc q r n
theorem chain_snoc {dx lo hi : Int} : ∀ {p : Pt} {r : List Pt} {n : Pt}, chainP dx lo hi p r → (endP p r).1 < n.1 ∧ n.1 ≤ (endP p r).1 + dx → (endP p r).2 + lo ≤ n.2 ∧ n.2 ≤ (endP p r).2 + hi → chainP dx lo hi p (r ++ [n])
  | p, [], n, _, h1, h2 => ⟨h1, h2, trivial⟩
  | p, q :: r, n, h, h1, h2 => ⟨h.1, h.2.1, chain_snoc h.2.2 h1 h2⟩
theorem end_in {dx lo hi : Int} (h0 : 0 ≤ lo) (hd : 0 ≤ dx) (hh : 0 ≤ hi) : ∀ {p : Pt} {r : List Pt}, chainP dx lo hi p r → p.1 ≤ (endP p r).1 ∧ (endP p r).1 ≤ p.1 + dx * r.length ∧ p.2 ≤ (endP p r).2 ∧ (endP p r).2 ≤ p.2 + hi * r.length
  | p, [], _ => by simp [endP]
  | p, q :: r, h => by
    have ih := end_in h0 hd hh h.2.2
    have e1 : dx * ((q :: r).length : Int) = dx * r.length + dx := by rw [List.length_cons, Int.natCast_add, Int.mul_add]; simp
    have e2 : hi * ((q :: r).length : Int) = hi * r.length + hi := by rw [List.length_cons, Int.natCast_add, Int.mul_add]; simp
    have h1 := h.1
    have h2 := h.2.1
    rw [e1, e2]
    unfold endP
    omega
/-- A chain of small steps is a valid curve. -/
theorem chain_ck {dx lo hi : Int} (h0 : 0 ≤ lo) (hp : hi * dx ≤ 4611686018427387904) : ∀ {r : List Pt} {p : Pt}, chainP dx lo hi p r → (∀ q ∈ r, okPt q = true) → ckGo p r = 0
  | [], _, _, _ => rfl
  | q :: r, p, h, hq => by
    refine ckGo_cons.2 ⟨hq q (by simp), h.1.1, by have := h.2.1; omega, ?_, chain_ck h0 hp h.2.2 fun x hx => hq x (by simp [hx])⟩
    have h1 := h.1
    have h2 := h.2.1
    have e1 : (q.2 - p.2) * (q.1 - p.1) ≤ hi * (q.1 - p.1) := Int.mul_le_mul_of_nonneg_right (by omega) (by omega)
    have e2 : hi * (q.1 - p.1) ≤ hi * dx := Int.mul_le_mul_of_nonneg_left (by omega) (by omega)
    omega
theorem chain_in {dx lo hi : Int} (h0 : 0 ≤ lo) (hd : 0 ≤ dx) (hh : 0 ≤ hi) : ∀ {r : List Pt} {p : Pt}, chainP dx lo hi p r → ∀ q ∈ r, p.1 < q.1 ∧ q.1 ≤ p.1 + dx * r.length ∧ p.2 ≤ q.2 ∧ q.2 ≤ p.2 + hi * r.length
  | [], _, _, q, hq => by simp at hq
  | a :: r, p, h, q, hq => by
    have e1 : dx * ((a :: r).length : Int) = dx * r.length + dx := by rw [List.length_cons, Int.natCast_add, Int.mul_add]; simp
    have e2 : hi * ((a :: r).length : Int) = hi * r.length + hi := by rw [List.length_cons, Int.natCast_add, Int.mul_add]; simp
    have e3 : 0 ≤ dx * (r.length : Int) := Int.mul_nonneg hd (by omega)
    have e4 : 0 ≤ hi * (r.length : Int) := Int.mul_nonneg hh (by omega)
    rw [e1, e2]
    have h1 := h.1
    have h2 := h.2.1
    rcases List.mem_cons.1 hq with rfl | hq
    · omega
    · have := chain_in h0 hd hh h.2.2 q hq
      omega
def loB (b : Bool) : Int := match b with
  | true => 1
  | false => 0
/-- A curve, made of a deck. -/
def R_curve : RB := fun cs args k => match args with
  | [.c (.sc (.int .i64 x)), .c (.sc (.int .i64 y)), .c (.sc (.int .i64 dx)), .c (.sc (.int .i64 dy)), .c (.sc (.bool b))] => ∃ d : Dk, cs = dkC d ∧ d.ok ∧ (0 ≤ x ∧ x ≤ 1000000) ∧ (0 ≤ y ∧ y ≤ 1000000) ∧ (1 ≤ dx ∧ dx ≤ 10000) ∧ (1 ≤ dy ∧ dy ≤ 10000) ∧
      ∀ (r : List Pt) d', Dk.ok d' → 1 ≤ r.length → r.length ≤ 4 → chainP dx (loB b) (loB b + dy - 1) (x, y) r → k (.c (.lst (eP ((x, y) :: r)))) (dkC d')
  | _ => False
end Go.Proofs

namespace Go.Proofs
open Go Go.Abs
set_option linter.unusedSimpArgs false
set_option linter.unusedVariables false
set_option maxRecDepth 4000
theorem mkcurve_ok : FunB Try.prog 40 R_curve := by
  intro cs args k h
  unfold R_curve at h
  split at h
  case h_2 => exact h.elim
  rename_i x0 y0 dx dy b
  obtain ⟨d, rfl, hd, hx0, hy0, hdx, hdy, hk⟩ := h
  refine doesB_ex (qc := qc1) (np := []) (CK := ckK [(12, cB R_next)]) mixed Try.func40 rfl rfl Try.ntmps40 Try.results40 τ_ok (by kernel_rfl) (ckK_ok ⟨cB_ok next_ok rfl, trivial⟩) (by simp) rfl rfl ?_
  conv => whnf
  refine Fork.mk (fun h => ?_) (fun h => ?_)
  · subst h
    conv => whnf
    refine ⟨d, rfl, hd, by omega, fun v d hd hv1 hv2 => ?_⟩
    conv => whnf
    rw [show IntKind.i64.wrap (1 + v) = 1 + v from wrap_in (by omega) (by omega)]
    have hk : ∀ (r : List Pt) (d' : Dk), d'.ok → 1 ≤ r.length → r.length ≤ 4 → chainP dx 1 (1 + dy - 1) (x0, y0) r → k (AV.c (Cell.lst (eP ((x0, y0) :: r)))) (dkC d') := hk
    refine ⟨List Pt × Dk × Int, fun s => ([(0, .c (.ptr (.x 0) 0)), (1, I (endP (x0, y0) s.1).1), (2, I (endP (x0, y0) s.1).2), (3, I dx), (4, I dy), (13, I 1), (14, .c (.view (.l 46 3) 0 (s.1.length + 1))), (15, I s.2.2)],
        ⟨[(.x 0, .blk (dkC s.2.1)), (.l 46 3, .arr 64 2 (eP ((x0, y0) :: s.1)) false)], 4, []⟩),
      fun s => s.2.1.ok ∧ chainP dx 1 (1 + dy - 1) (x0, y0) s.1 ∧ 0 ≤ s.2.2 ∧ (1 ≤ s.2.2 + s.1.length ∧ s.2.2 + s.1.length ≤ 4), fun s => s.2.2.toNat, ([], d, 1 + v), ⟨hd, trivial, by dsimp only; omega, by dsimp only; simp; omega⟩,
      Shift.rename [(.l 46 3, .l 20 0)] ⟨rfl, rfl, rfl, rfl, rfl, rfl, rfl, rfl, trivial⟩ ⟨rfl, rfl, trivial⟩ rfl rfl rfl, fun s hs => ?_⟩
    obtain ⟨r, d, kk⟩ := s
    obtain ⟨hd, hch, hk0, hk1⟩ := hs
    dsimp only at hd hch hk0 hk1 ⊢
    have hin := end_in (by omega) (by omega) (by omega) hch
    have hdl : dx * (r.length : Int) ≤ 10000 * 4 := Int.mul_le_mul hdx.2 (by omega) (by omega) (by omega)
    have hyl : (1 + dy - 1) * (r.length : Int) ≤ 10000 * 4 := Int.mul_le_mul (by omega) (by omega) (by omega) (by omega)
    dsimp only at hin
    generalize hE : endP (x0, y0) r = E at *
    conv => whnf
    refine Fork.mk (fun h => ?_) (fun h => ?_)
    · have hkk : 0 < kk := by simpa using h
      conv => whnf
      refine ⟨d, rfl, hd, by omega, fun u d hd hu1 hu2 => ?_⟩
      conv => whnf
      refine ⟨d, rfl, hd, by omega, fun w d hd hw1 hw2 => ?_⟩
      conv => whnf
      rw [show IntKind.i64.wrap (E.1 + 1) = E.1 + 1 from wrap_in (by omega) (by omega), show IntKind.i64.wrap (E.2 + 1) = E.2 + 1 from wrap_in (by omega) (by omega), show IntKind.i64.wrap (E.1 + 1 + u) = E.1 + 1 + u from wrap_in (by omega) (by omega), show IntKind.i64.wrap (E.2 + 1 + w) = E.2 + 1 + w from wrap_in (by omega) (by omega)]
      refine ⟨by simp, ?_⟩
      conv => whnf
      refine ⟨rfl, ?_⟩
      conv => whnf
      refine ⟨⟨rfl, rfl, rfl, by simp, by simp; omega⟩, ?_⟩
      conv => whnf
      rw [show IntKind.i64.wrap (kk - 1) = kk - 1 from wrap_in (by omega) (by omega)]
      refine ⟨(r ++ [(E.1 + 1 + u, E.2 + 1 + w)], d, kk - 1), ⟨hd, chain_snoc hch (by rw [hE]; dsimp only; omega) (by rw [hE]; dsimp only; omega), by dsimp only; omega, by dsimp only; simp; omega⟩, Shift.rename [(.l 46 3, .l 46 5)] ⟨rfl, ?_, ?_, rfl, rfl, rfl, ?_, rfl, trivial⟩ ⟨rfl, ?_, trivial⟩ rfl rfl rfl, ?_⟩
      · dsimp only; rw [endP_snoc]; rfl
      · dsimp only; rw [endP_snoc]; rfl
      · dsimp only; simp; rfl
      · dsimp only; rw [show (x0, y0) :: (r ++ [(E.1 + 1 + u, E.2 + 1 + w)]) = ((x0, y0) :: r) ++ [(E.1 + 1 + u, E.2 + 1 + w)] from rfl, ← eP_snoc]; rfl
      · show (kk - 1).toNat < kk.toNat
        omega
    · have hkk : ¬ 0 < kk := by simpa using h
      conv => whnf
      refine ⟨by simp, ?_⟩
      conv => whnf
      exact leaf_p _ (by simp) rfl (hk r d hd (by omega) (by omega) hch)
  · subst h
    conv => whnf
    refine ⟨d, rfl, hd, by omega, fun v d hd hv1 hv2 => ?_⟩
    conv => whnf
    rw [show IntKind.i64.wrap (1 + v) = 1 + v from wrap_in (by omega) (by omega)]
    have hk : ∀ (r : List Pt) (d' : Dk), d'.ok → 1 ≤ r.length → r.length ≤ 4 → chainP dx 0 (0 + dy - 1) (x0, y0) r → k (AV.c (Cell.lst (eP ((x0, y0) :: r)))) (dkC d') := hk
    refine ⟨List Pt × Dk × Int, fun s => ([(0, .c (.ptr (.x 0) 0)), (1, I (endP (x0, y0) s.1).1), (2, I (endP (x0, y0) s.1).2), (3, I dx), (4, I dy), (13, I 0), (14, .c (.view (.l 46 3) 0 (s.1.length + 1))), (15, I s.2.2)],
        ⟨[(.x 0, .blk (dkC s.2.1)), (.l 46 3, .arr 64 2 (eP ((x0, y0) :: s.1)) false)], 4, []⟩),
      fun s => s.2.1.ok ∧ chainP dx 0 (0 + dy - 1) (x0, y0) s.1 ∧ 0 ≤ s.2.2 ∧ (1 ≤ s.2.2 + s.1.length ∧ s.2.2 + s.1.length ≤ 4), fun s => s.2.2.toNat, ([], d, 1 + v), ⟨hd, trivial, by dsimp only; omega, by dsimp only; simp; omega⟩,
      Shift.rename [(.l 46 3, .l 20 0)] ⟨rfl, rfl, rfl, rfl, rfl, rfl, rfl, rfl, trivial⟩ ⟨rfl, rfl, trivial⟩ rfl rfl rfl, fun s hs => ?_⟩
    obtain ⟨r, d, kk⟩ := s
    obtain ⟨hd, hch, hk0, hk1⟩ := hs
    dsimp only at hd hch hk0 hk1 ⊢
    have hin := end_in (by omega) (by omega) (by omega) hch
    have hdl : dx * (r.length : Int) ≤ 10000 * 4 := Int.mul_le_mul hdx.2 (by omega) (by omega) (by omega)
    have hyl : (0 + dy - 1) * (r.length : Int) ≤ 10000 * 4 := Int.mul_le_mul (by omega) (by omega) (by omega) (by omega)
    dsimp only at hin
    generalize hE : endP (x0, y0) r = E at *
    conv => whnf
    refine Fork.mk (fun h => ?_) (fun h => ?_)
    · have hkk : 0 < kk := by simpa using h
      conv => whnf
      refine ⟨d, rfl, hd, by omega, fun u d hd hu1 hu2 => ?_⟩
      conv => whnf
      refine ⟨d, rfl, hd, by omega, fun w d hd hw1 hw2 => ?_⟩
      conv => whnf
      rw [show IntKind.i64.wrap (E.1 + 1) = E.1 + 1 from wrap_in (by omega) (by omega), show IntKind.i64.wrap (E.2 + 0) = E.2 + 0 from wrap_in (by omega) (by omega), show IntKind.i64.wrap (E.1 + 1 + u) = E.1 + 1 + u from wrap_in (by omega) (by omega), show IntKind.i64.wrap (E.2 + 0 + w) = E.2 + 0 + w from wrap_in (by omega) (by omega)]
      refine ⟨by simp, ?_⟩
      conv => whnf
      refine ⟨rfl, ?_⟩
      conv => whnf
      refine ⟨⟨rfl, rfl, rfl, by simp, by simp; omega⟩, ?_⟩
      conv => whnf
      rw [show IntKind.i64.wrap (kk - 1) = kk - 1 from wrap_in (by omega) (by omega)]
      refine ⟨(r ++ [(E.1 + 1 + u, E.2 + 0 + w)], d, kk - 1), ⟨hd, chain_snoc hch (by rw [hE]; dsimp only; omega) (by rw [hE]; dsimp only; omega), by dsimp only; omega, by dsimp only; simp; omega⟩, Shift.rename [(.l 46 3, .l 46 5)] ⟨rfl, ?_, ?_, rfl, rfl, rfl, ?_, rfl, trivial⟩ ⟨rfl, ?_, trivial⟩ rfl rfl rfl, ?_⟩
      · dsimp only; rw [endP_snoc]; rfl
      · dsimp only; rw [endP_snoc]; rfl
      · dsimp only; simp; rfl
      · dsimp only; rw [show (x0, y0) :: (r ++ [(E.1 + 1 + u, E.2 + 0 + w)]) = ((x0, y0) :: r) ++ [(E.1 + 1 + u, E.2 + 0 + w)] from rfl, ← eP_snoc]; rfl
      · show (kk - 1).toNat < kk.toNat
        omega
    · have hkk : ¬ 0 < kk := by simpa using h
      conv => whnf
      refine ⟨by simp, ?_⟩
      conv => whnf
      exact leaf_p _ (by simp) rfl (hk r d hd (by omega) (by omega) hch)
end Go.Proofs
