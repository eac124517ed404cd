/- What is made out of decks: curves. No program. -/
import Derived.Test.YtknjncmgohjpkaaPCurve
namespace Go.Proofs
open Go Go.Abs
set_option linter.unusedSimpArgs false
set_option linter.unusedVariables false
def chainP (dx lo hi : Int) : Pt → List Pt → Prop
  | _, [] => True
  | p, q :: r => (p.1 < q.1 ∧ q.1 ≤ p.1 + dx) ∧ (p.2 + lo ≤ q.2 ∧ q.2 ≤ p.2 + hi) ∧ chainP dx lo hi q r
def endP : Pt → List Pt → Pt
  | p, [] => p
  | _, q :: r => endP q r
theorem endP_snoc : ∀ (p : Pt) (r : List Pt) (n : Pt), endP p (r ++ [n]) = n
  | _, [], _ => rfl
  | _, q :: r, n => endP_snoc q r n
theorem chain_snoc {dx lo hi : Int} : ∀ {p : Pt} {r : List Pt} {n : Pt}, chainP dx lo hi p r → (endP p r).1 < n.1 ∧ n.1 ≤ (endP p r).1 + dx → (endP p r).2 + lo ≤ n.2 ∧ n.2 ≤ (endP p r).2 + hi → chainP dx lo hi p (r ++ [n])
  | p, [], n, _, h1, h2 => ⟨h1, h2, trivial⟩
  | p, q :: r, n, h, h1, h2 => ⟨h.1, h.2.1, chain_snoc h.2.2 h1 h2⟩
theorem end_in {dx lo hi : Int} (h0 : 0 ≤ lo) (hd : 0 ≤ dx) (hh : 0 ≤ hi) : ∀ {p : Pt} {r : List Pt}, chainP dx lo hi p r → p.1 ≤ (endP p r).1 ∧ (endP p r).1 ≤ p.1 + dx * r.length ∧ p.2 ≤ (endP p r).2 ∧ (endP p r).2 ≤ p.2 + hi * r.length
  | p, [], _ => by simp [endP]
  | p, q :: r, h => by
    have ih := end_in h0 hd hh h.2.2
    have e1 : dx * ((q :: r).length : Int) = dx * r.length + dx := by rw [List.length_cons, Int.natCast_add, Int.mul_add]; simp
    have e2 : hi * ((q :: r).length : Int) = hi * r.length + hi := by rw [List.length_cons, Int.natCast_add, Int.mul_add]; simp
    have h1 := h.1
    have h2 := h.2.1
    rw [e1, e2]
    unfold endP
    omega
/-- A chain of small steps is a valid curve. -/
theorem chain_ck {dx lo hi : Int} (h0 : 0 ≤ lo) (hp : hi * dx ≤ 4611686018427387904) : ∀ {r : List Pt} {p : Pt}, chainP dx lo hi p r → (∀ q ∈ r, okPt q = true) → ckGo p r = 0
  | [], _, _, _ => rfl
  | q :: r, p, h, hq => by
    refine ckGo_cons.2 ⟨hq q (by simp), h.1.1, by have := h.2.1; omega, ?_, chain_ck h0 hp h.2.2 fun x hx => hq x (by simp [hx])⟩
    have h1 := h.1
    have h2 := h.2.1
    have e1 : (q.2 - p.2) * (q.1 - p.1) ≤ hi * (q.1 - p.1) := Int.mul_le_mul_of_nonneg_right (by omega) (by omega)
    have e2 : hi * (q.1 - p.1) ≤ hi * dx := Int.mul_le_mul_of_nonneg_left (by omega) (by omega)
    omega
theorem chain_in {dx lo hi : Int} (h0 : 0 ≤ lo) (hd : 0 ≤ dx) (hh : 0 ≤ hi) : ∀ {r : List Pt} {p : Pt}, chainP dx lo hi p r → ∀ q ∈ r, p.1 < q.1 ∧ q.1 ≤ p.1 + dx * r.length ∧ p.2 ≤ q.2 ∧ q.2 ≤ p.2 + hi * r.length
  | [], _, _, q, hq => by simp at hq
  | a :: r, p, h, q, hq => by
    have e1 : dx * ((a :: r).length : Int) = dx * r.length + dx := by rw [List.length_cons, Int.natCast_add, Int.mul_add]; simp
    have e2 : hi * ((a :: r).length : Int) = hi * r.length + hi := by rw [List.length_cons, Int.natCast_add, Int.mul_add]; simp
    have e3 : 0 ≤ dx * (r.length : Int) := Int.mul_nonneg hd (by omega)
    have e4 : 0 ≤ hi * (r.length : Int) := Int.mul_nonneg hh (by omega)
    rw [e1, e2]
    have h1 := h.1
    have h2 := h.2.1
    rcases List.mem_cons.1 hq with rfl | hq
    · omega
    · have := chain_in h0 hd hh h.2.2 q hq
      omega
def loB (b : Bool) : Int := match b with
  | true => 1
  | false => 0
/-- A curve, made of a deck. -/
def R_curve : RB := fun cs args k => match args with
  | [.c (.sc (.int .i64 x)), .c (.sc (.int .i64 y)), .c (.sc (.int .i64 dx)), .c (.sc (.int .i64 dy)), .c (.sc (.bool b))] => ∃ d : Dk, cs = dkC d ∧ d.ok ∧ (0 ≤ x ∧ x ≤ 1000000) ∧ (0 ≤ y ∧ y ≤ 1000000) ∧ (1 ≤ dx ∧ dx ≤ 10000) ∧ (1 ≤ dy ∧ dy ≤ 10000) ∧
      ∀ (r : List Pt) d', Dk.ok d' → 1 ≤ r.length → r.length ≤ 4 → chainP dx (loB b) (loB b + dy - 1) (x, y) r → k (.c (.lst (eP ((x, y) :: r)))) (dkC d')
  | _ => False
end Go.Proofs
