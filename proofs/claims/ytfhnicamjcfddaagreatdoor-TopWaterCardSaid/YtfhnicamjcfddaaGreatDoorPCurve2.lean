/- Proved here: what functions of the given program come to, and the plain laws of it; no condition but those in the theorems. -/
import Derived.Test.YtfhnicamjcfddaaGreatDoorPCurve
/- What is made out of decks: curves. No program. -/
namespace Go.Proofs
open Go Go.Abs
set_option linter.unusedSimpArgs false
set_option linter.unusedVariables false
def chainP (dx lo hi : Int) : Pt → List Pt → Prop
  | _, [] => True
  | p, q :: r => (p.1 < q.1 ∧ q.1 ≤ p.1 + dx) ∧ (p.2 + lo ≤ q.2 ∧ q.2 ≤ p.2 + hi) ∧ chainP dx lo hi q r
def endP : Pt → List Pt → Pt
  | p, [] => p
  | _, q :: r => endP q r
theorem endP_snoc : ∀ (p : Pt) (r : List Pt) (n : Pt), endP p (r ++ [n]) = n
  | _, [], _ => rfl
  | _, q :: r, n => endP_snoc q r n
theorem chain_snoc {dx lo hi : Int} : ∀ {p : Pt} {r : List Pt} {n : Pt}, chainP dx lo hi p r → (endP p r).1 < n.1 ∧ n.1 ≤ (endP p r).1 + dx → (endP p r).2 + lo ≤ n.2 ∧ n.2 ≤ (endP p r).2 + hi → chainP dx lo hi p (r ++ [n])
  | p, [], n, _, h1, h2 => ⟨h1, h2, trivial⟩
  | p, q :: r, n, h, h1, h2 => ⟨h.1, h.2.1, chain_snoc h.2.2 h1 h2⟩
theorem end_in {dx lo hi : Int} (h0 : 0 ≤ lo) (hd : 0 ≤ dx) (hh : 0 ≤ hi) : ∀ {p : Pt} {r : List Pt}, chainP dx lo hi p r → p.1 ≤ (endP p r).1 ∧ (endP p r).1 ≤ p.1 + dx * r.length ∧ p.2 ≤ (endP p r).2 ∧ (endP p r).2 ≤ p.2 + hi * r.length
  | p, [], _ => by simp [endP]
  | p, q :: r, h => by
    have ih := end_in h0 hd hh h.2.2
    have e1 : dx * ((q :: r).length : Int) = dx * r.length + dx := by rw [List.length_cons, Int.natCast_add, Int.mul_add]; simp
    have e2 : hi * ((q :: r).length : Int) = hi * r.length + hi := by rw [List.length_cons, Int.natCast_add, Int.mul_add]; simp
    have h1 := h.1
    have h2 := h.2.1
    rw [e1, e2]
    unfold endP
    omega
/-- A chain of small steps is a valid curve. -/
theorem chain_ck {dx lo hi : Int} (h0 : 0 ≤ lo) (hp : hi * dx ≤ 4611686018427387904) : ∀ {r : List Pt} {p : Pt}, chainP dx lo hi p r → (∀ q ∈ r, okPt q = true) → ckGo p r = 0
  | [], _, _, _ => rfl
  | q :: r, p, h, hq => by
    refine ckGo_cons.2 ⟨hq q (by simp), h.1.1, by have := h.2.1; omega, ?_, chain_ck h0 hp h.2.2 fun x hx => hq x (by simp [hx])⟩
    have h1 := h.1
    have h2 := h.2.1
    have e1 : (q.2 - p.2) * (q.1 - p.1) ≤ hi * (q.1 - p.1) := Int.mul_le_mul_of_nonneg_right (by omega) (by omega)
    have e2 : hi * (q.1 - p.1) ≤ hi * dx := Int.mul_le_mul_of_nonneg_left (by omega) (by omega)
    omega
theorem chain_in {dx lo hi : Int} (h0 : 0 ≤ lo) (hd : 0 ≤ dx) (hh : 0 ≤ hi) : ∀ {r : List Pt} {p : Pt}, chainP dx lo hi p r → ∀ q ∈ r, p.1 < q.1 ∧ q.1 ≤ p.1 + dx * r.length ∧ p.2 ≤ q.2 ∧ q.2 ≤ p.2 + hi * r.length
  | [], _, _, q, hq => by simp at hq
  | a :: r, p, h, q, hq => by
    have e1 : dx * ((a :: r).length : Int) = dx * r.length + dx := by rw [List.length_cons, Int.natCast_add, Int.mul_add]; simp
    have e2 : hi * ((a :: r).length : Int) = hi * r.length + hi := by rw [List.length_cons, Int.natCast_add, Int.mul_add]; simp
    have e3 : 0 ≤ dx * (r.length : Int) := Int.mul_nonneg hd (by omega)
    have e4 : 0 ≤ hi * (r.length : Int) := Int.mul_nonneg hh (by omega)
    rw [e1, e2]
    have h1 := h.1
    have h2 := h.2.1
    rcases List.mem_cons.1 hq with rfl | hq
    · omega
    · have := chain_in h0 hd hh h.2.2 q hq
      omega
def loB (b : Bool) : Int := match b with
  | true => 1
  | false => 0
/-- A curve, made of a deck. -/
def R_curve : RB := fun cs args k => match args with
  | [.c (.sc (.int .i64 x)), .c (.sc (.int .i64 y)), .c (.sc (.int .i64 dx)), .c (.sc (.int .i64 dy)), .c (.sc (.bool b))] => ∃ d : Dk, cs = dkC d ∧ d.ok ∧ (0 ≤ x ∧ x ≤ 1000000) ∧ (0 ≤ y ∧ y ≤ 1000000) ∧ (1 ≤ dx ∧ dx ≤ 10000) ∧ (1 ≤ dy ∧ dy ≤ 10000) ∧
      ∀ (r : List Pt) d', Dk.ok d' → 1 ≤ r.length → r.length ≤ 4 → chainP dx (loB b) (loB b + dy - 1) (x, y) r → k (.c (.lst (eP ((x, y) :: r)))) (dkC d')
  | _ => False
end Go.Proofs

/- Ratings and readings: what is asked of the functions, and the laws of one value. No program. -/
namespace Go.Proofs
open Go Go.Abs
set_option linter.unusedSimpArgs false
set_option linter.unusedVariables false
structure Rd where
  g : Int
  t : Int
  v : Int
  f : Int
def rdC (r : Rd) : List Cell := [IC r.g, IC r.t, IC r.v, IC r.f]
abbrev eR (l : List Rd) : List (List Cell) := l.map rdC
def inB (a b x : Int) : Bool := decide (a ≤ x) && decide (x ≤ b)
def ckRd (r : Rd) : Int := if inB 0 255 r.g = false then 1 else if inB 0 16777216 r.t = false then 6 else if inB 0 1073741824 r.v = false then 1 else if inB 0 2 r.f = false then 5 else 0
def ckAll : List Rd → Int
  | [] => 0
  | r :: l => if ckRd r ≠ 0 then ckRd r else ckAll l
theorem ckRd_in {r : Rd} (h : ckRd r = 0) : (0 ≤ r.v ∧ r.v ≤ 1073741824) ∧ (0 ≤ r.f ∧ r.f ≤ 2) := by
  unfold ckRd at h
  split at h
  · cases h
  · split at h
    · cases h
    · split at h
      · cases h
      · split at h
        · cases h
        · rename_i h1 h2 h3 h4
          simp [inB] at h3 h4
          omega
theorem ckAll_mem : ∀ {l : List Rd}, ckAll l = 0 → ∀ r ∈ l, ckRd r = 0
  | [], _, r, h => by simp at h
  | a :: l, h, r, hr => by
    unfold ckAll at h
    split at h
    · rename_i h1; exact absurd h h1
    · rename_i h1
      rcases List.mem_cons.1 hr with rfl | hr
      · simpa using h1
      · exact ckAll_mem h r hr
def rkR (c : List Pt) (ice : Int) : Int := if ckC c ≠ 0 then ckC c else if inB 0 16777216 ice = true then 0 else 1
theorem rkR_ok {c : List Pt} {ice : Int} (h : rkR c ice = 0) : ckC c = 0 ∧ 0 ≤ ice ∧ ice ≤ 16777216 := by
  unfold rkR at h
  split at h
  · rename_i h1; exact absurd h h1
  · rename_i h1
    split at h
    · rename_i h2; simp [inB] at h2; exact ⟨by simpa using h1, h2⟩
    · cases h
theorem rkR_of {c : List Pt} {ice : Int} (h : ckC c = 0) (h1 : 0 ≤ ice) (h2 : ice ≤ 16777216) : rkR c ice = 0 := by
  unfold rkR
  rw [if_neg (by rw [h]; simp), if_pos (by simp [inB, h1, h2])]
def tAt (c : List Pt) (x : Int) : Int := valC c (if x < 0 then 0 else x)
def flowV (c : List Pt) (ice : Int) (r : Rd) : Int × Bool := if r.f = 2 then (0, false) else if r.f = 1 then (tAt c (r.v - ice), true) else (tAt c r.v, true)
abbrev eB (l : List Bool) : List (List Cell) := l.map fun b => [BC b]
def flowsV (c : List Pt) (ice : Int) (l : List Rd) : Ls × List Bool × Int :=
  if rkR c ice ≠ 0 then ([], [], rkR c ice) else if ckAll l ≠ 0 then ([], [], ckAll l) else (l.map fun r => (flowV c ice r).1, l.map fun r => (flowV c ice r).2, 0)
theorem flowsV_good {c : List Pt} {ice : Int} {l : List Rd} (h : rkR c ice = 0) (h2 : ckAll l = 0) : flowsV c ice l = (l.map fun r => (flowV c ice r).1, l.map fun r => (flowV c ice r).2, 0) := by
  unfold flowsV
  rw [if_neg (by rw [h]; simp), if_neg (by rw [h2]; simp)]
def R_rkR : RT := fun args k => match args with
  | [.agg [.lst es, .sc (.int .i64 ice)]] => ∃ c : List Pt, es = eP c ∧ c.length ≤ 9223372036854775807 ∧ k (I (rkR c ice))
  | _ => False
def R_tAt : RT := fun args k => match args with
  | [.agg [.lst es, .sc (.int .i64 ice)], .c (.sc (.int .i64 x))] => ∃ c : List Pt, es = eP c ∧ ckC c = 0 ∧ k (I (tAt c x))
  | _ => False
def R_ckRd : RT := fun args k => match args with
  | [.agg [.sc (.int .i64 g), .sc (.int .i64 t), .sc (.int .i64 v), .sc (.int .i64 f)]] => k (I (ckRd ⟨g, t, v, f⟩))
  | _ => False
def R_ckAll : RT := fun args k => match args with
  | [.c (.lst es)] => ∃ l : List Rd, es = eR l ∧ l.length ≤ 9223372036854775807 ∧ k (I (ckAll l))
  | _ => False
def R_flowV : RT := fun args k => match args with
  | [.agg [.lst es, .sc (.int .i64 ice)], .agg [.sc (.int .i64 g), .sc (.int .i64 t), .sc (.int .i64 v), .sc (.int .i64 f)]] => ∃ c : List Pt, es = eP c ∧ rkR c ice = 0 ∧ ckRd ⟨g, t, v, f⟩ = 0 ∧ k (.tup [I (flowV c ice ⟨g, t, v, f⟩).1, Bo (flowV c ice ⟨g, t, v, f⟩).2])
  | _ => False
def R_flowsV : RT := fun args k => match args with
  | [.agg [.lst es, .sc (.int .i64 ice)], .c (.lst es2)] => ∃ (c : List Pt) (l : List Rd), es = eP c ∧ es2 = eR l ∧ c.length ≤ 9223372036854775807 ∧ l.length ≤ 100000 ∧ k (.tup [.c (.lst (eL (flowsV c ice l).1)), .c (.lst (eB (flowsV c ice l).2.1)), I (flowsV c ice l).2.2])
  | _ => False
def flow1 (c : List Pt) (ice : Int) (r : Rd) : Int × Bool × Int := if rkR c ice ≠ 0 then (0, false, rkR c ice) else if ckRd r ≠ 0 then (0, false, ckRd r) else ((flowV c ice r).1, (flowV c ice r).2, 0)
theorem flow1_good {c : List Pt} {ice : Int} {r : Rd} (h : rkR c ice = 0) (h2 : ckRd r = 0) : flow1 c ice r = ((flowV c ice r).1, (flowV c ice r).2, 0) := by
  unfold flow1
  rw [if_neg (by rw [h]; simp), if_neg (by rw [h2]; simp)]
def R_flow1 : RT := fun args k => match args with
  | [.agg [.lst es, .sc (.int .i64 ice)], .agg [.sc (.int .i64 g), .sc (.int .i64 t), .sc (.int .i64 v), .sc (.int .i64 f)]] => ∃ c : List Pt, es = eP c ∧ c.length ≤ 9223372036854775807 ∧
      k (.tup [I (flow1 c ice ⟨g, t, v, f⟩).1, Bo (flow1 c ice ⟨g, t, v, f⟩).2.1, I (flow1 c ice ⟨g, t, v, f⟩).2.2])
  | _ => False
/-- A rating, made of a deck. -/
def R_rating : RB := fun cs args k => match args with
  | [] => ∃ d : Dk, cs = dkC d ∧ d.ok ∧ ∀ (p : Pt) (r : List Pt) (ice : Int) d', Dk.ok d' → (0 ≤ p.1 ∧ p.1 < 20) → (0 ≤ p.2 ∧ p.2 < 10) → (1 ≤ r.length ∧ r.length ≤ 4) → chainP 60 0 99 p r → (0 ≤ ice ∧ ice < 40) → k (.agg [.lst (eP (p :: r)), IC ice]) (dkC d')
  | _ => False
theorem rating_ok' {p : Pt} {r : List Pt} (h1 : 0 ≤ p.1 ∧ p.1 < 20) (h2 : 0 ≤ p.2 ∧ p.2 < 10) (h3 : 1 ≤ r.length ∧ r.length ≤ 4) (h4 : chainP 60 0 99 p r) : ckC (p :: r) = 0 ∧ ∀ q ∈ p :: r, (0 ≤ q.1 ∧ q.1 < 260) ∧ 0 ≤ q.2 ∧ q.2 < 406 := by
  have hin : ∀ q ∈ p :: r, (0 ≤ q.1 ∧ q.1 < 260) ∧ 0 ≤ q.2 ∧ q.2 < 406 := fun q hq => by
    rcases List.mem_cons.1 hq with rfl | hq
    · omega
    · have := chain_in (by omega) (by omega) (by omega) h4 q hq
      omega
  exact ⟨ckC_cons.2 ⟨by omega, okPt_of (by omega), chain_ck (by omega) (by omega) h4 fun q hq => okPt_of (by have := hin q (by simp [hq]); omega)⟩, hin⟩
end Go.Proofs

/- Curves whose values are doubled, and the end of a curve. No program. -/
namespace Go.Proofs
open Go Go.Abs
set_option linter.unusedSimpArgs false
set_option linter.unusedVariables false
def dbl (c : List Pt) : List Pt := c.map fun p => (p.1, 2 * p.2)
theorem div_dbl (n : Int) {d : Int} (h : 0 < d) : 2 * (n / d) ≤ 2 * n / d ∧ 2 * n / d ≤ 2 * (n / d) + 1 := by
  have h1 := Int.mul_ediv_add_emod n d
  have h2 := Int.emod_nonneg n (show d ≠ 0 by omega)
  have h3 := Int.emod_lt_of_pos n h
  have e : 2 * n = 2 * (n % d) + d * (2 * (n / d)) := by rw [Int.mul_left_comm]; omega
  rw [e, Int.add_mul_ediv_left _ _ (by omega)]
  have h4 : 0 ≤ 2 * (n % d) / d := Int.ediv_nonneg (by omega) (by omega)
  have h5 : 2 * (n % d) / d < 2 := Int.ediv_lt_of_lt_mul h (by omega)
  omega
theorem vGo_dbl : ∀ {r : List Pt} {p : Pt} {x : Int}, ckGo p r = 0 → 2 * vGo p r x ≤ vGo (p.1, 2 * p.2) (dbl r) x ∧ vGo (p.1, 2 * p.2) (dbl r) x ≤ 2 * vGo p r x + 1
  | [], p, x, _ => by simp [vGo, dbl]; omega
  | q :: r, p, x, h => by
    obtain ⟨_, h2, h3, _, h5⟩ := ckGo_cons.1 h
    show 2 * vGo p (q :: r) x ≤ vGo (p.1, 2 * p.2) ((q.1, 2 * q.2) :: dbl r) x ∧ _
    unfold vGo
    by_cases hx : x ≤ q.1
    · simp only [if_pos hx, dbl, List.map_cons]
      have := div_dbl ((q.2 - p.2) * (x - p.1)) (show 0 < q.1 - p.1 by omega)
      rw [show (2 * q.2 - 2 * p.2) * (x - p.1) = 2 * ((q.2 - p.2) * (x - p.1)) by rw [← Int.mul_sub, Int.mul_assoc]]
      omega
    · simp only [if_neg hx, dbl, List.map_cons]
      exact vGo_dbl h5
theorem valC_dbl {c : List Pt} (h : ckC c = 0) (x : Int) : 2 * valC c x ≤ valC (dbl c) x ∧ valC (dbl c) x ≤ 2 * valC c x + 1 := by
  cases c with
  | nil => simp [ckC] at h
  | cons p r =>
    show 2 * valC (p :: r) x ≤ valC ((p.1, 2 * p.2) :: dbl r) x ∧ valC ((p.1, 2 * p.2) :: dbl r) x ≤ 2 * valC (p :: r) x + 1
    rw [valC_eq, valC_eq]
    by_cases hx : x ≤ p.1
    · simp only [if_pos hx]; omega
    · simp only [if_neg hx]; exact vGo_dbl (ckC_cons.1 h).2.2
theorem vGo_end : ∀ {r : List Pt} {p : Pt} {x : Int}, ckGo p r = 0 → (endP p r).1 ≤ x → vGo p r x = (endP p r).2
  | [], p, x, _, _ => rfl
  | q :: r, p, x, h, hx => by
    obtain ⟨_, h2, h3, _, h5⟩ := ckGo_cons.1 h
    have hx : (endP q r).1 ≤ x := hx
    have hq : q.1 ≤ (endP q r).1 := by
      have : ∀ {r : List Pt} {q : Pt}, ckGo q r = 0 → q.1 ≤ (endP q r).1 := fun {r} => by
        induction r with
        | nil => intro q _; exact Int.le_refl _
        | cons a r ih =>
          intro q h
          obtain ⟨_, h2, _, _, h5⟩ := ckGo_cons.1 h
          have := ih h5
          show q.1 ≤ (endP a r).1
          omega
      exact this h5
    show vGo p (q :: r) x = (endP q r).2
    unfold vGo
    by_cases hxq : x ≤ q.1
    · rw [if_pos hxq, ← vGo_end h5 hx]
      have e : x = q.1 := by omega
      have e2 : q.1 = (endP q r).1 := by omega
      rw [e, Int.mul_ediv_cancel _ (by omega)]
      have : vGo q r q.1 = q.2 := by
        cases r with
        | nil => rfl
        | cons a r =>
          obtain ⟨_, g2, _, _, g5⟩ := ckGo_cons.1 h5
          have : a.1 ≤ (endP a r).1 := by
            have h6 : ∀ {r : List Pt} {q : Pt}, ckGo q r = 0 → q.1 ≤ (endP q r).1 := fun {r} => by
              induction r with
              | nil => intro q _; exact Int.le_refl _
              | cons a r ih =>
                intro q h
                obtain ⟨_, h2, _, _, h5⟩ := ckGo_cons.1 h
                have := ih h5
                show q.1 ≤ (endP a r).1
                omega
            exact h6 g5
          have e3 : q.1 = (endP a r).1 := e2
          omega
      rw [this]
      omega
    · rw [if_neg hxq]
      exact vGo_end h5 hx
theorem endP_at : ∀ (p : Pt) (r : List Pt), (p :: r)[r.length]? = some (endP p r)
  | _, [] => rfl
  | _, q :: r => by
    show (q :: r)[r.length]? = some (endP q r)
    exact endP_at q r
theorem dbl_len (c : List Pt) : (dbl c).length = c.length := List.length_map _
theorem dbl_take (c : List Pt) {i : Nat} (h : i < c.length) : dbl (c.take (i + 1)) = dbl (c.take i) ++ [(c[i].1, 2 * c[i].2)] := by
  rw [show c.take (i + 1) = c.take i ++ [c[i]] from (List.take_append_getElem h).symm]
  unfold dbl
  rw [List.map_append]; rfl
theorem dbl_ck {p : Pt} {r : List Pt} (h1 : 0 ≤ p.1 ∧ p.1 < 20) (h2 : 0 ≤ p.2 ∧ p.2 < 10) (h3 : 1 ≤ r.length ∧ r.length ≤ 4) (h4 : chainP 60 0 99 p r) : ckC (dbl (p :: r)) = 0 := by
  have hin := (rating_ok' h1 h2 h3 h4).2
  have hch : ∀ {r : List Pt} {p : Pt}, chainP 60 0 99 p r → chainP 60 0 198 (p.1, 2 * p.2) (dbl r) := fun {r} => by
    induction r with
    | nil => intro p _; trivial
    | cons q r ih =>
      intro p h
      refine ⟨h.1, ?_, ih h.2.2⟩
      have := h.2.1
      dsimp only
      omega
  refine ckC_cons.2 ⟨by rw [List.length_map]; omega, okPt_of (by dsimp only; omega), chain_ck (by omega) (by omega) (hch h4) fun q hq => ?_⟩
  obtain ⟨a, ha, rfl⟩ := List.mem_map.1 hq
  exact okPt_of (by have := hin a (by simp [ha]); dsimp only; omega)
end Go.Proofs
