/- Ratings and readings: what is asked of the functions, and the laws of one value. No program. -/
import Derived.Test.YtgehodhbcckcoaaD20
namespace Go.Proofs
open Go Go.Abs
set_option linter.unusedSimpArgs false
set_option linter.unusedVariables false
structure Rd where
  g : Int
  t : Int
  v : Int
  f : Int
def rdC (r : Rd) : List Cell := [IC r.g, IC r.t, IC r.v, IC r.f]
abbrev eR (l : List Rd) : List (List Cell) := l.map rdC
def inB (a b x : Int) : Bool := decide (a ≤ x) && decide (x ≤ b)
def ckRd (r : Rd) : Int := if inB 0 255 r.g = false then 1 else if inB 0 16777216 r.t = false then 6 else if inB 0 1073741824 r.v = false then 1 else if inB 0 2 r.f = false then 5 else 0
def ckAll : List Rd → Int
  | [] => 0
  | r :: l => if ckRd r ≠ 0 then ckRd r else ckAll l
theorem ckRd_in {r : Rd} (h : ckRd r = 0) : (0 ≤ r.v ∧ r.v ≤ 1073741824) ∧ (0 ≤ r.f ∧ r.f ≤ 2) := by
  unfold ckRd at h
  split at h
  · cases h
  · split at h
    · cases h
    · split at h
      · cases h
      · split at h
        · cases h
        · rename_i h1 h2 h3 h4
          simp [inB] at h3 h4
          omega
theorem ckAll_mem : ∀ {l : List Rd}, ckAll l = 0 → ∀ r ∈ l, ckRd r = 0
  | [], _, r, h => by simp at h
  | a :: l, h, r, hr => by
    unfold ckAll at h
    split at h
    · rename_i h1; exact absurd h h1
    · rename_i h1
      rcases List.mem_cons.1 hr with rfl | hr
      · simpa using h1
      · exact ckAll_mem h r hr
def rkR (c : List Pt) (ice : Int) : Int := if ckC c ≠ 0 then ckC c else if inB 0 16777216 ice = true then 0 else 1
theorem rkR_ok {c : List Pt} {ice : Int} (h : rkR c ice = 0) : ckC c = 0 ∧ 0 ≤ ice ∧ ice ≤ 16777216 := by
  unfold rkR at h
  split at h
  · rename_i h1; exact absurd h h1
  · rename_i h1
    split at h
    · rename_i h2; simp [inB] at h2; exact ⟨by simpa using h1, h2⟩
    · cases h
theorem rkR_of {c : List Pt} {ice : Int} (h : ckC c = 0) (h1 : 0 ≤ ice) (h2 : ice ≤ 16777216) : rkR c ice = 0 := by
  unfold rkR
  rw [if_neg (by rw [h]; simp), if_pos (by simp [inB, h1, h2])]
def tAt (c : List Pt) (x : Int) : Int := valC c (if x < 0 then 0 else x)
def flowV (c : List Pt) (ice : Int) (r : Rd) : Int × Bool := if r.f = 2 then (0, false) else if r.f = 1 then (tAt c (r.v - ice), true) else (tAt c r.v, true)
abbrev eB (l : List Bool) : List (List Cell) := l.map fun b => [BC b]
def flowsV (c : List Pt) (ice : Int) (l : List Rd) : Ls × List Bool × Int :=
  if rkR c ice ≠ 0 then ([], [], rkR c ice) else if ckAll l ≠ 0 then ([], [], ckAll l) else (l.map fun r => (flowV c ice r).1, l.map fun r => (flowV c ice r).2, 0)
theorem flowsV_good {c : List Pt} {ice : Int} {l : List Rd} (h : rkR c ice = 0) (h2 : ckAll l = 0) : flowsV c ice l = (l.map fun r => (flowV c ice r).1, l.map fun r => (flowV c ice r).2, 0) := by
  unfold flowsV
  rw [if_neg (by rw [h]; simp), if_neg (by rw [h2]; simp)]
def R_rkR : RT := fun args k => match args with
  | [.agg [.lst es, .sc (.int .i64 ice)]] => ∃ c : List Pt, es = eP c ∧ c.length ≤ 9223372036854775807 ∧ k (I (rkR c ice))
  | _ => False
def R_tAt : RT := fun args k => match args with
  | [.agg [.lst es, .sc (.int .i64 ice)], .c (.sc (.int .i64 x))] => ∃ c : List Pt, es = eP c ∧ ckC c = 0 ∧ k (I (tAt c x))
  | _ => False
def R_ckRd : RT := fun args k => match args with
  | [.agg [.sc (.int .i64 g), .sc (.int .i64 t), .sc (.int .i64 v), .sc (.int .i64 f)]] => k (I (ckRd ⟨g, t, v, f⟩))
  | _ => False
def R_ckAll : RT := fun args k => match args with
  | [.c (.lst es)] => ∃ l : List Rd, es = eR l ∧ l.length ≤ 9223372036854775807 ∧ k (I (ckAll l))
  | _ => False
def R_flowV : RT := fun args k => match args with
  | [.agg [.lst es, .sc (.int .i64 ice)], .agg [.sc (.int .i64 g), .sc (.int .i64 t), .sc (.int .i64 v), .sc (.int .i64 f)]] => ∃ c : List Pt, es = eP c ∧ rkR c ice = 0 ∧ ckRd ⟨g, t, v, f⟩ = 0 ∧ k (.tup [I (flowV c ice ⟨g, t, v, f⟩).1, Bo (flowV c ice ⟨g, t, v, f⟩).2])
  | _ => False
def R_flowsV : RT := fun args k => match args with
  | [.agg [.lst es, .sc (.int .i64 ice)], .c (.lst es2)] => ∃ (c : List Pt) (l : List Rd), es = eP c ∧ es2 = eR l ∧ c.length ≤ 9223372036854775807 ∧ l.length ≤ 100000 ∧ k (.tup [.c (.lst (eL (flowsV c ice l).1)), .c (.lst (eB (flowsV c ice l).2.1)), I (flowsV c ice l).2.2])
  | _ => False
def flow1 (c : List Pt) (ice : Int) (r : Rd) : Int × Bool × Int := if rkR c ice ≠ 0 then (0, false, rkR c ice) else if ckRd r ≠ 0 then (0, false, ckRd r) else ((flowV c ice r).1, (flowV c ice r).2, 0)
theorem flow1_good {c : List Pt} {ice : Int} {r : Rd} (h : rkR c ice = 0) (h2 : ckRd r = 0) : flow1 c ice r = ((flowV c ice r).1, (flowV c ice r).2, 0) := by
  unfold flow1
  rw [if_neg (by rw [h]; simp), if_neg (by rw [h2]; simp)]
def R_flow1 : RT := fun args k => match args with
  | [.agg [.lst es, .sc (.int .i64 ice)], .agg [.sc (.int .i64 g), .sc (.int .i64 t), .sc (.int .i64 v), .sc (.int .i64 f)]] => ∃ c : List Pt, es = eP c ∧ c.length ≤ 9223372036854775807 ∧
      k (.tup [I (flow1 c ice ⟨g, t, v, f⟩).1, Bo (flow1 c ice ⟨g, t, v, f⟩).2.1, I (flow1 c ice ⟨g, t, v, f⟩).2.2])
  | _ => False
/-- A rating, made of a deck. -/
def R_rating : RB := fun cs args k => match args with
  | [] => ∃ d : Dk, cs = dkC d ∧ d.ok ∧ ∀ (p : Pt) (r : List Pt) (ice : Int) d', Dk.ok d' → (0 ≤ p.1 ∧ p.1 < 20) → (0 ≤ p.2 ∧ p.2 < 10) → (1 ≤ r.length ∧ r.length ≤ 4) → chainP 60 0 99 p r → (0 ≤ ice ∧ ice < 40) → k (.agg [.lst (eP (p :: r)), IC ice]) (dkC d')
  | _ => False
theorem rating_ok' {p : Pt} {r : List Pt} (h1 : 0 ≤ p.1 ∧ p.1 < 20) (h2 : 0 ≤ p.2 ∧ p.2 < 10) (h3 : 1 ≤ r.length ∧ r.length ≤ 4) (h4 : chainP 60 0 99 p r) : ckC (p :: r) = 0 ∧ ∀ q ∈ p :: r, (0 ≤ q.1 ∧ q.1 < 260) ∧ 0 ≤ q.2 ∧ q.2 < 406 := by
  have hin : ∀ q ∈ p :: r, (0 ≤ q.1 ∧ q.1 < 260) ∧ 0 ≤ q.2 ∧ q.2 < 406 := fun q hq => by
    rcases List.mem_cons.1 hq with rfl | hq
    · omega
    · have := chain_in (by omega) (by omega) (by omega) h4 q hq
      omega
  exact ⟨ckC_cons.2 ⟨by omega, okPt_of (by omega), chain_ck (by omega) (by omega) h4 fun q hq => okPt_of (by have := hin q (by simp [hq]); omega)⟩, hin⟩
end Go.Proofs
