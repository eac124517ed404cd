/- The least place of a value. No program. -/
import Derived.Test.YtdibnpagbafadaaPStorage2
namespace Go.Proofs
open Go Go.Abs
set_option linter.unusedSimpArgs false
set_option linter.unusedVariables false
def fGo : Pt → List Pt → Int → Int
  | q, [], _ => q.1
  | q, p :: r, y => if y ≤ p.2 then q.1 + ((y - q.2) * (p.1 - q.1) + (p.2 - q.2) - 1) / (p.2 - q.2) else fGo p r y
def firstV (c : List Pt) (y : Int) : Int × Bool × Int := if ckC c ≠ 0 then (0, false, ckC c) else match c with
  | [] => (0, false, 0)
  | p :: r => if y ≤ p.2 then (p.1, true, 0) else if (endP p r).2 < y then (0, false, 0) else (fGo p r y, true, 0)
theorem seg_f {p q : Pt} {y : Int} (h1 : p.1 < q.1) (h2 : p.2 < q.2) (hy : p.2 ≤ y) (hy2 : y ≤ q.2) :
    0 ≤ (y - p.2) * (q.1 - p.1) ∧ (y - p.2) * (q.1 - p.1) ≤ (q.2 - p.2) * (q.1 - p.1) ∧ 0 ≤ ((y - p.2) * (q.1 - p.1) + (q.2 - p.2) - 1) / (q.2 - p.2) ∧ ((y - p.2) * (q.1 - p.1) + (q.2 - p.2) - 1) / (q.2 - p.2) ≤ q.1 - p.1 := by
  have e1 : 0 ≤ (y - p.2) * (q.1 - p.1) := Int.mul_nonneg (by omega) (by omega)
  have e2 : (y - p.2) * (q.1 - p.1) ≤ (q.2 - p.2) * (q.1 - p.1) := Int.mul_le_mul_of_nonneg_right (by omega) (by omega)
  refine ⟨e1, e2, Int.ediv_nonneg (by omega) (by omega), ?_⟩
  have : ((y - p.2) * (q.1 - p.1) + (q.2 - p.2) - 1) / (q.2 - p.2) < q.1 - p.1 + 1 := by
    refine Int.ediv_lt_of_lt_mul (by omega) ?_
    rw [Int.add_mul, Int.mul_comm (q.1 - p.1), Int.one_mul]
    omega
  omega
theorem ck_end2 : ∀ {r : List Pt} {q : Pt}, ckGo q r = 0 → q.2 ≤ (endP q r).2
  | [], _, _ => Int.le_refl _
  | a :: r, q, h => by
    obtain ⟨_, _, h2, _, h5⟩ := ckGo_cons.1 h
    have := ck_end2 h5
    show q.2 ≤ (endP a r).2
    omega
theorem fgal : ∀ {r : List Pt} {p : Pt} {x y : Int}, ckGo p r = 0 → p.2 < y → y ≤ (endP p r).2 → p.1 ≤ x → (fGo p r y ≤ x ↔ y ≤ vGo p r x)
  | [], p, x, y, _, hy, hy2, _ => by
    have : y ≤ p.2 := hy2
    omega
  | q :: r, p, x, y, h, hy, hy2, hx => by
    obtain ⟨_, h2, h3, _, h5⟩ := ckGo_cons.1 h
    have hy2 : y ≤ (endP q r).2 := hy2
    unfold fGo vGo
    by_cases h6 : y ≤ q.2
    · rw [if_pos h6]
      have hs := seg_f h2 (by omega) (by omega) h6
      by_cases h7 : x ≤ q.1
      · rw [if_pos h7]
        have a1 : y - p.2 ≤ (q.2 - p.2) * (x - p.1) / (q.1 - p.1) ↔ (y - p.2) * (q.1 - p.1) ≤ (q.2 - p.2) * (x - p.1) := Int.le_ediv_iff_mul_le (by omega)
        have a2 : ((y - p.2) * (q.1 - p.1) + (q.2 - p.2) - 1) / (q.2 - p.2) < x - p.1 + 1 ↔ (y - p.2) * (q.1 - p.1) + (q.2 - p.2) - 1 < (x - p.1 + 1) * (q.2 - p.2) := Int.ediv_lt_iff_lt_mul (by omega)
        rw [Int.add_mul, Int.mul_comm (x - p.1), Int.one_mul] at a2
        omega
      · rw [if_neg h7]
        have := vGo_ge (x := x) h5 (by omega)
        omega
    · rw [if_neg h6]
      by_cases h7 : x ≤ q.1
      · rw [if_pos h7]
        have b1 := seg_in h2 h3 hx h7
        have b2 := fgal (x := q.1) h5 (by omega) hy2 (Int.le_refl _)
        rw [vGo_at h5] at b2
        omega
      · rw [if_neg h7]
        exact fgal h5 (by omega) hy2 (by omega)
/-- What is asked of a stage. -/
theorem first_ok {p : Pt} {r : List Pt} (h : ckC (p :: r) = 0) (y : Int) :
    (firstV (p :: r) y).2.2 = 0 ∧ (firstV (p :: r) y).2.1 = decide (y ≤ (endP p r).2) ∧
    ((firstV (p :: r) y).2.1 = true → (p.1 ≤ (firstV (p :: r) y).1 ∧ (firstV (p :: r) y).1 ≤ (endP p r).1) ∧ y ≤ valC (p :: r) (firstV (p :: r) y).1 ∧ (p.1 < (firstV (p :: r) y).1 → valC (p :: r) ((firstV (p :: r) y).1 - 1) < y)) := by
  have hc := (ckC_cons.1 h).2.2
  have e2 := ck_end2 hc
  have e1 := ck_end hc
  unfold firstV
  rw [if_neg (by rw [h]; simp)]
  dsimp only
  by_cases h1 : y ≤ p.2
  · rw [if_pos h1]
    refine ⟨rfl, by simp; omega, fun _ => ⟨⟨Int.le_refl _, e1⟩, ?_, fun g => absurd g (Int.lt_irrefl _)⟩⟩
    rw [valC_eq, if_pos (Int.le_refl _)]
    exact h1
  · rw [if_neg h1]
    by_cases h2 : (endP p r).2 < y
    · rw [if_pos h2]
      exact ⟨rfl, by simp; omega, fun g => by cases g⟩
    · rw [if_neg h2]
      have g1 := fgal (y := y) (x := p.1) hc (by omega) (by omega) (Int.le_refl _)
      rw [vGo_at hc] at g1
      have g2 := fgal (y := y) (x := fGo p r y) hc (by omega) (by omega) (by omega)
      have g3 := fgal (y := y) (x := (endP p r).1) hc (by omega) (by omega) e1
      rw [vGo_end hc (Int.le_refl _)] at g3
      refine ⟨rfl, by simp; omega, fun _ => ⟨⟨by dsimp only; omega, by dsimp only; omega⟩, ?_, fun g => ?_⟩⟩
      · dsimp only
        rw [valC_eq, if_neg (by omega)]
        omega
      · dsimp only
        rw [valC_eq]
        split
        · omega
        · have g4 := fgal (y := y) (x := fGo p r y - 1) hc (by omega) (by omega) (by omega)
          omega
def R_first : RT := fun args k => match args with
  | [.c (.lst es), .c (.sc (.int .i64 y))] => ∃ c : List Pt, es = eP c ∧ c.length ≤ 9223372036854775807 ∧ k (.tup [I (firstV c y).1, Bo (firstV c y).2.1, I (firstV c y).2.2])
  | _ => False
def stageV (c : List Pt) (ice y : Int) : Int × Bool × Int := if rkR c ice ≠ 0 then (0, false, rkR c ice) else if inB 0 274877906944 y = false then (0, false, 1) else firstV c y
def R_stage : RT := fun args k => match args with
  | [.agg [.lst es, .sc (.int .i64 ice)], .c (.sc (.int .i64 y))] => ∃ c : List Pt, es = eP c ∧ c.length ≤ 9223372036854775807 ∧ k (.tup [I (stageV c ice y).1, Bo (stageV c ice y).2.1, I (stageV c ice y).2.2])
  | _ => False
/-- Readings, made of a deck. -/
def R_readings : RB := fun cs args k => match args with
  | [.c (.sc (.int .i64 most))] => ∃ d : Dk, cs = dkC d ∧ d.ok ∧ (0 ≤ most ∧ most ≤ 1000) ∧ ∀ (l : List Rd) d', Dk.ok d' → l.length ≤ most.toNat → (∀ r ∈ l, ckRd r = 0) → k (.c (.lst (eR l))) (dkC d')
  | _ => False
theorem ckRd_of {g t v f : Int} (h1 : 0 ≤ g ∧ g ≤ 255) (h2 : 0 ≤ t ∧ t ≤ 16777216) (h3 : 0 ≤ v ∧ v ≤ 1073741824) (h4 : 0 ≤ f ∧ f ≤ 2) : ckRd ⟨g, t, v, f⟩ = 0 := by
  unfold ckRd
  rw [if_neg (by simp [inB]; omega), if_neg (by simp [inB]; omega), if_neg (by simp [inB]; omega), if_neg (by simp [inB]; omega)]
theorem eR_len (l : List Rd) : (eR l).length = l.length := List.length_map _
theorem eR_snoc (l : List Rd) (r : Rd) : eR l ++ [rdC r] = eR (l ++ [r]) := by simp
theorem leaf_r {k : AV → List Cell → Prop} (l : List Rd) {n : Nat} {cs : List Cell} (h : n = l.length) (hc : noCs cs = true) (hk : k (.c (.lst (eR l))) cs) :
    noA (.c (.lst (List.take n (List.drop 0 (eR l))))) = true ∧ noCs cs = true ∧ k (.c (.lst (List.take n (List.drop 0 (eR l))))) cs := by
  subst h
  rw [List.drop_zero, List.take_of_length_le (by rw [eR_len]; exact Nat.le_refl _)]
  exact ⟨rfl, hc, hk⟩
theorem ckAll_of : ∀ {l : List Rd}, (∀ r ∈ l, ckRd r = 0) → ckAll l = 0
  | [], _ => rfl
  | a :: l, h => by
    unfold ckAll
    rw [if_neg (by rw [h a (by simp)]; simp)]
    exact ckAll_of fun r hr => h r (by simp [hr])
end Go.Proofs
