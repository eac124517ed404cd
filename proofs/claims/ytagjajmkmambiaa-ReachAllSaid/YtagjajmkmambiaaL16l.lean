/- Proved here: what functions of the given program come to, for the statements of this chapter; no condition but those in the theorems. -/
import Derived.Test.YtagjajmkmambiaaL16k
namespace Go.Proofs
open Go.Abs
set_option linter.unusedSimpArgs false
set_option linter.unusedVariables false
set_option maxRecDepth 4000
/-! What has come out up to a step. -/
def addL : Ls → Ls → Ls
  | x :: r, y :: t => (x + y) :: addL r t
  | _, _ => []
theorem addL_len : ∀ {a b : Ls}, a.length = b.length → (addL a b).length = a.length
  | [], [], _ => rfl
  | x :: r, y :: t, h => by simp at h; simp [addL, addL_len h]
  | [], _ :: _, h => by simp at h
  | _ :: _, [], h => by simp at h
theorem addL_snoc : ∀ {a b : Ls} (x y : Int), a.length = b.length → addL (a ++ [x]) (b ++ [y]) = addL a b ++ [x + y]
  | [], [], x, y, _ => rfl
  | c :: r, d :: t, x, y, h => by simp at h; simp [addL, addL_snoc x y h]
  | [], _ :: _, _, _, h => by simp at h
  | _ :: _, [], _, _, h => by simp at h
/-- Three states: the parts of the third are those of both, but for what is carried over at the head. -/
def Mix (den : Int) (a b c : Ls) (r : Int) : Prop := (∀ k, fP c (k + 1) = fP a (k + 1) + fP b (k + 1)) ∧ fP c 0 + r = fP a 0 + fP b 0
theorem step_fP {ws : Ls} {den : Int} {ps : Ls} {q : Int} {k : Nat} : fP (stepF ws den ps q) k = if k < ws.length then hP ws den ps q k else 0 := by
  unfold stepF
  rw [fP_trim, fP_tab]
theorem hP_out {ws : Ls} {den : Int} {ps : Ls} {q : Int} (hpl : ps.length ≤ ws.length) {k : Nat} (hk : ws.length ≤ k) (h0 : 1 ≤ k) : hP ws den ps q k = 0 := by
  unfold hP gP
  rw [fP_out (l := ps) (by omega), fP_out (l := ws) (by omega), if_neg (by omega)]; omega
theorem step_fP' {ws : Ls} {den : Int} {ps : Ls} {q : Int} (h1 : 1 ≤ ws.length) (hpl : ps.length ≤ ws.length) (k : Nat) : fP (stepF ws den ps q) k = hP ws den ps q k := by
  rw [step_fP]
  split
  · rfl
  · rename_i h
    exact (hP_out hpl (by omega) (by omega)).symm
/-- One step of three runs: the carried amounts. -/
theorem mix_step {ws : Ls} {den : Int} (h1 : 1 ≤ ws.length) {a b c : Ls} (ha : a.length ≤ ws.length) (hb : b.length ≤ ws.length) (hc : c.length ≤ ws.length) {r : Int} (hm : Mix den a b c r) (x y : Int) :
    Mix den (stepF ws den a x) (stepF ws den b y) (stepF ws den c (x + y)) (r + den * (outF ws den c (x + y) - outF ws den a x - outF ws den b y)) := by
  obtain ⟨m1, m2⟩ := hm
  have hg : ∀ k, gP ws c (x + y) (k + 1) = gP ws a x (k + 1) + gP ws b y (k + 1) := fun k => by
    unfold gP
    rw [m1 k, Int.add_mul]; omega
  have hg0 : gP ws c (x + y) 0 + r = gP ws a x 0 + gP ws b y 0 := by
    unfold gP
    rw [Int.add_mul]; omega
  refine ⟨fun k => ?_, ?_⟩
  · rw [step_fP' h1 ha, step_fP' h1 hb, step_fP' h1 hc]
    unfold hP
    rw [if_neg (by omega), if_neg (by omega), if_neg (by omega), hg]; omega
  · rw [step_fP' h1 ha, step_fP' h1 hb, step_fP' h1 hc]
    unfold hP outF
    rw [if_pos rfl, if_pos rfl, if_pos rfl, hg]
    have e1 := Int.mul_ediv_add_emod (gP ws a x 0) den
    have e2 := Int.mul_ediv_add_emod (gP ws b y 0) den
    have e3 := Int.mul_ediv_add_emod (gP ws c (x + y) 0) den
    rw [Int.mul_sub, Int.mul_sub]
    omega
theorem mix_bound {ws : Ls} {den : Int} (hd : 1 ≤ den) (h1 : 1 ≤ ws.length) {a b c : Ls} (ha : a.length ≤ ws.length) (hb : b.length ≤ ws.length) (hc : c.length ≤ ws.length) {r : Int} (hm : Mix den a b c r) (x y : Int) {r' : Int}
    (hm' : Mix den (stepF ws den a x) (stepF ws den b y) (stepF ws den c (x + y)) r') : -den < r' ∧ r' < 2 * den := by
  obtain ⟨m1, _⟩ := hm
  obtain ⟨_, m2⟩ := hm'
  rw [step_fP' h1 ha, step_fP' h1 hb, step_fP' h1 hc] at m2
  unfold hP at m2
  rw [if_pos rfl, if_pos rfl, if_pos rfl] at m2
  have hg : gP ws c (x + y) (0 + 1) = gP ws a x (0 + 1) + gP ws b y (0 + 1) := by
    unfold gP
    rw [m1 0, Int.add_mul]; omega
  have e1 := Int.emod_nonneg (gP ws a x 0) (show den ≠ 0 by omega)
  have e2 := Int.emod_nonneg (gP ws b y 0) (show den ≠ 0 by omega)
  have e3 := Int.emod_nonneg (gP ws c (x + y) 0) (show den ≠ 0 by omega)
  have f1 := Int.emod_lt_of_pos (gP ws a x 0) (show 0 < den by omega)
  have f2 := Int.emod_lt_of_pos (gP ws b y 0) (show 0 < den by omega)
  have f3 := Int.emod_lt_of_pos (gP ws c (x + y) 0) (show 0 < den by omega)
  omega
def prefOk : Ls → Ls → Ls → Int → Prop
  | x :: xs, y :: ys, z :: zs, D => (0 ≤ D + z - x - y ∧ D + z - x - y ≤ 1) ∧ prefOk xs ys zs (D + z - x - y)
  | _, _, _, _ => True
theorem mix_run {ws : Ls} {den : Int} (hr : rkCheck ws den = 0) : ∀ (q1 q2 a b c p1 o1 p2 o2 p3 o3 : Ls) (D : Int), q1.length = q2.length → a.length ≤ ws.length → b.length ≤ ws.length → c.length ≤ ws.length → Mix den a b c (den * D) →
    runGo ws den a q1 = some (p1, o1) → runGo ws den b q2 = some (p2, o2) → runGo ws den c (addL q1 q2) = some (p3, o3) → prefOk o1 o2 o3 D
  | [], [], a, b, c, p1, o1, p2, o2, p3, o3, D, _, _, _, _, _, h1, _, _ => by
    simp [runGo] at h1
    obtain ⟨rfl, rfl⟩ := h1
    simp [prefOk]
  | x :: q1, y :: q2, a, b, c, p1, o1, p2, o2, p3, o3, D, hl, ha, hb, hc, hm, h1, h2, h3 => by
    obtain ⟨n1, _, _, hd, _⟩ := rk_facts hr
    rw [addL] at h3
    by_cases g1 : 0 ≤ x ∧ x ≤ 1073741824 ∧ stepOk ws a x
    · by_cases g2 : 0 ≤ y ∧ y ≤ 1073741824 ∧ stepOk ws b y
      · by_cases g3 : 0 ≤ x + y ∧ x + y ≤ 1073741824 ∧ stepOk ws c (x + y)
        · have hms := mix_step n1 ha hb hc hm x y
          have hbd := mix_bound hd n1 ha hb hc hm x y hms
          have er : den * D + den * (outF ws den c (x + y) - outF ws den a x - outF ws den b y) = den * (D + outF ws den c (x + y) - outF ws den a x - outF ws den b y) := by
            rw [← Int.mul_add]; congr 1; omega
          rw [er] at hms hbd
          have hl' : ∀ ps q, (stepF ws den ps q).length ≤ ws.length := fun ps q => by
            unfold stepF
            exact Nat.le_trans (trim_len _) (by rw [tab_len]; exact Nat.le_refl _)
          rw [runGo_good g1] at h1
          rw [runGo_good g2] at h2
          rw [runGo_good g3] at h3
          cases r1 : runGo ws den (stepF ws den a x) q1 with
          | none => rw [r1] at h1; cases h1
          | some u1 =>
          cases r2 : runGo ws den (stepF ws den b y) q2 with
          | none => rw [r2] at h2; cases h2
          | some u2 =>
          cases r3 : runGo ws den (stepF ws den c (x + y)) (addL q1 q2) with
          | none => rw [r3] at h3; cases h3
          | some u3 =>
          have ih := mix_run hr q1 q2 _ _ _ _ _ _ _ _ _ _ (by simpa using hl) (hl' _ _) (hl' _ _) (hl' _ _) hms r1 r2 r3
          rw [r1] at h1
          rw [r2] at h2
          rw [r3] at h3
          simp [preO] at h1 h2 h3
          rw [← h1.2, ← h2.2, ← h3.2]
          obtain ⟨E, hE⟩ : ∃ E, E = D + outF ws den c (x + y) - outF ws den a x - outF ws den b y := ⟨_, rfl⟩
          rw [← hE] at hbd ih
          have hE1 : -1 < E := by
            rcases Int.lt_or_le (-1) E with h | h
            · exact h
            · have := Int.mul_le_mul_of_nonneg_left h (show 0 ≤ den by omega)
              omega
          have hE2 : E < 2 := by
            rcases Int.lt_or_le E 2 with h | h
            · exact h
            · have := Int.mul_le_mul_of_nonneg_left h (show 0 ≤ den by omega)
              omega
          refine ⟨⟨by omega, by omega⟩, ?_⟩
          rw [← hE]
          exact ih
        · rw [runGo_bad g3] at h3; cases h3
      · rw [runGo_bad g2] at h2; cases h2
    · rw [runGo_bad g1] at h1; cases h1
  | [], _ :: _, _, _, _, _, _, _, _, _, _, _, hl, _, _, _, _, _, _, _ => by simp at hl
  | _ :: _, [], _, _, _, _, _, _, _, _, _, _, hl, _, _, _, _, _, _, _ => by simp at hl
theorem addL_sum : ∀ {a b : Ls}, a.length = b.length → (addL a b).sum = a.sum + b.sum
  | [], [], _ => rfl
  | x :: r, y :: t, h => by
    simp at h
    rw [addL, List.sum_cons, List.sum_cons, List.sum_cons, addL_sum h]; omega
  | [], _ :: _, h => by simp at h
  | _ :: _, [], h => by simp at h
theorem addL_in : ∀ {a b : Ls} {A B : Int}, (∀ x ∈ a, 0 ≤ x ∧ x ≤ A) → (∀ x ∈ b, 0 ≤ x ∧ x ≤ B) → ∀ x ∈ addL a b, 0 ≤ x ∧ x ≤ A + B
  | [], [], _, _, _, _, x, hx => by simp [addL] at hx
  | [], _ :: _, _, _, _, _, x, hx => by simp [addL] at hx
  | _ :: _, [], _, _, _, _, x, hx => by simp [addL] at hx
  | c :: r, d :: t, A, B, h1, h2, x, hx => by
    rw [addL] at hx
    rcases List.mem_cons.1 hx with rfl | hx
    · have := h1 c (by simp); have := h2 d (by simp); omega
    · exact addL_in (fun y hy => h1 y (by simp [hy])) (fun y hy => h2 y (by simp [hy])) x hx
theorem sum_nn : ∀ {l : Ls}, (∀ x ∈ l, 0 ≤ x) → 0 ≤ l.sum ∧ ∀ x ∈ l, x ≤ l.sum
  | [], _ => ⟨by simp, fun x hx => by simp at hx⟩
  | y :: r, h => by
    obtain ⟨h1, h2⟩ := sum_nn (l := r) (fun x hx => h x (by simp [hx]))
    have h0 := h y (by simp)
    rw [List.sum_cons]
    refine ⟨by omega, fun x hx => ?_⟩
    rcases List.mem_cons.1 hx with rfl | hx
    · omega
    · have := h2 x hx; omega
theorem run_small {ws : Ls} {den : Int} (hr : rkCheck ws den = 0) {qs : Ls} {A : Int} (hA0 : 0 ≤ A) (hA : A ≤ 1000) (hq : ∀ q ∈ qs, 0 ≤ q ∧ q ≤ A) (hl : qs.length ≤ 20) :
    ∃ p o, runGo ws den [] qs = some (p, o) ∧ rkRun ws den [] qs = (p, o, 0) ∧ o.length = qs.length ∧ p.length ≤ 24 ∧ ∀ x ∈ o, 0 ≤ x ∧ x ≤ 20000 := by
  obtain ⟨a1, a2, _, a4, a5, a6, _⟩ := rk_facts hr
  have hqs := sum_in hA0 hq
  have hqb : qs.sum ≤ 20000 := by
    have : A * (qs.length : Int) ≤ 1000 * 20 := Int.mul_le_mul hA (by omega) (by omega) (by omega)
    omega
  have hdq : den * qs.sum ≤ 240000 * 20000 := Int.mul_le_mul a5 hqb hqs.1 (by omega)
  obtain ⟨p, o, r1, r2, r3, r4, r5⟩ := runGo_ok hr qs [] (fits_nil _) (fun q h => by have := hq q h; omega) (by simp; omega)
  obtain ⟨s1, s2⟩ := sum_nn r5
  have hos : o.sum ≤ qs.sum := by
    have := fits_sum r3
    simp at r4
    rcases Int.lt_or_le qs.sum o.sum with h | h
    · have := Int.mul_lt_mul_of_pos_left h (show 0 < den by omega)
      omega
    · exact h
  refine ⟨p, o, r1, rkRun_ok hr (fits_nil _) (by omega) r1, r2, Nat.le_trans (fits_facts r3).1 a2, fun x hx => ⟨r5 x hx, by have := s2 x hx; omega⟩⟩
theorem mixes_law {ws : Ls} {den : Int} (hr : rkCheck ws den = 0) {q1 q2 : Ls} (h1 : ∀ q ∈ q1, 0 ≤ q ∧ q < 40) (h2 : ∀ q ∈ q2, 0 ≤ q ∧ q < 40) (l1 : q1.length = 9) (l2 : q2.length = 9) :
    ∃ p1 o1 p2 o2 p3 o3, rkRun ws den [] q1 = (p1, o1, 0) ∧ rkRun ws den [] q2 = (p2, o2, 0) ∧ rkRun ws den [] (addL q1 q2) = (p3, o3, 0) ∧ o1.length = 9 ∧ o2.length = 9 ∧ o3.length = 9 ∧
      (∀ x ∈ o1, 0 ≤ x ∧ x ≤ 20000) ∧ (∀ x ∈ o2, 0 ≤ x ∧ x ≤ 20000) ∧ (∀ x ∈ o3, 0 ≤ x ∧ x ≤ 20000) ∧ prefOk o1 o2 o3 0 := by
  have h1' : ∀ q ∈ q1, 0 ≤ q ∧ q ≤ 39 := fun q h => by have := h1 q h; omega
  have h2' : ∀ q ∈ q2, 0 ≤ q ∧ q ≤ 39 := fun q h => by have := h2 q h; omega
  have l3 := addL_len (show q1.length = q2.length by omega)
  obtain ⟨p1, o1, a1, b1, c1, d1, e1⟩ := run_small hr (by omega) (by omega) h1' (by omega)
  obtain ⟨p2, o2, a2, b2, c2, d2, e2⟩ := run_small hr (by omega) (by omega) h2' (by omega)
  obtain ⟨p3, o3, a3, b3, c3, d3, e3⟩ := run_small hr (by omega) (by omega) (addL_in h1' h2') (by omega)
  refine ⟨p1, o1, p2, o2, p3, o3, b1, b2, b3, by omega, by omega, by omega, e1, e2, e3, ?_⟩
  exact mix_run hr q1 q2 [] [] [] p1 o1 p2 o2 p3 o3 0 (by omega) (Nat.zero_le _) (Nat.zero_le _) (Nat.zero_le _) ⟨fun k => by simp [fP], by simp [fP]⟩ a1 a2 a3
end Go.Proofs
