/- Proved here: what functions of the given program come to, for the statements of this chapter; no condition but those in the theorems. -/
import Derived.Test.YtagjajmkmambiaaL16j
namespace Go.Proofs
open Go.Abs
set_option linter.unusedSimpArgs false
set_option linter.unusedVariables false
set_option maxRecDepth 4000
theorem mul_in {a b A B : Int} (h1 : -A ≤ a) (h2 : a ≤ A) (h3 : -B ≤ b) (h4 : b ≤ B) : -(A * B) ≤ a * b ∧ a * b ≤ A * B := by
  have h : (a * b).natAbs ≤ A.natAbs * B.natAbs := by rw [Int.natAbs_mul]; exact Nat.mul_le_mul (by omega) (by omega)
  have hA : (A * B).natAbs = A.natAbs * B.natAbs := Int.natAbs_mul _ _
  have hp : 0 ≤ A * B := Int.mul_nonneg (by omega) (by omega)
  omega
def mulL (k : Int) (l : Ls) : Ls := l.map (k * ·)
theorem mul_len (k : Int) (l : Ls) : (mulL k l).length = l.length := List.length_map _
theorem mul_fP (k : Int) (l : Ls) (i : Nat) : fP (mulL k l) i = k * fP l i := by
  by_cases h : i < l.length
  · rw [fP_at (by rw [mul_len]; exact h), fP_at h]; simp [mulL]
  · rw [fP_out (by rw [mul_len]; omega), fP_out (by omega), Int.mul_zero]
theorem mul_sum (k : Int) (l : Ls) : (mulL k l).sum = k * l.sum := by
  induction l with
  | nil => simp [mulL]
  | cons x r ih => show (k * x :: mulL k r).sum = _; rw [List.sum_cons, List.sum_cons, ih, Int.mul_add]
theorem mul_trim {k : Int} (hk : 1 ≤ k) : ∀ l : Ls, trimZ (mulL k l) = mulL k (trimZ l)
  | [] => rfl
  | x :: r => by
    show trimZ (k * x :: mulL k r) = mulL k (trimZ (x :: r))
    rw [trimZ, trimZ, mul_trim hk r]
    cases trimZ r with
    | nil =>
      have h0 : k * x = 0 ↔ x = 0 := by
        rw [Int.mul_eq_zero]
        exact ⟨fun h => h.resolve_left (by omega), .inr⟩
      show (if k * x = 0 then [] else [k * x]) = mulL k (if x = 0 then [] else [x])
      by_cases hx : x = 0
      · rw [if_pos hx, if_pos (h0.2 hx)]; rfl
      · rw [if_neg hx, if_neg (fun h => hx (h0.1 h))]; rfl
    | cons y t => rfl
theorem mul_gP (k : Int) (ws ps : Ls) (q : Int) (i : Nat) : gP (mulL k ws) (mulL k ps) q i = k * gP ws ps q i := by
  unfold gP
  rw [mul_fP, mul_fP, Int.mul_add, ← Int.mul_assoc, ← Int.mul_assoc, Int.mul_comm q k]
theorem mul_step {k : Int} (hk : 1 ≤ k) {ws : Ls} {den : Int} (ps : Ls) (q : Int) : stepF (mulL k ws) (k * den) (mulL k ps) q = mulL k (stepF ws den ps q) ∧ outF (mulL k ws) (k * den) (mulL k ps) q = outF ws den ps q := by
  refine ⟨?_, ?_⟩
  · unfold stepF
    rw [← mul_trim hk, mul_len]
    congr 1
    unfold mulL tab
    rw [List.map_map]
    refine List.map_congr_left fun i _ => ?_
    show hP (mulL k ws) (k * den) (mulL k ps) q i = k * hP ws den ps q i
    unfold hP
    rw [mul_gP, mul_gP, Int.mul_add]
    split
    · rw [Int.mul_emod_mul_of_pos _ _ (by omega)]
    · rw [Int.mul_zero]
  · unfold outF
    rw [mul_gP, Int.mul_ediv_mul_of_pos _ _ (by omega)]
theorem mul_run {k : Int} (hk : 1 ≤ k) {ws : Ls} {den : Int} : ∀ (qs ps p o p' o' : Ls), runGo ws den ps qs = some (p, o) → runGo (mulL k ws) (k * den) (mulL k ps) qs = some (p', o') → p' = mulL k p ∧ o' = o
  | [], ps, p, o, p', o', h1, h2 => by simp [runGo] at h1 h2; obtain ⟨rfl, rfl⟩ := h1; obtain ⟨rfl, rfl⟩ := h2; exact ⟨rfl, rfl⟩
  | q :: qs, ps, p, o, p', o', h1, h2 => by
    by_cases g1 : 0 ≤ q ∧ q ≤ 1073741824 ∧ stepOk ws ps q
    · by_cases g2 : 0 ≤ q ∧ q ≤ 1073741824 ∧ stepOk (mulL k ws) (mulL k ps) q
      · obtain ⟨e1, e2⟩ := mul_step (ws := ws) (den := den) hk ps q
        rw [runGo_good g1] at h1
        rw [runGo_good g2, e1, e2] at h2
        cases r1 : runGo ws den (stepF ws den ps q) qs with
        | none => rw [r1] at h1; cases h1
        | some x =>
          cases r2 : runGo (mulL k ws) (k * den) (mulL k (stepF ws den ps q)) qs with
          | none => rw [r2] at h2; cases h2
          | some y =>
            obtain ⟨a, b⟩ := mul_run hk qs _ _ _ _ _ r1 r2
            rw [r1] at h1
            rw [r2] at h2
            simp [preO] at h1 h2
            rw [← h1.1, ← h1.2, ← h2.1, ← h2.2]
            exact ⟨a, by rw [b]⟩
      · rw [runGo_bad g2] at h2; cases h2
    · rw [runGo_bad g1] at h1; cases h1
theorem mul_rk {k : Int} (h1 : 1 ≤ k) (h2 : k ≤ 20) {ws : Ls} {den : Int} (hr : rkCheck ws den = 0) (hw : ∀ w ∈ ws, 0 ≤ w ∧ w ≤ 4) (hl : ws.getLast? ≠ some 0) : rkCheck (mulL k ws) (k * den) = 0 := by
  obtain ⟨a1, a2, _, _, _, a6, _⟩ := rk_facts hr
  refine rk_of (by rw [mul_len]; omega) (fun h => hl ?_) (by rw [mul_len]; exact a2) (fun w hw' => ?_) (by rw [mul_sum, a6])
  · unfold mulL at h
    rw [List.getLast?_map] at h
    cases hg : ws.getLast? with
    | none => rw [hg] at h; cases h
    | some x =>
      rw [hg] at h
      simp at h
      rw [(Int.mul_eq_zero.1 h).resolve_left (by omega)]
  · unfold mulL at hw'
    obtain ⟨x, hx, rfl⟩ := List.mem_map.1 hw'
    have := hw x hx
    refine ⟨Int.mul_nonneg (by omega) this.1, ?_⟩
    have := Int.mul_le_mul h2 this.2 this.1 (by omega)
    omega
theorem rk_last {ws : Ls} {den : Int} (h : rkCheck ws den = 0) : ws.getLast? ≠ some 0 := by
  intro e
  unfold rkCheck at h
  rw [if_pos (.inr e)] at h
  cases h
theorem scales_law {k : Int} (h1 : 1 ≤ k) (h2 : k ≤ 20) {ws : Ls} {den : Int} (hr : rkCheck ws den = 0) (hw : ∀ w ∈ ws, 0 ≤ w ∧ w ≤ 4) (hl5 : ws.length ≤ 5) {qs : Ls} (hq : ∀ q ∈ qs, 0 ≤ q ∧ q < 60) (hl : qs.length = 10) :
    ∃ p o, rkRun ws den [] qs = (p, o, 0) ∧ rkRun (mulL k ws) (k * den) [] qs = (mulL k p, o, 0) ∧ p.length ≤ 24 ∧ (∀ x ∈ p, 0 ≤ x ∧ x ≤ 2251799813685248) ∧ (mulL k p).sum = k * p.sum ∧ (mulL k p).length ≤ 24 ∧ (∀ x ∈ mulL k p, 0 ≤ x ∧ x ≤ 2251799813685248) ∧ o.length ≤ 10 ∧ 0 ≤ p.sum ∧ p.sum ≤ 1125899906842624 := by
  have hrb := mul_rk h1 h2 hr hw (rk_last hr)
  obtain ⟨a1, a2, _, a4, a5, a6, _⟩ := rk_facts hr
  obtain ⟨_, _, _, b4, b5, _⟩ := rk_facts hrb
  have hqs := sum_in (l := qs) (a := 59) (by omega) (fun x hx => by have := hq x hx; omega)
  rw [hl] at hqs
  have hq' : ∀ q ∈ qs, 0 ≤ q ∧ q ≤ 1073741824 := fun q hx => by have := hq q hx; omega
  have bd : ∀ D : Int, 1 ≤ D → D ≤ 240000 → D * qs.sum ≤ 240000 * 590 ∧ 0 ≤ D * qs.sum := fun D d1 d2 => ⟨Int.mul_le_mul d2 (by omega) hqs.1 (by omega), Int.mul_nonneg (by omega) hqs.1⟩
  have c1 := bd den a4 a5
  have c2 := bd (k * den) b4 b5
  obtain ⟨p, o, r1, r2, r3, r4, r5⟩ := runGo_ok hr qs [] (fits_nil _) hq' (by simp; omega)
  obtain ⟨p', o', s1, s2, s3, s4, s5⟩ := runGo_ok hrb qs [] (fits_nil _) hq' (by simp; omega)
  obtain ⟨rfl, rfl⟩ := mul_run h1 qs [] p o p' o' r1 s1
  obtain ⟨f1, _, f3, _⟩ := fits_facts r3
  obtain ⟨g1, _, g3, _⟩ := fits_facts s3
  have ho := (sum_in (l := o') (a := o'.foldl max 0)) 
  have hos : 0 ≤ o'.sum := by
    clear ho
    have : ∀ l : Ls, (∀ x ∈ l, 0 ≤ x) → 0 ≤ l.sum := fun l => by
      induction l with
      | nil => intro _; simp
      | cons x r ih => intro h; rw [List.sum_cons]; have := h x (by simp); have := ih (fun y hy => h y (by simp [hy])); omega
    exact this o' r5
  have hdo : 0 ≤ den * o'.sum := Int.mul_nonneg (by omega) hos
  simp at r4
  refine ⟨p, o', rkRun_ok hr (fits_nil _) (by omega) r1, rkRun_ok hrb (fits_nil _) (by omega) s1, by omega, f3, mul_sum _ _, by rw [mul_len] at g1 ⊢; omega, g3, by omega, fits_sum r3, by omega⟩
def R_law1 (n : Nat) : RT := fun args k => match args with
  | .c (.lst es) :: rest => (∃ l : Ls, es = eL l ∧ l.length ≤ 9223372036854775807) ∧ (∃ xs : Ls, rest = xs.map (fun x => I x) ∧ xs.length = n) ∧ k (Bo true)
  | _ => False
theorem scales_ok : FunR Try.prog 5 (R_law1 1) := by
  intro args k h
  unfold R_law1 at h
  split at h
  case h_2 => exact h.elim
  obtain ⟨⟨l, rfl, hl⟩, ⟨xs, rfl, hx⟩, hk⟩ := h
  obtain ⟨by_, rfl⟩ : ∃ a, xs = [a] := by
    match xs, hx with
    | [a], _ => exact ⟨a, rfl⟩
  refine does_ex (qc := qc1) (np := []) (CK := ckK [(10, cN R_new), (11, cB R_reach), (18, cSc R_mod), (17, cB R_flows), (13, cPu R_run), (19, cSc R_same), (14, cSc R_held), (16, cSc R_true)]) mixed Try.func5 rfl rfl Try.ntmps5 Try.results5 τ_ok (by kernel_rfl) (ckK_ok ⟨cN_ok new_ok rfl, cB_ok reach_ok rfl, cSc_ok mod_ok, cB_ok flows_ok rfl, cPu_ok run_ok rfl, cSc_ok same_ok, cSc_ok held_ok, cSc_ok awake_ok, trivial⟩) (by simp) ?_
  conv => whnf
  refine ⟨l, rfl, ?_⟩
  conv => whnf
  refine ⟨⟨l, 0⟩, rfl, ⟨Nat.zero_le _, hl⟩, fun ws den d hd hr hw5 hw => ?_⟩
  conv => whnf
  refine ⟨by decide, ?_⟩
  conv => whnf
  have hn1 : 0 ≤ by_ % 20 := Int.emod_nonneg _ (by omega)
  have hn2 : by_ % 20 < 20 := Int.emod_lt_of_pos _ (by omega)
  rw [wrap_in (z := 1 + by_ % 20) (by omega) (by omega)]
  have hk1 : 1 ≤ 1 + by_ % 20 := by omega
  have hk2 : 1 + by_ % 20 ≤ 20 := by omega
  generalize 1 + by_ % 20 = f at *
  obtain ⟨a1, a2, _, a4, a5, a6, _⟩ := rk_facts hr
  have hfd := mul_in (a := f) (b := den) (A := 20) (B := 240000) (by omega) (by omega) (by omega) (by omega)
  conv => whnf
  rw [wrap_in (z := f * den) (by omega) (by omega)]
  refine ⟨Nat, fun i => ([(5, .c (.ptr (.l 19 0) 0)), (6, .c (.ptr (.l 6 1) 0)), (7, I f), (8, .c (.ptr (.l 8 2) 0)), (31, .c (.lst (eL ws))), (32, I (eL ws).length), (33, I i)],
      ⟨[(.l 19 0, .blk (dkC d)), (.l 6 1, .blk (RcC ws den)), (.l 8 2, .blk [.view (.l 43 3) 0 (mulL f (ws.take i)).length, IC (f * den)]), (.l 43 3, .arr 3 1 (eL (mulL f (ws.take i))) false)], 4, []⟩),
    fun i => i ≤ ws.length, fun i => ws.length - i, 0, Nat.zero_le _,
    Shift.trans (Shift.rename [] ⟨rfl, rfl, rfl, rfl, rfl, rfl, rfl, trivial⟩ ⟨rfl, rfl, rfl, rfl, trivial⟩ rfl rfl rfl) (Shift.nilCell (i := .l 8 2) (cs := [.sc (.slice none 0 0), IC (f * den)]) (j := 0) rfl rfl 43 3 1), fun i hi => ?_⟩
  dsimp only at hi ⊢
  conv => whnf
  have hml := eL_len ws
  refine Fork.mk (fun h => ?_) (fun h => ?_)
  · have hi : i < ws.length := by simp at h; omega
    have hat := map_at eI ws hi
    have hvw := hw _ (List.getElem_mem hi)
    have htk : mulL f (ws.take (i + 1)) = mulL f (ws.take i) ++ [f * ws[i]] := by
      rw [show ws.take (i + 1) = ws.take i ++ [ws[i]] from (List.take_append_getElem hi).symm]
      unfold mulL
      rw [List.map_append]; rfl
    generalize ws[i] = v at *
    have hlt : (mulL f (ws.take i)).length = i := by rw [mul_len, List.length_take]; omega
    have hfv := mul_in (a := f) (b := v) (A := 20) (B := 4) (by omega) (by omega) (by omega) (by omega)
    conv => whnf
    refine ⟨by omega, eI v, hat, rfl, ?_⟩
    conv => whnf
    rw [wrap_in (z := f * v) (by omega) (by omega)]
    refine ⟨by simp, ?_⟩
    conv => whnf
    refine ⟨rfl, ?_⟩
    conv => whnf
    refine ⟨⟨rfl, rfl, rfl, (eL_len _).symm, by rw [eL_len]; simp; omega⟩, ?_⟩
    conv => whnf
    have hw1 : IntKind.i64.wrap ((i : Int) + 1) = ((i + 1 : Nat) : Int) := by rw [wrap_in (by omega) (by omega)]; omega
    rw [hw1]
    refine ⟨i + 1, hi, Shift.rename [(.l 43 3, .l 43 5)] ⟨rfl, rfl, rfl, rfl, rfl, rfl, rfl, trivial⟩ ⟨rfl, rfl, ?_, ?_, trivial⟩ rfl rfl rfl, ?_⟩
    · dsimp only
      rw [htk, snoc_len]; rfl
    · dsimp only
      rw [htk, ← eL_snoc]; rfl
    · show ws.length - (i + 1) < ws.length - i
      omega
  · have hie : i = ws.length := by simp at h; omega
    subst hie
    rw [List.take_length]
    conv => whnf
    refine ⟨d, 10, rfl, hd, rfl, by omega, by omega, fun qs d hd hq10 hq => ?_⟩
    obtain ⟨p, o, e1, e2, f1, f2, f3, f4, f5, f6, f7, f8⟩ := scales_law hk1 hk2 hr hw hw5 hq hq10
    conv => whnf
    refine ⟨ws, [], qs, rfl, rfl, rfl, by omega, by simp, by omega, ?_⟩
    rw [e1]
    conv => whnf
    refine ⟨by rw [eL_len]; omega, ?_⟩
    conv => whnf
    have hfull : List.take (mulL f ws).length (List.drop 0 (eL (mulL f ws))) = eL (mulL f ws) := by rw [List.drop_zero, List.take_of_length_le (by rw [eL_len]; exact Nat.le_refl _)]
    refine ⟨mulL f ws, [], qs, hfull, rfl, rfl, by rw [mul_len]; omega, by simp, by omega, ?_⟩
    rw [e2]
    conv => whnf
    refine Fork.mk (fun h => ?_) (fun h => (by simp at h))
    conv => whnf
    refine Fork.mk (fun h => ?_) (fun h => (by simp at h))
    conv => whnf
    refine ⟨o, o, rfl, rfl, by omega, ?_⟩
    conv => whnf
    refine Fork.mk (fun h => ?_) (fun h => (by simp at h))
    conv => whnf
    refine ⟨mulL f p, rfl, by omega, fun x hx => (by have := f5 x hx; unfold inH; omega), ?_⟩
    conv => whnf
    refine ⟨p, rfl, by omega, fun x hx => (by have := f2 x hx; unfold inH; omega), ?_⟩
    conv => whnf
    have hfs := mul_in (a := f) (b := p.sum) (A := 20) (B := 1125899906842624) (by omega) (by omega) (by omega) (by omega)
    rw [wrap_in (z := f * p.sum) (by omega) (by omega), f3]
    refine Fork.mk (fun h => ?_) (fun h => (by simp at h))
    conv => whnf
    exact hk
end Go.Proofs
