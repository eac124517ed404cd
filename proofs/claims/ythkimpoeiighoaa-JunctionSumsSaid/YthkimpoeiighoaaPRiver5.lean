/- Rivers: links without delay, and a river of one way. No program. -/
import Derived.Test.YthkimpoeiighoaaPRiver4
namespace Go.Proofs
open Go Go.Abs
set_option linter.unusedSimpArgs false
set_option linter.unusedVariables false
/-! Links without delay. -/
def unitL (l : Lk) : Prop := l.ws = [l.den] ∧ 1 ≤ l.den ∧ l.den ≤ 3
theorem unit_rk {l : Lk} (h : unitL l) : rkCheck l.ws l.den = 0 := by
  obtain ⟨h1, h2, h3⟩ := h
  rw [h1]
  exact rk_of (by simp) (by simp; omega) (by simp) (fun w hw => by simp at hw; omega) (by simp)
theorem unit_step {l : Lk} (h : unitL l) {q : Int} (hq : 0 ≤ q ∧ q ≤ 1000000) : stG l [] q = true ∧ stepF l.ws l.den [] q = [] ∧ outF l.ws l.den [] q = q := by
  obtain ⟨h1, h2, h3⟩ := h
  have f0 : fP l.ws 0 = l.den := by rw [h1]; rfl
  have f1 : fP l.ws 1 = 0 := by rw [h1]; rfl
  have g0 : gP l.ws [] q 0 = q * l.den := by unfold gP; rw [f0]; show 0 + _ = _; omega
  have g1 : gP l.ws [] q 1 = 0 := by unfold gP; rw [f1]; show 0 + q * 0 = _; omega
  have hm : 0 ≤ q * l.den ∧ q * l.den ≤ 1000000 * 3 := ⟨Int.mul_nonneg hq.1 (by omega), Int.mul_le_mul hq.2 h3 (by omega) (by omega)⟩
  refine ⟨?_, ?_, ?_⟩
  · simp only [stG, inQ, Bool.and_eq_true, decide_eq_true_eq]
    refine ⟨⟨hq.1, by omega⟩, stepB_iff.2 fun k hk => ?_⟩
    rw [h1] at hk
    have : k = 0 := by simp at hk; exact hk
    subst this
    rw [g0]; omega
  · have e : hP l.ws l.den [] q 0 = 0 := by
      unfold hP
      rw [g1, if_pos rfl, g0, Int.mul_emod_left]; rfl
    have e2 : tab l.ws.length (hP l.ws l.den [] q) = [0] := by
      rw [show l.ws.length = 1 by rw [h1]; rfl]
      show [hP l.ws l.den [] q 0] = [0]
      rw [e]
    rw [stepF, e2]
    exact trim_zero []
  · unfold outF
    rw [g0, Int.mul_ediv_cancel _ (by omega)]
theorem sums_go {n : Nat} : ∀ {ls : List Lk} {a : Ls} (i : Nat), (∀ l ∈ ls, LkOk n l ∧ unitL l) → (∀ (j : Nat) l, ls[j]? = some l → l.fr = ((i + j : Nat) : Int)) → a.length = n → i + ls.length + 1 = n → (∀ x ∈ a, 0 ≤ x) → tailS a i ≤ 1000000 →
    ∃ F, lkGo ls (List.replicate ls.length []) a = some (List.replicate ls.length [], F) ∧ F.length = n ∧ gN F (n - 1) = tailS a i
  | [], a, i, _, _, hn, hi, _, _ => by
    simp at hi
    refine ⟨a, rfl, hn, ?_⟩
    rw [tail_cons (gN_get (show i < a.length by omega)), show n - 1 = i by omega]
    have : tailS a (i + 1) = 0 := by unfold tailS; rw [List.drop_eq_nil_of_le (by omega)]; rfl
    omega
  | l :: ls, a, i, hl, hfr, hn, hi, hnn, hs => by
    obtain ⟨hlo, hu⟩ := hl l (by simp)
    have hf := hfr 0 l rfl
    rw [Nat.add_zero] at hf
    have ho := hlo.o
    have ht := hlo.t
    simp at hi
    obtain ⟨t, hto⟩ : ∃ t : Nat, l.to = t := ⟨l.to.toNat, by omega⟩
    have hgq : gA a l.fr = gN a i := by rw [hf, gA_nat]
    have hgt : gA a l.to = gN a t := by rw [hto, gA_nat]
    have hq0 := gN_nn hnn i
    have htf := tail_cons (gN_get (show i < a.length by omega))
    have hn1 := nn_tail hnn (i + 1)
    obtain ⟨s1, s2, s3⟩ := unit_step hu (q := gN a i) ⟨hq0, by omega⟩
    have hts := tail_set (v := gN a i) (show t < a.length by omega) (i + 1)
    rw [if_pos (by omega)] at hts
    obtain ⟨F, e1, e2, e3⟩ := sums_go (ls := ls) (a := a.set t (gN a t + gN a i)) (i + 1) (fun l hl' => hl l (by simp [hl'])) (fun j b hb => by rw [hfr (j + 1) b (by simpa using hb)]; congr 1; omega) (by rw [List.length_set]; exact hn) (by omega) (fun y hy => by
      rcases List.mem_or_eq_of_mem_set hy with hy | rfl
      · exact hnn y hy
      · have := gN_nn hnn t; omega) (by omega)
    refine ⟨F, ?_, e2, by rw [e3, hts, htf]; omega⟩
    rw [List.length_cons, List.replicate_succ, lkGo_cons, hgq, hgt, if_pos s1, s2, s3, show l.to.toNat = t by omega, e1]
    rfl
structure sumR (r : Rv) : Prop where
  n : 1 ≤ r.n ∧ r.n ≤ 7
  l : ∀ l ∈ r.ls, LkOk r.n l ∧ unitL l
  f : ∀ (j : Nat) l, r.ls[j]? = some l → l.fr = (j : Int)
  len : (r.ls.length : Int) + 1 = r.n
theorem sumR.ok {r : Rv} (h : sumR r) : RvOk r := by
  refine ⟨by have := h.n; omega, fun l hl => (h.l l hl).1, List.pairwise_iff_getElem.2 fun i j hi hj hij => ?_⟩
  have e1 := h.f i _ (List.getElem?_eq_getElem hi)
  have e2 := h.f j _ (List.getElem?_eq_getElem hj)
  omega
theorem sumR.w {r : Rv} (h : sumR r) : WvOk r (List.replicate r.ls.length []) := ⟨by simp, fun i l p e1 e2 => by rw [List.eq_of_mem_replicate (List.mem_of_getElem? e2)]; exact fits_nil _⟩
theorem sum_run {r : Rv} (h : sumR r) : ∀ {ls : List Ls}, (∀ l ∈ ls, (l.length : Int) = r.n ∧ (∀ q ∈ l, 0 ≤ q ∧ q ≤ 1000000) ∧ l.sum ≤ 1000000) →
    ∃ o, runX r (List.replicate r.ls.length []) ls = .ok (List.replicate r.ls.length [], o) ∧ o.length = ls.length ∧ ∀ (t : Nat) l x, ls[t]? = some l → o[t]? = some x → (x.length : Int) = r.n ∧ gN x (r.n.toNat - 1) = l.sum
  | [], _ => ⟨[], rfl, rfl, fun t l x h => by simp at h⟩
  | l :: ls, hl => by
    obtain ⟨h1, h2, h3⟩ := hl l (by simp)
    have hn := h.n
    have hlen := h.len
    obtain ⟨F, e1, e2, e3⟩ := sums_go (n := r.n.toNat) (ls := r.ls) (a := l) 0 (fun x hx => by have := h.l x hx; rw [show ((r.n.toNat : Nat) : Int) = r.n by omega]; exact this) (fun j b hb => by rw [h.f j b hb]; congr 1; omega) (by omega) (by omega) (fun q hq => (h2 q hq).1) (by show (l.drop 0).sum ≤ _; rw [List.drop_zero]; exact h3)
    have ha : l.all inQ = true := List.all_eq_true.2 fun q hq => by have := h2 q hq; simp [inQ]; omega
    have hp := passX_ok (w := List.replicate r.ls.length []) h1 ha e1
    obtain ⟨o, i1, i2, i3⟩ := sum_run h (ls := ls) (fun l hl' => hl l (by simp [hl']))
    refine ⟨F :: o, by rw [runX_ok hp, i1]; rfl, by simp [i2], fun t b x hb hx => ?_⟩
    cases t with
    | zero =>
      simp at hb hx
      subst hb; subst hx
      refine ⟨by omega, ?_⟩
      rw [e3]; show (l.drop 0).sum = _; rw [List.drop_zero]
    | succ t => exact i3 t b x (by simpa using hb) (by simpa using hx)
/-! A river of one way. -/
def chR (wa : Ls) (da : Int) (wb : Ls) (db : Int) : Rv := ⟨3, [⟨0, 1, wa, da⟩, ⟨1, 2, wb, db⟩]⟩
theorem chR_ok {wa wb : Ls} {da db : Int} (ha : rkCheck wa da = 0) (hb : rkCheck wb db = 0) : RvOk (chR wa da wb db) := by
  refine ⟨by show (1 : Int) ≤ 3 ∧ (3 : Int) ≤ 40; omega, fun l hl => ?_, ?_⟩
  · simp [chR] at hl
    rcases hl with rfl | rfl
    · exact ⟨by show (0 : Int) ≤ 0; omega, by show (0 : Int) < 1; omega, by show (1 : Int) < 3; omega, ha⟩
    · exact ⟨by show (0 : Int) ≤ 1; omega, by show (1 : Int) < 2; omega, by show (2 : Int) < 3; omega, hb⟩
  · simp [chR]
def zip3 : Ls → Ls → Ls → List Ls
  | a :: x, b :: y, c :: z => [a, b, c] :: zip3 x y z
  | _, _, _ => []
theorem ch_run {wa wb : Ls} {da db : Int} : ∀ {qs p q p' f q' s : Ls}, runGo wa da p qs = some (p', f) → runGo wb db q f = some (q', s) →
    runX (chR wa da wb db) [p, q] (qs.map fun x => [x, 0, 0]) = .ok ([p', q'], zip3 qs f s)
  | [], p, q, p', f, q', s, h1, h2 => by
    simp [runGo] at h1
    obtain ⟨rfl, rfl⟩ := h1
    simp [runGo] at h2
    obtain ⟨rfl, rfl⟩ := h2
    rfl
  | x :: qs, p, q, p', f, q', s, h1, h2 => by
    by_cases g1 : 0 ≤ x ∧ x ≤ 1073741824 ∧ stepOk wa p x
    rotate_left
    · rw [runGo_bad g1] at h1; cases h1
    rw [runGo_good g1] at h1
    cases e1 : runGo wa da (stepF wa da p x) qs with
    | none => rw [e1] at h1; cases h1
    | some y =>
      rw [e1] at h1
      simp [preO] at h1
      obtain ⟨rfl, rfl⟩ := h1
      by_cases g2 : 0 ≤ outF wa da p x ∧ outF wa da p x ≤ 1073741824 ∧ stepOk wb q (outF wa da p x)
      rotate_left
      · rw [runGo_bad g2] at h2; cases h2
      rw [runGo_good g2] at h2
      cases e2 : runGo wb db (stepF wb db q (outF wa da p x)) y.2 with
      | none => rw [e2] at h2; cases h2
      | some z =>
        rw [e2] at h2
        simp [preO] at h2
        obtain ⟨rfl, rfl⟩ := h2
        have ih := ch_run e1 e2
        have s1 : stG ⟨0, 1, wa, da⟩ p x = true := by
          simp only [stG, inQ, Bool.and_eq_true, decide_eq_true_eq]
          exact ⟨⟨g1.1, g1.2.1⟩, stepB_iff.2 g1.2.2⟩
        have s2 : stG ⟨1, 2, wb, db⟩ q (outF wa da p x) = true := by
          simp only [stG, inQ, Bool.and_eq_true, decide_eq_true_eq]
          exact ⟨⟨g2.1, g2.2.1⟩, stepB_iff.2 g2.2.2⟩
        have hgo : lkGo (chR wa da wb db).ls [p, q] [x, 0, 0] = some ([stepF wa da p x, stepF wb db q (outF wa da p x)], [x, outF wa da p x, outF wb db q (outF wa da p x)]) := by
          show lkGo [⟨0, 1, wa, da⟩, ⟨1, 2, wb, db⟩] [p, q] [x, 0, 0] = _
          rw [lkGo_cons, show gA [x, 0, 0] 0 = x from rfl, if_pos s1, show gA [x, 0, 0] 1 = 0 from rfl]
          dsimp only
          rw [Int.zero_add, show [x, 0, 0].set (Int.toNat 1) (outF wa da p x) = [x, outF wa da p x, 0] from rfl]
          rw [lkGo_cons, show gA [x, outF wa da p x, 0] 1 = outF wa da p x from rfl, if_pos s2, show gA [x, outF wa da p x, 0] 2 = 0 from rfl]
          dsimp only
          rw [Int.zero_add]
          rfl
        have hp := passX_ok (r := chR wa da wb db) (w := [p, q]) (loc := [x, 0, 0]) rfl (by simp [inQ]; omega) hgo
        rw [List.map_cons, runX_ok hp]
        dsimp only
        rw [ih]
        rfl
end Go.Proofs
