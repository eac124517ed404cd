/- Proved here: what functions of the given program come to, for the statements of this chapter; no condition but those in the theorems. -/
import Derived.Test.YtnmijdmpbpnjhaaM3
namespace Go.Proofs
open Go.Abs
set_option linter.unusedSimpArgs false
set_option linter.unusedVariables false
set_option maxRecDepth 4000
theorem wrap00 : IntKind.i64.wrap (0 + 0) = 0 := by rw [wrap_in (by omega) (by omega)]; rfl
theorem heights_ok : FunR Try.prog 4 (R_law1 2) := by
  intro args k h
  unfold R_law1 at h
  split at h
  case h_2 => exact h.elim
  obtain ⟨⟨l, rfl, hl⟩, ⟨xs, rfl, hx⟩, hk⟩ := h
  obtain ⟨up_, day, rfl⟩ : ∃ a b, xs = [a, b] := by
    match xs, hx with
    | [a, b], _ => exact ⟨a, b, rfl⟩
  refine does_ex (qc := qc2) (CK := ckK [(8, cN R_new), (9, cB R_made), (10, cSc R_rcCheck), (11, cSc R_true), (12, cSc R_mod), (13, cSc R_at)]) mixed Try.func4 rfl rfl Try.ntmps4 Try.results4 τ_ok (by kernel_rfl) (ckK_ok ⟨cN_ok new_ok rfl, cB_ok made_ok rfl, cSc_ok rCheck_ok, cSc_ok awake_ok, cSc_ok mod_ok, cSc_ok at_ok, trivial⟩) (by simp) ?_
  conv => whnf
  refine ⟨l, rfl, ?_⟩
  conv => whnf
  refine ⟨⟨l, 0⟩, rfl, ⟨Nat.zero_le _, hl⟩, fun c d hd hc1 hc2 hc3 => ?_⟩
  conv => whnf
  refine ⟨c, rfl, ?_⟩
  conv => whnf
  refine Fork.mk (fun h => ?_) (fun h => ?_)
  · conv => whnf
    exact hk
  have hv : rcValid c := by simpa [rcValid] using h
  conv => whnf
  refine ⟨by decide, ?_⟩
  conv => whnf
  have hn1 : 0 ≤ up_ % 200 := Int.emod_nonneg _ (by omega)
  have hn2 : up_ % 200 < 200 := Int.emod_lt_of_pos _ (by omega)
  generalize up_ % 200 = u at *
  have hp := rcValid_pts hv
  refine ⟨Nat, fun i => ([(2, I day), (8, .c (.lst (c.map ePt))), (9, I u), (10, .c (.view (.l 55 0) 0 (up u (c.take i)).length)), (34, .c (.lst (c.map ePt))), (35, I (c.map ePt).length), (36, I i)],
      ⟨[(.l 55 0, .arr 32 2 ((up u (c.take i)).map ePt) false)], 1⟩),
    fun i => i ≤ c.length ∧ ∀ p ∈ c.take i, p.2 + u ≤ 16777216, fun i => c.length - i, 0, ⟨Nat.zero_le _, by simp⟩,
    Shift.trans (Shift.rename [(.l 55 0, .l 55 1)] ⟨rfl, rfl, rfl, rfl, rfl, rfl, rfl, trivial⟩ ⟨rfl, trivial⟩ rfl rfl rfl) (Shift.nilArr (t := 10) rfl 55 32 2), fun i hi => ?_⟩
  obtain ⟨hi, hup⟩ := hi
  dsimp only
  conv => whnf
  refine Fork.mk (fun h1 => ?_) (fun h1 => ?_)
  · have hi : i < c.length := by simpa using h1
    have htk : c.take (i + 1) = c.take i ++ [c[i]] := (List.take_append_getElem hi).symm
    conv => whnf
    refine ⟨by omega, ePt c[i], by simp [hi], rfl, ?_⟩
    have hpi := hp.2 c[i] (List.getElem_mem _)
    generalize hpp : c[i] = p at *
    conv => whnf
    rw [wrap_in (z := p.2 + u) (by omega) (by omega)]
    refine Fork.mk (fun h2 => ?_) (fun h2 => ?_)
    · conv => whnf
      exact hk
    · have h2 : p.2 + u ≤ 16777216 := by simpa using h2
      conv => whnf
      have hA : up u (c.take (i + 1)) = up u (c.take i) ++ [(p.1, p.2 + u)] := by rw [htk]; unfold up; rw [List.map_append]; rfl
      have hlA : (up u (c.take i)).length = i := by unfold up; rw [List.length_map, List.length_take]; omega
      rw [wrap_in (z := p.2 + u) (by omega) (by omega)]
      refine ⟨by simp, ?_⟩
      conv => whnf
      refine ⟨rfl, ?_⟩
      conv => whnf
      refine ⟨⟨rfl, rfl, rfl, (List.length_map _).symm, by rw [List.length_map]; simp; omega⟩, ?_⟩
      conv => whnf
      refine ⟨i + 1, ⟨hi, ?_⟩, Shift.rename [(.l 55 0, .l 55 3)] ⟨rfl, rfl, rfl, ?_, rfl, rfl, ?_, trivial⟩ ⟨?_, trivial⟩ rfl rfl rfl, ?_⟩
      · intro s hs
        rw [htk] at hs
        rcases List.mem_append.1 hs with hs | hs
        · exact hup s hs
        · simp at hs; rw [hs]; exact h2
      · dsimp only
        rw [hA, snoc_len]; rfl
      · have hw1 : IntKind.i64.wrap ((i : Int) + 1) = ((i + 1 : Nat) : Int) := by rw [wrap_in (by omega) (by omega)]; omega
        show some (I _) = some (I _)
        rw [hw1]
      · dsimp only
        rw [hA, ← map_snoc]; rfl
      · show c.length - (i + 1) < c.length - i
        omega
  · have hie : i = c.length := by simp at h1; omega
    subst hie
    rw [List.take_length] at hup ⊢
    conv => whnf
    refine ⟨by decide, ?_⟩
    conv => whnf
    have hx1 : 0 ≤ day % 365 := Int.emod_nonneg _ (by omega)
    have hx2 : day % 365 < 365 := Int.emod_lt_of_pos _ (by omega)
    generalize day % 365 = x at *
    obtain ⟨a, ha1, ha2, ha3, ha4⟩ := rcAt_in hv hx1 (by omega)
    have hb := up_at hv hn1 hup hx1 (by omega) ha4
    refine ⟨c, rfl, ?_⟩
    rw [ha1]
    conv => whnf
    have hml : ∀ l : List Pt, (l.map ePt).length = l.length := fun l => List.length_map _
    have htk : ∀ (l : List Pt), List.take l.length (List.drop 0 (l.map ePt)) = l.map ePt := fun l => by rw [List.drop_zero, List.take_of_length_le (by rw [hml]; exact Nat.le_refl _)]
    refine ⟨by rw [hml]; omega, ?_⟩
    rw [htk]
    conv => whnf
    refine ⟨_, rfl, ?_⟩
    rw [hb]
    conv => whnf
    rw [show IntKind.i64.wrap ((a, (0 : Int)).2 + (a + u, (0 : Int)).2) = 0 from wrap00]
    refine Fork.mk (fun h => (by simp at h)) (fun h => ?_)
    conv => whnf
    rw [show IntKind.i64.wrap ((a, (0 : Int)).1 + u) = a + u from wrap_in (by dsimp only; omega) (by dsimp only; omega)]
    refine Fork.mk (fun h => (by simp at h)) (fun h => ?_)
    conv => whnf
    refine ⟨Nat, fun i => ([(8, .c (.lst (c.map ePt))), (18, I i)], ⟨[], 0⟩), fun i => 1 ≤ i ∧ i ≤ c.length, fun i => c.length - i, 1, ⟨Nat.le_refl _, hc1⟩, Shift.reset ⟨rfl, rfl, trivial⟩ trivial rfl rfl, fun i hi => ?_⟩
    obtain ⟨hi1, hi2⟩ := hi
    dsimp only
    conv => whnf
    refine Fork.mk (fun h1 => ?_) (fun h1 => ?_)
    · have hi : i < c.length := by simpa using h1
      conv => whnf
      have hw : IntKind.i64.wrap ((i : Int) - 1) = ((i - 1 : Nat) : Int) := by rw [wrap_in (by omega) (by omega)]; omega
      rw [hw]
      refine ⟨by omega, ePt c[i - 1], map_at ePt c (by omega), rfl, ?_⟩
      conv => whnf
      have hlt : c[i - 1].1 < c[i].1 := List.pairwise_iff_getElem.1 (rcValid_asc hv) (i - 1) i (by omega) hi (by omega)
      have hpa := hp.2 c[i - 1] (List.getElem_mem _)
      have hpq := hp.2 c[i] (List.getElem_mem _)
      have hslope : ∀ t, c[i - 1].1 ≤ t → t < c[i].1 → ∃ p q, rcAt c t = (p, 0) ∧ rcAt c (t + 1) = (q, 0) ∧ 0 ≤ (c[i].2 - c[i - 1].2) * (q - p) ∧ (0 ≤ p ∧ p ≤ 16777216) ∧ (0 ≤ q ∧ q ≤ 16777216) := fun t => slope hv hi1 hi (t := t)
      have hat : (c.map ePt)[(i : Int).toNat]? = some (ePt c[i]) := map_at ePt c hi
      have hat1 : (c.map ePt)[((i - 1 : Nat) : Int).toNat]? = some (ePt c[i - 1]) := map_at ePt c (by omega)
      generalize hA : c[i - 1] = pa at *
      generalize hQ : c[i] = pq at *
      refine ⟨Int, fun t => ([(8, .c (.lst (c.map ePt))), (18, I i), (19, I t)], ⟨[], 0⟩), fun t => pa.1 ≤ t ∧ t ≤ pq.1, fun t => (pq.1 - t).toNat, pa.1, ⟨Int.le_refl _, by omega⟩, Shift.reset ⟨rfl, rfl, rfl, trivial⟩ trivial rfl rfl, fun t ht => ?_⟩
      obtain ⟨ht1, ht2⟩ := ht
      dsimp only
      conv => whnf
      refine ⟨by omega, ePt pq, hat, rfl, ?_⟩
      conv => whnf
      refine Fork.mk (fun h2 => ?_) (fun h2 => ?_)
      · have h2 : t < pq.1 := by simpa using h2
        conv => whnf
        obtain ⟨p, q, e1, e2, e3, e4, e5⟩ := hslope t ht1 h2
        refine ⟨c, rfl, ?_⟩
        rw [e1]
        conv => whnf
        rw [wrap_in (z := t + 1) (by omega) (by omega)]
        refine ⟨c, rfl, ?_⟩
        rw [e2]
        conv => whnf
        rw [show IntKind.i64.wrap ((p, (0 : Int)).2 + (q, (0 : Int)).2) = 0 from wrap00]
        refine Fork.mk (fun h => (by simp at h)) (fun h => ?_)
        conv => whnf
        refine ⟨by omega, ePt pq, hat, rfl, ?_⟩
        conv => whnf
        rw [hw]
        refine ⟨by omega, ePt pa, hat1, rfl, ?_⟩
        conv => whnf
        have hm := mul_in (a := pq.2 - pa.2) (b := q - p) (A := 16777216) (B := 16777216) (by omega) (by omega) (by omega) (by omega)
        rw [show IntKind.i64.wrap (pq.2 - pa.2) = pq.2 - pa.2 from wrap_in (by omega) (by omega), show IntKind.i64.wrap (q - p) = q - p from wrap_in (by omega) (by omega), show IntKind.i64.wrap ((pq.2 - pa.2) * (q - p)) = (pq.2 - pa.2) * (q - p) from wrap_in (by omega) (by omega)]
        refine Fork.mk (fun h => (by simp at h; omega)) (fun h => ?_)
        conv => whnf
        rw [wrap_in (z := t + 1) (by omega) (by omega)]
        refine ⟨t + 1, ⟨by omega, by omega⟩, Shift.reset ⟨rfl, rfl, rfl, trivial⟩ trivial rfl rfl, ?_⟩
        show (pq.1 - (t + 1)).toNat < (pq.1 - t).toNat
        omega
      · conv => whnf
        have hw1 : IntKind.i64.wrap ((i : Int) + 1) = ((i + 1 : Nat) : Int) := by rw [wrap_in (by omega) (by omega)]; omega
        rw [hw1]
        refine ⟨i + 1, ⟨by omega, by omega⟩, Shift.reset ⟨rfl, rfl, trivial⟩ trivial rfl rfl, ?_⟩
        show c.length - (i + 1) < c.length - i
        omega
    · conv => whnf
      exact hk
end Go.Proofs
