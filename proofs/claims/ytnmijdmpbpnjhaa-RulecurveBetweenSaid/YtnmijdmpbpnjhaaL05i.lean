/- Proved here: what functions of the given program come to, for the statements of this chapter; no condition but those in the theorems. -/
import Derived.Test.YtnmijdmpbpnjhaaM3
namespace Go.Proofs
open Go.Abs
set_option linter.unusedSimpArgs false
set_option linter.unusedVariables false
set_option maxRecDepth 4000
def qc3 : Nat → Bool := fun f => match f with
  | 12 | 32 | 27 | 38 | 19 | 28 | 13 | 14 | 10 | 11 => true
  | _ => false
/-- The first day with the highest level, and the level. -/
def HiOf (f : Int → Int) (x n : Int) : Prop := (0 ≤ x ∧ x ≤ 364) ∧ n = f x ∧ (∀ d, 0 ≤ d → d ≤ 364 → f d ≤ n) ∧ ∀ d, 0 ≤ d → d < x → f d < n
def lev (l : List Pt) (d : Int) : Int := (rcAt l d).1
theorem lev_eq {p : Pt} {r : List Pt} (hv : rcValid (p :: r)) {d : Int} (h1 : 0 ≤ d) (h2 : d ≤ 364) : lev (p :: r) d = rcLevel p r d := by
  have hv' : rcCheck (p :: r) = 0 := hv
  unfold lev rcAt
  rw [if_neg (by rw [hv']; simp), if_pos ⟨h1, h2⟩]
def R_highest : RT := fun args k => match args with
  | [.c (.lst es)] => ∃ l : List Pt, es = l.map ePt ∧ (rcCheck l ≠ 0 → k (.tup [I 0, I 0, I (rcCheck l)])) ∧ (rcValid l → ∀ x n, HiOf (lev l) x n → k (.tup [I x, I n, I 0]))
  | _ => False
theorem highest_ok : FunR Try.prog 14 R_highest := by
  intro args k h
  unfold R_highest at h
  split at h
  case h_2 => exact h.elim
  obtain ⟨l, rfl, hk1, hk2⟩ := h
  refine does_ex (qc := qc2) (CK := ckK [(19, cSc R_rcCheck), (28, cSc R_level)]) mixed Try.func14 rfl rfl Try.ntmps14 Try.results14 τ_ok (by kernel_rfl) (ckK_ok ⟨cSc_ok rcCheck_ok, cSc_ok level_ok, trivial⟩) (by simp) ?_
  conv => whnf
  refine ⟨l, rfl, ?_⟩
  conv => whnf
  refine Fork.mk (fun h => ?_) (fun h => ?_)
  · have h' : rcCheck l ≠ 0 := by simpa using h
    conv => whnf
    exact hk1 h'
  · have hv : rcValid l := by simpa [rcValid] using h
    have hk := hk2 hv
    cases l with
    | nil => exact absurd rfl (rcValid_ne hv)
    | cons p r =>
      conv => whnf
      refine ⟨p, r, rfl, hv, by omega, ?_⟩
      conv => whnf
      refine ⟨Nat × Int, fun s => ([(0, .c (.lst ((p :: r).map ePt))), (6, I s.2), (7, I (rcLevel p r s.2)), (17, I s.1)], ⟨[], 0⟩),
        fun s => s.1 ≤ 365 ∧ 0 ≤ s.2 ∧ s.2 ≤ 364 ∧ (∀ d : Int, 0 ≤ d → d < s.1 → rcLevel p r d ≤ rcLevel p r s.2) ∧ (∀ d : Int, 0 ≤ d → d < s.2 → rcLevel p r d < rcLevel p r s.2), fun s => 365 - s.1, (0, 0),
        ⟨Nat.zero_le _, by dsimp only; omega, by dsimp only; omega, fun d h1 h2 => by dsimp only at h2; omega, fun d h1 h2 => by dsimp only at h2; omega⟩, Shift.reset ⟨rfl, rfl, rfl, rfl, trivial⟩ trivial rfl rfl, fun s hs => ?_⟩
      obtain ⟨i, b⟩ := s
      obtain ⟨h1, h2, h3, h4, h5⟩ := hs
      dsimp only at h1 h2 h3 h4 h5 ⊢
      conv => whnf
      have hw1 : IntKind.i64.wrap ((i : Int) + 1) = ((i + 1 : Nat) : Int) := by rw [wrap_in (by omega) (by omega)]; omega
      refine Fork.mk (fun h => ?_) (fun h => ?_)
      · have hi : i < 365 := by simp at h; omega
        conv => whnf
        refine ⟨p, r, rfl, hv, by omega, ?_⟩
        conv => whnf
        refine Fork.mk (fun h => ?_) (fun h => ?_)
        · have hgt : rcLevel p r b < rcLevel p r i := by simpa using h
          conv => whnf
          rw [hw1]
          refine ⟨(i + 1, (i : Int)), ⟨hi, by dsimp only; omega, by dsimp only; omega, fun d k1 k2 => ?_, fun d k1 k2 => ?_⟩, Shift.reset ⟨rfl, rfl, rfl, rfl, trivial⟩ trivial rfl rfl, ?_⟩
          · dsimp only at k2 ⊢
            by_cases hd : d < i
            · have := h4 d k1 hd; omega
            · rw [show d = i by omega]; exact Int.le_refl _
          · dsimp only at k2 ⊢
            have := h4 d k1 k2; omega
          · show 365 - (i + 1) < 365 - i
            omega
        · have hgt : rcLevel p r i ≤ rcLevel p r b := by simpa using h
          conv => whnf
          rw [hw1]
          refine ⟨(i + 1, b), ⟨hi, h2, h3, fun d k1 k2 => ?_, h5⟩, Shift.reset ⟨rfl, rfl, rfl, rfl, trivial⟩ trivial rfl rfl, ?_⟩
          · dsimp only at k2 ⊢
            by_cases hd : d < i
            · exact h4 d k1 hd
            · rw [show d = i by omega]; exact hgt
          · show 365 - (i + 1) < 365 - i
            omega
      · have hi : i = 365 := by simp at h; omega
        subst hi
        conv => whnf
        refine hk b (rcLevel p r b) ⟨⟨h2, h3⟩, (lev_eq hv h2 h3).symm, fun d k1 k2 => ?_, fun d k1 k2 => ?_⟩
        · rw [lev_eq hv k1 k2]; exact h4 d k1 (by omega)
        · rw [lev_eq hv k1 (by omega)]; exact h5 d k1 k2
theorem one_at {l : List Pt} (hv : rcValid l) {p : Pt} (hp : p ∈ l) {d : Int} (h1 : 0 ≤ d) (h2 : d ≤ 364) : rcAt [p] d = (p.2, 0) := by
  have hv1 : rcValid [p] := rcValid_of (by simp) (by simp) (fun s hs => by simp at hs; subst hs; exact (rcValid_pts hv).2 _ hp) (List.pairwise_singleton _ _)
  obtain ⟨v, e1, e2⟩ := rcAt_valid hv1 h1 h2
  obtain ⟨a, ha, q, hq, h⟩ := Lv_between e2
  simp at ha hq
  subst ha; subst hq
  rw [e1, show v = q.2 by omega]
theorem between_law {c : List Pt} (hv : rcValid c) {a b : Int} (hab : ∀ p ∈ c, a ≤ p.2 ∧ p.2 ≤ b) (hb : ∃ p ∈ c, p.2 = b) {x n : Int} (h : HiOf (lev c) x n) : n = b ∧ rcAt c x = (b, 0) := by
  obtain ⟨⟨h1, h2⟩, h3, h4, h5⟩ := h
  obtain ⟨v, e1, e2⟩ := rcAt_valid hv h1 h2
  have hn : n = v := by rw [h3]; unfold lev; rw [e1]
  obtain ⟨p, hp, hpb⟩ := hb
  have hr := (rcValid_pts hv).2 p hp
  have h6 := h4 p.1 hr.1.1 hr.1.2
  unfold lev at h6
  rw [pt_at hv hp] at h6
  dsimp only at h6
  obtain ⟨a', ha, q, hq, h⟩ := Lv_between e2
  have := hab a' ha
  have := hab q hq
  have hnb : n = b := by omega
  exact ⟨hnb, by rw [e1, ← hn, hnb]⟩
theorem wr00 : IntKind.i64.wrap (0 + 0) = 0 := by rw [wrap_in (by omega) (by omega)]; rfl
theorem between_ok : FunR Try.prog 5 (R_law1 1) := by
  intro args k h
  unfold R_law1 at h
  split at h
  case h_2 => exact h.elim
  obtain ⟨⟨l, rfl, hl⟩, ⟨xs, rfl, hx⟩, hk⟩ := h
  obtain ⟨day, rfl⟩ : ∃ a, xs = [a] := by
    match xs, hx with
    | [a], _ => exact ⟨a, rfl⟩
  refine does_ex (qc := qc3) (CK := ckK [(8, cN R_new), (9, cB R_made), (10, cSc R_rcCheck), (11, cSc R_true), (12, cSc R_mod), (13, cSc R_at), (14, cSc R_highest)]) mixed Try.func5 rfl rfl Try.ntmps5 Try.results5 τ_ok (by kernel_rfl) (ckK_ok ⟨cN_ok new_ok rfl, cB_ok made_ok rfl, cSc_ok rCheck_ok, cSc_ok awake_ok, cSc_ok mod_ok, cSc_ok at_ok, cSc_ok highest_ok, trivial⟩) (by simp) ?_
  conv => whnf
  refine ⟨l, rfl, ?_⟩
  conv => whnf
  refine ⟨⟨l, 0⟩, rfl, ⟨Nat.zero_le _, hl⟩, fun c d hd hc1 hc2 hc3 => ?_⟩
  conv => whnf
  refine ⟨c, rfl, ?_⟩
  conv => whnf
  refine Fork.mk (fun h => ?_) (fun h => ?_)
  · conv => whnf
    exact hk
  have hv : rcValid c := by simpa [rcValid] using h
  have hp := rcValid_pts hv
  have hat0 : (c.map ePt)[(0 : Int).toNat]? = some (ePt c[0]) := map_at ePt c hc1
  conv => whnf
  refine ⟨by omega, ePt c[0], hat0, rfl, ?_⟩
  conv => whnf
  refine ⟨by omega, ePt c[0], hat0, rfl, ?_⟩
  conv => whnf
  have hmem0 : c[0] ∈ c := List.getElem_mem _
  generalize hC0 : c[0] = c0 at *
  refine ⟨Nat × Int × Int, fun s => ([(1, I day), (6, .c (.lst (c.map ePt))), (7, I s.2.1), (8, I s.2.2), (38, .c (.lst (c.map ePt))), (39, I (c.map ePt).length), (40, I s.1)], ⟨[], 0⟩),
    fun s => s.1 ≤ c.length ∧ (∀ p ∈ c.take s.1, s.2.1 ≤ p.2 ∧ p.2 ≤ s.2.2) ∧ ∃ p ∈ c, p.2 = s.2.2, fun s => c.length - s.1, (0, c0.2, c0.2), ⟨Nat.zero_le _, by simp, c0, hmem0, rfl⟩, Shift.reset ⟨rfl, rfl, rfl, rfl, rfl, rfl, rfl, trivial⟩ trivial rfl rfl, fun s hs => ?_⟩
  obtain ⟨i, a, b⟩ := s
  obtain ⟨hi, hab, hb⟩ := hs
  dsimp only at hi hab hb ⊢
  conv => whnf
  refine Fork.mk (fun h1 => ?_) (fun h1 => ?_)
  · have hi : i < c.length := by simpa using h1
    have htk : c.take (i + 1) = c.take i ++ [c[i]] := (List.take_append_getElem hi).symm
    conv => whnf
    refine ⟨by omega, ePt c[i], by simp [hi], rfl, ?_⟩
    have hpm : c[i] ∈ c := List.getElem_mem _
    generalize hpp : c[i] = p at *
    conv => whnf
    refine ⟨c, rfl, ?_⟩
    rw [pt_at hv hpm]
    conv => whnf
    refine Fork.mk (fun h => (by simp at h)) (fun h => ?_)
    conv => whnf
    refine Fork.mk (fun h => (by simp at h)) (fun h => ?_)
    conv => whnf
    have hw1 : IntKind.i64.wrap ((i : Int) + 1) = ((i + 1 : Nat) : Int) := by rw [wrap_in (by omega) (by omega)]; omega
    rw [hw1]
    refine ⟨(i + 1, if p.2 < a then p.2 else a, if b < p.2 then p.2 else b), ⟨hi, fun s hs => ?_, ?_⟩, Shift.reset ⟨rfl, rfl, rfl, rfl, rfl, rfl, rfl, trivial⟩ trivial rfl rfl, ?_⟩
    · dsimp only at hs ⊢
      rw [htk] at hs
      rcases List.mem_append.1 hs with hs | hs
      · have := hab s hs
        split <;> split <;> omega
      · simp at hs
        subst hs
        split <;> split <;> omega
    · dsimp only
      split
      · exact ⟨p, hpm, rfl⟩
      · exact hb
    · show c.length - (i + 1) < c.length - i
      omega
  · have hie : i = c.length := by simp at h1; omega
    subst hie
    rw [List.take_length] at hab
    conv => whnf
    refine ⟨by decide, ?_⟩
    conv => whnf
    have hx1 : 0 ≤ day % 365 := Int.emod_nonneg _ (by omega)
    have hx2 : day % 365 < 365 := Int.emod_lt_of_pos _ (by omega)
    refine ⟨c, rfl, ?_⟩
    obtain ⟨y, hy1, hy2⟩ := rcAt_valid hv hx1 (by omega)
    rw [hy1]
    conv => whnf
    have hml : (c.map ePt).length = c.length := List.length_map _
    refine ⟨⟨by omega, by omega, by rw [hml]; omega⟩, ?_⟩
    conv => whnf
    refine ⟨all_pts _, ?_⟩
    conv => whnf
    refine ⟨by decide, ?_⟩
    have hone : List.drop ((0 : Nat) : Int).toNat (List.take (Int.toNat 1) (c.map ePt)) = [c0].map ePt := by
      cases c with
      | nil => simp at hc1
      | cons q r => simp at hC0; subst hC0; rfl
    refine ⟨[c0], hone, ?_⟩
    rw [one_at hv hmem0 hx1 (by omega)]
    conv => whnf
    refine ⟨c, rfl, fun hn => absurd hv hn, fun _ x n hxn => ?_⟩
    obtain ⟨rfl, hw⟩ := between_law hv hab hb hxn
    conv => whnf
    refine ⟨c, rfl, ?_⟩
    rw [hw]
    conv => whnf
    obtain ⟨pa, hpa, pq, hpq, hbt⟩ := Lv_between hy2
    have hb1 := hab pa hpa
    have hb2 := hab pq hpq
    have hay : a ≤ y := by omega
    have hyn : y ≤ n := by omega
    rw [show IntKind.i64.wrap ((y, (0 : Int)).2 + (c0.2, (0 : Int)).2) = 0 from wr00]
    rw [wr00, show IntKind.i64.wrap (0 + (n, (0 : Int)).2) = 0 from wr00]
    refine Fork.mk (fun h => ?_) (fun h => (by simp at h))
    conv => whnf
    refine Fork.mk (fun h => ?_) (fun h => (by simp at h; omega))
    conv => whnf
    refine Fork.mk (fun h => ?_) (fun h => (by simp at h; omega))
    conv => whnf
    refine ⟨by omega, ePt c0, hat0, rfl, ?_⟩
    conv => whnf
    refine Fork.mk (fun h => ?_) (fun h => (by simp at h))
    conv => whnf
    refine Fork.mk (fun h => ?_) (fun h => (by simp at h))
    conv => whnf
    refine Fork.mk (fun h => ?_) (fun h => (by simp at h))
    conv => whnf
    exact hk
end Go.Proofs
