/- Proved here: what functions of the given program come to, for the statements of this chapter; no condition but those in the theorems. -/
import Derived.Test.YtnmijdmpbpnjhaaM1
namespace Go.Proofs
open Go.Abs
set_option linter.unusedSimpArgs false
set_option linter.unusedVariables false
set_option maxRecDepth 4000

theorem tdiv_floor (a : Int) {b : Int} (h : 0 < b) : (a.tmod b < 0 → a.tdiv b - 1 = a / b) ∧ (¬ a.tmod b < 0 → a.tdiv b = a / b) := by
  have h1 := Int.mul_tdiv_add_tmod a b
  have h2 := tmod_lo a h
  have h3 := Int.tmod_lt_of_pos a h
  refine ⟨fun hm => ?_, fun hm => ?_⟩
  · have e : a = (a.tmod b + b) + b * (a.tdiv b - 1) := by rw [Int.mul_sub, Int.mul_one]; omega
    rw [e, Int.add_mul_ediv_left _ _ (by omega), Int.ediv_eq_zero_of_lt (by omega) (by omega)]
    rw [← e]; omega
  · have e : a = a.tmod b + b * a.tdiv b := by omega
    rw [e, Int.add_mul_ediv_left _ _ (by omega), Int.ediv_eq_zero_of_lt (by omega) (by omega)]
    rw [← e]; omega
theorem tdiv_in (a : Int) {b : Int} (h : 0 < b) (h1 : -4611686018427387904 ≤ a) (h2 : a ≤ 4611686018427387904) : -4611686018427387904 ≤ a.tdiv b ∧ a.tdiv b ≤ 4611686018427387904 := by
  have k1 : (a.tdiv b).natAbs ≤ a.natAbs := by rw [Int.natAbs_tdiv]; exact Nat.div_le_self _ _
  omega
def R_down : RT := fun args k => match args with
  | [.c (.sc (.int .i64 a)), .c (.sc (.int .i64 b))] => (0 < b ∧ -4611686018427387904 ≤ a ∧ a ≤ 4611686018427387904) ∧ k (I (a / b))
  | _ => False
theorem down_ok : FunR Try.prog 38 R_down := by
  intro args k h
  unfold R_down at h
  split at h
  case h_2 => exact h.elim
  rename_i a b
  obtain ⟨⟨hb, ha1, ha2⟩, hk⟩ := h
  have h3 := tdiv_in a hb ha1 ha2
  have h4 := tdiv_floor a hb
  refine does_ex (qc := qc0) (CK := ckK []) mixed Try.func38 rfl rfl Try.ntmps38 Try.results38 τ_ok (by kernel_rfl) (ckK_ok trivial) (by simp) ?_
  conv => whnf
  refine ⟨by omega, ?_⟩
  conv => whnf
  refine ⟨by omega, ?_⟩
  conv => whnf
  rw [wrap_in (z := a.tdiv b) (by omega) (by omega)]
  refine Fork.mk (fun h => ?_) (fun h => ?_)
  · conv => whnf
    rw [wrap_in (by omega) (by omega), h4.1 (by simpa using h)]
    exact hk
  · conv => whnf
    rw [h4.2 (by simpa using h)]
    exact hk

def qc1 : Nat → Bool := fun f => match f with
  | 12 | 32 | 27 | 38 => true
  | _ => false
def lv (d : Int) : Pt → List Pt → Option Int
  | _, [] => none
  | p, q :: r => if d < q.1 then some (p.2 + (q.2 - p.2) * (d - p.1) / (q.1 - p.1)) else lv d q r
def rcLevel (p : Pt) (r : List Pt) (day : Int) : Int := (lv (if day < p.1 then day + 365 else day) p (r ++ [(p.1 + 365, p.2)])).getD p.2
def R_level : RT := fun args k => match args with
  | [.c (.lst es), .c (.sc (.int .i64 day))] => ∃ p r, es = (p :: r).map ePt ∧ rcValid (p :: r) ∧ (0 ≤ day ∧ day ≤ 364) ∧ k (I (rcLevel p r day))
  | _ => False
theorem all_pts (l : List Pt) : (l.map ePt).all (fun e => e.length == 2) = true := by
  simp [List.all_eq_true, ePt]
theorem level_ok : FunR Try.prog 28 R_level := by
  intro args k h
  unfold R_level at h
  split at h
  case h_2 => exact h.elim
  rename_i day
  obtain ⟨p, r, rfl, hv, hday, hk⟩ := h
  obtain ⟨hlen, hpts⟩ := rcValid_pts hv
  have hp := hpts p (by simp)
  refine does_ex (qc := qc1) (CK := ckK [(38, cSc R_down)]) mixed Try.func28 rfl rfl Try.ntmps28 Try.results28 τ_ok (by kernel_rfl) (ckK_ok ⟨cSc_ok down_ok, trivial⟩) (by simp) ?_
  conv => whnf
  refine ⟨by omega, ePt p, rfl, rfl, ?_⟩
  conv => whnf
  have hl2 : r.length ≤ 99 := by simp at hlen; omega
  have hn : (List.map ePt (p :: r)).length = r.length + 1 := by simp
  have harm : ∀ d, (if day < p.1 then day + 365 else day) = d → k (I ((lv d p (r ++ [(p.1 + 365, p.2)])).getD p.2)) := fun d hd => by rw [← hd]; exact hk
  have hb : ∀ d, (if day < p.1 then day + 365 else day) = d → p.1 ≤ d ∧ d < p.1 + 365 := fun d hd => by rw [← hd]; split <;> omega
  refine Fork.mk (fun h => ?_) (fun h => ?_)
  · conv => whnf
    have hw : IntKind.i64.wrap (day + 365) = day + 365 := wrap_in (by omega) (by omega)
    have hd : (if day < p.1 then day + 365 else day) = day + 365 := if_pos (by simpa using h)
    have hk2 := harm _ hd
    have hb2 := hb _ hd
    rw [hw]
    clear hd hw hb harm hk
    generalize day + 365 = d at *
    refine ⟨⟨by omega, by omega, by omega⟩, ?_⟩
    conv => whnf
    refine ⟨rfl, ?_⟩
    conv => whnf
    refine ⟨all_pts _, ?_⟩
    conv => whnf
    refine ⟨by omega, ePt p, rfl, rfl, ?_⟩
    conv => whnf
    refine ⟨by omega, ePt p, rfl, rfl, ?_⟩
    conv => whnf
    refine ⟨by simp, ?_⟩
    conv => whnf
    refine ⟨rfl, ?_⟩
    rw [wrap_in (z := p.1 + 365) (by omega) (by omega)]
    have ht : List.drop ((0 : Nat) : Int).toNat (List.take ((List.map ePt (p :: r)).length : Int).toNat (List.map ePt (p :: r))) = (p :: r).map ePt := by rw [Int.toNat_natCast, Int.toNat_natCast, List.take_length, List.drop_zero]
    rw [ht]
    conv => whnf
    refine ⟨⟨all_pts _, by simp; omega⟩, ?_⟩
    rw [hn]
    conv => whnf
    refine ⟨⟨by omega, by simp; omega, Int.le_refl _⟩, ?_⟩
    conv => whnf
    refine ⟨rfl, ?_⟩
    conv => whnf
    have hes : ∀ (j : Nat) (hj : j < (p :: r ++ [(p.1 + 365, p.2)]).length), ((p :: r).map ePt ++ [ePt (p.1 + 365, p.2)])[j]? = some (ePt (p :: r ++ [(p.1 + 365, p.2)])[j]) := fun j hj => by
      rw [show (p :: r).map ePt ++ [ePt (p.1 + 365, p.2)] = (p :: r ++ [(p.1 + 365, p.2)]).map ePt by simp, List.getElem?_map, List.getElem?_eq_getElem hj]; rfl
    generalize hrs : p :: r ++ [(p.1 + 365, p.2)] = rs at *
    obtain ⟨hr1, hr2⟩ := ring_facts hv hrs
    have hrl : rs.length = r.length + 2 := by rw [← hrs]; simp
    refine ⟨Nat, fun i => ([(0, .c (.lst ((p :: r).map ePt))), (1, I d), (4, I 0), (5, .c (.view (.l 34 1) 0 (r.length + 2))), (36, .c (.view (.l 34 1) 1 (r.length + 1))), (37, I (r.length + 1 : Nat)), (38, I i)], ⟨[(.l 34 1, .arr 32 2 ((p :: r).map ePt ++ [ePt (p.1 + 365, p.2)]) false)], 2⟩),
      fun i => i ≤ r.length + 1 ∧ ∀ a, rs[i]? = some a → lv d a (rs.drop (i + 1)) = lv d p (r ++ [(p.1 + 365, p.2)]), fun i => r.length + 1 - i, 0, ⟨Nat.zero_le _, fun a ha => ?_⟩, Shift.reset ⟨rfl, rfl, rfl, rfl, rfl, rfl, rfl, trivial⟩ ⟨rfl, trivial⟩ rfl rfl, fun i hi => ?_⟩
    · rw [← hrs] at ha ⊢
      simp at ha
      subst ha
      rfl
    obtain ⟨hi1, hi2⟩ := hi
    dsimp only
    conv => whnf
    refine Fork.mk (fun h1 => ?_) (fun h1 => ?_)
    · have hi : i < r.length + 1 := by simp at h1; omega
      conv => whnf
      refine ⟨⟨by omega, by omega⟩, rfl, ?_⟩
      conv => whnf
      refine ⟨_, hes (1 + i) (by omega), ?_⟩
      generalize hq : rs[1 + i] = q at *
      conv => whnf
      refine ⟨⟨by omega, by omega⟩, rfl, ?_⟩
      conv => whnf
      refine ⟨_, (by rw [Nat.zero_add]; exact hes i (by omega)), ?_⟩
      generalize ha : rs[i] = a at *
      conv => whnf
      have hq1 := hr1 q (by rw [← hq]; exact List.getElem_mem _)
      have ha1 := hr1 a (by rw [← ha]; exact List.getElem_mem _)
      have haq : a.1 < q.1 := by rw [← ha, ← hq]; exact List.pairwise_iff_getElem.1 hr2 i (1 + i) (by omega) (by omega) (by omega)
      have hdr : rs.drop (i + 1) = q :: rs.drop (i + 2) := by
        have hq' : rs[i + 1]'(by omega) = q := by rw [← hq]; congr 1; omega
        rw [List.drop_eq_getElem_cons (by omega : i + 1 < rs.length), hq']
      have hi3 := hi2 a (by rw [← ha]; exact List.getElem?_eq_getElem _)
      rw [hdr, lv] at hi3
      refine Fork.mk (fun h2 => ?_) (fun h2 => ?_)
      · conv => whnf
        have e1 : IntKind.i64.wrap (q.2 - a.2) = q.2 - a.2 := wrap_in (by omega) (by omega)
        have e2 : IntKind.i64.wrap (d - a.1) = d - a.1 := wrap_in (by omega) (by omega)
        have e3 : IntKind.i64.wrap (q.1 - a.1) = q.1 - a.1 := wrap_in (by omega) (by omega)
        have hm := mul_in (a := q.2 - a.2) (b := d - a.1) (A := 16777216) (B := 729) (by omega) (by omega) (by omega) (by omega)
        have e4 : IntKind.i64.wrap ((q.2 - a.2) * (d - a.1)) = (q.2 - a.2) * (d - a.1) := wrap_in (by omega) (by omega)
        rw [e1, e2, e3, e4]
        refine ⟨by omega, ?_⟩
        conv => whnf
        have hlt : d < q.1 := by simpa using h2
        have hv1 : -12230590464 ≤ (q.2 - a.2) * (d - a.1) / (q.1 - a.1) := Int.le_ediv_of_mul_le (by omega) (by omega)
        have hv2 : (q.2 - a.2) * (d - a.1) / (q.1 - a.1) ≤ 12230590464 := Int.ediv_le_of_le_mul (by omega) (by omega)
        rw [if_pos hlt] at hi3
        rw [← hi3] at hk2
        rw [wrap_in (by omega) (by omega)]
        exact hk2
      · conv => whnf
        have hlt : ¬ d < q.1 := by simpa using h2
        rw [if_neg hlt] at hi3
        have hw1 : IntKind.i64.wrap ((i : Int) + 1) = ((i + 1 : Nat) : Int) := by rw [wrap_in (by omega) (by omega)]; omega
        refine ⟨i + 1, ⟨by omega, fun b hb => ?_⟩, Shift.reset ⟨rfl, rfl, rfl, rfl, rfl, rfl, ?_, trivial⟩ ⟨rfl, trivial⟩ rfl rfl, ?_⟩
        · rw [Nat.add_comm i 1, List.getElem?_eq_getElem (by omega), hq] at hb
          cases hb
          exact hi3
        · show some (I _) = _
          rw [hw1]
        · show r.length + 1 - (i + 1) < r.length + 1 - i
          omega
    · have hie : i = r.length + 1 := by simp at h1; omega
      subst hie
      conv => whnf
      refine ⟨by omega, ePt p, rfl, rfl, ?_⟩
      conv => whnf
      have hi3 := hi2 _ (List.getElem?_eq_getElem (by omega))
      rw [List.drop_eq_nil_of_le (by omega), lv] at hi3
      rw [← hi3] at hk2
      exact hk2
  · conv => whnf
    have hd : (if day < p.1 then day + 365 else day) = day := if_neg (by simpa using h)
    have hk2 := harm _ hd
    have hb2 := hb _ hd
    clear hd hb harm hk
    generalize day = d at *
    refine ⟨⟨by omega, by omega, by omega⟩, ?_⟩
    conv => whnf
    refine ⟨rfl, ?_⟩
    conv => whnf
    refine ⟨all_pts _, ?_⟩
    conv => whnf
    refine ⟨by omega, ePt p, rfl, rfl, ?_⟩
    conv => whnf
    refine ⟨by omega, ePt p, rfl, rfl, ?_⟩
    conv => whnf
    refine ⟨by simp, ?_⟩
    conv => whnf
    refine ⟨rfl, ?_⟩
    rw [wrap_in (z := p.1 + 365) (by omega) (by omega)]
    have ht : List.drop ((0 : Nat) : Int).toNat (List.take ((List.map ePt (p :: r)).length : Int).toNat (List.map ePt (p :: r))) = (p :: r).map ePt := by rw [Int.toNat_natCast, Int.toNat_natCast, List.take_length, List.drop_zero]
    rw [ht]
    conv => whnf
    refine ⟨⟨all_pts _, by simp; omega⟩, ?_⟩
    rw [hn]
    conv => whnf
    refine ⟨⟨by omega, by simp; omega, Int.le_refl _⟩, ?_⟩
    conv => whnf
    refine ⟨rfl, ?_⟩
    conv => whnf
    have hes : ∀ (j : Nat) (hj : j < (p :: r ++ [(p.1 + 365, p.2)]).length), ((p :: r).map ePt ++ [ePt (p.1 + 365, p.2)])[j]? = some (ePt (p :: r ++ [(p.1 + 365, p.2)])[j]) := fun j hj => by
      rw [show (p :: r).map ePt ++ [ePt (p.1 + 365, p.2)] = (p :: r ++ [(p.1 + 365, p.2)]).map ePt by simp, List.getElem?_map, List.getElem?_eq_getElem hj]; rfl
    generalize hrs : p :: r ++ [(p.1 + 365, p.2)] = rs at *
    obtain ⟨hr1, hr2⟩ := ring_facts hv hrs
    have hrl : rs.length = r.length + 2 := by rw [← hrs]; simp
    refine ⟨Nat, fun i => ([(0, .c (.lst ((p :: r).map ePt))), (1, I d), (4, I 0), (5, .c (.view (.l 34 1) 0 (r.length + 2))), (36, .c (.view (.l 34 1) 1 (r.length + 1))), (37, I (r.length + 1 : Nat)), (38, I i)], ⟨[(.l 34 1, .arr 32 2 ((p :: r).map ePt ++ [ePt (p.1 + 365, p.2)]) false)], 2⟩),
      fun i => i ≤ r.length + 1 ∧ ∀ a, rs[i]? = some a → lv d a (rs.drop (i + 1)) = lv d p (r ++ [(p.1 + 365, p.2)]), fun i => r.length + 1 - i, 0, ⟨Nat.zero_le _, fun a ha => ?_⟩, Shift.reset ⟨rfl, rfl, rfl, rfl, rfl, rfl, rfl, trivial⟩ ⟨rfl, trivial⟩ rfl rfl, fun i hi => ?_⟩
    · rw [← hrs] at ha ⊢
      simp at ha
      subst ha
      rfl
    obtain ⟨hi1, hi2⟩ := hi
    dsimp only
    conv => whnf
    refine Fork.mk (fun h1 => ?_) (fun h1 => ?_)
    · have hi : i < r.length + 1 := by simp at h1; omega
      conv => whnf
      refine ⟨⟨by omega, by omega⟩, rfl, ?_⟩
      conv => whnf
      refine ⟨_, hes (1 + i) (by omega), ?_⟩
      generalize hq : rs[1 + i] = q at *
      conv => whnf
      refine ⟨⟨by omega, by omega⟩, rfl, ?_⟩
      conv => whnf
      refine ⟨_, (by rw [Nat.zero_add]; exact hes i (by omega)), ?_⟩
      generalize ha : rs[i] = a at *
      conv => whnf
      have hq1 := hr1 q (by rw [← hq]; exact List.getElem_mem _)
      have ha1 := hr1 a (by rw [← ha]; exact List.getElem_mem _)
      have haq : a.1 < q.1 := by rw [← ha, ← hq]; exact List.pairwise_iff_getElem.1 hr2 i (1 + i) (by omega) (by omega) (by omega)
      have hdr : rs.drop (i + 1) = q :: rs.drop (i + 2) := by
        have hq' : rs[i + 1]'(by omega) = q := by rw [← hq]; congr 1; omega
        rw [List.drop_eq_getElem_cons (by omega : i + 1 < rs.length), hq']
      have hi3 := hi2 a (by rw [← ha]; exact List.getElem?_eq_getElem _)
      rw [hdr, lv] at hi3
      refine Fork.mk (fun h2 => ?_) (fun h2 => ?_)
      · conv => whnf
        have e1 : IntKind.i64.wrap (q.2 - a.2) = q.2 - a.2 := wrap_in (by omega) (by omega)
        have e2 : IntKind.i64.wrap (d - a.1) = d - a.1 := wrap_in (by omega) (by omega)
        have e3 : IntKind.i64.wrap (q.1 - a.1) = q.1 - a.1 := wrap_in (by omega) (by omega)
        have hm := mul_in (a := q.2 - a.2) (b := d - a.1) (A := 16777216) (B := 729) (by omega) (by omega) (by omega) (by omega)
        have e4 : IntKind.i64.wrap ((q.2 - a.2) * (d - a.1)) = (q.2 - a.2) * (d - a.1) := wrap_in (by omega) (by omega)
        rw [e1, e2, e3, e4]
        refine ⟨by omega, ?_⟩
        conv => whnf
        have hlt : d < q.1 := by simpa using h2
        have hv1 : -12230590464 ≤ (q.2 - a.2) * (d - a.1) / (q.1 - a.1) := Int.le_ediv_of_mul_le (by omega) (by omega)
        have hv2 : (q.2 - a.2) * (d - a.1) / (q.1 - a.1) ≤ 12230590464 := Int.ediv_le_of_le_mul (by omega) (by omega)
        rw [if_pos hlt] at hi3
        rw [← hi3] at hk2
        rw [wrap_in (by omega) (by omega)]
        exact hk2
      · conv => whnf
        have hlt : ¬ d < q.1 := by simpa using h2
        rw [if_neg hlt] at hi3
        have hw1 : IntKind.i64.wrap ((i : Int) + 1) = ((i + 1 : Nat) : Int) := by rw [wrap_in (by omega) (by omega)]; omega
        refine ⟨i + 1, ⟨by omega, fun b hb => ?_⟩, Shift.reset ⟨rfl, rfl, rfl, rfl, rfl, rfl, ?_, trivial⟩ ⟨rfl, trivial⟩ rfl rfl, ?_⟩
        · rw [Nat.add_comm i 1, List.getElem?_eq_getElem (by omega), hq] at hb
          cases hb
          exact hi3
        · show some (I _) = _
          rw [hw1]
        · show r.length + 1 - (i + 1) < r.length + 1 - i
          omega
    · have hie : i = r.length + 1 := by simp at h1; omega
      subst hie
      conv => whnf
      refine ⟨by omega, ePt p, rfl, rfl, ?_⟩
      conv => whnf
      have hi3 := hi2 _ (List.getElem?_eq_getElem (by omega))
      rw [List.drop_eq_nil_of_le (by omega), lv] at hi3
      rw [← hi3] at hk2
      exact hk2
end Go.Proofs
