/- Proved here: what functions of the given program come to, for the statements of this chapter; no condition but those in the theorems. -/
import Derived.Test.YtnmijdmpbpnjhaaX5d
import Derived.Test.YtnmijdmpbpnjhaaPRule
namespace Go.Proofs
open Go Go.Abs
set_option linter.unusedSimpArgs false
set_option linter.unusedVariables false
set_option maxRecDepth 4000
def R_is : RT := fun args k => match args with
  | [.c (.sc (.int .i64 x))] => k (Bo (decide (0 ≤ x) && decide (x ≤ 364)))
  | _ => False
theorem is_ok : FunR Try.prog 27 R_is := by
  intro args k h
  unfold R_is at h
  split at h
  case h_2 => exact h.elim
  rename_i x
  refine does_ex (qc := qc1) (np := []) (CK := ckK [(32, cSc R_within)]) mixed Try.func27 rfl rfl Try.ntmps27 Try.results27 τ_ok (by kernel_rfl) (ckK_ok ⟨cSc_ok within_ok, trivial⟩) (by simp) ?_
  conv => whnf
  exact h
def R_rcCheck : RT := fun args k => match args with
  | [.c (.lst es)] => ∃ l : List Pt, es = l.map ePt ∧ k (I (rcCheck l))
  | _ => False
theorem rcCheck_ok : FunR Try.prog 19 R_rcCheck := by
  intro args k h
  unfold R_rcCheck at h
  split at h
  case h_2 => exact h.elim
  obtain ⟨l, rfl, hk⟩ := h
  refine does_ex (qc := qc1) (np := []) (CK := ckK [(32, cSc R_within), (27, cSc R_is)]) mixed Try.func19 rfl rfl Try.ntmps19 Try.results19 τ_ok (by kernel_rfl) (ckK_ok ⟨cSc_ok within_ok, cSc_ok is_ok, trivial⟩) (by simp) ?_
  conv => whnf
  repeat' (refine Fork.mk (fun h => ?_) (fun h => ?_) <;> first | (cases h; done) | (conv => whnf))
  · simp at h
    simpa [rcCheck, h, oneOf, nrm] using hk
  · rename_i h0
    simp at h h0
    have e : rcCheck l = 10 := by unfold rcCheck; rw [if_neg (by simpa using h0), if_pos (by omega)]
    rw [e] at hk
    exact hk
  · rename_i h0
    simp at h h0
    have e : rcCheck l = rcGo none l := by unfold rcCheck; rw [if_neg (by simpa using h0), if_neg (by omega)]
    rw [e] at hk
    refine ⟨Nat, fun i => ([(0, .c (.lst (l.map ePt))), (2, I 0), (13, .c (.lst (l.map ePt))), (14, I (l.map ePt).length), (15, I i)], ⟨[], 0, []⟩), fun i => i ≤ l.length ∧ rcGo (prev l i) (l.drop i) = rcGo none l, fun i => l.length - i, 0,
      ⟨Nat.zero_le _, rfl⟩, Shift.reset ⟨rfl, rfl, rfl, rfl, rfl, trivial⟩ trivial rfl rfl, fun i hi => ?_⟩
    obtain ⟨hi1, hi2⟩ := hi
    conv => whnf
    refine Fork.mk (fun h1 => ?_) (fun h1 => ?_)
    · have hi : i < l.length := by simpa using h1
      have hd : l.drop i = l[i] :: l.drop (i + 1) := List.drop_eq_getElem_cons hi
      rw [hd] at hi2
      conv => whnf
      refine ⟨by omega, ePt l[i], by simp [hi], rfl, ?_⟩
      generalize hp : l[i] = p at *
      conv => whnf
      repeat' (refine Fork.mk (fun h => ?_) (fun h => ?_) <;> first | (cases h; done) | (conv => whnf))
      · have hp2 : ¬ (0 ≤ p.1 ∧ p.1 ≤ 364) := by rename_i h2; simp at h2; omega
        rw [rcGo_cons, if_neg (fun h => hp2 h.1)] at hi2
        rw [← hi2] at hk
        exact hk
      · have hp2 : ¬ (0 ≤ p.2 ∧ p.2 ≤ 16777216) := by simp at h; omega
        rw [rcGo_cons, if_neg (fun h => hp2 h.2)] at hi2
        rw [← hi2] at hk
        exact hk
      · rename_i h2 h3
        have hp2 : (0 ≤ p.1 ∧ p.1 ≤ 364) ∧ (0 ≤ p.2 ∧ p.2 ≤ 16777216) := by simp at h2 h3; omega
        have hi0 : 0 < i := by simpa using h
        have hw : IntKind.i64.wrap ((i : Int) - 1) = ((i - 1 : Nat) : Int) := by rw [wrap_in (by omega) (by omega)]; omega
        have hq : prev l i = some l[i - 1] := by unfold prev; rw [if_neg (by omega)]; exact List.getElem?_eq_getElem _
        rw [rcGo_cons, if_pos hp2, hq] at hi2
        rw [hw]
        refine ⟨by omega, ePt l[i - 1], map_at ePt l (by omega), rfl, ?_⟩
        generalize hqq : l[i - 1] = q at *
        simp only at hi2
        conv => whnf
        repeat' (refine Fork.mk (fun h => ?_) (fun h => ?_) <;> first | (cases h; done) | (conv => whnf))
        · rw [if_pos (by simpa using h)] at hi2
          rw [← hi2] at hk
          exact hk
        · rw [if_neg (by simpa using h)] at hi2
          refine ⟨i + 1, ⟨hi, ?_⟩, Shift.reset ⟨rfl, rfl, rfl, rfl, ?_, trivial⟩ trivial rfl rfl, ?_⟩
          · have : prev l (i + 1) = some p := by unfold prev; rw [if_neg (by omega), ← hp]; exact List.getElem?_eq_getElem _
            rw [this]; exact hi2
          · have : IntKind.i64.wrap ((i : Int) + 1) = ((i + 1 : Nat) : Int) := by rw [wrap_in (by omega) (by omega)]; omega
            show some (I _) = _
            rw [this]
          · show l.length - (i + 1) < l.length - i
            omega
      · rename_i h2 h3 h4
        have hp2 : (0 ≤ p.1 ∧ p.1 ≤ 364) ∧ (0 ≤ p.2 ∧ p.2 ≤ 16777216) := by simp at h2 h3; omega
        have hi0 : i = 0 := by simpa using h4
        subst hi0
        rw [rcGo_cons, if_pos hp2] at hi2
        simp only [prev, if_true] at hi2
        refine ⟨1, ⟨hi, ?_⟩, Shift.reset ⟨rfl, rfl, rfl, rfl, ?_, trivial⟩ trivial rfl rfl, ?_⟩
        · have : prev l 1 = some p := by unfold prev; rw [if_neg (by omega), ← hp]; exact List.getElem?_eq_getElem _
          show rcGo (prev l 1) (l.drop 1) = _
          rw [this]; exact hi2
        · show some (I _) = _
          have : IntKind.i64.wrap (((0 : Nat) : Int) + 1) = ((0 + 1 : Nat) : Int) := by rw [wrap_in (by omega) (by omega)]; rfl
          rw [this]
        · show l.length - (0 + 1) < l.length - 0
          omega
    · have hi : i = l.length := by simp at h1; omega
      subst hi
      rw [List.drop_length] at hi2
      conv => whnf
      rw [← hi2] at hk
      exact hk

def R_down : RT := fun args k => match args with
  | [.c (.sc (.int .i64 a)), .c (.sc (.int .i64 b))] => (0 < b ∧ -4611686018427387904 ≤ a ∧ a ≤ 4611686018427387904) ∧ k (I (a / b))
  | _ => False
theorem down_ok : FunR Try.prog 38 R_down := by
  intro args k h
  unfold R_down at h
  split at h
  case h_2 => exact h.elim
  rename_i a b
  obtain ⟨⟨hb, ha1, ha2⟩, hk⟩ := h
  have h3 := tdiv_in a hb ha1 ha2
  have h4 := tdiv_floor a hb
  refine does_ex (qc := qc1) (np := []) (CK := ckK []) mixed Try.func38 rfl rfl Try.ntmps38 Try.results38 τ_ok (by kernel_rfl) (ckK_ok trivial) (by simp) ?_
  conv => whnf
  refine ⟨by omega, ?_⟩
  conv => whnf
  refine ⟨by omega, ?_⟩
  conv => whnf
  rw [wrap_in (z := a.tdiv b) (by omega) (by omega)]
  refine Fork.mk (fun h => ?_) (fun h => ?_)
  · conv => whnf
    rw [wrap_in (by omega) (by omega), h4.1 (by simpa using h)]
    exact hk
  · conv => whnf
    rw [h4.2 (by simpa using h)]
    exact hk

def R_level : RT := fun args k => match args with
  | [.c (.lst es), .c (.sc (.int .i64 day))] => ∃ p r, es = (p :: r).map ePt ∧ rcValid (p :: r) ∧ (0 ≤ day ∧ day ≤ 364) ∧ k (I (rcLevel p r day))
  | _ => False
theorem all_pts (l : List Pt) : (l.map ePt).all (fun e => e.length == 2) = true := by
  simp [List.all_eq_true, ePt]
theorem level_ok : FunR Try.prog 28 R_level := by
  intro args k h
  unfold R_level at h
  split at h
  case h_2 => exact h.elim
  rename_i day
  obtain ⟨p, r, rfl, hv, hday, hk⟩ := h
  obtain ⟨hlen, hpts⟩ := rcValid_pts hv
  have hp := hpts p (by simp)
  refine does_ex (qc := qc1) (np := [(3, [(5, 16)])]) (CK := ckK [(38, cSc R_down)]) mixed Try.func28 rfl rfl Try.ntmps28 Try.results28 τ_ok (by kernel_rfl) (ckK_ok ⟨cSc_ok down_ok, trivial⟩) (by simp) ?_
  conv => whnf
  refine ⟨by omega, ePt p, rfl, rfl, ?_⟩
  conv => whnf
  have hl2 : r.length ≤ 99 := by simp at hlen; omega
  have hn : (List.map ePt (p :: r)).length = r.length + 1 := by simp
  have harm : ∀ d, (if day < p.1 then day + 365 else day) = d → k (I ((lv d p (r ++ [(p.1 + 365, p.2)])).getD p.2)) := fun d hd => by rw [← hd]; exact hk
  have hb : ∀ d, (if day < p.1 then day + 365 else day) = d → p.1 ≤ d ∧ d < p.1 + 365 := fun d hd => by rw [← hd]; split <;> omega
  refine Fork.mk (fun h => ?_) (fun h => ?_)
  · conv => whnf
    have hw : IntKind.i64.wrap (day + 365) = day + 365 := wrap_in (by omega) (by omega)
    have hd : (if day < p.1 then day + 365 else day) = day + 365 := if_pos (by simpa using h)
    have hk2 := harm _ hd
    have hb2 := hb _ hd
    rw [hw]
    clear hd hw hb harm hk
    generalize day + 365 = d at *
    refine ⟨⟨by omega, by omega, by omega⟩, ?_⟩
    conv => whnf
    refine ⟨rfl, ?_⟩
    conv => whnf
    refine ⟨all_pts _, ?_⟩
    conv => whnf
    refine ⟨by omega, ePt p, rfl, rfl, ?_⟩
    conv => whnf
    refine ⟨by omega, ePt p, rfl, rfl, ?_⟩
    conv => whnf
    refine ⟨by simp, ?_⟩
    conv => whnf
    refine ⟨rfl, ?_⟩
    rw [wrap_in (z := p.1 + 365) (by omega) (by omega)]
    have ht : List.drop ((0 : Nat) : Int).toNat (List.take ((List.map ePt (p :: r)).length : Int).toNat (List.map ePt (p :: r))) = (p :: r).map ePt := by rw [Int.toNat_natCast, Int.toNat_natCast, List.take_length, List.drop_zero]
    rw [ht]
    conv => whnf
    refine ⟨⟨all_pts _, by simp; omega⟩, ?_⟩
    rw [hn]
    conv => whnf
    refine ⟨⟨by omega, by simp; omega, Int.le_refl _⟩, ?_⟩
    conv => whnf
    refine ⟨rfl, ?_⟩
    conv => whnf
    have hes : ∀ (j : Nat) (hj : j < (p :: r ++ [(p.1 + 365, p.2)]).length), ((p :: r).map ePt ++ [ePt (p.1 + 365, p.2)])[j]? = some (ePt (p :: r ++ [(p.1 + 365, p.2)])[j]) := fun j hj => by
      rw [show (p :: r).map ePt ++ [ePt (p.1 + 365, p.2)] = (p :: r ++ [(p.1 + 365, p.2)]).map ePt by simp, List.getElem?_map, List.getElem?_eq_getElem hj]; rfl
    generalize hrs : p :: r ++ [(p.1 + 365, p.2)] = rs at *
    obtain ⟨hr1, hr2⟩ := ring_facts hv hrs
    have hrl : rs.length = r.length + 2 := by rw [← hrs]; simp
    refine ⟨Nat, fun i => ([(0, .c (.lst ((p :: r).map ePt))), (1, I d), (4, I 0), (5, .c (.view (.l 34 0) 0 (r.length + 2))), (36, .c (.view (.l 34 0) 1 (r.length + 1))), (37, I (r.length + 1 : Nat)), (38, I i)], ⟨[(.l 34 0, .arr 32 2 ((p :: r).map ePt ++ [ePt (p.1 + 365, p.2)]) false)], 2, []⟩),
      fun i => i ≤ r.length + 1 ∧ ∀ a, rs[i]? = some a → lv d a (rs.drop (i + 1)) = lv d p (r ++ [(p.1 + 365, p.2)]), fun i => r.length + 1 - i, 0, ⟨Nat.zero_le _, fun a ha => ?_⟩, Shift.reset ⟨rfl, rfl, rfl, rfl, rfl, rfl, rfl, trivial⟩ ⟨rfl, trivial⟩ rfl rfl, fun i hi => ?_⟩
    · rw [← hrs] at ha ⊢
      simp at ha
      subst ha
      rfl
    obtain ⟨hi1, hi2⟩ := hi
    dsimp only
    conv => whnf
    refine Fork.mk (fun h1 => ?_) (fun h1 => ?_)
    · have hi : i < r.length + 1 := by simp at h1; omega
      conv => whnf
      refine ⟨⟨by omega, by omega⟩, rfl, ?_⟩
      conv => whnf
      refine ⟨_, hes (1 + i) (by omega), ?_⟩
      generalize hq : rs[1 + i] = q at *
      conv => whnf
      refine ⟨⟨by omega, by omega⟩, rfl, ?_⟩
      conv => whnf
      refine ⟨_, (by rw [Nat.zero_add]; exact hes i (by omega)), ?_⟩
      generalize ha : rs[i] = a at *
      conv => whnf
      have hq1 := hr1 q (by rw [← hq]; exact List.getElem_mem _)
      have ha1 := hr1 a (by rw [← ha]; exact List.getElem_mem _)
      have haq : a.1 < q.1 := by rw [← ha, ← hq]; exact List.pairwise_iff_getElem.1 hr2 i (1 + i) (by omega) (by omega) (by omega)
      have hdr : rs.drop (i + 1) = q :: rs.drop (i + 2) := by
        have hq' : rs[i + 1]'(by omega) = q := by rw [← hq]; congr 1; omega
        rw [List.drop_eq_getElem_cons (by omega : i + 1 < rs.length), hq']
      have hi3 := hi2 a (by rw [← ha]; exact List.getElem?_eq_getElem _)
      rw [hdr, lv] at hi3
      refine Fork.mk (fun h2 => ?_) (fun h2 => ?_)
      · conv => whnf
        have e1 : IntKind.i64.wrap (q.2 - a.2) = q.2 - a.2 := wrap_in (by omega) (by omega)
        have e2 : IntKind.i64.wrap (d - a.1) = d - a.1 := wrap_in (by omega) (by omega)
        have e3 : IntKind.i64.wrap (q.1 - a.1) = q.1 - a.1 := wrap_in (by omega) (by omega)
        have hm := mul_in (a := q.2 - a.2) (b := d - a.1) (A := 16777216) (B := 729) (by omega) (by omega) (by omega) (by omega)
        have e4 : IntKind.i64.wrap ((q.2 - a.2) * (d - a.1)) = (q.2 - a.2) * (d - a.1) := wrap_in (by omega) (by omega)
        rw [e1, e2, e3, e4]
        refine ⟨by omega, ?_⟩
        conv => whnf
        have hlt : d < q.1 := by simpa using h2
        have hv1 : -12230590464 ≤ (q.2 - a.2) * (d - a.1) / (q.1 - a.1) := Int.le_ediv_of_mul_le (by omega) (by omega)
        have hv2 : (q.2 - a.2) * (d - a.1) / (q.1 - a.1) ≤ 12230590464 := Int.ediv_le_of_le_mul (by omega) (by omega)
        rw [if_pos hlt] at hi3
        rw [← hi3] at hk2
        rw [wrap_in (by omega) (by omega)]
        exact hk2
      · conv => whnf
        have hlt : ¬ d < q.1 := by simpa using h2
        rw [if_neg hlt] at hi3
        have hw1 : IntKind.i64.wrap ((i : Int) + 1) = ((i + 1 : Nat) : Int) := by rw [wrap_in (by omega) (by omega)]; omega
        refine ⟨i + 1, ⟨by omega, fun b hb => ?_⟩, Shift.reset ⟨rfl, rfl, rfl, rfl, rfl, rfl, ?_, trivial⟩ ⟨rfl, trivial⟩ rfl rfl, ?_⟩
        · rw [Nat.add_comm i 1, List.getElem?_eq_getElem (by omega), hq] at hb
          cases hb
          exact hi3
        · show some (I _) = _
          rw [hw1]
        · show r.length + 1 - (i + 1) < r.length + 1 - i
          omega
    · have hie : i = r.length + 1 := by simp at h1; omega
      subst hie
      conv => whnf
      refine ⟨by omega, ePt p, rfl, rfl, ?_⟩
      conv => whnf
      have hi3 := hi2 _ (List.getElem?_eq_getElem (by omega))
      rw [List.drop_eq_nil_of_le (by omega), lv] at hi3
      rw [← hi3] at hk2
      exact hk2
  · conv => whnf
    have hd : (if day < p.1 then day + 365 else day) = day := if_neg (by simpa using h)
    have hk2 := harm _ hd
    have hb2 := hb _ hd
    clear hd hb harm hk
    generalize day = d at *
    refine ⟨⟨by omega, by omega, by omega⟩, ?_⟩
    conv => whnf
    refine ⟨rfl, ?_⟩
    conv => whnf
    refine ⟨all_pts _, ?_⟩
    conv => whnf
    refine ⟨by omega, ePt p, rfl, rfl, ?_⟩
    conv => whnf
    refine ⟨by omega, ePt p, rfl, rfl, ?_⟩
    conv => whnf
    refine ⟨by simp, ?_⟩
    conv => whnf
    refine ⟨rfl, ?_⟩
    rw [wrap_in (z := p.1 + 365) (by omega) (by omega)]
    have ht : List.drop ((0 : Nat) : Int).toNat (List.take ((List.map ePt (p :: r)).length : Int).toNat (List.map ePt (p :: r))) = (p :: r).map ePt := by rw [Int.toNat_natCast, Int.toNat_natCast, List.take_length, List.drop_zero]
    rw [ht]
    conv => whnf
    refine ⟨⟨all_pts _, by simp; omega⟩, ?_⟩
    rw [hn]
    conv => whnf
    refine ⟨⟨by omega, by simp; omega, Int.le_refl _⟩, ?_⟩
    conv => whnf
    refine ⟨rfl, ?_⟩
    conv => whnf
    have hes : ∀ (j : Nat) (hj : j < (p :: r ++ [(p.1 + 365, p.2)]).length), ((p :: r).map ePt ++ [ePt (p.1 + 365, p.2)])[j]? = some (ePt (p :: r ++ [(p.1 + 365, p.2)])[j]) := fun j hj => by
      rw [show (p :: r).map ePt ++ [ePt (p.1 + 365, p.2)] = (p :: r ++ [(p.1 + 365, p.2)]).map ePt by simp, List.getElem?_map, List.getElem?_eq_getElem hj]; rfl
    generalize hrs : p :: r ++ [(p.1 + 365, p.2)] = rs at *
    obtain ⟨hr1, hr2⟩ := ring_facts hv hrs
    have hrl : rs.length = r.length + 2 := by rw [← hrs]; simp
    refine ⟨Nat, fun i => ([(0, .c (.lst ((p :: r).map ePt))), (1, I d), (4, I 0), (5, .c (.view (.l 34 0) 0 (r.length + 2))), (36, .c (.view (.l 34 0) 1 (r.length + 1))), (37, I (r.length + 1 : Nat)), (38, I i)], ⟨[(.l 34 0, .arr 32 2 ((p :: r).map ePt ++ [ePt (p.1 + 365, p.2)]) false)], 2, []⟩),
      fun i => i ≤ r.length + 1 ∧ ∀ a, rs[i]? = some a → lv d a (rs.drop (i + 1)) = lv d p (r ++ [(p.1 + 365, p.2)]), fun i => r.length + 1 - i, 0, ⟨Nat.zero_le _, fun a ha => ?_⟩, Shift.reset ⟨rfl, rfl, rfl, rfl, rfl, rfl, rfl, trivial⟩ ⟨rfl, trivial⟩ rfl rfl, fun i hi => ?_⟩
    · rw [← hrs] at ha ⊢
      simp at ha
      subst ha
      rfl
    obtain ⟨hi1, hi2⟩ := hi
    dsimp only
    conv => whnf
    refine Fork.mk (fun h1 => ?_) (fun h1 => ?_)
    · have hi : i < r.length + 1 := by simp at h1; omega
      conv => whnf
      refine ⟨⟨by omega, by omega⟩, rfl, ?_⟩
      conv => whnf
      refine ⟨_, hes (1 + i) (by omega), ?_⟩
      generalize hq : rs[1 + i] = q at *
      conv => whnf
      refine ⟨⟨by omega, by omega⟩, rfl, ?_⟩
      conv => whnf
      refine ⟨_, (by rw [Nat.zero_add]; exact hes i (by omega)), ?_⟩
      generalize ha : rs[i] = a at *
      conv => whnf
      have hq1 := hr1 q (by rw [← hq]; exact List.getElem_mem _)
      have ha1 := hr1 a (by rw [← ha]; exact List.getElem_mem _)
      have haq : a.1 < q.1 := by rw [← ha, ← hq]; exact List.pairwise_iff_getElem.1 hr2 i (1 + i) (by omega) (by omega) (by omega)
      have hdr : rs.drop (i + 1) = q :: rs.drop (i + 2) := by
        have hq' : rs[i + 1]'(by omega) = q := by rw [← hq]; congr 1; omega
        rw [List.drop_eq_getElem_cons (by omega : i + 1 < rs.length), hq']
      have hi3 := hi2 a (by rw [← ha]; exact List.getElem?_eq_getElem _)
      rw [hdr, lv] at hi3
      refine Fork.mk (fun h2 => ?_) (fun h2 => ?_)
      · conv => whnf
        have e1 : IntKind.i64.wrap (q.2 - a.2) = q.2 - a.2 := wrap_in (by omega) (by omega)
        have e2 : IntKind.i64.wrap (d - a.1) = d - a.1 := wrap_in (by omega) (by omega)
        have e3 : IntKind.i64.wrap (q.1 - a.1) = q.1 - a.1 := wrap_in (by omega) (by omega)
        have hm := mul_in (a := q.2 - a.2) (b := d - a.1) (A := 16777216) (B := 729) (by omega) (by omega) (by omega) (by omega)
        have e4 : IntKind.i64.wrap ((q.2 - a.2) * (d - a.1)) = (q.2 - a.2) * (d - a.1) := wrap_in (by omega) (by omega)
        rw [e1, e2, e3, e4]
        refine ⟨by omega, ?_⟩
        conv => whnf
        have hlt : d < q.1 := by simpa using h2
        have hv1 : -12230590464 ≤ (q.2 - a.2) * (d - a.1) / (q.1 - a.1) := Int.le_ediv_of_mul_le (by omega) (by omega)
        have hv2 : (q.2 - a.2) * (d - a.1) / (q.1 - a.1) ≤ 12230590464 := Int.ediv_le_of_le_mul (by omega) (by omega)
        rw [if_pos hlt] at hi3
        rw [← hi3] at hk2
        rw [wrap_in (by omega) (by omega)]
        exact hk2
      · conv => whnf
        have hlt : ¬ d < q.1 := by simpa using h2
        rw [if_neg hlt] at hi3
        have hw1 : IntKind.i64.wrap ((i : Int) + 1) = ((i + 1 : Nat) : Int) := by rw [wrap_in (by omega) (by omega)]; omega
        refine ⟨i + 1, ⟨by omega, fun b hb => ?_⟩, Shift.reset ⟨rfl, rfl, rfl, rfl, rfl, rfl, ?_, trivial⟩ ⟨rfl, trivial⟩ rfl rfl, ?_⟩
        · rw [Nat.add_comm i 1, List.getElem?_eq_getElem (by omega), hq] at hb
          cases hb
          exact hi3
        · show some (I _) = _
          rw [hw1]
        · show r.length + 1 - (i + 1) < r.length + 1 - i
          omega
    · have hie : i = r.length + 1 := by simp at h1; omega
      subst hie
      conv => whnf
      refine ⟨by omega, ePt p, rfl, rfl, ?_⟩
      conv => whnf
      have hi3 := hi2 _ (List.getElem?_eq_getElem (by omega))
      rw [List.drop_eq_nil_of_le (by omega), lv] at hi3
      rw [← hi3] at hk2
      exact hk2

def R_rcAt : RT := fun args k => match args with
  | [.c (.lst es), .c (.sc (.int .i64 day))] => ∃ l : List Pt, es = l.map ePt ∧ k (.tup [I (rcAt l day).1, I (rcAt l day).2])
  | _ => False
theorem at_ok : FunR Try.prog 13 R_rcAt := by
  intro args k h
  unfold R_rcAt at h
  split at h
  case h_2 => exact h.elim
  rename_i day
  obtain ⟨l, rfl, hk⟩ := h
  refine does_ex (qc := qc1) (np := []) (CK := ckK [(19, cSc R_rcCheck), (27, cSc R_is), (28, cSc R_level)]) mixed Try.func13 rfl rfl Try.ntmps13 Try.results13 τ_ok (by kernel_rfl) (ckK_ok ⟨cSc_ok rcCheck_ok, cSc_ok is_ok, cSc_ok level_ok, trivial⟩) (by simp) ?_
  conv => whnf
  refine ⟨l, rfl, ?_⟩
  conv => whnf
  refine Fork.mk (fun h => ?_) (fun h => ?_)
  · have h' : rcCheck l ≠ 0 := by simpa using h
    conv => whnf
    have e : rcAt l day = (0, rcCheck l) := by simp [rcAt, h']
    rw [e] at hk
    exact hk
  · have h' : rcCheck l = 0 := by simpa using h
    conv => whnf
    refine Fork.mk (fun h2 => ?_) (fun h2 => ?_)
    · conv => whnf
      simp at h2
      have e : rcAt l day = (0, 1) := by simp [rcAt, h']; omega
      rw [e] at hk
      exact hk
    · simp at h2
      cases l with
      | nil => simp [rcCheck] at h'
      | cons p r =>
        conv => whnf
        refine ⟨p, r, rfl, h', by omega, ?_⟩
        conv => whnf
        have e : rcAt (p :: r) day = (rcLevel p r day, 0) := by simp [rcAt, h']; omega
        rw [e] at hk
        exact hk

theorem set_x (l : List Pt) {i : Nat} (hi : i < l.length) (v : Int) : (l.map ePt).set (0 + (i : Int).toNat) [IC v, IC l[i].2] = (l.set i (v, l[i].2)).map ePt := by
  rw [Nat.zero_add, Int.toNat_natCast, List.map_set]; rfl
theorem set_y (l : List Pt) {i : Nat} (hi : i < l.length) (v : Int) : (l.map ePt).set (0 + (i : Int).toNat) [IC l[i].1, IC v] = (l.set i (l[i].1, v)).map ePt := by
  rw [Nat.zero_add, Int.toNat_natCast, List.map_set]; rfl
theorem leaf_pp {k : AV → List Cell → Prop} (l : List Pt) {n : Nat} {cs : List Cell} (h : n = l.length) (hc : noCs cs = true) (hk : k (.c (.lst (l.map ePt))) cs) :
    noA (oneOf [.c (.lst (List.take n (List.drop 0 (l.map ePt))))]) = true ∧ noCs cs = true ∧ k (oneOf [.c (.lst (List.take n (List.drop 0 (l.map ePt))))]) cs := by
  rw [List.drop_zero, List.take_of_length_le (by rw [List.length_map, h]; exact Nat.le_refl _)]
  exact ⟨rfl, hc, hk⟩
def R_made : RB := fun cs args k => match args with
  | [] => ∃ d : Dk, cs = dkC d ∧ d.ok ∧ ∀ (l : List Pt) d', Dk.ok d' → 1 ≤ l.length → l.length ≤ 6 → (∀ p ∈ l, -1 ≤ p.1 ∧ p.1 ≤ 365 ∧ -1 ≤ p.2 ∧ p.2 ≤ 16777217) → k (.c (.lst (l.map ePt))) (dkC d')
  | _ => False
theorem made_ok : FunB Try.prog 9 R_made := by
  intro cs args k h
  unfold R_made at h
  split at h
  case h_2 => exact h.elim
  obtain ⟨d, rfl, hd, hk⟩ := h
  refine doesB_ex (qc := qc1) (np := []) (CK := ckK [(21, cB R_next)]) mixed Try.func9 rfl rfl Try.ntmps9 Try.results9 τ_ok (by kernel_rfl) (ckK_ok ⟨cB_ok next_ok rfl, trivial⟩) (by simp) rfl rfl ?_
  conv => whnf
  refine ⟨d, rfl, hd, by omega, fun x d hd hx1 hx2 => ?_⟩
  conv => whnf
  refine ⟨d, rfl, hd, by omega, fun n d hd hn1 hn2 => ?_⟩
  conv => whnf
  refine ⟨List Pt × Dk × Int × Int, fun s => ([(0, .c (.ptr (.x 0) 0)), (3, .c (.view (.l 25 0) 0 s.1.length)), (4, I s.2.2.1), (5, I s.2.2.2)], ⟨[(.x 0, .blk (dkC s.2.1)), (.l 25 0, .arr 32 2 (s.1.map ePt) false)], 1, []⟩),
    fun s => s.2.1.ok ∧ (∀ p ∈ s.1, 0 ≤ p.1 ∧ p.1 ≤ 364 ∧ 0 ≤ p.2 ∧ p.2 ≤ 1000) ∧ 0 ≤ s.2.2.1 ∧ s.2.2.1 ≤ 1000 ∧ -1 ≤ s.2.2.2 ∧ (s.1.length : Int) + s.2.2.2 ≤ 4 ∧ (s.1 = [] → s.2.2.1 ≤ 364 ∧ 0 ≤ s.2.2.2), fun s => (s.2.2.2 + 1).toNat, ([], d, x, n),
    ⟨hd, by simp, by dsimp only; omega, by dsimp only; omega, by dsimp only; omega, by simp; omega, fun _ => by dsimp only; omega⟩,
    Shift.trans (Shift.rename [] ⟨rfl, rfl, rfl, rfl, trivial⟩ ⟨rfl, rfl, trivial⟩ rfl rfl rfl) (Shift.nilArr (t := 3) rfl 25 32 2), fun s hs => ?_⟩
  obtain ⟨l, d, x, n⟩ := s
  obtain ⟨h1, h2, h3, h4, h5, h6, h7⟩ := hs
  dsimp only at h1 h2 h3 h4 h5 h6 h7 ⊢
  conv => whnf
  repeat' (refine Fork.mk (fun h => ?_) (fun h => ?_) <;> first | (cases h; done) | (conv => whnf))
  · simp at h
    rename_i h0
    simp at h0
    refine ⟨d, rfl, h1, by omega, fun y d hd hy1 hy2 => ?_⟩
    conv => whnf
    rw [wrap_in (z := 80 + y) (by omega) (by omega)]
    have hln : (l.map ePt).length = l.length := by simp
    have hma : l.map ePt ++ [ePt (x, 80 + y)] = (l ++ [(x, 80 + y)]).map ePt := by simp
    have hle : (l ++ [(x, 80 + y)]).length = l.length + 1 := by simp
    refine ⟨by simp, ?_⟩
    conv => whnf
    refine ⟨rfl, ?_⟩
    conv => whnf
    refine ⟨⟨rfl, rfl, rfl, hln.symm, by rw [hln]; simp; omega⟩, ?_⟩
    conv => whnf
    refine ⟨d, rfl, hd, by omega, fun z d hd hz1 hz2 => ?_⟩
    conv => whnf
    rw [wrap_in (z := 1 + z) (by omega) (by omega), wrap_in (z := x + (1 + z)) (by omega) (by omega), wrap_in (z := n - 1) (by omega) (by omega)]
    refine ⟨(l ++ [(x, 80 + y)], d, x + (1 + z), n - 1), ⟨hd, ?_, by dsimp only; omega, by dsimp only; omega, by dsimp only; omega, by simp; omega, fun h => by simp at h⟩, Shift.rename [(.l 25 0, .l 25 2)] ⟨rfl, ?_, rfl, rfl, trivial⟩ ⟨rfl, ?_, trivial⟩ rfl rfl rfl, ?_⟩
    · intro p hp
      rcases List.mem_append.1 hp with hp | hp
      · exact h2 p hp
      · simp at hp; subst hp; dsimp only; omega
    · dsimp only
      rw [hle, ← hln]; rfl
    · dsimp only
      rw [← hma]; rfl
    · show (n - 1 + 1).toNat < (n + 1).toNat
      omega
  all_goals
    have hl1 : 1 ≤ l.length := by
      cases l with
      | nil => simp at *; omega
      | cons _ _ => simp
    have hl6 : l.length ≤ 5 := by omega
    refine ⟨d, rfl, h1, by omega, fun c d hd hc1 hc2 => ?_⟩
    clear h1 h3 h4 h5 h6 h7
    conv => whnf
    refine Fork.mk (fun h => ?_) (fun h => ?_)
    · conv => whnf
      have hln : (l.map ePt).length = l.length := by simp
      refine ⟨d, rfl, hd, by omega, fun i d hd hi1 hi2 => ?_⟩
      conv => whnf
      refine ⟨d, rfl, hd, by omega, fun j d hd hj1 hj2 => ?_⟩
      conv => whnf
      obtain ⟨i, rfl⟩ := Int.eq_ofNat_of_zero_le hi1
      have hi : i < l.length := by omega
      have hv : ∃ v, -1 ≤ v ∧ v ≤ 365 ∧ [[IC (-1)], [IC 364], [IC 365]][j.toNat]? = some [IC v] := by
        obtain rfl | rfl | rfl : j = 0 ∨ j = 1 ∨ j = 2 := by omega
        · exact ⟨(-1), by omega, by omega, rfl⟩
        · exact ⟨364, by omega, by omega, rfl⟩
        · exact ⟨365, by omega, by omega, rfl⟩
      obtain ⟨v, hv1, hv2, hv⟩ := hv
      refine ⟨by omega, rfl, ?_⟩
      conv => whnf
      refine ⟨[IC v], by rw [Nat.zero_add]; exact hv, ?_⟩
      conv => whnf
      refine ⟨by omega, rfl, ?_⟩
      conv => whnf
      refine ⟨_, map_at0 ePt l hi, by show 0 + 0 + 1 ≤ 2; omega, ?_⟩
      conv => whnf
      have hp := h2 l[i] (List.getElem_mem _)
      have hset := set_x l hi v
      have hmem : ∀ p ∈ l.set i (v, l[i].2), -1 ≤ p.1 ∧ p.1 ≤ 365 ∧ -1 ≤ p.2 ∧ p.2 ≤ 16777217 := fun p hp' => by
        rcases List.mem_or_eq_of_mem_set hp' with h | rfl
        · have := h2 p h; omega
        · dsimp only; omega
      have hlen : (l.set i (v, l[i].2)).length = l.length := by simp
      have hk := hk (l.set i (v, l[i].2)) d hd (by omega) (by omega) hmem
      rw [show [nrm (Value.int IntKind.i64 v), IC l[i].2] = [IC v, IC l[i].2] from rfl, hset]
      generalize l.set i (v, l[i].2) = l' at *
      refine ⟨by simp; omega, ?_⟩
      conv => whnf
      exact leaf_pp l' hlen.symm rfl hk
    · conv => whnf
      refine Fork.mk (fun h => ?_) (fun h => ?_)
      rotate_left
      · conv => whnf
        refine Fork.mk (fun h => ?_) (fun h => ?_)
        · conv => whnf
          have hln : (l.map ePt).length = l.length := by simp
          refine ⟨by omega, rfl, ?_⟩
          conv => whnf
          refine ⟨_, map_at0 ePt l hl1, ?_⟩
          conv => whnf
          refine ⟨by simp, ?_⟩
          conv => whnf
          refine ⟨rfl, ?_⟩
          conv => whnf
          refine ⟨⟨rfl, rfl, rfl, hln.symm, by rw [hln]; simp; omega⟩, ?_⟩
          conv => whnf
          refine ⟨by simp, ?_⟩
          conv => whnf
          have hma : l.map ePt ++ [[IC l[0].1, IC l[0].2]] = (l ++ [l[0]]).map ePt := by simp [ePt]
          have hlen : (l ++ [l[0]]).length = l.length + 1 := by simp
          have hk := hk (l ++ [l[0]]) d hd (by omega) (by omega) (fun p hp => by
            rcases List.mem_append.1 hp with hp | hp
            · have := h2 p hp; omega
            · simp at hp
              have := h2 l[0] (List.getElem_mem _)
              rw [hp]; omega)
          rw [show List.take 1 (List.drop 0 [[nrm (Value.int IntKind.i64 l[0].1), nrm (Value.int IntKind.i64 l[0].2)]]) = [[IC l[0].1, IC l[0].2]] from rfl, hma]
          exact leaf_pp _ (by rw [hlen, hln]; rfl) rfl hk
        · conv => whnf
          refine ⟨by simp, ?_⟩
          conv => whnf
          exact leaf_pp l rfl rfl (hk l d hd hl1 (by omega) (fun p hp => by have := h2 p hp; omega))
      · conv => whnf
        have hln : (l.map ePt).length = l.length := by simp
        refine ⟨d, rfl, hd, by omega, fun i d hd hi1 hi2 => ?_⟩
        conv => whnf
        refine ⟨d, rfl, hd, by omega, fun j d hd hj1 hj2 => ?_⟩
        conv => whnf
        obtain ⟨i, rfl⟩ := Int.eq_ofNat_of_zero_le hi1
        have hi : i < l.length := by omega
        have hv : ∃ v, -1 ≤ v ∧ v ≤ 16777217 ∧ [[IC (-1)], [IC 16777216], [IC 16777217]][j.toNat]? = some [IC v] := by
          obtain rfl | rfl | rfl : j = 0 ∨ j = 1 ∨ j = 2 := by omega
          · exact ⟨(-1), by omega, by omega, rfl⟩
          · exact ⟨16777216, by omega, by omega, rfl⟩
          · exact ⟨16777217, by omega, by omega, rfl⟩
        obtain ⟨v, hv1, hv2, hv⟩ := hv
        refine ⟨by omega, rfl, ?_⟩
        conv => whnf
        refine ⟨[IC v], by rw [Nat.zero_add]; exact hv, ?_⟩
        conv => whnf
        refine ⟨by omega, rfl, ?_⟩
        conv => whnf
        refine ⟨_, map_at0 ePt l hi, by show 0 + 1 + 1 ≤ 2; omega, ?_⟩
        conv => whnf
        have hp := h2 l[i] (List.getElem_mem _)
        have hset := set_y l hi v
        have hmem : ∀ p ∈ l.set i (l[i].1, v), -1 ≤ p.1 ∧ p.1 ≤ 365 ∧ -1 ≤ p.2 ∧ p.2 ≤ 16777217 := fun p hp' => by
          rcases List.mem_or_eq_of_mem_set hp' with h | rfl
          · have := h2 p h; omega
          · dsimp only; omega
        have hlen : (l.set i (l[i].1, v)).length = l.length := by simp
        have hk := hk (l.set i (l[i].1, v)) d hd (by omega) (by omega) hmem
        rw [show [IC l[i].1, nrm (Value.int IntKind.i64 v)] = [IC l[i].1, IC v] from rfl, hset]
        generalize l.set i (l[i].1, v) = l' at *
        refine ⟨by simp; omega, ?_⟩
        conv => whnf
        exact leaf_pp l' hlen.symm rfl hk


theorem risday_ok : FunR Try.prog 25 R_is := by
  intro args k h
  unfold R_is at h
  split at h
  case h_2 => exact h.elim
  rename_i x
  refine does_ex (qc := qc1) (np := []) (CK := ckK [(26, cSc R_within)]) mixed Try.func25 rfl rfl Try.ntmps25 Try.results25 τ_ok (by kernel_rfl) (ckK_ok ⟨cSc_ok rIn_ok, trivial⟩) (by simp) ?_
  conv => whnf
  exact h
theorem rCheck_ok : FunR Try.prog 10 R_rcCheck := by
  intro args k h
  unfold R_rcCheck at h
  split at h
  case h_2 => exact h.elim
  obtain ⟨l, rfl, hk⟩ := h
  refine does_ex (qc := qc1) (np := []) (CK := ckK [(26, cSc R_within), (25, cSc R_is)]) mixed Try.func10 rfl rfl Try.ntmps10 Try.results10 τ_ok (by kernel_rfl) (ckK_ok ⟨cSc_ok rIn_ok, cSc_ok risday_ok, trivial⟩) (by simp) ?_
  conv => whnf
  repeat' (refine Fork.mk (fun h => ?_) (fun h => ?_) <;> first | (cases h; done) | (conv => whnf))
  · simp at h
    simpa [rcCheck, h, oneOf, nrm] using hk
  · rename_i h0
    simp at h h0
    have e : rcCheck l = 10 := by unfold rcCheck; rw [if_neg (by simpa using h0), if_pos (by omega)]
    rw [e] at hk
    exact hk
  · rename_i h0
    simp at h h0
    have e : rcCheck l = rcGo none l := by unfold rcCheck; rw [if_neg (by simpa using h0), if_neg (by omega)]
    rw [e] at hk
    refine ⟨Nat, fun i => ([(0, .c (.lst (l.map ePt))), (2, I 0), (11, .c (.lst (l.map ePt))), (12, I (l.map ePt).length), (13, I i)], ⟨[], 0, []⟩), fun i => i ≤ l.length ∧ rcGo (prev l i) (l.drop i) = rcGo none l, fun i => l.length - i, 0,
      ⟨Nat.zero_le _, rfl⟩, Shift.reset ⟨rfl, rfl, rfl, rfl, rfl, trivial⟩ trivial rfl rfl, fun i hi => ?_⟩
    obtain ⟨hi1, hi2⟩ := hi
    conv => whnf
    refine Fork.mk (fun h1 => ?_) (fun h1 => ?_)
    · have hi : i < l.length := by simpa using h1
      have hd : l.drop i = l[i] :: l.drop (i + 1) := List.drop_eq_getElem_cons hi
      rw [hd] at hi2
      conv => whnf
      refine ⟨by omega, ePt l[i], by simp [hi], rfl, ?_⟩
      generalize hp : l[i] = p at *
      conv => whnf
      repeat' (refine Fork.mk (fun h => ?_) (fun h => ?_) <;> first | (cases h; done) | (conv => whnf))
      · have hp2 : ¬ (0 ≤ p.1 ∧ p.1 ≤ 364) := by rename_i h2; simp at h2; omega
        rw [rcGo_cons, if_neg (fun h => hp2 h.1)] at hi2
        rw [← hi2] at hk
        exact hk
      · have hp2 : ¬ (0 ≤ p.2 ∧ p.2 ≤ 16777216) := by simp at h; omega
        rw [rcGo_cons, if_neg (fun h => hp2 h.2)] at hi2
        rw [← hi2] at hk
        exact hk
      · rename_i h2 h3
        have hp2 : (0 ≤ p.1 ∧ p.1 ≤ 364) ∧ (0 ≤ p.2 ∧ p.2 ≤ 16777216) := by simp at h2 h3; omega
        have hi0 : 0 < i := by simpa using h
        have hw : IntKind.i64.wrap ((i : Int) - 1) = ((i - 1 : Nat) : Int) := by rw [wrap_in (by omega) (by omega)]; omega
        have hq : prev l i = some l[i - 1] := by unfold prev; rw [if_neg (by omega)]; exact List.getElem?_eq_getElem _
        rw [rcGo_cons, if_pos hp2, hq] at hi2
        rw [hw]
        refine ⟨by omega, ePt l[i - 1], map_at ePt l (by omega), rfl, ?_⟩
        generalize hqq : l[i - 1] = q at *
        simp only at hi2
        conv => whnf
        repeat' (refine Fork.mk (fun h => ?_) (fun h => ?_) <;> first | (cases h; done) | (conv => whnf))
        · rw [if_pos (by simpa using h)] at hi2
          rw [← hi2] at hk
          exact hk
        · rw [if_neg (by simpa using h)] at hi2
          refine ⟨i + 1, ⟨hi, ?_⟩, Shift.reset ⟨rfl, rfl, rfl, rfl, ?_, trivial⟩ trivial rfl rfl, ?_⟩
          · have : prev l (i + 1) = some p := by unfold prev; rw [if_neg (by omega), ← hp]; exact List.getElem?_eq_getElem _
            rw [this]; exact hi2
          · have : IntKind.i64.wrap ((i : Int) + 1) = ((i + 1 : Nat) : Int) := by rw [wrap_in (by omega) (by omega)]; omega
            show some (I _) = _
            rw [this]
          · show l.length - (i + 1) < l.length - i
            omega
      · rename_i h2 h3 h4
        have hp2 : (0 ≤ p.1 ∧ p.1 ≤ 364) ∧ (0 ≤ p.2 ∧ p.2 ≤ 16777216) := by simp at h2 h3; omega
        have hi0 : i = 0 := by simpa using h4
        subst hi0
        rw [rcGo_cons, if_pos hp2] at hi2
        simp only [prev, if_true] at hi2
        refine ⟨1, ⟨hi, ?_⟩, Shift.reset ⟨rfl, rfl, rfl, rfl, ?_, trivial⟩ trivial rfl rfl, ?_⟩
        · have : prev l 1 = some p := by unfold prev; rw [if_neg (by omega), ← hp]; exact List.getElem?_eq_getElem _
          show rcGo (prev l 1) (l.drop 1) = _
          rw [this]; exact hi2
        · show some (I _) = _
          have : IntKind.i64.wrap (((0 : Nat) : Int) + 1) = ((0 + 1 : Nat) : Int) := by rw [wrap_in (by omega) (by omega)]; rfl
          rw [this]
        · show l.length - (0 + 1) < l.length - 0
          omega
    · have hi : i = l.length := by simp at h1; omega
      subst hi
      rw [List.drop_length] at hi2
      conv => whnf
      rw [← hi2] at hk
      exact hk

def R_highest : RT := fun args k => match args with
  | [.c (.lst es)] => ∃ l : List Pt, es = l.map ePt ∧ (rcCheck l ≠ 0 → k (.tup [I 0, I 0, I (rcCheck l)])) ∧ (rcValid l → ∀ x n, HiOf (lev l) x n → k (.tup [I x, I n, I 0]))
  | _ => False
theorem highest_ok : FunR Try.prog 14 R_highest := by
  intro args k h
  unfold R_highest at h
  split at h
  case h_2 => exact h.elim
  obtain ⟨l, rfl, hk1, hk2⟩ := h
  refine does_ex (qc := qc1) (np := []) (CK := ckK [(19, cSc R_rcCheck), (28, cSc R_level)]) mixed Try.func14 rfl rfl Try.ntmps14 Try.results14 τ_ok (by kernel_rfl) (ckK_ok ⟨cSc_ok rcCheck_ok, cSc_ok level_ok, trivial⟩) (by simp) ?_
  conv => whnf
  refine ⟨l, rfl, ?_⟩
  conv => whnf
  refine Fork.mk (fun h => ?_) (fun h => ?_)
  · have h' : rcCheck l ≠ 0 := by simpa using h
    conv => whnf
    exact hk1 h'
  · have hv : rcValid l := by simpa [rcValid] using h
    have hk := hk2 hv
    cases l with
    | nil => exact absurd rfl (rcValid_ne hv)
    | cons p r =>
      conv => whnf
      refine ⟨p, r, rfl, hv, by omega, ?_⟩
      conv => whnf
      refine ⟨Nat × Int, fun s => ([(0, .c (.lst ((p :: r).map ePt))), (6, I s.2), (7, I (rcLevel p r s.2)), (17, I s.1)], ⟨[], 0, []⟩),
        fun s => s.1 ≤ 365 ∧ 0 ≤ s.2 ∧ s.2 ≤ 364 ∧ (∀ d : Int, 0 ≤ d → d < s.1 → rcLevel p r d ≤ rcLevel p r s.2) ∧ (∀ d : Int, 0 ≤ d → d < s.2 → rcLevel p r d < rcLevel p r s.2), fun s => 365 - s.1, (0, 0),
        ⟨Nat.zero_le _, by dsimp only; omega, by dsimp only; omega, fun d h1 h2 => by dsimp only at h2; omega, fun d h1 h2 => by dsimp only at h2; omega⟩, Shift.reset ⟨rfl, rfl, rfl, rfl, trivial⟩ trivial rfl rfl, fun s hs => ?_⟩
      obtain ⟨i, b⟩ := s
      obtain ⟨h1, h2, h3, h4, h5⟩ := hs
      dsimp only at h1 h2 h3 h4 h5 ⊢
      conv => whnf
      have hw1 : IntKind.i64.wrap ((i : Int) + 1) = ((i + 1 : Nat) : Int) := by rw [wrap_in (by omega) (by omega)]; omega
      refine Fork.mk (fun h => ?_) (fun h => ?_)
      · have hi : i < 365 := by simp at h; omega
        conv => whnf
        refine ⟨p, r, rfl, hv, by omega, ?_⟩
        conv => whnf
        refine Fork.mk (fun h => ?_) (fun h => ?_)
        · have hgt : rcLevel p r b < rcLevel p r i := by simpa using h
          conv => whnf
          rw [hw1]
          refine ⟨(i + 1, (i : Int)), ⟨hi, by dsimp only; omega, by dsimp only; omega, fun d k1 k2 => ?_, fun d k1 k2 => ?_⟩, Shift.reset ⟨rfl, rfl, rfl, rfl, trivial⟩ trivial rfl rfl, ?_⟩
          · dsimp only at k2 ⊢
            by_cases hd : d < i
            · have := h4 d k1 hd; omega
            · rw [show d = i by omega]; exact Int.le_refl _
          · dsimp only at k2 ⊢
            have := h4 d k1 k2; omega
          · show 365 - (i + 1) < 365 - i
            omega
        · have hgt : rcLevel p r i ≤ rcLevel p r b := by simpa using h
          conv => whnf
          rw [hw1]
          refine ⟨(i + 1, b), ⟨hi, h2, h3, fun d k1 k2 => ?_, h5⟩, Shift.reset ⟨rfl, rfl, rfl, rfl, trivial⟩ trivial rfl rfl, ?_⟩
          · dsimp only at k2 ⊢
            by_cases hd : d < i
            · exact h4 d k1 hd
            · rw [show d = i by omega]; exact hgt
          · show 365 - (i + 1) < 365 - i
            omega
      · have hi : i = 365 := by simp at h; omega
        subst hi
        conv => whnf
        refine hk b (rcLevel p r b) ⟨⟨h2, h3⟩, (lev_eq hv h2 h3).symm, fun d k1 k2 => ?_, fun d k1 k2 => ?_⟩
        · rw [lev_eq hv k1 k2]; exact h4 d k1 (by omega)
        · rw [lev_eq hv k1 (by omega)]; exact h5 d k1 k2


end Go.Proofs
