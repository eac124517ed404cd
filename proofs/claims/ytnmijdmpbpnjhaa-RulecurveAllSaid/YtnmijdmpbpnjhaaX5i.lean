/- Proved here: what functions of the given program come to, for the statements of this chapter; no condition but those in the theorems. -/
import Derived.Test.YtnmijdmpbpnjhaaX5h
namespace Go.Proofs
open Go Go.Abs
set_option linter.unusedSimpArgs false
set_option linter.unusedVariables false
set_option maxRecDepth 4000
def tgtS (r : Rs) (c : List Pt) (x : Int) : Int × Int := if ckS r ≠ 0 then (0, ckS r) else if (rcAt c x).2 ≠ 0 then (0, (rcAt c x).2) else (valC r.st (rcAt c x).1, 0)
def surS (r : Rs) (c : List Pt) (x v : Int) : Int × Int := if (tgtS r c x).2 ≠ 0 then (0, (tgtS r c x).2) else if ¬ (0 ≤ v ∧ v ≤ 274877906944) then (0, 1) else (v - (tgtS r c x).1, 0)
def R_tgt : RT := fun args k => ∃ (r : Rs) (c : List Pt) (x : Int), args = [.agg (rsC r), .c (.lst (eP c)), I x] ∧ r.st.length ≤ 9223372036854775807 ∧ k (.tup [I (tgtS r c x).1, I (tgtS r c x).2])
def R_sur : RT := fun args k => ∃ (r : Rs) (c : List Pt) (x v : Int), args = [.agg (rsC r), .c (.lst (eP c)), I x, I v] ∧ r.st.length ≤ 9223372036854775807 ∧ k (.tup [I (surS r c x v).1, I (surS r c x v).2])
theorem kP {k : AV → Prop} {r : Int × Int} {a b : Int} (h : k (.tup [I r.1, I r.2])) (e : r = (a, b)) : k (.tup [I a, I b]) := by subst e; exact h
theorem tgt_in {r : Rs} {c : List Pt} {x : Int} (h : (tgtS r c x).2 = 0) : 0 ≤ (tgtS r c x).1 ∧ (tgtS r c x).1 ≤ 274877906944 := by
  unfold tgtS at *
  split
  · rename_i e; rw [if_pos e] at h; exact absurd h e
  · rename_i e
    rw [if_neg e] at h
    split
    · rename_i e2; rw [if_pos e2] at h; exact absurd h e2
    · exact valC_in (ckS_ok (by omega)).1 _
theorem rc_good {c : List Pt} {x : Int} (h : (rcAt c x).2 = 0) : rcValid c ∧ (0 ≤ x ∧ x ≤ 364) ∧ 0 ≤ (rcAt c x).1 ∧ (rcAt c x).1 ≤ 16777216 := by
  have h0 := h
  unfold rcAt at h
  split at h
  · rename_i e; exact absurd h e
  rename_i e
  split at h
  · rename_i e2
    have hv : rcValid c := by unfold rcValid; omega
    obtain ⟨v, e3, h1, h2, _⟩ := rcAt_in hv e2.1 e2.2
    rw [e3]
    exact ⟨hv, e2, h1, h2⟩
  · simp at h
theorem hi_one {f : Int → Int} {x n x' n' : Int} (h : HiOf f x n) (h' : HiOf f x' n') : x = x' ∧ n = n' := by
  obtain ⟨h1, h2, h3, h4⟩ := h
  obtain ⟨g1, g2, g3, g4⟩ := h'
  have a := g3 x h1.1 h1.2
  have b := h3 x' g1.1 g1.2
  have c : n = n' := by omega
  refine ⟨?_, c⟩
  rcases Int.lt_trichotomy x x' with h | h | h
  · have := g4 x h1.1 h; omega
  · exact h
  · have := h4 x' g1.1 h; omega
theorem tgt_ok : FunR Try.prog 16 R_tgt := by
  intro args k h
  obtain ⟨r, c, x, rfl, hl, hk⟩ := h
  refine does_ex (qc := qc1) (np := []) (CK := ckK [(30, cSc (R_rs ckS)), (13, cSc R_rcAt), (31, cSc R_val)]) mixed Try.func16 rfl rfl Try.ntmps16 Try.results16 τ_ok (by kernel_rfl) (ckK_ok ⟨cSc_ok ckS_ok', cSc_ok at_ok, cSc_ok val_ok, trivial⟩) (by simp) ?_
  conv => whnf
  refine ⟨r.st, rfl, hl, ?_⟩
  conv => whnf
  refine Fork.mk (fun h => ?_) (fun h => ?_)
  · have h1 : ckS r ≠ 0 := by simpa using h
    conv => whnf
    exact kP hk (by rw [tgtS, if_pos h1])
  have h1 : ckS r = 0 := by simpa using h
  conv => whnf
  refine ⟨c, rfl, ?_⟩
  conv => whnf
  refine Fork.mk (fun h => ?_) (fun h => ?_)
  · have h2 : (rcAt c x).2 ≠ 0 := by simpa using h
    conv => whnf
    exact kP hk (by rw [tgtS, if_neg (by simp [h1]), if_pos h2])
  have h2 : (rcAt c x).2 = 0 := by simpa using h
  have hg := rc_good h2
  conv => whnf
  refine ⟨r.st, rfl, (ckS_ok h1).1, ?_⟩
  conv => whnf
  exact kP hk (by rw [tgtS, if_neg (by simp [h1]), if_neg (by simp [h2])])
theorem sur_ok : FunR Try.prog 17 R_sur := by
  intro args k h
  obtain ⟨r, c, x, v, rfl, hl, hk⟩ := h
  refine does_ex (qc := qc1) (np := []) (CK := ckK [(16, cSc R_tgt), (32, cSc R_within)]) mixed Try.func17 rfl rfl Try.ntmps17 Try.results17 τ_ok (by kernel_rfl) (ckK_ok ⟨cSc_ok tgt_ok, cSc_ok within_ok, trivial⟩) (by simp) ?_
  conv => whnf
  refine ⟨r, c, x, rfl, hl, ?_⟩
  conv => whnf
  refine Fork.mk (fun h => ?_) (fun h => ?_)
  · have h1 : (tgtS r c x).2 ≠ 0 := by simpa using h
    conv => whnf
    exact kP hk (by rw [surS, if_pos h1])
  have h1 : (tgtS r c x).2 = 0 := by simpa using h
  have hin := tgt_in h1
  conv => whnf
  refine Fork.mk (fun h => ?_) (fun h => ?_)
  · have h2 : ¬ (0 ≤ v ∧ v ≤ 274877906944) := by simp at h; omega
    conv => whnf
    exact kP hk (by rw [surS, if_neg (by simp [h1]), if_pos h2])
  have h2 : 0 ≤ v ∧ v ≤ 274877906944 := by simp at h; omega
  conv => whnf
  rw [show IntKind.i64.wrap (v - (tgtS r c x).1) = v - (tgtS r c x).1 from wrap_in (by omega) (by omega)]
  exact kP hk (by rw [surS, if_neg (by simp [h1]), if_neg (by simp [h2])])
theorem hes_at {p : Pt} {r rs : List Pt} (hrs : p :: r ++ [(p.1 + 365, p.2)] = rs) {i : Nat} (hi : i < r.length + 1) : rs[i]? = (p :: r)[i]? := by
  rw [← hrs]; exact List.getElem?_append_left (by rw [List.length_cons]; omega)
theorem rdown_ok : FunR Try.prog 44 R_down := by
  intro args k h
  unfold R_down at h
  split at h
  case h_2 => exact h.elim
  rename_i a b
  obtain ⟨⟨hb, ha1, ha2⟩, hk⟩ := h
  have h3 := tdiv_in a hb ha1 ha2
  have h4 := tdiv_floor a hb
  refine does_ex (qc := qc1) (np := []) (CK := ckK []) mixed Try.func44 rfl rfl Try.ntmps44 Try.results44 τ_ok (by kernel_rfl) (ckK_ok trivial) (by simp) ?_
  conv => whnf
  refine ⟨by omega, ?_⟩
  conv => whnf
  refine ⟨by omega, ?_⟩
  conv => whnf
  rw [wrap_in (z := a.tdiv b) (by omega) (by omega)]
  refine Fork.mk (fun h => ?_) (fun h => ?_)
  · conv => whnf
    rw [wrap_in (by omega) (by omega), h4.1 (by simpa using h)]
    exact hk
  · conv => whnf
    rw [h4.2 (by simpa using h)]
    exact hk
theorem rDown_ok : FunR Try.prog 42 R_down := by
  intro args k h
  unfold R_down at h
  split at h
  case h_2 => exact h.elim
  rename_i a b
  refine does_ex (qc := qc1) (np := []) (CK := ckK [(44, cSc R_down)]) mixed Try.func42 rfl rfl Try.ntmps42 Try.results42 τ_ok (by kernel_rfl) (ckK_ok ⟨cSc_ok rdown_ok, trivial⟩) (by simp) ?_
  conv => whnf
  refine ⟨h.1, ?_⟩
  conv => whnf
  exact h.2
theorem rlevel_ok : FunR Try.prog 35 R_level := by
  intro args k h
  unfold R_level at h
  split at h
  case h_2 => exact h.elim
  rename_i day
  obtain ⟨p, r, rfl, hv, hday, hk⟩ := h
  obtain ⟨hlen, hpts⟩ := rcValid_pts hv
  have hp := hpts p (by simp)
  have hl2 : r.length ≤ 99 := by simp at hlen; omega
  have hn : (List.map ePt (p :: r)).length = r.length + 1 := by simp
  refine does_ex (qc := qc1) (np := [(7, [(2, 11), (2, 12), (3, 11), (3, 12), (9, 11), (9, 12), (9, 13), (10, 11), (10, 12), (10, 13), (11, 12)])]) (CK := ckK [(42, cSc R_down)]) mixed Try.func35 rfl rfl Try.ntmps35 Try.results35 τ_ok (by kernel_rfl) (ckK_ok ⟨cSc_ok rDown_ok, trivial⟩) (by simp) ?_
  conv => whnf
  refine ⟨by omega, ePt p, rfl, rfl, ?_⟩
  conv => whnf
  have harm : ∀ d, (if day < p.1 then day + 365 else day) = d → k (I ((lv d p (r ++ [(p.1 + 365, p.2)])).getD p.2)) := fun d hd => by rw [← hd]; exact hk
  have hb : ∀ d, (if day < p.1 then day + 365 else day) = d → p.1 ≤ d ∧ d < p.1 + 365 := fun d hd => by rw [← hd]; split <;> omega
  refine Fork.mk (fun h => ?_) (fun h => ?_)
  · have hd : (if day < p.1 then day + 365 else day) = day + 365 := if_pos (by simpa using h)
    conv => whnf
    rw [show IntKind.i64.wrap (day + 365) = day + 365 from wrap_in (by omega) (by omega)]
    have hk2 := harm _ hd
    have hb2 := hb _ hd
    clear hd harm hk hb h
    generalize day + 365 = d at *
    obtain ⟨rs, hrs⟩ : ∃ rs, p :: r ++ [(p.1 + 365, p.2)] = rs := ⟨_, rfl⟩
    obtain ⟨hr1, hr2⟩ := ring_facts hv hrs
    have hrl : rs.length = r.length + 2 := by rw [← hrs]; simp
    refine ⟨Nat, fun i => ([(0, .c (.lst ((p :: r).map ePt))), (1, I d), (5, I (r.length + 1 : Nat)), (20, I (r.length + 1 : Nat)), (21, I i)], ⟨[], 5, []⟩),
      fun i => i ≤ r.length + 1 ∧ ∀ a, rs[i]? = some a → a.1 ≤ d ∧ lv d a (rs.drop (i + 1)) = lv d p (r ++ [(p.1 + 365, p.2)]), fun i => r.length + 1 - i, 0, ⟨Nat.zero_le _, fun a ha => ?_⟩, Shift.reset ⟨rfl, rfl, by rw [← hn]; rfl, by rw [← hn]; rfl, rfl, trivial⟩ trivial rfl rfl, fun i hi => ?_⟩
    · rw [← hrs] at ha ⊢
      simp at ha
      subst ha
      exact ⟨hb2.1, rfl⟩
    obtain ⟨hi1, hi2⟩ := hi
    dsimp only
    conv => whnf
    refine Fork.mk (fun h => ?_) (fun h => ?_)
    rotate_left
    · exfalso
      have hie : i = r.length + 1 := by simp at h; omega
      subst hie
      obtain ⟨h1, _⟩ := hi2 (p.1 + 365, p.2) (by rw [← hrs]; simp)
      dsimp only at h1
      omega
    have hi : i < r.length + 1 := by simp at h; omega
    clear h
    have hla : i < (p :: r).length := by simp; omega
    have hca := List.getElem?_eq_getElem hla
    generalize (p :: r)[i] = a at hca
    have hra : rs[i]? = some a := by rw [hes_at hrs hi]; exact hca
    obtain ⟨ha1, hi3⟩ := hi2 a hra
    have ha2 := hr1 a (List.mem_of_getElem? hra)
    have hqe := List.getElem?_eq_getElem (show i + 1 < rs.length by omega)
    have haq : a.1 < rs[i + 1].1 := by
      have h1 := List.pairwise_iff_getElem.1 hr2 i (i + 1) (by omega) (by omega) (by omega)
      rw [List.getElem?_eq_getElem (show i < rs.length by omega)] at hra
      simp at hra
      rw [hra] at h1
      exact h1
    have hq1 := hr1 rs[i + 1] (List.getElem_mem _)
    have hdr : rs.drop (i + 1) = rs[i + 1] :: rs.drop (i + 2) := List.drop_eq_getElem_cons (by omega : i + 1 < rs.length)
    rw [hdr, lv] at hi3
    have hw1 := wr_succ (i := i) (by omega)
    have hw2 : IntKind.i64.wrap (((r.length + 1 : Nat) : Int) - 1) = (r.length : Int) := by rw [wrap_in (by omega) (by omega)]; omega
    generalize hq : rs[i + 1] = q at *
    conv => whnf
    refine ⟨by omega, ePt a, by rw [Int.toNat_natCast]; exact eP_at (p :: r) hca, rfl, ?_⟩
    conv => whnf
    rw [hw1]
    refine ⟨by omega, ?_⟩
    conv => whnf
    by_cases hlast : i = r.length
    · have hqp : q = (p.1 + 365, p.2) := by
        rw [← hrs, hlast] at hqe
        simp at hqe
        exact hqe.symm
      have hz : ((i + 1 : Nat) : Int).tmod ((r.length + 1 : Nat) : Int) = ((0 : Nat) : Int) := by rw [hlast]; exact Int.tmod_self
      rw [hz]
      refine ⟨by simp, ePt p, rfl, rfl, ?_⟩
      conv => whnf
      rw [hw2]
      subst hqp
      dsimp only at *
      refine Fork.mk (fun h => ?_) (fun h => ?_)
      rotate_left
      · exfalso; simp at h; omega
      conv => whnf
      rw [show IntKind.i64.wrap (p.1 + 365) = p.1 + 365 from wrap_in (by omega) (by omega)]
      refine Fork.mk (fun h => ?_) (fun h => ?_)
      rotate_left
      · exfalso; simp at h; omega
      conv => whnf
      refine Fork.mk (fun h => ?_) (fun h => ?_)
      rotate_left
      · exfalso; simp at h; omega
      have hlt : d < p.1 + 365 := by simpa using h
      conv => whnf
      have e1 : IntKind.i64.wrap (p.2 - a.2) = p.2 - a.2 := wrap_in (by omega) (by omega)
      have e2 : IntKind.i64.wrap (d - a.1) = d - a.1 := wrap_in (by omega) (by omega)
      have e3 : IntKind.i64.wrap ((p.1 + 365) - a.1) = (p.1 + 365) - a.1 := wrap_in (by omega) (by omega)
      have hm := mul_in (a := p.2 - a.2) (b := d - a.1) (A := 16777216) (B := 729) (by omega) (by omega) (by omega) (by omega)
      have e4 : IntKind.i64.wrap ((p.2 - a.2) * (d - a.1)) = (p.2 - a.2) * (d - a.1) := wrap_in (by omega) (by omega)
      rw [e1, e2, e3, e4]
      refine ⟨⟨by omega, by omega, by omega⟩, ?_⟩
      conv => whnf
      have hv1 : -12230590464 ≤ (p.2 - a.2) * (d - a.1) / ((p.1 + 365) - a.1) := Int.le_ediv_of_mul_le (by omega) (by omega)
      have hv2 : (p.2 - a.2) * (d - a.1) / ((p.1 + 365) - a.1) ≤ 12230590464 := Int.ediv_le_of_le_mul (by omega) (by omega)
      rw [if_pos hlt] at hi3
      rw [← hi3] at hk2
      rw [wrap_in (by omega) (by omega)]
      exact hk2
    have hq0 : (p :: r)[i + 1]? = some q := by rw [← hes_at hrs (show i + 1 < r.length + 1 by omega)]; exact hqe
    have hz : ((i + 1 : Nat) : Int).tmod ((r.length + 1 : Nat) : Int) = ((i + 1 : Nat) : Int) := by rw [Int.tmod_eq_emod_of_nonneg (by omega)]; exact Int.emod_eq_of_lt (by omega) (by omega)
    rw [hz]
    refine ⟨by omega, ePt q, by rw [Int.toNat_natCast]; exact eP_at (p :: r) hq0, rfl, ?_⟩
    conv => whnf
    rw [hw2]
    refine Fork.mk (fun h => ?_) (fun h => ?_)
    · exfalso; simp at h; omega
    conv => whnf
    refine Fork.mk (fun h => ?_) (fun h => ?_)
    rotate_left
    · exfalso; simp at h; omega
    conv => whnf
    refine Fork.mk (fun h => ?_) (fun h => ?_)
    · have hlt : d < q.1 := by simpa using h
      conv => whnf
      have e1 : IntKind.i64.wrap (q.2 - a.2) = q.2 - a.2 := wrap_in (by omega) (by omega)
      have e2 : IntKind.i64.wrap (d - a.1) = d - a.1 := wrap_in (by omega) (by omega)
      have e3 : IntKind.i64.wrap (q.1 - a.1) = q.1 - a.1 := wrap_in (by omega) (by omega)
      have hm := mul_in (a := q.2 - a.2) (b := d - a.1) (A := 16777216) (B := 729) (by omega) (by omega) (by omega) (by omega)
      have e4 : IntKind.i64.wrap ((q.2 - a.2) * (d - a.1)) = (q.2 - a.2) * (d - a.1) := wrap_in (by omega) (by omega)
      rw [e1, e2, e3, e4]
      refine ⟨⟨by omega, by omega, by omega⟩, ?_⟩
      conv => whnf
      have hv1 : -12230590464 ≤ (q.2 - a.2) * (d - a.1) / (q.1 - a.1) := Int.le_ediv_of_mul_le (by omega) (by omega)
      have hv2 : (q.2 - a.2) * (d - a.1) / (q.1 - a.1) ≤ 12230590464 := Int.ediv_le_of_le_mul (by omega) (by omega)
      rw [if_pos hlt] at hi3
      rw [← hi3] at hk2
      rw [wrap_in (by omega) (by omega)]
      exact hk2
    have hlt : ¬ d < q.1 := by simpa using h
    rw [if_neg hlt] at hi3
    conv => whnf
    rw [hw1]
    refine ⟨i + 1, ⟨hi, fun b hbb => ?_⟩, Shift.reset ⟨rfl, rfl, rfl, rfl, rfl, trivial⟩ trivial rfl rfl, ?_⟩
    · rw [hqe] at hbb
      cases hbb
      exact ⟨by omega, hi3⟩
    · show r.length + 1 - (i + 1) < r.length + 1 - i
      omega
  · have hd : (if day < p.1 then day + 365 else day) = day := if_neg (by simpa using h)
    conv => whnf
    have hk2 := harm _ hd
    have hb2 := hb _ hd
    clear hd harm hk hb h
    generalize day = d at *
    obtain ⟨rs, hrs⟩ : ∃ rs, p :: r ++ [(p.1 + 365, p.2)] = rs := ⟨_, rfl⟩
    obtain ⟨hr1, hr2⟩ := ring_facts hv hrs
    have hrl : rs.length = r.length + 2 := by rw [← hrs]; simp
    refine ⟨Nat, fun i => ([(0, .c (.lst ((p :: r).map ePt))), (1, I d), (5, I (r.length + 1 : Nat)), (20, I (r.length + 1 : Nat)), (21, I i)], ⟨[], 5, []⟩),
      fun i => i ≤ r.length + 1 ∧ ∀ a, rs[i]? = some a → a.1 ≤ d ∧ lv d a (rs.drop (i + 1)) = lv d p (r ++ [(p.1 + 365, p.2)]), fun i => r.length + 1 - i, 0, ⟨Nat.zero_le _, fun a ha => ?_⟩, Shift.reset ⟨rfl, rfl, by rw [← hn]; rfl, by rw [← hn]; rfl, rfl, trivial⟩ trivial rfl rfl, fun i hi => ?_⟩
    · rw [← hrs] at ha ⊢
      simp at ha
      subst ha
      exact ⟨hb2.1, rfl⟩
    obtain ⟨hi1, hi2⟩ := hi
    dsimp only
    conv => whnf
    refine Fork.mk (fun h => ?_) (fun h => ?_)
    rotate_left
    · exfalso
      have hie : i = r.length + 1 := by simp at h; omega
      subst hie
      obtain ⟨h1, _⟩ := hi2 (p.1 + 365, p.2) (by rw [← hrs]; simp)
      dsimp only at h1
      omega
    have hi : i < r.length + 1 := by simp at h; omega
    clear h
    have hla : i < (p :: r).length := by simp; omega
    have hca := List.getElem?_eq_getElem hla
    generalize (p :: r)[i] = a at hca
    have hra : rs[i]? = some a := by rw [hes_at hrs hi]; exact hca
    obtain ⟨ha1, hi3⟩ := hi2 a hra
    have ha2 := hr1 a (List.mem_of_getElem? hra)
    have hqe := List.getElem?_eq_getElem (show i + 1 < rs.length by omega)
    have haq : a.1 < rs[i + 1].1 := by
      have h1 := List.pairwise_iff_getElem.1 hr2 i (i + 1) (by omega) (by omega) (by omega)
      rw [List.getElem?_eq_getElem (show i < rs.length by omega)] at hra
      simp at hra
      rw [hra] at h1
      exact h1
    have hq1 := hr1 rs[i + 1] (List.getElem_mem _)
    have hdr : rs.drop (i + 1) = rs[i + 1] :: rs.drop (i + 2) := List.drop_eq_getElem_cons (by omega : i + 1 < rs.length)
    rw [hdr, lv] at hi3
    have hw1 := wr_succ (i := i) (by omega)
    have hw2 : IntKind.i64.wrap (((r.length + 1 : Nat) : Int) - 1) = (r.length : Int) := by rw [wrap_in (by omega) (by omega)]; omega
    generalize hq : rs[i + 1] = q at *
    conv => whnf
    refine ⟨by omega, ePt a, by rw [Int.toNat_natCast]; exact eP_at (p :: r) hca, rfl, ?_⟩
    conv => whnf
    rw [hw1]
    refine ⟨by omega, ?_⟩
    conv => whnf
    by_cases hlast : i = r.length
    · have hqp : q = (p.1 + 365, p.2) := by
        rw [← hrs, hlast] at hqe
        simp at hqe
        exact hqe.symm
      have hz : ((i + 1 : Nat) : Int).tmod ((r.length + 1 : Nat) : Int) = ((0 : Nat) : Int) := by rw [hlast]; exact Int.tmod_self
      rw [hz]
      refine ⟨by simp, ePt p, rfl, rfl, ?_⟩
      conv => whnf
      rw [hw2]
      subst hqp
      dsimp only at *
      refine Fork.mk (fun h => ?_) (fun h => ?_)
      rotate_left
      · exfalso; simp at h; omega
      conv => whnf
      rw [show IntKind.i64.wrap (p.1 + 365) = p.1 + 365 from wrap_in (by omega) (by omega)]
      refine Fork.mk (fun h => ?_) (fun h => ?_)
      rotate_left
      · exfalso; simp at h; omega
      conv => whnf
      refine Fork.mk (fun h => ?_) (fun h => ?_)
      rotate_left
      · exfalso; simp at h; omega
      have hlt : d < p.1 + 365 := by simpa using h
      conv => whnf
      have e1 : IntKind.i64.wrap (p.2 - a.2) = p.2 - a.2 := wrap_in (by omega) (by omega)
      have e2 : IntKind.i64.wrap (d - a.1) = d - a.1 := wrap_in (by omega) (by omega)
      have e3 : IntKind.i64.wrap ((p.1 + 365) - a.1) = (p.1 + 365) - a.1 := wrap_in (by omega) (by omega)
      have hm := mul_in (a := p.2 - a.2) (b := d - a.1) (A := 16777216) (B := 729) (by omega) (by omega) (by omega) (by omega)
      have e4 : IntKind.i64.wrap ((p.2 - a.2) * (d - a.1)) = (p.2 - a.2) * (d - a.1) := wrap_in (by omega) (by omega)
      rw [e1, e2, e3, e4]
      refine ⟨⟨by omega, by omega, by omega⟩, ?_⟩
      conv => whnf
      have hv1 : -12230590464 ≤ (p.2 - a.2) * (d - a.1) / ((p.1 + 365) - a.1) := Int.le_ediv_of_mul_le (by omega) (by omega)
      have hv2 : (p.2 - a.2) * (d - a.1) / ((p.1 + 365) - a.1) ≤ 12230590464 := Int.ediv_le_of_le_mul (by omega) (by omega)
      rw [if_pos hlt] at hi3
      rw [← hi3] at hk2
      rw [wrap_in (by omega) (by omega)]
      exact hk2
    have hq0 : (p :: r)[i + 1]? = some q := by rw [← hes_at hrs (show i + 1 < r.length + 1 by omega)]; exact hqe
    have hz : ((i + 1 : Nat) : Int).tmod ((r.length + 1 : Nat) : Int) = ((i + 1 : Nat) : Int) := by rw [Int.tmod_eq_emod_of_nonneg (by omega)]; exact Int.emod_eq_of_lt (by omega) (by omega)
    rw [hz]
    refine ⟨by omega, ePt q, by rw [Int.toNat_natCast]; exact eP_at (p :: r) hq0, rfl, ?_⟩
    conv => whnf
    rw [hw2]
    refine Fork.mk (fun h => ?_) (fun h => ?_)
    · exfalso; simp at h; omega
    conv => whnf
    refine Fork.mk (fun h => ?_) (fun h => ?_)
    rotate_left
    · exfalso; simp at h; omega
    conv => whnf
    refine Fork.mk (fun h => ?_) (fun h => ?_)
    · have hlt : d < q.1 := by simpa using h
      conv => whnf
      have e1 : IntKind.i64.wrap (q.2 - a.2) = q.2 - a.2 := wrap_in (by omega) (by omega)
      have e2 : IntKind.i64.wrap (d - a.1) = d - a.1 := wrap_in (by omega) (by omega)
      have e3 : IntKind.i64.wrap (q.1 - a.1) = q.1 - a.1 := wrap_in (by omega) (by omega)
      have hm := mul_in (a := q.2 - a.2) (b := d - a.1) (A := 16777216) (B := 729) (by omega) (by omega) (by omega) (by omega)
      have e4 : IntKind.i64.wrap ((q.2 - a.2) * (d - a.1)) = (q.2 - a.2) * (d - a.1) := wrap_in (by omega) (by omega)
      rw [e1, e2, e3, e4]
      refine ⟨⟨by omega, by omega, by omega⟩, ?_⟩
      conv => whnf
      have hv1 : -12230590464 ≤ (q.2 - a.2) * (d - a.1) / (q.1 - a.1) := Int.le_ediv_of_mul_le (by omega) (by omega)
      have hv2 : (q.2 - a.2) * (d - a.1) / (q.1 - a.1) ≤ 12230590464 := Int.ediv_le_of_le_mul (by omega) (by omega)
      rw [if_pos hlt] at hi3
      rw [← hi3] at hk2
      rw [wrap_in (by omega) (by omega)]
      exact hk2
    have hlt : ¬ d < q.1 := by simpa using h
    rw [if_neg hlt] at hi3
    conv => whnf
    rw [hw1]
    refine ⟨i + 1, ⟨hi, fun b hbb => ?_⟩, Shift.reset ⟨rfl, rfl, rfl, rfl, rfl, trivial⟩ trivial rfl rfl, ?_⟩
    · rw [hqe] at hbb
      cases hbb
      exact ⟨by omega, hi3⟩
    · show r.length + 1 - (i + 1) < r.length + 1 - i
      omega
theorem rAtR_ok : FunR Try.prog 22 R_rcAt := by
  intro args k h
  unfold R_rcAt at h
  split at h
  case h_2 => exact h.elim
  rename_i day
  obtain ⟨l, rfl, hk⟩ := h
  refine does_ex (qc := qc1) (np := []) (CK := ckK [(10, cSc R_rcCheck), (25, cSc R_is), (35, cSc R_level)]) mixed Try.func22 rfl rfl Try.ntmps22 Try.results22 τ_ok (by kernel_rfl) (ckK_ok ⟨cSc_ok rCheck_ok, cSc_ok risday_ok, cSc_ok rlevel_ok, trivial⟩) (by simp) ?_
  conv => whnf
  refine ⟨l, rfl, ?_⟩
  conv => whnf
  refine Fork.mk (fun h => ?_) (fun h => ?_)
  · have h' : rcCheck l ≠ 0 := by simpa using h
    conv => whnf
    exact kP hk (by simp [rcAt, h'])
  · have h' : rcCheck l = 0 := by simpa using h
    conv => whnf
    refine Fork.mk (fun h2 => ?_) (fun h2 => ?_)
    · conv => whnf
      simp at h2
      exact kP hk (by simp [rcAt, h']; omega)
    · simp at h2
      cases l with
      | nil => simp [rcCheck] at h'
      | cons p r =>
        conv => whnf
        refine ⟨p, r, rfl, h', by omega, ?_⟩
        conv => whnf
        exact kP hk (by simp [rcAt, h']; omega)
theorem rtgt_ok : FunR Try.prog 23 R_tgt := by
  intro args k h
  obtain ⟨r, c, x, rfl, hl, hk⟩ := h
  refine does_ex (qc := qc1) (np := []) (CK := ckK [(36, cSc (R_rs ckS)), (22, cSc R_rcAt), (18, cSc (R_rs1 volS))]) mixed Try.func23 rfl rfl Try.ntmps23 Try.results23 τ_ok (by kernel_rfl) (ckK_ok ⟨cSc_ok rckS_ok, cSc_ok rAtR_ok, cSc_ok rvolS_ok, trivial⟩) (by simp) ?_
  conv => whnf
  refine ⟨r.st, rfl, hl, ?_⟩
  conv => whnf
  refine Fork.mk (fun h => ?_) (fun h => ?_)
  · have h1 : ckS r ≠ 0 := by simpa using h
    conv => whnf
    exact kP hk (by rw [tgtS, if_pos h1])
  have h1 : ckS r = 0 := by simpa using h
  conv => whnf
  refine ⟨c, rfl, ?_⟩
  conv => whnf
  refine Fork.mk (fun h => ?_) (fun h => ?_)
  · have h2 : (rcAt c x).2 ≠ 0 := by simpa using h
    conv => whnf
    exact kP hk (by rw [tgtS, if_neg (by simp [h1]), if_pos h2])
  have h2 : (rcAt c x).2 = 0 := by simpa using h
  have hg := rc_good h2
  conv => whnf
  refine ⟨r.st, rfl, hl, ?_⟩
  rw [volS_of h1 hg.2.2]
  conv => whnf
  exact kP hk (by rw [tgtS, if_neg (by simp [h1]), if_neg (by simp [h2])])
theorem rsur_ok : FunR Try.prog 24 R_sur := by
  intro args k h
  obtain ⟨r, c, x, v, rfl, hl, hk⟩ := h
  refine does_ex (qc := qc1) (np := []) (CK := ckK [(23, cSc R_tgt), (26, cSc R_within)]) mixed Try.func24 rfl rfl Try.ntmps24 Try.results24 τ_ok (by kernel_rfl) (ckK_ok ⟨cSc_ok rtgt_ok, cSc_ok rIn_ok, trivial⟩) (by simp) ?_
  conv => whnf
  refine ⟨r, c, x, rfl, hl, ?_⟩
  conv => whnf
  refine Fork.mk (fun h => ?_) (fun h => ?_)
  · have h1 : (tgtS r c x).2 ≠ 0 := by simpa using h
    conv => whnf
    exact kP hk (by rw [surS, if_pos h1])
  have h1 : (tgtS r c x).2 = 0 := by simpa using h
  have hin := tgt_in h1
  conv => whnf
  refine Fork.mk (fun h => ?_) (fun h => ?_)
  · have h2 : ¬ (0 ≤ v ∧ v ≤ 274877906944) := by simp at h; omega
    conv => whnf
    exact kP hk (by rw [surS, if_neg (by simp [h1]), if_pos h2])
  have h2 : 0 ≤ v ∧ v ≤ 274877906944 := by simp at h; omega
  conv => whnf
  rw [show IntKind.i64.wrap (v - (tgtS r c x).1) = v - (tgtS r c x).1 from wrap_in (by omega) (by omega)]
  exact kP hk (by rw [surS, if_neg (by simp [h1]), if_neg (by simp [h2])])
theorem rhighest_ok : FunR Try.prog 20 R_highest := by
  intro args k h
  unfold R_highest at h
  split at h
  case h_2 => exact h.elim
  obtain ⟨l, rfl, hk1, hk2⟩ := h
  refine does_ex (qc := qc1) (np := []) (CK := ckK [(10, cSc R_rcCheck), (35, cSc R_level)]) mixed Try.func20 rfl rfl Try.ntmps20 Try.results20 τ_ok (by kernel_rfl) (ckK_ok ⟨cSc_ok rCheck_ok, cSc_ok rlevel_ok, trivial⟩) (by simp) ?_
  conv => whnf
  refine ⟨l, rfl, ?_⟩
  conv => whnf
  refine Fork.mk (fun h => ?_) (fun h => ?_)
  · have h' : rcCheck l ≠ 0 := by simpa using h
    conv => whnf
    exact hk1 h'
  have hv : rcValid l := by simpa [rcValid] using h
  have hk := hk2 hv
  cases l with
  | nil => exact absurd rfl (rcValid_ne hv)
  | cons p r =>
    conv => whnf
    refine ⟨Nat × Int, fun s => ([(0, .c (.lst ((p :: r).map ePt))), (6, I s.2), (13, I s.1)], ⟨[], 0, []⟩),
      fun s => s.1 ≤ 365 ∧ 0 ≤ s.2 ∧ s.2 ≤ 364 ∧ (∀ d : Int, 0 ≤ d → d < s.1 → rcLevel p r d ≤ rcLevel p r s.2) ∧ (∀ d : Int, 0 ≤ d → d < s.2 → rcLevel p r d < rcLevel p r s.2), fun s => 365 - s.1, (0, 0),
      ⟨Nat.zero_le _, by dsimp only; omega, by dsimp only; omega, fun d h1 h2 => by dsimp only at h2; omega, fun d h1 h2 => by dsimp only at h2; omega⟩, Shift.reset ⟨rfl, rfl, rfl, trivial⟩ trivial rfl rfl, fun s hs => ?_⟩
    obtain ⟨i, b⟩ := s
    obtain ⟨h1, h2, h3, h4, h5⟩ := hs
    dsimp only at h1 h2 h3 h4 h5 ⊢
    conv => whnf
    have hw1 : IntKind.i64.wrap ((i : Int) + 1) = ((i + 1 : Nat) : Int) := by rw [wrap_in (by omega) (by omega)]; omega
    refine Fork.mk (fun h => ?_) (fun h => ?_)
    · have hi : i < 365 := by simp at h; omega
      conv => whnf
      refine ⟨p, r, rfl, hv, by omega, ?_⟩
      conv => whnf
      refine ⟨p, r, rfl, hv, by omega, ?_⟩
      conv => whnf
      refine Fork.mk (fun h => ?_) (fun h => ?_)
      · have hgt : rcLevel p r b < rcLevel p r i := by simpa using h
        conv => whnf
        rw [hw1]
        refine ⟨(i + 1, (i : Int)), ⟨hi, by dsimp only; omega, by dsimp only; omega, fun d k1 k2 => ?_, fun d k1 k2 => ?_⟩, Shift.reset ⟨rfl, rfl, rfl, trivial⟩ trivial rfl rfl, ?_⟩
        · dsimp only at k2 ⊢
          by_cases hd : d < i
          · have := h4 d k1 hd; omega
          · rw [show d = i by omega]; exact Int.le_refl _
        · dsimp only at k2 ⊢
          have := h4 d k1 k2; omega
        · show 365 - (i + 1) < 365 - i
          omega
      · have hgt : rcLevel p r i ≤ rcLevel p r b := by simpa using h
        conv => whnf
        rw [hw1]
        refine ⟨(i + 1, b), ⟨hi, h2, h3, fun d k1 k2 => ?_, h5⟩, Shift.reset ⟨rfl, rfl, rfl, trivial⟩ trivial rfl rfl, ?_⟩
        · dsimp only at k2 ⊢
          by_cases hd : d < i
          · exact h4 d k1 hd
          · rw [show d = i by omega]; exact hgt
        · show 365 - (i + 1) < 365 - i
          omega
    · have hi : i = 365 := by simp at h; omega
      subst hi
      conv => whnf
      refine ⟨p, r, rfl, hv, by omega, ?_⟩
      conv => whnf
      refine hk b (rcLevel p r b) ⟨⟨h2, h3⟩, (lev_eq hv h2 h3).symm, fun d k1 k2 => ?_, fun d k1 k2 => ?_⟩
      · rw [lev_eq hv k1 k2]; exact h4 d k1 (by omega)
      · rw [lev_eq hv k1 (by omega)]; exact h5 d k1 k2
end Go.Proofs
