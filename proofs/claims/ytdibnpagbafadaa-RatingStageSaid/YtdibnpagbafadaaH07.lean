/- Proved here: what functions of the given program come to, for the statements of this chapter; no condition but those in the theorems. -/
import Derived.Test.YtdibnpagbafadaaE07
import Derived.Test.YtdibnpagbafadaaPFirst
namespace Go.Proofs
open Go Go.Abs
set_option linter.unusedSimpArgs false
set_option linter.unusedVariables false
set_option maxRecDepth 4000
theorem first_ok' : FunR Try.prog 22 R_first := by
  intro args k h
  unfold R_first at h
  split at h
  case h_2 => exact h.elim
  rename_i y
  obtain ⟨c, rfl, hl, hk⟩ := h
  refine does_ex (qc := qc1) (np := []) (CK := ckK [(26, cSc R_ckC)]) mixed Try.func22 rfl rfl Try.ntmps22 Try.results22 τ_ok (by kernel_rfl) (ckK_ok ⟨cSc_ok ckC_ok', trivial⟩) (by simp) ?_
  conv => whnf
  refine ⟨c, rfl, hl, ?_⟩
  conv => whnf
  refine Fork.mk (fun h => ?_) (fun h => ?_)
  · have h1 : ckC c ≠ 0 := by simpa using h
    rw [show firstV c y = (0, false, ckC c) from if_pos h1] at hk
    conv => whnf
    exact hk
  have h1 : ckC c = 0 := by simpa using h
  obtain ⟨hc0, hcl⟩ := ckC_ne h1
  cases c with
  | nil => exact absurd rfl hc0
  | cons p r =>
  have hlv : firstV (p :: r) y = if y ≤ p.2 then (p.1, true, 0) else if (endP p r).2 < y then (0, false, 0) else (fGo p r y, true, 0) := by unfold firstV; rw [if_neg (by rw [h1]; simp)]
  have hgo := (ckC_cons.1 h1).2.2
  have hpo := (ckC_cons.1 h1).2.1
  rw [hlv] at hk
  have hcl : r.length ≤ 99 := by simpa using hcl
  conv => whnf
  refine ⟨by simp, ePt p, rfl, rfl, ?_⟩
  conv => whnf
  refine Fork.mk (fun h => ?_) (fun h => ?_)
  · have h2 : y ≤ p.2 := by simpa using h
    rw [if_pos h2] at hk
    conv => whnf
    refine ⟨by simp, ePt p, rfl, rfl, ?_⟩
    conv => whnf
    exact hk
  have h2 : ¬ y ≤ p.2 := by simpa using h
  rw [if_neg h2] at hk
  conv => whnf
  refine ⟨by simp; omega, ?_⟩
  conv => whnf
  refine ⟨eP_all (p :: r), ?_⟩
  rw [show List.drop (Int.toNat 1) (List.take (((eP (p :: r)).length : Int)).toNat (eP (p :: r))) = eP r by rw [Int.toNat_natCast, List.take_length]; rfl]
  conv => whnf
  refine ⟨Nat, fun i => ([(0, .c (.lst (eP (p :: r)))), (1, I y), (27, .c (.lst (eP r))), (28, I (eP r).length), (29, I i)], ⟨[], 5, []⟩),
    fun i => i ≤ r.length ∧ ∃ q, (p :: r)[i]? = some q ∧ q.2 < y ∧ okPt q = true ∧ ckGo q (r.drop i) = 0 ∧ fGo p r y = fGo q (r.drop i) y ∧ endP p r = endP q (r.drop i), fun i => r.length - i, 0, ⟨Nat.zero_le _, p, rfl, by omega, hpo, hgo, rfl, rfl⟩,
    Shift.reset ⟨rfl, rfl, rfl, rfl, rfl, trivial⟩ trivial rfl rfl, fun i hi => ?_⟩
  obtain ⟨hi1, q, hq, hqy, hqo, hqc, hqe, hqn⟩ := hi
  have hq' := okPt_in hqo
  dsimp only
  conv => whnf
  refine Fork.mk (fun h => ?_) (fun h => ?_)
  · have hi : i < r.length := by simp at h; omega
    have hci := List.getElem?_eq_getElem hi
    generalize r[i] = a at hci
    have hdr := drop_of hci
    rw [hdr] at hqc hqe hqn
    obtain ⟨c1, c2, c3, c4, c5⟩ := ckGo_cons.1 hqc
    have ha' := okPt_in c1
    have hw1 := wr_succ (i := i) (by omega)
    conv => whnf
    refine ⟨by simp <;> omega, ePt a, by rw [Int.toNat_natCast]; exact eP_at r hci, rfl, ?_⟩
    conv => whnf
    refine ⟨by simp <;> omega, ePt q, by rw [Int.toNat_natCast]; exact eP_at (p :: r) hq, rfl, ?_⟩
    conv => whnf
    refine Fork.mk (fun h => ?_) (fun h => ?_)
    · have h3 : y ≤ a.2 := by simpa using h
      have hen : a.2 ≤ (endP p r).2 := by rw [hqn]; exact ck_end2 c5
      rw [if_neg (by omega), hqe, show fGo q (a :: r.drop (i + 1)) y = _ from if_pos h3] at hk
      obtain ⟨s1, s2, s3, s4⟩ := seg_f c2 (show q.2 < a.2 by omega) (show q.2 ≤ y by omega) h3
      conv => whnf
      rw [show IntKind.i64.wrap (y - q.2) = y - q.2 from wrap_in (by omega) (by omega), show IntKind.i64.wrap (a.1 - q.1) = a.1 - q.1 from wrap_in (by omega) (by omega), show IntKind.i64.wrap (a.2 - q.2) = a.2 - q.2 from wrap_in (by omega) (by omega)]
      rw [show IntKind.i64.wrap ((y - q.2) * (a.1 - q.1)) = (y - q.2) * (a.1 - q.1) from wrap_in (by omega) (by omega)]
      rw [show IntKind.i64.wrap ((y - q.2) * (a.1 - q.1) + (a.2 - q.2)) = (y - q.2) * (a.1 - q.1) + (a.2 - q.2) from wrap_in (by omega) (by omega)]
      rw [show IntKind.i64.wrap ((y - q.2) * (a.1 - q.1) + (a.2 - q.2) - 1) = (y - q.2) * (a.1 - q.1) + (a.2 - q.2) - 1 from wrap_in (by omega) (by omega)]
      refine ⟨by omega, ?_⟩
      conv => whnf
      rw [show IntKind.i64.wrap (((y - q.2) * (a.1 - q.1) + (a.2 - q.2) - 1).tdiv (a.2 - q.2)) = ((y - q.2) * (a.1 - q.1) + (a.2 - q.2) - 1) / (a.2 - q.2) by rw [Int.tdiv_eq_ediv_of_nonneg (by omega)]; exact wrap_in (by omega) (by omega)]
      rw [show IntKind.i64.wrap (q.1 + ((y - q.2) * (a.1 - q.1) + (a.2 - q.2) - 1) / (a.2 - q.2)) = q.1 + ((y - q.2) * (a.1 - q.1) + (a.2 - q.2) - 1) / (a.2 - q.2) from wrap_in (by omega) (by omega)]
      exact hk
    have h3 : ¬ y ≤ a.2 := by simpa using h
    conv => whnf
    rw [hw1]
    refine ⟨i + 1, ⟨hi, a, by simpa using hci, by omega, c1, c5, by rw [hqe]; exact if_neg h3, hqn⟩, Shift.reset ⟨rfl, rfl, rfl, rfl, rfl, trivial⟩ trivial rfl rfl, ?_⟩
    show r.length - (i + 1) < r.length - i
    omega
  · have hie : i = r.length := by simp at h; omega
    subst hie
    rw [List.drop_length] at hqn
    rw [if_pos (by rw [hqn]; exact hqy)] at hk
    conv => whnf
    exact hk
theorem stage_ok : FunR Try.prog 13 R_stage := by
  intro args k h
  unfold R_stage at h
  split at h
  case h_2 => exact h.elim
  rename_i ice y
  obtain ⟨c, rfl, hl, hk⟩ := h
  refine does_ex (qc := qc1) (np := []) (CK := ckK [(19, cSc R_rkR), (20, cSc R_within), (22, cSc R_first)]) mixed Try.func13 rfl rfl Try.ntmps13 Try.results13 τ_ok (by kernel_rfl) (ckK_ok ⟨cSc_ok rkR_ok', cSc_ok within_ok, cSc_ok first_ok', trivial⟩) (by simp) ?_
  conv => whnf
  refine ⟨c, rfl, hl, ?_⟩
  conv => whnf
  refine Fork.mk (fun h => ?_) (fun h => ?_)
  · have h1 : rkR c ice ≠ 0 := by simpa using h
    rw [show stageV c ice y = (0, false, rkR c ice) from if_pos h1] at hk
    conv => whnf
    exact hk
  have h1 : ¬ rkR c ice ≠ 0 := by simpa using h
  conv => whnf
  refine Fork.mk (fun h => ?_) (fun h => ?_)
  · have h2 : inB 0 274877906944 y = false := by simp [inB] at h ⊢; omega
    rw [show stageV c ice y = (0, false, 1) by unfold stageV; rw [if_neg h1, if_pos h2]] at hk
    conv => whnf
    exact hk
  have h2 : ¬ inB 0 274877906944 y = false := by simp [inB] at h ⊢; omega
  rw [show stageV c ice y = firstV c y by unfold stageV; rw [if_neg h1, if_neg h2]] at hk
  conv => whnf
  refine ⟨c, rfl, hl, ?_⟩
  conv => whnf
  exact hk
theorem readings_ok : FunB Try.prog 14 R_readings := by
  intro cs args k h
  unfold R_readings at h
  split at h
  case h_2 => exact h.elim
  rename_i most
  obtain ⟨d, rfl, hd, hmo, hk⟩ := h
  refine doesB_ex (qc := qc1) (np := []) (CK := ckK [(18, cB R_next)]) mixed Try.func14 rfl rfl Try.ntmps14 Try.results14 τ_ok (by kernel_rfl) (ckK_ok ⟨cB_ok next_ok rfl, trivial⟩) (by simp) rfl rfl ?_
  conv => whnf
  refine ⟨d, rfl, hd, by omega, fun t d hd ht1 ht2 => ?_⟩
  conv => whnf
  rw [show IntKind.i64.wrap (most + 1) = most + 1 from wrap_in (by omega) (by omega)]
  refine ⟨d, rfl, hd, by omega, fun n d hd hn1 hn2 => ?_⟩
  conv => whnf
  refine ⟨List Rd × Dk × Int × Int, fun s => ([(0, .c (.ptr (.x 0) 0)), (5, .c (.view (.l 40 1) 0 s.1.length)), (6, I s.2.2.1), (7, I s.2.2.2)], ⟨[(.x 0, .blk (dkC s.2.1)), (.l 40 1, .arr 31 4 (eR s.1) false)], 3, []⟩),
    fun s => s.2.1.ok ∧ (∀ r ∈ s.1, ckRd r = 0) ∧ (0 ≤ s.2.2.1 ∧ s.2.2.1 ≤ 10 + 3 * (s.1.length : Int)) ∧ (0 ≤ s.2.2.2 ∧ s.2.2.2 + s.1.length ≤ most), fun s => s.2.2.2.toNat, ([], d, t, n), ⟨hd, (fun r hr => by simp at hr), by dsimp only; simp; omega, by dsimp only; simp; omega⟩,
    Shift.trans (Shift.rename [(.l 40 1, .l 40 0)] ⟨rfl, rfl, rfl, rfl, trivial⟩ ⟨rfl, rfl, trivial⟩ rfl rfl rfl) (Shift.nilArr (t := 5) rfl 40 31 4), fun s hs => ?_⟩
  obtain ⟨l, d, t, n⟩ := s
  obtain ⟨hd, hl, ht, hn⟩ := hs
  dsimp only at hd hl ht hn ⊢
  conv => whnf
  refine Fork.mk (fun h => ?_) (fun h => ?_)
  · have hn0 : 0 < n := by simpa using h
    clear h
    conv => whnf
    refine ⟨d, rfl, hd, by omega, fun g d hd hg1 hg2 => ?_⟩
    conv => whnf
    refine ⟨d, rfl, hd, by omega, fun v d hd hv1 hv2 => ?_⟩
    conv => whnf
    rw [show IntKind.i64.wrap (50 + v) = 50 + v from wrap_in (by omega) (by omega)]
    refine ⟨d, rfl, hd, by omega, fun f d hd hf1 hf2 => ?_⟩
    have fin : ∀ (rd : Rd), ckRd rd = 0 → ∀ r ∈ l ++ [rd], ckRd r = 0 := fun rd hrd r hr => by
      rcases List.mem_append.1 hr with hr | hr
      · exact hl r hr
      · simp at hr; subst hr; exact hrd
    conv => whnf
    refine Fork.mk (fun h => ?_) (fun h => ?_)
    · clear h
      conv => whnf
      refine ⟨by simp, ?_⟩
      conv => whnf
      refine ⟨rfl, ?_⟩
      conv => whnf
      refine ⟨⟨rfl, rfl, rfl, by simp, by simp; omega⟩, ?_⟩
      conv => whnf
      refine ⟨d, rfl, hd, by omega, fun w d hd hw1 hw2 => ?_⟩
      conv => whnf
      rw [show IntKind.i64.wrap (t + w) = t + w from wrap_in (by omega) (by omega)]
      rw [show IntKind.i64.wrap (n - 1) = n - 1 from wrap_in (by omega) (by omega)]
      refine ⟨(l ++ [⟨g, t, 50 + v, 2⟩], d, t + w, n - 1), ⟨hd, fin _ (by refine ckRd_of ?_ ?_ ?_ ?_ <;> (try dsimp only) <;> omega), by dsimp only; simp; omega, by dsimp only; simp; omega⟩, Shift.rename [(.l 40 1, .l 40 5)] ⟨rfl, ?_, rfl, rfl, trivial⟩ ⟨rfl, ?_, trivial⟩ rfl rfl rfl, ?_⟩
      · dsimp only; simp; rfl
      · dsimp only; rw [← eR_snoc]; rfl
      · show (n - 1).toNat < n.toNat
        omega
    clear h
    conv => whnf
    refine Fork.mk (fun h => ?_) (fun h => ?_)
    · clear h
      conv => whnf
      refine ⟨d, rfl, hd, by omega, fun u d hd hu1 hu2 => ?_⟩
      conv => whnf
      refine ⟨by simp, ?_⟩
      conv => whnf
      refine ⟨rfl, ?_⟩
      conv => whnf
      refine ⟨⟨rfl, rfl, rfl, by simp, by simp; omega⟩, ?_⟩
      conv => whnf
      refine ⟨d, rfl, hd, by omega, fun w d hd hw1 hw2 => ?_⟩
      conv => whnf
      rw [show IntKind.i64.wrap (t + w) = t + w from wrap_in (by omega) (by omega)]
      rw [show IntKind.i64.wrap (n - 1) = n - 1 from wrap_in (by omega) (by omega)]
      refine ⟨(l ++ [⟨g, t, u, 1⟩], d, t + w, n - 1), ⟨hd, fin _ (by refine ckRd_of ?_ ?_ ?_ ?_ <;> (try dsimp only) <;> omega), by dsimp only; simp; omega, by dsimp only; simp; omega⟩, Shift.rename [(.l 40 1, .l 40 5)] ⟨rfl, ?_, rfl, rfl, trivial⟩ ⟨rfl, ?_, trivial⟩ rfl rfl rfl, ?_⟩
      · dsimp only; simp; rfl
      · dsimp only; rw [← eR_snoc]; rfl
      · show (n - 1).toNat < n.toNat
        omega
    clear h
    conv => whnf
    refine ⟨by simp, ?_⟩
    conv => whnf
    refine ⟨rfl, ?_⟩
    conv => whnf
    refine ⟨⟨rfl, rfl, rfl, by simp, by simp; omega⟩, ?_⟩
    conv => whnf
    refine ⟨d, rfl, hd, by omega, fun w d hd hw1 hw2 => ?_⟩
    conv => whnf
    rw [show IntKind.i64.wrap (t + w) = t + w from wrap_in (by omega) (by omega)]
    rw [show IntKind.i64.wrap (n - 1) = n - 1 from wrap_in (by omega) (by omega)]
    refine ⟨(l ++ [⟨g, t, 50 + v, 0⟩], d, t + w, n - 1), ⟨hd, fin _ (by refine ckRd_of ?_ ?_ ?_ ?_ <;> (try dsimp only) <;> omega), by dsimp only; simp; omega, by dsimp only; simp; omega⟩, Shift.rename [(.l 40 1, .l 40 5)] ⟨rfl, ?_, rfl, rfl, trivial⟩ ⟨rfl, ?_, trivial⟩ rfl rfl rfl, ?_⟩
    · dsimp only; simp; rfl
    · dsimp only; rw [← eR_snoc]; rfl
    · show (n - 1).toNat < n.toNat
      omega
  · have hn0 : ¬ 0 < n := by simpa using h
    conv => whnf
    refine ⟨by simp, ?_⟩
    conv => whnf
    exact leaf_r _ (by simp) rfl (hk l d hd (by omega) hl)
end Go.Proofs
