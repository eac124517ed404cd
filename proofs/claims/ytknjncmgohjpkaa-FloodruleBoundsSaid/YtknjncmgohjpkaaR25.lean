/- Proved here: what functions of the given program come to, for the statements of this chapter; no condition but those in the theorems. -/
import Derived.Test.YtknjncmgohjpkaaQ25
import Derived.Test.YtknjncmgohjpkaaPStorage2
namespace Go.Proofs
open Go Go.Abs
set_option linter.unusedSimpArgs false
set_option linter.unusedVariables false
set_option maxRecDepth 4000
theorem rckC_ok : FunR Try.prog 54 R_ckC := by
  intro args k h
  unfold R_ckC at h
  split at h
  case h_2 => exact h.elim
  obtain ⟨c, rfl, hl, hk⟩ := h
  have hm := eP_len c
  refine does_ex (qc := qc1) (np := []) (CK := ckK [(59, cSc R_within)]) mixed Try.func54 rfl rfl Try.ntmps54 Try.results54 τ_ok (by kernel_rfl) (ckK_ok ⟨cSc_ok rIn_ok, trivial⟩) (by simp) ?_
  conv => whnf
  refine Fork.mk (fun h => ?_) (fun h => ?_)
  · have h0 : c = [] := by simpa using h
    subst h0
    conv => whnf
    exact hk
  have h0 : c ≠ [] := fun e => by subst e; simp at h
  conv => whnf
  refine Fork.mk (fun h => ?_) (fun h => ?_)
  · have h1 : 100 < c.length := by simp at h; omega
    conv => whnf
    have e : ckC c = 10 := by
      cases c with
      | nil => exact absurd rfl h0
      | cons p r => rw [ckC_eq, if_pos h1]
    rw [e] at hk
    exact hk
  have h1 : c.length ≤ 100 := by simp at h; omega
  conv => whnf
  refine ⟨Nat, fun i => ([(0, .c (.lst (eP c))), (13, .c (.lst (eP c))), (14, I (eP c).length), (15, I i)], ⟨[], 5, []⟩), fun i => i ≤ c.length ∧ ckAt c i, fun i => c.length - i, 0, ⟨Nat.zero_le _, .inl rfl⟩,
    Shift.reset ⟨rfl, rfl, rfl, rfl, trivial⟩ trivial rfl rfl, fun i hi => ?_⟩
  obtain ⟨hi1, hi2⟩ := hi
  dsimp only
  conv => whnf
  refine Fork.mk (fun h => ?_) (fun h => ?_)
  · have hi : i < c.length := by simp at h; omega
    have hci := List.getElem?_eq_getElem hi
    generalize c[i] = p at hci
    have hat : (eP c)[(i : Int).toNat]? = some (ePt p) := by rw [Int.toNat_natCast]; exact eP_at c hci
    have hw1 := wr_succ (i := i) (by omega)
    have next : okPt p = true → ckC c = ckGo p (c.drop (i + 1)) → ckAt c (i + 1) := fun a b => .inr ⟨p, by rw [Nat.add_sub_cancel]; exact hci, a, b⟩
    have first : i = 0 → ckC c = if okPt p = false then 1 else ckGo p (c.drop (i + 1)) := fun e => by
      subst e
      have : c = p :: c.drop 1 := by have := drop_of hci; rwa [List.drop_zero] at this
      rw [this, ckC_eq, if_neg (by rw [← this]; omega)]
      simp
    have later : ∀ q, ckC c = ckGo q (c.drop i) → ckC c = if okPt p = false then 1 else if p.1 ≤ q.1 ∨ p.2 < q.2 then 4 else if steepB (p.1 - q.1) (p.2 - q.2) = true then 1 else ckGo p (c.drop (i + 1)) := fun q e => by
      rw [e, drop_of hci, ckGo_eq]
    have bad : okPt p = false → ckC c = 1 := fun e => by
      rcases hi2 with h | ⟨q, _, _, h⟩
      · rw [first h, if_pos e]
      · rw [later q h, if_pos e]
    conv => whnf
    refine ⟨by omega, ePt p, hat, rfl, ?_⟩
    conv => whnf
    refine Fork.mk (fun h => ?_) (fun h => ?_)
    · have e : okPt p = false := by simp at h; simp [okPt]; omega
      rw [bad e] at hk
      conv => whnf
      refine fork_t ?_
      conv => whnf
      exact hk
    conv => whnf
    have h2 : 0 ≤ p.1 ∧ p.1 ≤ 1073741824 := by simp at h; omega
    refine Fork.mk (fun h => ?_) (fun h => ?_)
    · have e : okPt p = false := by simp at h; simp [okPt]; omega
      rw [bad e] at hk
      conv => whnf
      exact hk
    have h3 : 0 ≤ p.2 ∧ p.2 ≤ 274877906944 := by simp at h; omega
    have hok : okPt p = true := okPt_of ⟨h2, h3⟩
    conv => whnf
    refine Fork.mk (fun h => ?_) (fun h => ?_)
    · have hi0 : i = 0 := by simp at h; omega
      have e := first hi0
      rw [if_neg (by rw [hok]; simp)] at e
      conv => whnf
      rw [hw1]
      refine ⟨i + 1, ⟨hi, next hok e⟩, Shift.reset ⟨rfl, rfl, rfl, rfl, trivial⟩ trivial rfl rfl, ?_⟩
      show c.length - (i + 1) < c.length - i
      omega
    have hi0 : i ≠ 0 := by simp at h; omega
    rcases hi2 with e | ⟨q, hq, hqo, hqe⟩
    · exact absurd e hi0
    have e := later q hqe
    rw [if_neg (by rw [hok]; simp)] at e
    have hq' := okPt_in hqo
    conv => whnf
    have hw2 : IntKind.i64.wrap ((i : Int) - 1) = ((i - 1 : Nat) : Int) := by rw [wrap_in (by omega) (by omega)]; omega
    rw [hw2]
    refine ⟨by omega, ePt q, by rw [Int.toNat_natCast]; exact eP_at c hq, rfl, ?_⟩
    conv => whnf
    rw [hw2]
    refine ⟨by omega, ePt q, by rw [Int.toNat_natCast]; exact eP_at c hq, rfl, ?_⟩
    conv => whnf
    rw [show IntKind.i64.wrap (p.1 - q.1) = p.1 - q.1 from wrap_in (by omega) (by omega)]
    refine Fork.mk (fun h => ?_) (fun h => ?_)
    · have h4 : p.1 ≤ q.1 := by simp at h; omega
      rw [if_pos (.inl h4)] at e
      rw [e] at hk
      conv => whnf
      refine fork_t ?_
      conv => whnf
      exact hk
    have h4 : ¬ p.1 ≤ q.1 := by simp at h; omega
    conv => whnf
    rw [show IntKind.i64.wrap (p.2 - q.2) = p.2 - q.2 from wrap_in (by omega) (by omega)]
    refine Fork.mk (fun h => ?_) (fun h => ?_)
    · have h5 : p.2 < q.2 := by simp at h; omega
      rw [if_pos (.inr h5)] at e
      rw [e] at hk
      conv => whnf
      exact hk
    have h5 : ¬ p.2 < q.2 := by simp at h; omega
    rw [if_neg (by omega)] at e
    have hst : steepB (p.1 - q.1) (p.2 - q.2) = decide (4611686018427387904 / (p.1 - q.1) < p.2 - q.2) := by simp [steepB]; omega
    rw [hst] at e
    conv => whnf
    refine ⟨by omega, ?_⟩
    have ew : IntKind.i64.wrap ((4611686018427387904 : Int).tdiv (p.1 - q.1)) = 4611686018427387904 / (p.1 - q.1) := by
      rw [Int.tdiv_eq_ediv_of_nonneg (by omega)]
      have h2 := Int.ediv_nonneg (show (0 : Int) ≤ 4611686018427387904 by omega) (show 0 ≤ p.1 - q.1 by omega)
      have h3 := Int.ediv_le_self (p.1 - q.1) (show (0 : Int) ≤ 4611686018427387904 by omega)
      exact wrap_in (by omega) (by omega)
    conv => whnf
    rw [ew]
    refine Fork.mk (fun h => ?_) (fun h => ?_)
    · rw [if_pos h] at e
      rw [e] at hk
      conv => whnf
      exact hk
    rw [if_neg (by rw [h]; simp)] at e
    conv => whnf
    rw [hw1]
    refine ⟨i + 1, ⟨hi, next hok e⟩, Shift.reset ⟨rfl, rfl, rfl, rfl, trivial⟩ trivial rfl rfl, ?_⟩
    show c.length - (i + 1) < c.length - i
    omega
  · have hie : i = c.length := by simp at h; omega
    subst hie
    rcases hi2 with e | ⟨q, _, _, e⟩
    · exact absurd (List.eq_nil_of_length_eq_zero e) h0
    rw [e, List.drop_length] at hk
    conv => whnf
    exact hk
theorem rat_ok : FunR Try.prog 60 R_val := by
  intro args k h
  unfold R_val at h
  split at h
  case h_2 => exact h.elim
  rename_i x
  obtain ⟨c, rfl, hv, hk⟩ := h
  obtain ⟨h0, hl⟩ := ckC_ne hv
  have hm := eP_len c
  have hh := head_at h0
  refine does_ex (qc := qc1) (np := [(7, [(3, 9), (3, 10), (4, 9), (4, 10), (7, 9), (7, 10), (7, 11), (8, 9), (8, 10), (8, 11), (9, 10)])]) (CK := ckK []) mixed Try.func60 rfl rfl Try.ntmps60 Try.results60 τ_ok (by kernel_rfl) (ckK_ok trivial) (by simp) ?_
  conv => whnf
  refine ⟨by omega, ePt (c.headD (0, 0)), eP_at c hh, rfl, ?_⟩
  have f1 : valC c x = if x ≤ (c.headD (0, 0)).1 then (c.headD (0, 0)).2 else vGo (c.headD (0, 0)) (c.drop 1) x := by
    cases c with
    | nil => exact absurd rfl h0
    | cons p r => rfl
  have f2 : ckGo (c.headD (0, 0)) (c.drop 1) = 0 := by
    cases c with
    | nil => exact absurd rfl h0
    | cons p r => exact (ckC_cons.1 hv).2.2
  conv => whnf
  refine Fork.mk (fun h => ?_) (fun h => ?_)
  · have h1 : x ≤ (c.headD (0, 0)).1 := of_decide_eq_true h
    rw [f1, if_pos h1] at hk
    conv => whnf
    refine ⟨by omega, ePt (c.headD (0, 0)), eP_at c hh, rfl, ?_⟩
    conv => whnf
    exact hk
  have h1 : ¬ x ≤ (c.headD (0, 0)).1 := of_decide_eq_false h
  rw [if_neg h1] at f1
  clear h
  conv => whnf
  refine ⟨Nat, fun i => ([(0, .c (.lst (eP c))), (1, I x), (5, I i)], ⟨[], 5, []⟩), fun i => (1 ≤ i ∧ i ≤ c.length) ∧ rAt c x i, fun i => c.length - i, 1, ⟨⟨Nat.le_refl _, by have := List.length_pos_iff.2 h0; omega⟩, c.headD (0, 0), hh, by omega, f1, f2, ckC_ok hv _ (List.mem_of_getElem? hh)⟩,
    Shift.reset ⟨rfl, rfl, rfl, trivial⟩ trivial rfl rfl, fun i hi => ?_⟩
  obtain ⟨⟨hi0, hi1⟩, q, hq, hqx, hqe, hqc, hqo⟩ := hi
  have hq' := okPt_in hqo
  dsimp only
  conv => whnf
  refine Fork.mk (fun h => ?_) (fun h => ?_)
  · have hi : i < c.length := by simp at h; omega
    have hci := List.getElem?_eq_getElem hi
    have hpo' := ckC_ok hv _ (List.getElem_mem hi)
    have hpo := okPt_in hpo'
    generalize c[i] = p at hci hpo hpo'
    have hat : (eP c)[(i : Int).toNat]? = some (ePt p) := by rw [Int.toNat_natCast]; exact eP_at c hci
    have hw1 := wr_succ (i := i) (by omega)
    have hdr := drop_of hci
    rw [hdr] at hqe hqc
    obtain ⟨c1, c2, c3, c4, c5⟩ := ckGo_cons.1 hqc
    conv => whnf
    refine ⟨by omega, ePt p, hat, rfl, ?_⟩
    conv => whnf
    refine Fork.mk (fun h => ?_) (fun h => ?_)
    · have hx : x < p.1 := by simpa using h
      have e : valC c x = q.2 + (p.2 - q.2) * (x - q.1) / (p.1 - q.1) := by rw [hqe]; exact if_pos (by omega)
      rw [e] at hk
      obtain ⟨s1, s2, s3, s4⟩ := seg_in c2 c3 hqx (show x ≤ p.1 by omega)
      conv => whnf
      have hw2 : IntKind.i64.wrap ((i : Int) - 1) = ((i - 1 : Nat) : Int) := by rw [wrap_in (by omega) (by omega)]; omega
      rw [hw2]
      refine ⟨by omega, ePt q, by rw [Int.toNat_natCast]; exact eP_at c hq, rfl, ?_⟩
      conv => whnf
      refine ⟨by omega, ePt p, hat, rfl, ?_⟩
      conv => whnf
      rw [show IntKind.i64.wrap (p.2 - q.2) = p.2 - q.2 from wrap_in (by omega) (by omega), show IntKind.i64.wrap (x - q.1) = x - q.1 from wrap_in (by omega) (by omega), show IntKind.i64.wrap (p.1 - q.1) = p.1 - q.1 from wrap_in (by omega) (by omega)]
      rw [show IntKind.i64.wrap ((p.2 - q.2) * (x - q.1)) = (p.2 - q.2) * (x - q.1) from wrap_in (by omega) (by omega)]
      refine ⟨by omega, ?_⟩
      conv => whnf
      rw [show IntKind.i64.wrap (((p.2 - q.2) * (x - q.1)).tdiv (p.1 - q.1)) = (p.2 - q.2) * (x - q.1) / (p.1 - q.1) by rw [Int.tdiv_eq_ediv_of_nonneg s1]; exact wrap_in (by omega) (by omega)]
      rw [show IntKind.i64.wrap (q.2 + (p.2 - q.2) * (x - q.1) / (p.1 - q.1)) = q.2 + (p.2 - q.2) * (x - q.1) / (p.1 - q.1) from wrap_in (by omega) (by omega)]
      exact hk
    have hx : ¬ x < p.1 := by simpa using h
    conv => whnf
    rw [hw1]
    refine ⟨i + 1, ⟨⟨by omega, hi⟩, p, by rw [Nat.add_sub_cancel]; exact hci, by omega, by rw [hqe]; exact vGo_next hqc hx, c5, hpo'⟩, Shift.reset ⟨rfl, rfl, rfl, trivial⟩ trivial rfl rfl, ?_⟩
    show c.length - (i + 1) < c.length - i
    omega
  · have hie : i = c.length := by simp at h; omega
    subst hie
    rw [hqe, List.drop_length] at hk
    conv => whnf
    have hw2 : IntKind.i64.wrap (((eP c).length : Int) - 1) = ((c.length - 1 : Nat) : Int) := by rw [hm, wrap_in (by omega) (by omega)]; omega
    rw [hw2]
    refine ⟨by omega, ePt q, by rw [Int.toNat_natCast]; exact eP_at c hq, rfl, ?_⟩
    conv => whnf
    exact hk
theorem rAt_ok : FunR Try.prog 41 R_at := by
  intro args k h
  unfold R_at at h
  split at h
  case h_2 => exact h.elim
  rename_i x
  obtain ⟨c, rfl, hl, hk⟩ := h
  refine does_ex (qc := qc1) (np := []) (CK := ckK [(54, cSc R_ckC), (60, cSc R_val)]) mixed Try.func41 rfl rfl Try.ntmps41 Try.results41 τ_ok (by kernel_rfl) (ckK_ok ⟨cSc_ok rckC_ok, cSc_ok rat_ok, trivial⟩) (by simp) ?_
  conv => whnf
  refine ⟨c, rfl, hl, ?_⟩
  conv => whnf
  refine Fork.mk (fun h => ?_) (fun h => ?_)
  · have h1 : ckC c ≠ 0 := by simpa using h
    rw [show atV c x = (0, ckC c) from if_pos h1] at hk
    conv => whnf
    exact hk
  have h1 : ckC c = 0 := by simpa using h
  rw [show atV c x = (valC c x, 0) from if_neg (by simpa using h1)] at hk
  conv => whnf
  refine ⟨c, rfl, h1, ?_⟩
  conv => whnf
  exact hk
theorem rlast_ok : FunR Try.prog 64 R_last := by
  intro args k h
  unfold R_last at h
  split at h
  case h_2 => exact h.elim
  rename_i y
  obtain ⟨c, rfl, hl, hk⟩ := h
  have hm := eP_len c
  refine does_ex (qc := qc1) (np := []) (CK := ckK [(54, cSc R_ckC), (60, cSc R_val)]) mixed Try.func64 rfl rfl Try.ntmps64 Try.results64 τ_ok (by kernel_rfl) (ckK_ok ⟨cSc_ok rckC_ok, cSc_ok rat_ok, trivial⟩) (by simp) ?_
  conv => whnf
  refine ⟨c, rfl, hl, ?_⟩
  conv => whnf
  refine Fork.mk (fun h => ?_) (fun h => ?_)
  · have h1 : ckC c ≠ 0 := by simpa using h
    rw [show lastV c y = (0, false, ckC c) from if_pos h1] at hk
    conv => whnf
    exact hk
  have h1 : ckC c = 0 := by simpa using h
  obtain ⟨h0, hcl⟩ := ckC_ne h1
  have hh := head_at h0
  have hla := lastP_at h0
  have hF := okPt_in (ckC_ok h1 _ (List.mem_of_getElem? hh))
  have hL := okPt_in (ckC_ok h1 _ (last_mem h0))
  have hFL := le_last h1 _ (List.mem_of_getElem? hh)
  rw [lastV_ok h1] at hk
  have hlen0 := List.length_pos_iff.2 h0
  have hw2 : IntKind.i64.wrap (((eP c).length : Int) - 1) = ((c.length - 1 : Nat) : Int) := by rw [eP_len, wrap_in (by omega) (by omega)]; omega
  conv => whnf
  refine ⟨by omega, ePt (c.headD (0, 0)), eP_at c hh, rfl, ?_⟩
  conv => whnf
  rw [hw2]
  refine ⟨by omega, ePt (lastP c), by rw [Int.toNat_natCast]; exact eP_at c hla, rfl, ?_⟩
  conv => whnf
  refine ⟨c, rfl, h1, ?_⟩
  have hv0 : valC c (c.headD (0, 0)).1 = (c.headD (0, 0)).2 := by
    cases c with
    | nil => exact absurd rfl h0
    | cons p r => exact if_pos (Int.le_refl _)
  conv => whnf
  refine Fork.mk (fun h => ?_) (fun h => ?_)
  · have h2 : y < (c.headD (0, 0)).2 := by rw [← hv0]; exact of_decide_eq_true h
    rw [if_pos h2] at hk
    conv => whnf
    exact hk
  have h2 : ¬ y < (c.headD (0, 0)).2 := by rw [← hv0]; exact of_decide_eq_false h
  rw [if_neg h2] at hk
  clear h
  have hz := hgt_in' h1 y
  have gal := fun (x : Int) => hgt_gal' (x := x) (y := y) h1 (by omega)
  generalize hgt c y = z at *
  generalize (c.headD (0, 0)).1 = F at *
  generalize (lastP c).1 = L at *
  conv => whnf
  refine ⟨Int × Int, fun s => ([(0, .c (.lst (eP c))), (1, I y), (8, I s.1), (9, I s.2)], ⟨[], 5, []⟩), fun s => (F ≤ s.1 ∧ s.1 ≤ z) ∧ z ≤ s.2 ∧ s.2 ≤ L, fun s => (s.2 - s.1).toNat, (F, L), ⟨⟨Int.le_refl _, hz.1⟩, hz.2, Int.le_refl _⟩,
    Shift.reset ⟨rfl, rfl, rfl, rfl, trivial⟩ trivial rfl rfl, fun s hs => ?_⟩
  obtain ⟨lo, hi⟩ := s
  obtain ⟨⟨g1, g2⟩, g3, g4⟩ := hs
  dsimp only at g1 g2 g3 g4 ⊢
  conv => whnf
  refine Fork.mk (fun h => ?_) (fun h => ?_)
  · have hlt : lo < hi := by simpa using h
    conv => whnf
    rw [show IntKind.i64.wrap (hi - lo) = hi - lo from wrap_in (by omega) (by omega)]
    refine ⟨by omega, ?_⟩
    conv => whnf
    have ed : (hi - lo).tdiv 2 = (hi - lo) / 2 := Int.tdiv_eq_ediv_of_nonneg (by omega)
    rw [ed, show IntKind.i64.wrap ((hi - lo) / 2) = (hi - lo) / 2 from wrap_in (by omega) (by omega), show IntKind.i64.wrap (hi - (hi - lo) / 2) = hi - (hi - lo) / 2 from wrap_in (by omega) (by omega)]
    obtain ⟨m, hmm, m1, m2⟩ : ∃ m, hi - (hi - lo) / 2 = m ∧ lo < m ∧ m ≤ hi := ⟨_, rfl, by omega, by omega⟩
    rw [hmm]
    clear hmm ed
    have hg := gal m (by omega) (by omega)
    refine ⟨c, rfl, h1, ?_⟩
    conv => whnf
    refine Fork.mk (fun h => ?_) (fun h => ?_)
    · have h3 : m ≤ z := hg.2 (by simpa using h)
      conv => whnf
      refine ⟨(m, hi), ⟨⟨by dsimp only; omega, h3⟩, g3, g4⟩, Shift.reset ⟨rfl, rfl, rfl, rfl, trivial⟩ trivial rfl rfl, ?_⟩
      show (hi - m).toNat < (hi - lo).toNat
      omega
    · have h3 : ¬ m ≤ z := fun e => absurd (hg.1 e) (by simpa using h)
      conv => whnf
      rw [show IntKind.i64.wrap (m - 1) = m - 1 from wrap_in (by omega) (by omega)]
      refine ⟨(lo, m - 1), ⟨⟨g1, g2⟩, by dsimp only; omega, by dsimp only; omega⟩, Shift.reset ⟨rfl, rfl, rfl, rfl, trivial⟩ trivial rfl rfl, ?_⟩
      show (m - 1 - lo).toNat < (hi - lo).toNat
      omega
  · have hlt : ¬ lo < hi := by simpa using h
    have e : lo = z := by omega
    subst e
    conv => whnf
    exact hk
end Go.Proofs
