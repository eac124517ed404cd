/- Proved here: what functions of the given program come to, and the plain laws of it; no condition but those in the theorems. -/
import Derived.Test.YtfhnicamjcfddaaGreatDoorK99
import Derived.Test.YtfhnicamjcfddaaGreatDoorPStorage2
namespace Go.Proofs
open Go Go.Abs
set_option linter.unusedSimpArgs false
set_option linter.unusedVariables false
set_option maxRecDepth 4000
theorem last_ok : FunR Tryz.prog 61 R_last := by
  intro args k h
  unfold R_last at h
  split at h
  case h_2 => exact h.elim
  rename_i y
  obtain ⟨c, rfl, hl, hk⟩ := h
  refine does_ex (qc := qc1) (np := []) (CK := ckK [(85, cSc R_ckC)]) mixed Tryz.func61 rfl rfl Tryz.ntmps61 Tryz.results61 τ_ok (by kernel_rfl) (ckK_ok ⟨cSc_ok ckC_ok', trivial⟩) (by simp) ?_
  conv => whnf
  refine ⟨c, rfl, hl, ?_⟩
  conv => whnf
  refine Fork.mk (fun h => ?_) (fun h => ?_)
  · have h1 : ckC c ≠ 0 := by simpa using h
    rw [show lastV c y = (0, false, ckC c) from if_pos h1] at hk
    conv => whnf
    exact hk
  have h1 : ckC c = 0 := by simpa using h
  obtain ⟨hc0, hcl⟩ := ckC_ne h1
  have hm := eP_len c
  cases c with
  | nil => exact absurd rfl hc0
  | cons p r =>
  have hlv : lastV (p :: r) y = if y < p.2 then (0, false, 0) else (lGo p r y, true, 0) := by unfold lastV; rw [if_neg (by rw [h1]; simp)]
  have hgo := (ckC_cons.1 h1).2.2
  have hpo := (ckC_cons.1 h1).2.1
  rw [hlv] at hk
  have hcl : r.length ≤ 99 := by simpa using hcl
  conv => whnf
  refine ⟨by simp, ePt p, rfl, rfl, ?_⟩
  conv => whnf
  refine Fork.mk (fun h => ?_) (fun h => ?_)
  · have h2 : y < p.2 := by simpa using h
    rw [if_pos h2] at hk
    conv => whnf
    exact hk
  have h2 : ¬ y < p.2 := by simpa using h
  rw [if_neg h2] at hk
  conv => whnf
  refine ⟨by simp; omega, ?_⟩
  conv => whnf
  refine ⟨eP_all (p :: r), ?_⟩
  rw [show List.drop (Int.toNat 1) (List.take (((eP (p :: r)).length : Int)).toNat (eP (p :: r))) = eP r by rw [Int.toNat_natCast, List.take_length]; rfl]
  conv => whnf
  refine ⟨Nat, fun i => ([(0, .c (.lst (eP (p :: r)))), (1, I y), (23, .c (.lst (eP r))), (24, I (eP r).length), (25, I i)], ⟨[], 5, []⟩),
    fun i => i ≤ r.length ∧ ∃ q, (p :: r)[i]? = some q ∧ q.2 ≤ y ∧ okPt q = true ∧ ckGo q (r.drop i) = 0 ∧ lGo p r y = lGo q (r.drop i) y, fun i => r.length - i, 0, ⟨Nat.zero_le _, p, rfl, by omega, hpo, hgo, rfl⟩,
    Shift.reset ⟨rfl, rfl, rfl, rfl, rfl, trivial⟩ trivial rfl rfl, fun i hi => ?_⟩
  obtain ⟨hi1, q, hq, hqy, hqo, hqc, hqe⟩ := hi
  have hq' := okPt_in hqo
  dsimp only
  conv => whnf
  refine Fork.mk (fun h => ?_) (fun h => ?_)
  · have hi : i < r.length := by simp at h; omega
    have hci := List.getElem?_eq_getElem hi
    generalize r[i] = a at hci
    have hdr := drop_of hci
    rw [hdr] at hqc hqe
    obtain ⟨c1, c2, c3, c4, c5⟩ := ckGo_cons.1 hqc
    have ha' := okPt_in c1
    have hw1 := wr_succ (i := i) (by omega)
    conv => whnf
    refine ⟨by simp <;> omega, ePt a, by rw [Int.toNat_natCast]; exact eP_at r hci, rfl, ?_⟩
    conv => whnf
    refine ⟨by simp <;> omega, ePt q, by rw [Int.toNat_natCast]; exact eP_at (p :: r) hq, rfl, ?_⟩
    conv => whnf
    refine Fork.mk (fun h => ?_) (fun h => ?_)
    · have h3 : y < a.2 := by simpa using h
      rw [hqe, show lGo q (a :: r.drop (i + 1)) y = _ from if_pos h3] at hk
      obtain ⟨s1, s2, s3, s4⟩ := seg_l c2 (by omega) hqy h3
      conv => whnf
      rw [show IntKind.i64.wrap (y - q.2) = y - q.2 from wrap_in (by omega) (by omega), show IntKind.i64.wrap (a.1 - q.1) = a.1 - q.1 from wrap_in (by omega) (by omega), show IntKind.i64.wrap (a.2 - q.2) = a.2 - q.2 from wrap_in (by omega) (by omega)]
      rw [show IntKind.i64.wrap (y - q.2 + 1) = y - q.2 + 1 from wrap_in (by omega) (by omega)]
      rw [show IntKind.i64.wrap ((y - q.2 + 1) * (a.1 - q.1)) = (y - q.2 + 1) * (a.1 - q.1) from wrap_in (by omega) (by omega)]
      rw [show IntKind.i64.wrap ((y - q.2 + 1) * (a.1 - q.1) - 1) = (y - q.2 + 1) * (a.1 - q.1) - 1 from wrap_in (by omega) (by omega)]
      refine ⟨by omega, ?_⟩
      conv => whnf
      rw [show IntKind.i64.wrap (((y - q.2 + 1) * (a.1 - q.1) - 1).tdiv (a.2 - q.2)) = ((y - q.2 + 1) * (a.1 - q.1) - 1) / (a.2 - q.2) by rw [Int.tdiv_eq_ediv_of_nonneg s1]; exact wrap_in (by omega) (by omega)]
      rw [show IntKind.i64.wrap (q.1 + ((y - q.2 + 1) * (a.1 - q.1) - 1) / (a.2 - q.2)) = q.1 + ((y - q.2 + 1) * (a.1 - q.1) - 1) / (a.2 - q.2) from wrap_in (by omega) (by omega)]
      exact hk
    have h3 : ¬ y < a.2 := by simpa using h
    conv => whnf
    rw [hw1]
    refine ⟨i + 1, ⟨hi, a, by simpa using hci, by omega, c1, c5, by rw [hqe]; exact if_neg h3⟩, Shift.reset ⟨rfl, rfl, rfl, rfl, rfl, trivial⟩ trivial rfl rfl, ?_⟩
    show r.length - (i + 1) < r.length - i
    omega
  · have hie : i = r.length := by simp at h; omega
    subst hie
    rw [List.drop_length] at hqe
    rw [hqe] at hk
    conv => whnf
    have hw2 : IntKind.i64.wrap (((eP (p :: r)).length : Int) - 1) = (r.length : Int) := by rw [eP_len, List.length_cons, wrap_in (by omega) (by omega)]; omega
    rw [hw2]
    refine ⟨by simp <;> omega, ePt q, by rw [Int.toNat_natCast]; exact eP_at (p :: r) hq, rfl, ?_⟩
    conv => whnf
    exact hk
theorem ckS_ok' : FunR Tryz.prog 81 (R_rs ckS) := by
  intro args k h
  unfold R_rs at h
  split at h
  case h_2 => exact h.elim
  rename_i a b cc d e
  obtain ⟨c, rfl, hl, hk⟩ := h
  have hm := eP_len c
  refine does_ex (qc := qc1) (np := [(14, [(1, 23), (2, 23), (4, 23), (6, 23), (8, 23), (10, 23), (12, 23), (14, 23), (16, 23), (19, 23), (21, 23)])]) (CK := ckK [(85, cSc R_ckC)]) mixed Tryz.func81 rfl rfl Tryz.ntmps81 Tryz.results81 τ_ok (by kernel_rfl) (ckK_ok ⟨cSc_ok ckC_ok', trivial⟩) (by simp) ?_
  conv => whnf
  refine ⟨c, rfl, hl, ?_⟩
  conv => whnf
  refine Fork.mk (fun h => ?_) (fun h => ?_)
  · have h1 : ckC c ≠ 0 := by simpa using h
    rw [show ckS ⟨c, a, b, cc, d, e⟩ = ckC c from if_pos h1] at hk
    conv => whnf
    exact hk
  have h1 : ckC c = 0 := by simpa using h
  obtain ⟨hc0, hcl⟩ := ckC_ne h1
  have f1 : ckS ⟨c, a, b, cc, d, e⟩ = if c.length < 2 then 3 else if 16777216 < (lastP c).1 then 1 else if riseB c = false then 4 else if srt (Rs.lv ⟨c, a, b, cc, d, e⟩) = false then 4 else 0 := by
    unfold ckS; rw [if_neg (by simpa using h1)]
  conv => whnf
  refine Fork.mk (fun h => ?_) (fun h => ?_)
  · have h2 : c.length < 2 := by simp at h; omega
    rw [f1, if_pos h2] at hk
    conv => whnf
    exact hk
  have h2 : ¬ c.length < 2 := by simp at h; omega
  rw [if_neg h2] at f1
  have hla := lastP_at hc0
  have hw2 : IntKind.i64.wrap (((eP c).length : Int) - 1) = ((c.length - 1 : Nat) : Int) := by rw [eP_len, wrap_in (by omega) (by omega)]; omega
  conv => whnf
  rw [hw2]
  refine ⟨by omega, ePt (lastP c), by rw [Int.toNat_natCast]; exact eP_at c hla, rfl, ?_⟩
  conv => whnf
  refine Fork.mk (fun h => ?_) (fun h => ?_)
  · have h3 : 16777216 < (lastP c).1 := by simpa using h
    rw [f1, if_pos h3] at hk
    conv => whnf
    exact hk
  have h3 : ¬ 16777216 < (lastP c).1 := by simpa using h
  rw [if_neg h3] at f1
  conv => whnf
  refine ⟨Nat, fun i => ([(1, .c (.ptr (.l 1 0) 0)), (4, I (eP c).length), (5, I i)], ⟨[(.l 1 0, .blk (rsC ⟨c, a, b, cc, d, e⟩))], 5, []⟩),
    fun i => (1 ≤ i ∧ i ≤ c.length) ∧ riseB c = riseB (c.drop (i - 1)), fun i => c.length - i, 1, ⟨⟨by omega, by omega⟩, rfl⟩,
    Shift.reset ⟨rfl, rfl, rfl, trivial⟩ ⟨rfl, trivial⟩ rfl rfl, fun i hi => ?_⟩
  obtain ⟨⟨hi0, hi1⟩, hi2⟩ := hi
  dsimp only
  conv => whnf
  refine Fork.mk (fun h => ?_) (fun h => ?_)
  · have hi : i < c.length := by simp at h; omega
    have hci := List.getElem?_eq_getElem hi
    have hcj := List.getElem?_eq_getElem (show i - 1 < c.length by omega)
    generalize c[i] = p at hci
    generalize c[i - 1] = q at hcj
    have e1 := drop_of hcj
    rw [show i - 1 + 1 = i by omega] at e1
    have e2 := drop_of hci
    rw [e1, e2] at hi2
    have hw1 := wr_succ (i := i) (by omega)
    have hw3 : IntKind.i64.wrap ((i : Int) - 1) = ((i - 1 : Nat) : Int) := by rw [wrap_in (by omega) (by omega)]; omega
    conv => whnf
    refine ⟨by omega, ePt p, by rw [Int.toNat_natCast]; exact eP_at c hci, rfl, ?_⟩
    conv => whnf
    rw [hw3]
    refine ⟨by omega, ePt q, by rw [Int.toNat_natCast]; exact eP_at c hcj, rfl, ?_⟩
    conv => whnf
    refine Fork.mk (fun h => ?_) (fun h => ?_)
    · have h4 : p.2 ≤ q.2 := by simpa using h
      rw [f1, if_pos (by rw [hi2]; exact rise_bad h4)] at hk
      conv => whnf
      exact hk
    have h4 : ¬ p.2 ≤ q.2 := by simpa using h
    conv => whnf
    rw [hw1]
    refine ⟨i + 1, ⟨⟨by omega, hi⟩, by rw [hi2, rise_good h4, ← e2]; rfl⟩, Shift.reset ⟨rfl, rfl, rfl, trivial⟩ ⟨rfl, trivial⟩ rfl rfl, ?_⟩
    show c.length - (i + 1) < c.length - i
    omega
  have hie : i = c.length := by simp at h; omega
  have h5 : riseB c = true := by
    rw [hi2, hie]
    have := drop_of hla
    rw [this, show c.length - 1 + 1 = c.length by omega, List.drop_length]
    rfl
  clear hi2 hi0 hi1 h
  rw [if_neg (by rw [h5]; simp)] at f1
  have hh := head_at hc0
  conv => whnf
  refine ⟨by omega, ePt (c.headD (0, 0)), eP_at c hh, rfl, ?_⟩
  conv => whnf
  rw [hw2]
  refine ⟨by omega, ePt (lastP c), by rw [Int.toNat_natCast]; exact eP_at c hla, rfl, ?_⟩
  conv => whnf
  rw [show Rs.lv ⟨c, a, b, cc, d, e⟩ = [(c.headD (0, 0)).1, a, b, cc, d, e, (lastP c).1] from rfl] at f1
  generalize hL : [(c.headD (0, 0)).1, a, b, cc, d, e, (lastP c).1] = L at f1
  refine ⟨Nat, fun i => ([(6, .c (.ptr (.l 6 0) 0)), (7, I i)], ⟨[(.l 6 0, .blk [IC (c.headD (0, 0)).1, IC a, IC b, IC cc, IC d, IC e, IC (lastP c).1])], 5, []⟩),
    fun i => (1 ≤ i ∧ i ≤ 7) ∧ srt L = srt (L.drop (i - 1)), fun i => 7 - i, 1, ⟨⟨by omega, by omega⟩, rfl⟩,
    Shift.rename [(.l 6 0, .l 6 5)] ⟨rfl, rfl, trivial⟩ ⟨rfl, trivial⟩ rfl rfl rfl, fun i hi => ?_⟩
  obtain ⟨⟨hi0, hi1⟩, hi2⟩ := hi
  dsimp only
  conv => whnf
  subst hL
  refine Fork.mk (fun h => ?_) (fun h => ?_)
  · have hi : i < 7 := by simp at h; omega
    clear h
    have hw1 := wr_succ (i := i) (by omega)
    have hw3 : IntKind.i64.wrap ((i : Int) - 1) = ((i - 1 : Nat) : Int) := by rw [wrap_in (by omega) (by omega)]; omega
    rcases (by omega : i = 1 ∨ i = 2 ∨ i = 3 ∨ i = 4 ∨ i = 5 ∨ i = 6) with rfl | rfl | rfl | rfl | rfl | rfl
    all_goals
      conv => whnf
      refine ⟨by omega, ?_⟩
      conv => whnf
      rw [hw3]
      refine ⟨by omega, ?_⟩
      conv => whnf
      refine Fork.mk (fun h => ?_) (fun h => ?_)
      · rw [f1, if_pos (by rw [hi2]; exact srt_bad (by simpa using h))] at hk
        conv => whnf
        exact hk
      · conv => whnf
        rw [hw1]
        exact ⟨_, ⟨⟨by omega, by omega⟩, by rw [hi2]; exact srt_good (by simpa using h)⟩, Shift.reset ⟨rfl, rfl, trivial⟩ ⟨rfl, trivial⟩ rfl rfl, by decide⟩
  · have hie : i = 7 := by simp at h; omega
    rw [f1, if_neg (by rw [hi2, hie]; simp [Rs.lv, srt])] at hk
    conv => whnf
    exact hk
end Go.Proofs

namespace Go.Proofs
open Go Go.Abs
set_option linter.unusedSimpArgs false
set_option linter.unusedVariables false
set_option maxRecDepth 4000
theorem hgt_ok : FunR Tryz.prog 39 R_hgt := by
  intro args k h
  unfold R_hgt at h
  split at h
  case h_2 => exact h.elim
  rename_i a b cc d e y
  obtain ⟨c, rfl, hl, ⟨hc, hr⟩, hk⟩ := h
  obtain ⟨hc0, hcl⟩ := ckC_ne hc
  have hm := eP_len c
  have hh := head_at hc0
  refine does_ex (qc := qc1) (np := []) (CK := ckK [(61, cSc R_last)]) mixed Tryz.func39 rfl rfl Tryz.ntmps39 Tryz.results39 τ_ok (by kernel_rfl) (ckK_ok ⟨cSc_ok last_ok, trivial⟩) (by simp) ?_
  conv => whnf
  refine ⟨c, rfl, hl, ?_⟩
  rw [lastV_ok hc]
  by_cases h1 : y < (c.headD (0, 0)).2
  · rw [if_pos h1]
    rw [hgt_lo h1] at hk
    conv => whnf
    refine fork_t ?_
    conv => whnf
    refine ⟨by omega, ePt (c.headD (0, 0)), eP_at c hh, rfl, ?_⟩
    conv => whnf
    exact hk
  · rw [if_neg h1]
    conv => whnf
    refine fork_f ?_
    conv => whnf
    exact hk
end Go.Proofs

namespace Go.Proofs
open Go Go.Abs
set_option linter.unusedSimpArgs false
set_option linter.unusedVariables false
set_option maxRecDepth 4000
theorem rckC_ok : FunR Tryz.prog 55 R_ckC := by
  intro args k h
  unfold R_ckC at h
  split at h
  case h_2 => exact h.elim
  obtain ⟨c, rfl, hl, hk⟩ := h
  have hm := eP_len c
  refine does_ex (qc := qc1) (np := []) (CK := ckK [(54, cSc R_within)]) mixed Tryz.func55 rfl rfl Tryz.ntmps55 Tryz.results55 τ_ok (by kernel_rfl) (ckK_ok ⟨cSc_ok rIn_ok, trivial⟩) (by simp) ?_
  conv => whnf
  refine Fork.mk (fun h => ?_) (fun h => ?_)
  · have h0 : c = [] := by simpa using h
    subst h0
    conv => whnf
    exact hk
  have h0 : c ≠ [] := fun e => by subst e; simp at h
  conv => whnf
  refine Fork.mk (fun h => ?_) (fun h => ?_)
  · have h1 : 100 < c.length := by simp at h; omega
    conv => whnf
    have e : ckC c = 10 := by
      cases c with
      | nil => exact absurd rfl h0
      | cons p r => rw [ckC_eq, if_pos h1]
    rw [e] at hk
    exact hk
  have h1 : c.length ≤ 100 := by simp at h; omega
  conv => whnf
  refine ⟨Nat, fun i => ([(0, .c (.lst (eP c))), (13, .c (.lst (eP c))), (14, I (eP c).length), (15, I i)], ⟨[], 5, []⟩), fun i => i ≤ c.length ∧ ckAt c i, fun i => c.length - i, 0, ⟨Nat.zero_le _, .inl rfl⟩,
    Shift.reset ⟨rfl, rfl, rfl, rfl, trivial⟩ trivial rfl rfl, fun i hi => ?_⟩
  obtain ⟨hi1, hi2⟩ := hi
  dsimp only
  conv => whnf
  refine Fork.mk (fun h => ?_) (fun h => ?_)
  · have hi : i < c.length := by simp at h; omega
    have hci := List.getElem?_eq_getElem hi
    generalize c[i] = p at hci
    have hat : (eP c)[(i : Int).toNat]? = some (ePt p) := by rw [Int.toNat_natCast]; exact eP_at c hci
    have hw1 := wr_succ (i := i) (by omega)
    have next : okPt p = true → ckC c = ckGo p (c.drop (i + 1)) → ckAt c (i + 1) := fun a b => .inr ⟨p, by rw [Nat.add_sub_cancel]; exact hci, a, b⟩
    have first : i = 0 → ckC c = if okPt p = false then 1 else ckGo p (c.drop (i + 1)) := fun e => by
      subst e
      have : c = p :: c.drop 1 := by have := drop_of hci; rwa [List.drop_zero] at this
      rw [this, ckC_eq, if_neg (by rw [← this]; omega)]
      simp
    have later : ∀ q, ckC c = ckGo q (c.drop i) → ckC c = if okPt p = false then 1 else if p.1 ≤ q.1 ∨ p.2 < q.2 then 4 else if steepB (p.1 - q.1) (p.2 - q.2) = true then 1 else ckGo p (c.drop (i + 1)) := fun q e => by
      rw [e, drop_of hci, ckGo_eq]
    have bad : okPt p = false → ckC c = 1 := fun e => by
      rcases hi2 with h | ⟨q, _, _, h⟩
      · rw [first h, if_pos e]
      · rw [later q h, if_pos e]
    conv => whnf
    refine ⟨by omega, ePt p, hat, rfl, ?_⟩
    conv => whnf
    refine Fork.mk (fun h => ?_) (fun h => ?_)
    · have e : okPt p = false := by simp at h; simp [okPt]; omega
      rw [bad e] at hk
      conv => whnf
      refine fork_t ?_
      conv => whnf
      exact hk
    conv => whnf
    have h2 : 0 ≤ p.1 ∧ p.1 ≤ 1073741824 := by simp at h; omega
    refine Fork.mk (fun h => ?_) (fun h => ?_)
    · have e : okPt p = false := by simp at h; simp [okPt]; omega
      rw [bad e] at hk
      conv => whnf
      exact hk
    have h3 : 0 ≤ p.2 ∧ p.2 ≤ 274877906944 := by simp at h; omega
    have hok : okPt p = true := okPt_of ⟨h2, h3⟩
    conv => whnf
    refine Fork.mk (fun h => ?_) (fun h => ?_)
    · have hi0 : i = 0 := by simp at h; omega
      have e := first hi0
      rw [if_neg (by rw [hok]; simp)] at e
      conv => whnf
      rw [hw1]
      refine ⟨i + 1, ⟨hi, next hok e⟩, Shift.reset ⟨rfl, rfl, rfl, rfl, trivial⟩ trivial rfl rfl, ?_⟩
      show c.length - (i + 1) < c.length - i
      omega
    have hi0 : i ≠ 0 := by simp at h; omega
    rcases hi2 with e | ⟨q, hq, hqo, hqe⟩
    · exact absurd e hi0
    have e := later q hqe
    rw [if_neg (by rw [hok]; simp)] at e
    have hq' := okPt_in hqo
    conv => whnf
    have hw2 : IntKind.i64.wrap ((i : Int) - 1) = ((i - 1 : Nat) : Int) := by rw [wrap_in (by omega) (by omega)]; omega
    rw [hw2]
    refine ⟨by omega, ePt q, by rw [Int.toNat_natCast]; exact eP_at c hq, rfl, ?_⟩
    conv => whnf
    rw [hw2]
    refine ⟨by omega, ePt q, by rw [Int.toNat_natCast]; exact eP_at c hq, rfl, ?_⟩
    conv => whnf
    rw [show IntKind.i64.wrap (p.1 - q.1) = p.1 - q.1 from wrap_in (by omega) (by omega)]
    refine Fork.mk (fun h => ?_) (fun h => ?_)
    · have h4 : p.1 ≤ q.1 := by simp at h; omega
      rw [if_pos (.inl h4)] at e
      rw [e] at hk
      conv => whnf
      refine fork_t ?_
      conv => whnf
      exact hk
    have h4 : ¬ p.1 ≤ q.1 := by simp at h; omega
    conv => whnf
    rw [show IntKind.i64.wrap (p.2 - q.2) = p.2 - q.2 from wrap_in (by omega) (by omega)]
    refine Fork.mk (fun h => ?_) (fun h => ?_)
    · have h5 : p.2 < q.2 := by simp at h; omega
      rw [if_pos (.inr h5)] at e
      rw [e] at hk
      conv => whnf
      exact hk
    have h5 : ¬ p.2 < q.2 := by simp at h; omega
    rw [if_neg (by omega)] at e
    have hst : steepB (p.1 - q.1) (p.2 - q.2) = decide (4611686018427387904 / (p.1 - q.1) < p.2 - q.2) := by simp [steepB]; omega
    rw [hst] at e
    conv => whnf
    refine ⟨by omega, ?_⟩
    have ew : IntKind.i64.wrap ((4611686018427387904 : Int).tdiv (p.1 - q.1)) = 4611686018427387904 / (p.1 - q.1) := by
      rw [Int.tdiv_eq_ediv_of_nonneg (by omega)]
      have h2 := Int.ediv_nonneg (show (0 : Int) ≤ 4611686018427387904 by omega) (show 0 ≤ p.1 - q.1 by omega)
      have h3 := Int.ediv_le_self (p.1 - q.1) (show (0 : Int) ≤ 4611686018427387904 by omega)
      exact wrap_in (by omega) (by omega)
    conv => whnf
    rw [ew]
    refine Fork.mk (fun h => ?_) (fun h => ?_)
    · rw [if_pos h] at e
      rw [e] at hk
      conv => whnf
      exact hk
    rw [if_neg (by rw [h]; simp)] at e
    conv => whnf
    rw [hw1]
    refine ⟨i + 1, ⟨hi, next hok e⟩, Shift.reset ⟨rfl, rfl, rfl, rfl, trivial⟩ trivial rfl rfl, ?_⟩
    show c.length - (i + 1) < c.length - i
    omega
  · have hie : i = c.length := by simp at h; omega
    subst hie
    rcases hi2 with e | ⟨q, _, _, e⟩
    · exact absurd (List.eq_nil_of_length_eq_zero e) h0
    rw [e, List.drop_length] at hk
    conv => whnf
    exact hk
theorem rat_ok : FunR Tryz.prog 56 R_val := by
  intro args k h
  unfold R_val at h
  split at h
  case h_2 => exact h.elim
  rename_i x
  obtain ⟨c, rfl, hv, hk⟩ := h
  obtain ⟨h0, hl⟩ := ckC_ne hv
  have hm := eP_len c
  have hh := head_at h0
  refine does_ex (qc := qc1) (np := [(7, [(3, 9), (3, 10), (4, 9), (4, 10), (7, 9), (7, 10), (7, 11), (8, 9), (8, 10), (8, 11), (9, 10)])]) (CK := ckK []) mixed Tryz.func56 rfl rfl Tryz.ntmps56 Tryz.results56 τ_ok (by kernel_rfl) (ckK_ok trivial) (by simp) ?_
  conv => whnf
  refine ⟨by omega, ePt (c.headD (0, 0)), eP_at c hh, rfl, ?_⟩
  have f1 : valC c x = if x ≤ (c.headD (0, 0)).1 then (c.headD (0, 0)).2 else vGo (c.headD (0, 0)) (c.drop 1) x := by
    cases c with
    | nil => exact absurd rfl h0
    | cons p r => rfl
  have f2 : ckGo (c.headD (0, 0)) (c.drop 1) = 0 := by
    cases c with
    | nil => exact absurd rfl h0
    | cons p r => exact (ckC_cons.1 hv).2.2
  conv => whnf
  refine Fork.mk (fun h => ?_) (fun h => ?_)
  · have h1 : x ≤ (c.headD (0, 0)).1 := of_decide_eq_true h
    rw [f1, if_pos h1] at hk
    conv => whnf
    refine ⟨by omega, ePt (c.headD (0, 0)), eP_at c hh, rfl, ?_⟩
    conv => whnf
    exact hk
  have h1 : ¬ x ≤ (c.headD (0, 0)).1 := of_decide_eq_false h
  rw [if_neg h1] at f1
  clear h
  conv => whnf
  refine ⟨Nat, fun i => ([(0, .c (.lst (eP c))), (1, I x), (5, I i)], ⟨[], 5, []⟩), fun i => (1 ≤ i ∧ i ≤ c.length) ∧ rAt c x i, fun i => c.length - i, 1, ⟨⟨Nat.le_refl _, by have := List.length_pos_iff.2 h0; omega⟩, c.headD (0, 0), hh, by omega, f1, f2, ckC_ok hv _ (List.mem_of_getElem? hh)⟩,
    Shift.reset ⟨rfl, rfl, rfl, trivial⟩ trivial rfl rfl, fun i hi => ?_⟩
  obtain ⟨⟨hi0, hi1⟩, q, hq, hqx, hqe, hqc, hqo⟩ := hi
  have hq' := okPt_in hqo
  dsimp only
  conv => whnf
  refine Fork.mk (fun h => ?_) (fun h => ?_)
  · have hi : i < c.length := by simp at h; omega
    have hci := List.getElem?_eq_getElem hi
    have hpo' := ckC_ok hv _ (List.getElem_mem hi)
    have hpo := okPt_in hpo'
    generalize c[i] = p at hci hpo hpo'
    have hat : (eP c)[(i : Int).toNat]? = some (ePt p) := by rw [Int.toNat_natCast]; exact eP_at c hci
    have hw1 := wr_succ (i := i) (by omega)
    have hdr := drop_of hci
    rw [hdr] at hqe hqc
    obtain ⟨c1, c2, c3, c4, c5⟩ := ckGo_cons.1 hqc
    conv => whnf
    refine ⟨by omega, ePt p, hat, rfl, ?_⟩
    conv => whnf
    refine Fork.mk (fun h => ?_) (fun h => ?_)
    · have hx : x < p.1 := by simpa using h
      have e : valC c x = q.2 + (p.2 - q.2) * (x - q.1) / (p.1 - q.1) := by rw [hqe]; exact if_pos (by omega)
      rw [e] at hk
      obtain ⟨s1, s2, s3, s4⟩ := seg_in c2 c3 hqx (show x ≤ p.1 by omega)
      conv => whnf
      have hw2 : IntKind.i64.wrap ((i : Int) - 1) = ((i - 1 : Nat) : Int) := by rw [wrap_in (by omega) (by omega)]; omega
      rw [hw2]
      refine ⟨by omega, ePt q, by rw [Int.toNat_natCast]; exact eP_at c hq, rfl, ?_⟩
      conv => whnf
      refine ⟨by omega, ePt p, hat, rfl, ?_⟩
      conv => whnf
      rw [show IntKind.i64.wrap (p.2 - q.2) = p.2 - q.2 from wrap_in (by omega) (by omega), show IntKind.i64.wrap (x - q.1) = x - q.1 from wrap_in (by omega) (by omega), show IntKind.i64.wrap (p.1 - q.1) = p.1 - q.1 from wrap_in (by omega) (by omega)]
      rw [show IntKind.i64.wrap ((p.2 - q.2) * (x - q.1)) = (p.2 - q.2) * (x - q.1) from wrap_in (by omega) (by omega)]
      refine ⟨by omega, ?_⟩
      conv => whnf
      rw [show IntKind.i64.wrap (((p.2 - q.2) * (x - q.1)).tdiv (p.1 - q.1)) = (p.2 - q.2) * (x - q.1) / (p.1 - q.1) by rw [Int.tdiv_eq_ediv_of_nonneg s1]; exact wrap_in (by omega) (by omega)]
      rw [show IntKind.i64.wrap (q.2 + (p.2 - q.2) * (x - q.1) / (p.1 - q.1)) = q.2 + (p.2 - q.2) * (x - q.1) / (p.1 - q.1) from wrap_in (by omega) (by omega)]
      exact hk
    have hx : ¬ x < p.1 := by simpa using h
    conv => whnf
    rw [hw1]
    refine ⟨i + 1, ⟨⟨by omega, hi⟩, p, by rw [Nat.add_sub_cancel]; exact hci, by omega, by rw [hqe]; exact vGo_next hqc hx, c5, hpo'⟩, Shift.reset ⟨rfl, rfl, rfl, trivial⟩ trivial rfl rfl, ?_⟩
    show c.length - (i + 1) < c.length - i
    omega
  · have hie : i = c.length := by simp at h; omega
    subst hie
    rw [hqe, List.drop_length] at hk
    conv => whnf
    have hw2 : IntKind.i64.wrap (((eP c).length : Int) - 1) = ((c.length - 1 : Nat) : Int) := by rw [hm, wrap_in (by omega) (by omega)]; omega
    rw [hw2]
    refine ⟨by omega, ePt q, by rw [Int.toNat_natCast]; exact eP_at c hq, rfl, ?_⟩
    conv => whnf
    exact hk
theorem rAt_ok : FunR Tryz.prog 35 R_at := by
  intro args k h
  unfold R_at at h
  split at h
  case h_2 => exact h.elim
  rename_i x
  obtain ⟨c, rfl, hl, hk⟩ := h
  refine does_ex (qc := qc1) (np := []) (CK := ckK [(55, cSc R_ckC), (56, cSc R_val)]) mixed Tryz.func35 rfl rfl Tryz.ntmps35 Tryz.results35 τ_ok (by kernel_rfl) (ckK_ok ⟨cSc_ok rckC_ok, cSc_ok rat_ok, trivial⟩) (by simp) ?_
  conv => whnf
  refine ⟨c, rfl, hl, ?_⟩
  conv => whnf
  refine Fork.mk (fun h => ?_) (fun h => ?_)
  · have h1 : ckC c ≠ 0 := by simpa using h
    rw [show atV c x = (0, ckC c) from if_pos h1] at hk
    conv => whnf
    exact hk
  have h1 : ckC c = 0 := by simpa using h
  rw [show atV c x = (valC c x, 0) from if_neg (by simpa using h1)] at hk
  conv => whnf
  refine ⟨c, rfl, h1, ?_⟩
  conv => whnf
  exact hk
end Go.Proofs
