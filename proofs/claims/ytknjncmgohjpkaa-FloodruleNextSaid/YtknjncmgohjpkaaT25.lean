/- Proved here: what functions of the given program come to, for the statements of this chapter; no condition but those in the theorems. -/
import Derived.Test.YtknjncmgohjpkaaR25
namespace Go.Proofs
open Go Go.Abs
set_option linter.unusedSimpArgs false
set_option linter.unusedVariables false
set_option maxRecDepth 4000
theorem rckS_ok : FunR Try.prog 35 (R_rs ckS) := by
  intro args k h
  unfold R_rs at h
  split at h
  case h_2 => exact h.elim
  rename_i a b cc d e
  obtain ⟨c, rfl, hl, hk⟩ := h
  have hm := eP_len c
  refine does_ex (qc := qc1) (np := []) (CK := ckK [(54, cSc R_ckC)]) mixed Try.func35 rfl rfl Try.ntmps35 Try.results35 τ_ok (by kernel_rfl) (ckK_ok ⟨cSc_ok rckC_ok, trivial⟩) (by simp) ?_
  conv => whnf
  refine ⟨c, rfl, hl, ?_⟩
  conv => whnf
  refine Fork.mk (fun h => ?_) (fun h => ?_)
  · have h1 : ckC c ≠ 0 := by simpa using h
    rw [show ckS ⟨c, a, b, cc, d, e⟩ = ckC c from if_pos h1] at hk
    conv => whnf
    exact hk
  have h1 : ckC c = 0 := by simpa using h
  obtain ⟨hc0, hcl⟩ := ckC_ne h1
  have f1 : ckS ⟨c, a, b, cc, d, e⟩ = if c.length < 2 then 3 else if 16777216 < (lastP c).1 then 1 else if riseB c = false then 4 else if srt (Rs.lv ⟨c, a, b, cc, d, e⟩) = false then 4 else 0 := by
    unfold ckS; rw [if_neg (by simpa using h1)]
  conv => whnf
  refine Fork.mk (fun h => ?_) (fun h => ?_)
  · have h2 : c.length < 2 := by simp at h; omega
    rw [f1, if_pos h2] at hk
    conv => whnf
    exact hk
  have h2 : ¬ c.length < 2 := by simp at h; omega
  rw [if_neg h2] at f1
  have hla := lastP_at hc0
  have hw2 : IntKind.i64.wrap (((eP c).length : Int) - 1) = ((c.length - 1 : Nat) : Int) := by rw [eP_len, wrap_in (by omega) (by omega)]; omega
  conv => whnf
  refine ⟨Nat, fun i => ([(1, .c (.ptr (.l 1 0) 0)), (4, I (eP c).length), (22, .c (.lst (eP c))), (23, I (eP c).length), (24, I i)], ⟨[(.l 1 0, .blk (rsC ⟨c, a, b, cc, d, e⟩))], 5, []⟩),
    fun i => i ≤ c.length ∧ ∀ j p, c[j]? = some p → j < i → p.1 ≤ 16777216, fun i => c.length - i, 0, ⟨by omega, fun j p _ h => by omega⟩,
    Shift.reset ⟨rfl, rfl, rfl, rfl, rfl, trivial⟩ ⟨rfl, trivial⟩ rfl rfl, fun i hi => ?_⟩
  obtain ⟨hi1, hi2⟩ := hi
  dsimp only
  conv => whnf
  refine Fork.mk (fun h => ?_) (fun h => ?_)
  · have hi : i < c.length := by simp at h; omega
    have hci := List.getElem?_eq_getElem hi
    have hmem := List.getElem_mem hi
    generalize c[i] = p at hci hmem
    have hw1 := wr_succ (i := i) (by omega)
    conv => whnf
    refine ⟨by omega, ePt p, by rw [Int.toNat_natCast]; exact eP_at c hci, rfl, ?_⟩
    conv => whnf
    refine Fork.mk (fun h => ?_) (fun h => ?_)
    · have h4 : 16777216 < p.1 := by simpa using h
      have := le_last h1 _ hmem
      rw [f1, if_pos (by omega)] at hk
      conv => whnf
      exact hk
    have h4 : ¬ 16777216 < p.1 := by simpa using h
    conv => whnf
    rw [hw1]
    refine ⟨i + 1, ⟨hi, fun j q hj hlt => ?_⟩, Shift.reset ⟨rfl, rfl, rfl, rfl, rfl, trivial⟩ ⟨rfl, trivial⟩ rfl rfl, ?_⟩
    · by_cases e : j = i
      · subst e; rw [hci] at hj; cases hj; omega
      · exact hi2 j q hj (by omega)
    show c.length - (i + 1) < c.length - i
    omega
  have hie : i = c.length := by simp at h; omega
  have h3 : ¬ 16777216 < (lastP c).1 := by have := hi2 _ _ hla (by omega); omega
  rw [if_neg h3] at f1
  clear hi2 hi1 h hie
  conv => whnf
  refine ⟨Nat, fun i => ([(1, .c (.ptr (.l 1 0) 0)), (4, I (eP c).length), (7, I i)], ⟨[(.l 1 0, .blk (rsC ⟨c, a, b, cc, d, e⟩))], 5, []⟩),
    fun i => (1 ≤ i ∧ i ≤ c.length) ∧ riseB c = riseB (c.drop (i - 1)), fun i => c.length - i, 1, ⟨⟨by omega, by omega⟩, rfl⟩,
    Shift.reset ⟨rfl, rfl, rfl, trivial⟩ ⟨rfl, trivial⟩ rfl rfl, fun i hi => ?_⟩
  obtain ⟨⟨hi0, hi1⟩, hi2⟩ := hi
  dsimp only
  conv => whnf
  refine Fork.mk (fun h => ?_) (fun h => ?_)
  · have hi : i < c.length := by simp at h; omega
    have hci := List.getElem?_eq_getElem hi
    have hcj := List.getElem?_eq_getElem (show i - 1 < c.length by omega)
    generalize c[i] = p at hci
    generalize c[i - 1] = q at hcj
    have e1 := drop_of hcj
    rw [show i - 1 + 1 = i by omega] at e1
    have e2 := drop_of hci
    rw [e1, e2] at hi2
    have hw1 := wr_succ (i := i) (by omega)
    have hw3 : IntKind.i64.wrap ((i : Int) - 1) = ((i - 1 : Nat) : Int) := by rw [wrap_in (by omega) (by omega)]; omega
    conv => whnf
    refine ⟨by omega, ePt p, by rw [Int.toNat_natCast]; exact eP_at c hci, rfl, ?_⟩
    conv => whnf
    rw [hw3]
    refine ⟨by omega, ePt q, by rw [Int.toNat_natCast]; exact eP_at c hcj, rfl, ?_⟩
    conv => whnf
    refine Fork.mk (fun h => ?_) (fun h => ?_)
    · have h4 : p.2 ≤ q.2 := by simpa using h
      rw [f1, if_pos (by rw [hi2]; exact rise_bad h4)] at hk
      conv => whnf
      exact hk
    have h4 : ¬ p.2 ≤ q.2 := by simpa using h
    conv => whnf
    rw [hw1]
    refine ⟨i + 1, ⟨⟨by omega, hi⟩, by rw [hi2, rise_good h4, ← e2]; rfl⟩, Shift.reset ⟨rfl, rfl, rfl, trivial⟩ ⟨rfl, trivial⟩ rfl rfl, ?_⟩
    show c.length - (i + 1) < c.length - i
    omega
  have hie : i = c.length := by simp at h; omega
  have h5 : riseB c = true := by
    rw [hi2, hie]
    have := drop_of hla
    rw [this, show c.length - 1 + 1 = c.length by omega, List.drop_length]
    rfl
  clear hi2 hi0 hi1 h
  rw [if_neg (by rw [h5]; simp)] at f1
  have hh := head_at hc0
  conv => whnf
  refine ⟨by omega, ePt (c.headD (0, 0)), eP_at c hh, rfl, ?_⟩
  conv => whnf
  rw [hw2]
  refine ⟨by omega, ePt (lastP c), by rw [Int.toNat_natCast]; exact eP_at c hla, rfl, ?_⟩
  conv => whnf
  rw [show Rs.lv ⟨c, a, b, cc, d, e⟩ = [(c.headD (0, 0)).1, a, b, cc, d, e, (lastP c).1] from rfl] at f1
  generalize hL : [(c.headD (0, 0)).1, a, b, cc, d, e, (lastP c).1] = L at f1
  refine ⟨Nat, fun i => ([(8, .c (.view (.l 73 0) 0 7)), (9, I i)], ⟨[(.l 73 0, .arr 3 1 [[IC (c.headD (0, 0)).1], [IC a], [IC b], [IC cc], [IC d], [IC e], [IC (lastP c).1]] false)], 5, []⟩),
    fun i => (1 ≤ i ∧ i ≤ 7) ∧ srt L = srt (L.drop (i - 1)), fun i => 7 - i, 1, ⟨⟨by omega, by omega⟩, rfl⟩,
    Shift.rename [(.l 73 0, .l 73 5)] ⟨rfl, rfl, trivial⟩ ⟨rfl, trivial⟩ rfl rfl rfl, fun i hi => ?_⟩
  obtain ⟨⟨hi0, hi1⟩, hi2⟩ := hi
  dsimp only
  conv => whnf
  subst hL
  refine Fork.mk (fun h => ?_) (fun h => ?_)
  · have hi : i < 7 := by simp at h; omega
    clear h
    have hw1 := wr_succ (i := i) (by omega)
    have hw3 : IntKind.i64.wrap ((i : Int) - 1) = ((i - 1 : Nat) : Int) := by rw [wrap_in (by omega) (by omega)]; omega
    rcases (by omega : i = 1 ∨ i = 2 ∨ i = 3 ∨ i = 4 ∨ i = 5 ∨ i = 6) with rfl | rfl | rfl | rfl | rfl | rfl
    all_goals
      conv => whnf
      refine ⟨by omega, rfl, ?_⟩
      conv => whnf
      refine ⟨_, rfl, ?_⟩
      conv => whnf
      rw [hw3]
      refine ⟨by omega, rfl, ?_⟩
      conv => whnf
      refine ⟨_, rfl, ?_⟩
      conv => whnf
      refine Fork.mk (fun h => ?_) (fun h => ?_)
      · rw [f1, if_pos (by rw [hi2]; exact srt_bad (by simpa using h))] at hk
        conv => whnf
        exact hk
      · conv => whnf
        rw [hw1]
        exact ⟨_, ⟨⟨by omega, by omega⟩, by rw [hi2]; exact srt_good (by simpa using h)⟩, Shift.reset ⟨rfl, rfl, trivial⟩ ⟨rfl, trivial⟩ rfl rfl, by decide⟩
  · have hie : i = 7 := by simp at h; omega
    rw [f1, if_neg (by rw [hi2, hie]; simp [Rs.lv, srt])] at hk
    conv => whnf
    exact hk
theorem rwrong_ok : FunR Try.prog 40 (R_rsI fun r x => askS r 0 x) := by
  intro args k h
  unfold R_rsI at h
  split at h
  case h_2 => exact h.elim
  rename_i a b cc d e x
  obtain ⟨c, rfl, hl, hk⟩ := h
  have hk : k (I (askS ⟨c, a, b, cc, d, e⟩ 0 x)) := hk
  refine does_ex (qc := qc1) (np := []) (CK := ckK [(35, cSc (R_rs ckS)), (59, cSc R_within)]) mixed Try.func40 rfl rfl Try.ntmps40 Try.results40 τ_ok (by kernel_rfl) (ckK_ok ⟨cSc_ok rckS_ok, cSc_ok rIn_ok, trivial⟩) (by simp) ?_
  conv => whnf
  refine ⟨c, rfl, hl, ?_⟩
  conv => whnf
  refine Fork.mk (fun h => ?_) (fun h => ?_)
  · have h1 : ckS ⟨c, a, b, cc, d, e⟩ ≠ 0 := by simpa using h
    rw [show askS ⟨c, a, b, cc, d, e⟩ 0 x = ckS ⟨c, a, b, cc, d, e⟩ from if_pos h1] at hk
    conv => whnf
    exact hk
  have h1 : ckS ⟨c, a, b, cc, d, e⟩ = 0 := by simpa using h
  have f1 : askS ⟨c, a, b, cc, d, e⟩ 0 x = if inB 0 274877906944 0 = true ∧ inB 0 16777216 x = true then 0 else 1 := by unfold askS; rw [if_neg (by rw [h1]; simp)]
  conv => whnf
  refine Fork.mk (fun h => ?_) (fun h => ?_)
  · rw [f1, if_neg (by simp [inB] at h ⊢; omega)] at hk
    conv => whnf
    exact hk
  · rw [f1, if_pos (by simp [inB] at h ⊢; omega)] at hk
    conv => whnf
    exact hk
theorem rvolS_ok : FunR Try.prog 25 (R_rs1 volS) := by
  intro args k h
  unfold R_rs1 at h
  split at h
  case h_2 => exact h.elim
  rename_i a b cc d e x
  obtain ⟨c, rfl, hl, hk⟩ := h
  refine does_ex (qc := qc1) (np := []) (CK := ckK [(40, cSc (R_rsI fun r x => askS r 0 x)), (41, cSc R_at)]) mixed Try.func25 rfl rfl Try.ntmps25 Try.results25 τ_ok (by kernel_rfl) (ckK_ok ⟨cSc_ok rwrong_ok, cSc_ok rAt_ok, trivial⟩) (by simp) ?_
  conv => whnf
  refine ⟨c, rfl, hl, ?_⟩
  conv => whnf
  refine Fork.mk (fun h => ?_) (fun h => ?_)
  · have h1 : askS ⟨c, a, b, cc, d, e⟩ 0 x ≠ 0 := by simpa using h
    rw [show volS ⟨c, a, b, cc, d, e⟩ x = (0, askS ⟨c, a, b, cc, d, e⟩ 0 x) from if_pos h1] at hk
    conv => whnf
    exact hk
  have h1 : askS ⟨c, a, b, cc, d, e⟩ 0 x = 0 := by simpa using h
  obtain ⟨hck, hv, hx⟩ := askS_ok h1
  obtain ⟨hc, hlen, hlast, hrise, hsrt⟩ := ckS_ok hck
  dsimp only at hc hlen hlast hrise
  rw [show volS ⟨c, a, b, cc, d, e⟩ x = (valC c x, 0) by unfold volS; exact if_neg (by rw [h1]; simp)] at hk
  conv => whnf
  refine ⟨c, rfl, hl, ?_⟩
  rw [show atV c x = (valC c x, 0) from if_neg (by simpa using hc)]
  conv => whnf
  exact hk
theorem rlevS_ok : FunR Try.prog 47 (R_rs1 levS) := by
  intro args k h
  unfold R_rs1 at h
  split at h
  case h_2 => exact h.elim
  rename_i a b cc d e x
  obtain ⟨c, rfl, hl, hk⟩ := h
  refine does_ex (qc := qc1) (np := []) (CK := ckK [(35, cSc (R_rs ckS)), (59, cSc R_within), (64, cSc R_last)]) mixed Try.func47 rfl rfl Try.ntmps47 Try.results47 τ_ok (by kernel_rfl) (ckK_ok ⟨cSc_ok rckS_ok, cSc_ok rIn_ok, cSc_ok rlast_ok, trivial⟩) (by simp) ?_
  conv => whnf
  refine ⟨c, rfl, hl, ?_⟩
  conv => whnf
  refine Fork.mk (fun h => ?_) (fun h => ?_)
  · have h1 : ckS ⟨c, a, b, cc, d, e⟩ ≠ 0 := by simpa using h
    have h2 : askS ⟨c, a, b, cc, d, e⟩ x 0 = ckS ⟨c, a, b, cc, d, e⟩ := if_pos h1
    rw [show levS ⟨c, a, b, cc, d, e⟩ x = (0, ckS ⟨c, a, b, cc, d, e⟩) by unfold levS; rw [h2, if_pos h1]] at hk
    conv => whnf
    exact hk
  have hck : ckS ⟨c, a, b, cc, d, e⟩ = 0 := by simpa using h
  obtain ⟨hc, hlen, hlast, hrise, hsrt⟩ := ckS_ok hck
  dsimp only at hc hlen hlast hrise
  have f1 : askS ⟨c, a, b, cc, d, e⟩ x 0 = if inB 0 274877906944 x = true ∧ inB 0 16777216 0 = true then 0 else 1 := by unfold askS; rw [if_neg (by rw [hck]; simp)]
  conv => whnf
  refine Fork.mk (fun h => ?_) (fun h => ?_)
  · have h2 : askS ⟨c, a, b, cc, d, e⟩ x 0 = 1 := by rw [f1, if_neg (by simp [inB] at h ⊢; omega)]
    rw [show levS ⟨c, a, b, cc, d, e⟩ x = (0, 1) by unfold levS; rw [h2]; exact if_pos (by omega)] at hk
    conv => whnf
    exact hk
  have h1 : askS ⟨c, a, b, cc, d, e⟩ x 0 = 0 := by rw [f1, if_pos (by simp [inB] at h ⊢; omega)]
  have hv : 0 ≤ x ∧ x ≤ 274877906944 := by simp at h; omega
  rw [show levS ⟨c, a, b, cc, d, e⟩ x = (hgt c x, 0) by unfold levS; exact if_neg (by rw [h1]; simp)] at hk
  conv => whnf
  refine ⟨c, rfl, hl, ?_⟩
  rw [lastV_ok hc]
  by_cases h3 : x < (c.headD (0, 0)).2
  · rw [if_pos h3]
    rw [hgt_lo h3] at hk
    conv => whnf
    refine fork_t ?_
    conv => whnf
    refine ⟨by omega, ePt (c.headD (0, 0)), eP_at c (head_at (ckC_ne hc).1), rfl, ?_⟩
    conv => whnf
    exact hk
  · rw [if_neg h3]
    conv => whnf
    refine fork_f ?_
    conv => whnf
    exact hk
end Go.Proofs
