/- Proved here: what functions of the given program come to, and the plain laws of it; no condition but those in the theorems. -/
import Derived.Test.YtknjncmgohjpkaaR25
namespace Go.Proofs
open Go Go.Abs
set_option linter.unusedSimpArgs false
set_option linter.unusedVariables false
set_option maxRecDepth 4000
theorem rckS_ok : FunR Try.prog 35 (R_rs ckS) := by
  intro args k h
  unfold R_rs at h
  split at h
  case h_2 => exact h.elim
  rename_i a b cc d e
  obtain ⟨c, rfl, hl, hk⟩ := h
  have hm := eP_len c
  refine does_ex (qc := qc1) (np := []) (CK := ckK [(54, cSc R_ckC)]) mixed Try.func35 rfl rfl Try.ntmps35 Try.results35 τ_ok (by kernel_rfl) (ckK_ok ⟨cSc_ok rckC_ok, trivial⟩) (by simp) ?_
  conv => whnf
  refine ⟨c, rfl, hl, ?_⟩
  conv => whnf
  refine Fork.mk (fun h => ?_) (fun h => ?_)
  · have h1 : ckC c ≠ 0 := by simpa using h
    rw [show ckS ⟨c, a, b, cc, d, e⟩ = ckC c from if_pos h1] at hk
    conv => whnf
    exact hk
  have h1 : ckC c = 0 := by simpa using h
  obtain ⟨hc0, hcl⟩ := ckC_ne h1
  have f1 : ckS ⟨c, a, b, cc, d, e⟩ = if c.length < 2 then 3 else if 16777216 < (lastP c).1 then 1 else if riseB c = false then 4 else if srt (Rs.lv ⟨c, a, b, cc, d, e⟩) = false then 4 else 0 := by
    unfold ckS; rw [if_neg (by simpa using h1)]
  conv => whnf
  refine Fork.mk (fun h => ?_) (fun h => ?_)
  · have h2 : c.length < 2 := by simp at h; omega
    rw [f1, if_pos h2] at hk
    conv => whnf
    exact hk
  have h2 : ¬ c.length < 2 := by simp at h; omega
  rw [if_neg h2] at f1
  have hla := lastP_at hc0
  have hw2 : IntKind.i64.wrap (((eP c).length : Int) - 1) = ((c.length - 1 : Nat) : Int) := by rw [eP_len, wrap_in (by omega) (by omega)]; omega
  conv => whnf
  refine ⟨Nat, fun i => ([(1, .c (.ptr (.l 1 0) 0)), (4, I (eP c).length), (22, .c (.lst (eP c))), (23, I (eP c).length), (24, I i)], ⟨[(.l 1 0, .blk (rsC ⟨c, a, b, cc, d, e⟩))], 5, []⟩),
    fun i => i ≤ c.length ∧ ∀ j p, c[j]? = some p → j < i → p.1 ≤ 16777216, fun i => c.length - i, 0, ⟨by omega, fun j p _ h => by omega⟩,
    Shift.reset ⟨rfl, rfl, rfl, rfl, rfl, trivial⟩ ⟨rfl, trivial⟩ rfl rfl, fun i hi => ?_⟩
  obtain ⟨hi1, hi2⟩ := hi
  dsimp only
  conv => whnf
  refine Fork.mk (fun h => ?_) (fun h => ?_)
  · have hi : i < c.length := by simp at h; omega
    have hci := List.getElem?_eq_getElem hi
    have hmem := List.getElem_mem hi
    generalize c[i] = p at hci hmem
    have hw1 := wr_succ (i := i) (by omega)
    conv => whnf
    refine ⟨by omega, ePt p, by rw [Int.toNat_natCast]; exact eP_at c hci, rfl, ?_⟩
    conv => whnf
    refine Fork.mk (fun h => ?_) (fun h => ?_)
    · have h4 : 16777216 < p.1 := by simpa using h
      have := le_last h1 _ hmem
      rw [f1, if_pos (by omega)] at hk
      conv => whnf
      exact hk
    have h4 : ¬ 16777216 < p.1 := by simpa using h
    conv => whnf
    rw [hw1]
    refine ⟨i + 1, ⟨hi, fun j q hj hlt => ?_⟩, Shift.reset ⟨rfl, rfl, rfl, rfl, rfl, trivial⟩ ⟨rfl, trivial⟩ rfl rfl, ?_⟩
    · by_cases e : j = i
      · subst e; rw [hci] at hj; cases hj; omega
      · exact hi2 j q hj (by omega)
    show c.length - (i + 1) < c.length - i
    omega
  have hie : i = c.length := by simp at h; omega
  have h3 : ¬ 16777216 < (lastP c).1 := by have := hi2 _ _ hla (by omega); omega
  rw [if_neg h3] at f1
  clear hi2 hi1 h hie
  conv => whnf
  refine ⟨Nat, fun i => ([(1, .c (.ptr (.l 1 0) 0)), (4, I (eP c).length), (7, I i)], ⟨[(.l 1 0, .blk (rsC ⟨c, a, b, cc, d, e⟩))], 5, []⟩),
    fun i => (1 ≤ i ∧ i ≤ c.length) ∧ riseB c = riseB (c.drop (i - 1)), fun i => c.length - i, 1, ⟨⟨by omega, by omega⟩, rfl⟩,
    Shift.reset ⟨rfl, rfl, rfl, trivial⟩ ⟨rfl, trivial⟩ rfl rfl, fun i hi => ?_⟩
  obtain ⟨⟨hi0, hi1⟩, hi2⟩ := hi
  dsimp only
  conv => whnf
  refine Fork.mk (fun h => ?_) (fun h => ?_)
  · have hi : i < c.length := by simp at h; omega
    have hci := List.getElem?_eq_getElem hi
    have hcj := List.getElem?_eq_getElem (show i - 1 < c.length by omega)
    generalize c[i] = p at hci
    generalize c[i - 1] = q at hcj
    have e1 := drop_of hcj
    rw [show i - 1 + 1 = i by omega] at e1
    have e2 := drop_of hci
    rw [e1, e2] at hi2
    have hw1 := wr_succ (i := i) (by omega)
    have hw3 : IntKind.i64.wrap ((i : Int) - 1) = ((i - 1 : Nat) : Int) := by rw [wrap_in (by omega) (by omega)]; omega
    conv => whnf
    refine ⟨by omega, ePt p, by rw [Int.toNat_natCast]; exact eP_at c hci, rfl, ?_⟩
    conv => whnf
    rw [hw3]
    refine ⟨by omega, ePt q, by rw [Int.toNat_natCast]; exact eP_at c hcj, rfl, ?_⟩
    conv => whnf
    refine Fork.mk (fun h => ?_) (fun h => ?_)
    · have h4 : p.2 ≤ q.2 := by simpa using h
      rw [f1, if_pos (by rw [hi2]; exact rise_bad h4)] at hk
      conv => whnf
      exact hk
    have h4 : ¬ p.2 ≤ q.2 := by simpa using h
    conv => whnf
    rw [hw1]
    refine ⟨i + 1, ⟨⟨by omega, hi⟩, by rw [hi2, rise_good h4, ← e2]; rfl⟩, Shift.reset ⟨rfl, rfl, rfl, trivial⟩ ⟨rfl, trivial⟩ rfl rfl, ?_⟩
    show c.length - (i + 1) < c.length - i
    omega
  have hie : i = c.length := by simp at h; omega
  have h5 : riseB c = true := by
    rw [hi2, hie]
    have := drop_of hla
    rw [this, show c.length - 1 + 1 = c.length by omega, List.drop_length]
    rfl
  clear hi2 hi0 hi1 h
  rw [if_neg (by rw [h5]; simp)] at f1
  have hh := head_at hc0
  conv => whnf
  refine ⟨by omega, ePt (c.headD (0, 0)), eP_at c hh, rfl, ?_⟩
  conv => whnf
  rw [hw2]
  refine ⟨by omega, ePt (lastP c), by rw [Int.toNat_natCast]; exact eP_at c hla, rfl, ?_⟩
  conv => whnf
  rw [show Rs.lv ⟨c, a, b, cc, d, e⟩ = [(c.headD (0, 0)).1, a, b, cc, d, e, (lastP c).1] from rfl] at f1
  generalize hL : [(c.headD (0, 0)).1, a, b, cc, d, e, (lastP c).1] = L at f1
  refine ⟨Nat, fun i => ([(8, .c (.view (.l 73 0) 0 7)), (9, I i)], ⟨[(.l 73 0, .arr 3 1 [[IC (c.headD (0, 0)).1], [IC a], [IC b], [IC cc], [IC d], [IC e], [IC (lastP c).1]] false)], 5, []⟩),
    fun i => (1 ≤ i ∧ i ≤ 7) ∧ srt L = srt (L.drop (i - 1)), fun i => 7 - i, 1, ⟨⟨by omega, by omega⟩, rfl⟩,
    Shift.rename [(.l 73 0, .l 73 5)] ⟨rfl, rfl, trivial⟩ ⟨rfl, trivial⟩ rfl rfl rfl, fun i hi => ?_⟩
  obtain ⟨⟨hi0, hi1⟩, hi2⟩ := hi
  dsimp only
  conv => whnf
  subst hL
  refine Fork.mk (fun h => ?_) (fun h => ?_)
  · have hi : i < 7 := by simp at h; omega
    clear h
    have hw1 := wr_succ (i := i) (by omega)
    have hw3 : IntKind.i64.wrap ((i : Int) - 1) = ((i - 1 : Nat) : Int) := by rw [wrap_in (by omega) (by omega)]; omega
    rcases (by omega : i = 1 ∨ i = 2 ∨ i = 3 ∨ i = 4 ∨ i = 5 ∨ i = 6) with rfl | rfl | rfl | rfl | rfl | rfl
    all_goals
      conv => whnf
      refine ⟨by omega, rfl, ?_⟩
      conv => whnf
      refine ⟨_, rfl, ?_⟩
      conv => whnf
      rw [hw3]
      refine ⟨by omega, rfl, ?_⟩
      conv => whnf
      refine ⟨_, rfl, ?_⟩
      conv => whnf
      refine Fork.mk (fun h => ?_) (fun h => ?_)
      · rw [f1, if_pos (by rw [hi2]; exact srt_bad (by simpa using h))] at hk
        conv => whnf
        exact hk
      · conv => whnf
        rw [hw1]
        exact ⟨_, ⟨⟨by omega, by omega⟩, by rw [hi2]; exact srt_good (by simpa using h)⟩, Shift.reset ⟨rfl, rfl, trivial⟩ ⟨rfl, trivial⟩ rfl rfl, by decide⟩
  · have hie : i = 7 := by simp at h; omega
    rw [f1, if_neg (by rw [hi2, hie]; simp [Rs.lv, srt])] at hk
    conv => whnf
    exact hk
theorem rwrong_ok : FunR Try.prog 40 (R_rsI fun r x => askS r 0 x) := by
  intro args k h
  unfold R_rsI at h
  split at h
  case h_2 => exact h.elim
  rename_i a b cc d e x
  obtain ⟨c, rfl, hl, hk⟩ := h
  have hk : k (I (askS ⟨c, a, b, cc, d, e⟩ 0 x)) := hk
  refine does_ex (qc := qc1) (np := []) (CK := ckK [(35, cSc (R_rs ckS)), (59, cSc R_within)]) mixed Try.func40 rfl rfl Try.ntmps40 Try.results40 τ_ok (by kernel_rfl) (ckK_ok ⟨cSc_ok rckS_ok, cSc_ok rIn_ok, trivial⟩) (by simp) ?_
  conv => whnf
  refine ⟨c, rfl, hl, ?_⟩
  conv => whnf
  refine Fork.mk (fun h => ?_) (fun h => ?_)
  · have h1 : ckS ⟨c, a, b, cc, d, e⟩ ≠ 0 := by simpa using h
    rw [show askS ⟨c, a, b, cc, d, e⟩ 0 x = ckS ⟨c, a, b, cc, d, e⟩ from if_pos h1] at hk
    conv => whnf
    exact hk
  have h1 : ckS ⟨c, a, b, cc, d, e⟩ = 0 := by simpa using h
  have f1 : askS ⟨c, a, b, cc, d, e⟩ 0 x = if inB 0 274877906944 0 = true ∧ inB 0 16777216 x = true then 0 else 1 := by unfold askS; rw [if_neg (by rw [h1]; simp)]
  conv => whnf
  refine Fork.mk (fun h => ?_) (fun h => ?_)
  · rw [f1, if_neg (by simp [inB] at h ⊢; omega)] at hk
    conv => whnf
    exact hk
  · rw [f1, if_pos (by simp [inB] at h ⊢; omega)] at hk
    conv => whnf
    exact hk
theorem rvolS_ok : FunR Try.prog 25 (R_rs1 volS) := by
  intro args k h
  unfold R_rs1 at h
  split at h
  case h_2 => exact h.elim
  rename_i a b cc d e x
  obtain ⟨c, rfl, hl, hk⟩ := h
  refine does_ex (qc := qc1) (np := []) (CK := ckK [(40, cSc (R_rsI fun r x => askS r 0 x)), (41, cSc R_at)]) mixed Try.func25 rfl rfl Try.ntmps25 Try.results25 τ_ok (by kernel_rfl) (ckK_ok ⟨cSc_ok rwrong_ok, cSc_ok rAt_ok, trivial⟩) (by simp) ?_
  conv => whnf
  refine ⟨c, rfl, hl, ?_⟩
  conv => whnf
  refine Fork.mk (fun h => ?_) (fun h => ?_)
  · have h1 : askS ⟨c, a, b, cc, d, e⟩ 0 x ≠ 0 := by simpa using h
    rw [show volS ⟨c, a, b, cc, d, e⟩ x = (0, askS ⟨c, a, b, cc, d, e⟩ 0 x) from if_pos h1] at hk
    conv => whnf
    exact hk
  have h1 : askS ⟨c, a, b, cc, d, e⟩ 0 x = 0 := by simpa using h
  obtain ⟨hck, hv, hx⟩ := askS_ok h1
  obtain ⟨hc, hlen, hlast, hrise, hsrt⟩ := ckS_ok hck
  dsimp only at hc hlen hlast hrise
  rw [show volS ⟨c, a, b, cc, d, e⟩ x = (valC c x, 0) by unfold volS; exact if_neg (by rw [h1]; simp)] at hk
  conv => whnf
  refine ⟨c, rfl, hl, ?_⟩
  rw [show atV c x = (valC c x, 0) from if_neg (by simpa using hc)]
  conv => whnf
  exact hk
theorem rlevS_ok : FunR Try.prog 47 (R_rs1 levS) := by
  intro args k h
  unfold R_rs1 at h
  split at h
  case h_2 => exact h.elim
  rename_i a b cc d e x
  obtain ⟨c, rfl, hl, hk⟩ := h
  refine does_ex (qc := qc1) (np := []) (CK := ckK [(35, cSc (R_rs ckS)), (59, cSc R_within), (64, cSc R_last)]) mixed Try.func47 rfl rfl Try.ntmps47 Try.results47 τ_ok (by kernel_rfl) (ckK_ok ⟨cSc_ok rckS_ok, cSc_ok rIn_ok, cSc_ok rlast_ok, trivial⟩) (by simp) ?_
  conv => whnf
  refine ⟨c, rfl, hl, ?_⟩
  conv => whnf
  refine Fork.mk (fun h => ?_) (fun h => ?_)
  · have h1 : ckS ⟨c, a, b, cc, d, e⟩ ≠ 0 := by simpa using h
    have h2 : askS ⟨c, a, b, cc, d, e⟩ x 0 = ckS ⟨c, a, b, cc, d, e⟩ := if_pos h1
    rw [show levS ⟨c, a, b, cc, d, e⟩ x = (0, ckS ⟨c, a, b, cc, d, e⟩) by unfold levS; rw [h2, if_pos h1]] at hk
    conv => whnf
    exact hk
  have hck : ckS ⟨c, a, b, cc, d, e⟩ = 0 := by simpa using h
  obtain ⟨hc, hlen, hlast, hrise, hsrt⟩ := ckS_ok hck
  dsimp only at hc hlen hlast hrise
  have f1 : askS ⟨c, a, b, cc, d, e⟩ x 0 = if inB 0 274877906944 x = true ∧ inB 0 16777216 0 = true then 0 else 1 := by unfold askS; rw [if_neg (by rw [hck]; simp)]
  conv => whnf
  refine Fork.mk (fun h => ?_) (fun h => ?_)
  · have h2 : askS ⟨c, a, b, cc, d, e⟩ x 0 = 1 := by rw [f1, if_neg (by simp [inB] at h ⊢; omega)]
    rw [show levS ⟨c, a, b, cc, d, e⟩ x = (0, 1) by unfold levS; rw [h2]; exact if_pos (by omega)] at hk
    conv => whnf
    exact hk
  have h1 : askS ⟨c, a, b, cc, d, e⟩ x 0 = 0 := by rw [f1, if_pos (by simp [inB] at h ⊢; omega)]
  have hv : 0 ≤ x ∧ x ≤ 274877906944 := by simp at h; omega
  rw [show levS ⟨c, a, b, cc, d, e⟩ x = (hgt c x, 0) by unfold levS; exact if_neg (by rw [h1]; simp)] at hk
  conv => whnf
  refine ⟨c, rfl, hl, ?_⟩
  rw [lastV_ok hc]
  by_cases h3 : x < (c.headD (0, 0)).2
  · rw [if_pos h3]
    rw [hgt_lo h3] at hk
    conv => whnf
    refine fork_t ?_
    conv => whnf
    refine ⟨by omega, ePt (c.headD (0, 0)), eP_at c (head_at (ckC_ne hc).1), rfl, ?_⟩
    conv => whnf
    exact hk
  · rw [if_neg h3]
    conv => whnf
    refine fork_f ?_
    conv => whnf
    exact hk
end Go.Proofs

namespace Go.Proofs
open Go Go.Abs
set_option linter.unusedSimpArgs false
set_option linter.unusedVariables false
set_option maxRecDepth 4000
theorem map_drop_tail (o : Option Ls) (k : Nat) : (o.map (List.drop k)).map List.tail = o.map (List.drop (k + 1)) := by
  cases o with
  | none => rfl
  | some a => simp [List.tail_drop]
theorem rckT_ok : FunR Try.prog 36 R_ckT := by
  intro args k h
  obtain ⟨t, rfl, hf, hk⟩ := h
  have hml := eL_len t.lv
  have hmi := eL_len t.inf
  have hmr := eW_len t.rel
  refine does_ex (qc := qc1) (np := []) (CK := ckK [(55, cSc R_axE), (56, cSc R_within)]) mixed Try.func36 rfl rfl Try.ntmps36 Try.results36 τ_ok (by kernel_rfl) (ckK_ok ⟨cSc_ok raxis_ok, cSc_ok fin_ok, trivial⟩) (by simp) ?_
  conv => whnf
  have c1 : inB 1 20 t.lv.length = false → k (I 42) := fun e => kI hk (by rw [ckT, if_pos e])
  have c2 : inB 1 20 t.lv.length = true → inB 1 20 t.inf.length = false → k (I 42) := fun e e' => kI hk (by rw [ckT, if_neg (by simp [e]), if_pos e'])
  refine Fork.mk (fun g1 => ?_) (fun g1 => ?_)
  · conv => whnf
    (repeat (refine fork_t ?_; (conv => whnf)))
    exact c1 (by simp [inB] at *; omega)
  conv => whnf
  refine Fork.mk (fun g2 => ?_) (fun g2 => ?_)
  · conv => whnf
    (repeat (refine fork_t ?_; (conv => whnf)))
    exact c1 (by simp [inB] at *; omega)
  conv => whnf
  have ok1 : inB 1 20 t.lv.length = true := by simp [inB] at *; omega
  refine Fork.mk (fun g3 => ?_) (fun g3 => ?_)
  · conv => whnf
    (repeat (refine fork_t ?_; (conv => whnf)))
    exact c2 ok1 (by simp [inB] at *; omega)
  conv => whnf
  refine Fork.mk (fun g4 => ?_) (fun g4 => ?_)
  · conv => whnf
    exact c2 ok1 (by simp [inB] at *; omega)
  have ok2 : inB 1 20 t.inf.length = true := by simp [inB] at *; omega
  clear g1 g2 g3 g4 c1 c2
  conv => whnf
  refine ⟨t.lv, 16777216, rfl, hf.l, ?_⟩
  conv => whnf
  refine Fork.mk (fun h => ?_) (fun h => ?_)
  · have h3 : axE 16777216 none t.lv ≠ 0 := by simpa using h
    conv => whnf
    exact kI hk (by rw [ckT, if_neg (by simp [ok1]), if_neg (by simp [ok2]), if_pos h3])
  have h3 : axE 16777216 none t.lv = 0 := by simpa using h
  clear h
  conv => whnf
  refine ⟨t.inf, 1073741824, rfl, hf.i, ?_⟩
  conv => whnf
  refine Fork.mk (fun h => ?_) (fun h => ?_)
  · have h4 : axE 1073741824 none t.inf ≠ 0 := by simpa using h
    conv => whnf
    exact kI hk (by rw [ckT, if_neg (by simp [ok1]), if_neg (by simp [ok2]), if_neg (by simp [h3]), if_pos h4])
  have h4 : axE 1073741824 none t.inf = 0 := by simpa using h
  clear h
  conv => whnf
  refine Fork.mk (fun h => ?_) (fun h => ?_)
  · have h5 : t.rel.length ≠ t.lv.length := by simp at h; omega
    conv => whnf
    exact kI hk (by rw [ckT, if_neg (by simp [ok1]), if_neg (by simp [ok2]), if_neg (by simp [h3]), if_neg (by simp [h4]), if_pos h5])
  have h5 : t.rel.length = t.lv.length := by simp at h; omega
  have e5 : ckT t = rlE t.inf.length none t.rel := by rw [ckT, if_neg (by simp [ok1]), if_neg (by simp [ok2]), if_neg (by simp [h3]), if_neg (by simp [h4]), if_neg (by omega)]
  have hn1 : 1 ≤ t.inf.length ∧ t.inf.length ≤ 20 := by simp [inB] at ok2; omega
  have hl20 : t.rel.length ≤ 20 := by simp [inB] at ok1; omega
  clear h
  rw [e5] at hk
  conv => whnf
  refine ⟨Nat × Option Ls, fun s => ([(1, .c (.ptr (.l 1 0) 0)), (51, .c (.lst (eW t.rel))), (52, I (eW t.rel).length), (53, I s.1)], ⟨[(.l 1 0, .blk (ftC t))], 9, []⟩),
    fun s => s.1 ≤ t.rel.length ∧ rlE t.inf.length none t.rel = rlE t.inf.length s.2 (t.rel.drop s.1) ∧ (s.2 = none → s.1 = 0) ∧ ∀ a, s.2 = some a → 1 ≤ s.1 ∧ t.rel[s.1 - 1]? = some a ∧ a.length = t.inf.length, fun s => t.rel.length - s.1, (0, none), ⟨Nat.zero_le _, rfl, fun _ => rfl, fun a e => by cases e⟩, Shift.reset ⟨rfl, rfl, rfl, rfl, trivial⟩ ⟨rfl, trivial⟩ rfl rfl, fun s hs => ?_⟩
  obtain ⟨i, o⟩ := s
  obtain ⟨hi1, hi2, hn0, hab⟩ := hs
  dsimp only at hi1 hi2 hn0 hab ⊢
  conv => whnf
  refine Fork.mk (fun h => ?_) (fun h => ?_)
  rotate_left
  · have hie : i = t.rel.length := by simp at h; omega
    rw [hie, List.drop_length] at hi2
    conv => whnf
    exact kI hk (by rw [hi2]; cases o <;> rfl)
  have hi : i < t.rel.length := by simp at h; omega
  clear h
  have hci := List.getElem?_eq_getElem hi
  have hrl := hf.w _ (List.getElem_mem hi)
  generalize t.rel[i] = r at hci hrl
  have hmq := eL_len r
  rw [drop_of hci, rlE] at hi2
  have hw1 := wr_succ (i := i) (by omega)
  conv => whnf
  refine ⟨by omega, rwC r, by rw [Int.toNat_natCast, List.getElem?_map, hci]; rfl, rfl, ?_⟩
  conv => whnf
  refine Fork.mk (fun h => ?_) (fun h => ?_)
  · have h6 : rowE r o t.inf.length = 3 := by rw [rowE, if_pos (by simp at h; omega)]
    rw [if_pos (by omega), h6] at hi2
    conv => whnf
    exact kI hk hi2
  have hrn : r.length = t.inf.length := by simp at h; omega
  clear h
  have h6 : rowE r o t.inf.length = rwE none o r := by rw [rowE, if_neg (by omega)]
  rw [h6] at hi2
  have hbad : ∀ e, rwE none o r = e → e ≠ 0 → k (I e) := fun e e1 e2 => by
    rw [if_pos (by omega), e1] at hi2
    exact kI hk hi2
  have hgood : rwE none o r = 0 → rlE t.inf.length none t.rel = rlE t.inf.length (some r) (t.rel.drop (i + 1)) := fun e1 => by
    rw [if_neg (by omega)] at hi2
    exact hi2
  clear hi2 h6
  conv => whnf
  refine ⟨Nat, fun j => ([(1, .c (.ptr (.l 1 0) 0)), (5, I i), (6, .c (.lst (eL r))), (51, .c (.lst (eW t.rel))), (52, I (eW t.rel).length), (53, I i), (64, .c (.lst (eL r))), (65, I (eL r).length), (66, I j)], ⟨[(.l 1 0, .blk (ftC t))], 9, []⟩),
    fun j => j ≤ r.length ∧ rwE none o r = rwE (if j = 0 then none else r[j - 1]?) (o.map (List.drop j)) (r.drop j), fun j => r.length - j, 0, ⟨Nat.zero_le _, by cases o <;> rfl⟩, Shift.reset ⟨rfl, rfl, rfl, rfl, rfl, rfl, rfl, rfl, rfl, trivial⟩ ⟨rfl, trivial⟩ rfl rfl, fun j hj => ?_⟩
  obtain ⟨hj1, hj2⟩ := hj
  dsimp only
  conv => whnf
  refine Fork.mk (fun h => ?_) (fun h => ?_)
  rotate_left
  · have hje : j = r.length := by simp at h; omega
    rw [hje, List.drop_length] at hj2
    have hz : rwE none o r = 0 := by rw [hj2]; rfl
    conv => whnf
    rw [hw1]
    exact ⟨(i + 1, some r), ⟨hi, hgood hz, fun e => (by cases e), fun a e => (by cases e; exact ⟨by dsimp only; omega, hci, hrn⟩)⟩, Shift.reset ⟨rfl, rfl, rfl, rfl, trivial⟩ ⟨rfl, trivial⟩ rfl rfl, by dsimp only; omega⟩
  have hj : j < r.length := by simp at h; omega
  clear h
  have hcj := List.getElem?_eq_getElem hj
  generalize r[j] = x at hcj
  rw [drop_of hcj, rwE_cons, map_drop_tail] at hj2
  have hw2 := wr_succ (i := j) (by omega)
  conv => whnf
  refine ⟨by omega, eI x, by rw [Int.toNat_natCast, List.getElem?_map, hcj]; rfl, rfl, ?_⟩
  conv => whnf
  refine Fork.mk (fun h => ?_) (fun h => ?_)
  · rw [if_pos (by simp [inB] at *; omega)] at hj2
    conv => whnf
    exact hbad 1 hj2 (by omega)
  rw [if_neg (by simp [inB] at *; omega)] at hj2
  clear h
  conv => whnf
  rcases Nat.eq_zero_or_pos j with hj0 | hj0
  · subst hj0
    refine Fork.mk (fun h => ?_) (fun h => ?_)
    · exfalso; simp at h
    clear h
    conv => whnf
    (repeat ((first | refine fork_t ?_ | refine fork_f ?_); (conv => whnf)))
    cases o with
    | none =>
      have hi0 := hn0 rfl
      subst hi0
      rw [if_neg (by simp [qltF, abF])] at hj2
      refine Fork.mk (fun h => ?_) (fun h => ?_)
      · exfalso; simp at h
      clear h
      conv => whnf
      (repeat ((first | refine fork_t ?_ | refine fork_f ?_); (conv => whnf)))
      rw [hw2]
      exact ⟨_, ⟨hj, by rw [hj2, if_neg (Nat.succ_ne_zero _), show ∀ n, Nat.succ n - 1 = n from fun _ => rfl, hcj]⟩, Shift.reset ⟨rfl, rfl, rfl, rfl, rfl, rfl, rfl, rfl, rfl, trivial⟩ ⟨rfl, trivial⟩ rfl rfl, by omega⟩
    | some a =>
      obtain ⟨ha1, ha2, ha3⟩ := hab a rfl
      have hcy := List.getElem?_eq_getElem (show 0 < a.length by omega)
      generalize a[0] = y at hcy
      have hw4 : IntKind.i64.wrap ((i : Int) - 1) = ((i - 1 : Nat) : Int) := by rw [wrap_in (by omega) (by omega)]; omega
      rw [show Option.map (List.drop 0) (some a) = some (y :: a.drop (0 + 1)) from congrArg some (drop_of hcy)] at hj2
      refine Fork.mk (fun h => ?_) (fun h => ?_)
      rotate_left
      · exfalso; simp at h; omega
      clear h
      conv => whnf
      rw [hw4]
      refine ⟨by omega, rwC a, by rw [Int.toNat_natCast, List.getElem?_map, ha2]; rfl, rfl, ?_⟩
      conv => whnf
      refine ⟨by omega, eI y, by rw [Int.toNat_natCast, List.getElem?_map, hcy]; rfl, rfl, ?_⟩
      conv => whnf
      refine Fork.mk (fun h => ?_) (fun h => ?_)
      · rw [if_pos (by simp [qltF, abF] at *; omega)] at hj2
        conv => whnf
        exact hbad 4 hj2 (by omega)
      have hy : ¬ x < y := by simpa using h
      clear h
      rw [if_neg (by simp [qltF, abF]; omega)] at hj2
      conv => whnf
      (repeat ((first | refine fork_t ?_ | refine fork_f ?_); (conv => whnf)))
      rw [hw2]
      exact ⟨_, ⟨hj, by rw [hj2, if_neg (Nat.succ_ne_zero _), show ∀ n, Nat.succ n - 1 = n from fun _ => rfl, hcj]⟩, Shift.reset ⟨rfl, rfl, rfl, rfl, rfl, rfl, rfl, rfl, rfl, trivial⟩ ⟨rfl, trivial⟩ rfl rfl, by omega⟩
  have hcq := List.getElem?_eq_getElem (show j - 1 < r.length by omega)
  generalize r[j - 1] = q at hcq
  rw [if_neg (by omega : ¬ j = 0), hcq] at hj2
  refine Fork.mk (fun h => ?_) (fun h => ?_)
  rotate_left
  · exfalso; simp at h; omega
  clear h
  have hw3 : IntKind.i64.wrap ((j : Int) - 1) = ((j - 1 : Nat) : Int) := by rw [wrap_in (by omega) (by omega)]; omega
  conv => whnf
  rw [hw3]
  refine ⟨by omega, eI q, by rw [Int.toNat_natCast, List.getElem?_map, hcq]; rfl, rfl, ?_⟩
  conv => whnf
  refine Fork.mk (fun h => ?_) (fun h => ?_)
  · rw [if_pos (by simp [qltF] at *; omega)] at hj2
    conv => whnf
    (repeat ((first | refine fork_t ?_ | refine fork_f ?_); (conv => whnf)))
    exact hbad 4 hj2 (by omega)
  have hq : ¬ x < q := by simpa using h
  clear h
  conv => whnf
  (repeat ((first | refine fork_t ?_ | refine fork_f ?_); (conv => whnf)))
  cases o with
  | none =>
    have hi0 := hn0 rfl
    subst hi0
    rw [if_neg (by simp [qltF, abF]; omega)] at hj2
    refine Fork.mk (fun h => ?_) (fun h => ?_)
    · exfalso; simp at h
    clear h
    conv => whnf
    (repeat ((first | refine fork_t ?_ | refine fork_f ?_); (conv => whnf)))
    rw [hw2]
    exact ⟨_, ⟨hj, by rw [hj2, if_neg (Nat.succ_ne_zero _), show ∀ n, Nat.succ n - 1 = n from fun _ => rfl, hcj]⟩, Shift.reset ⟨rfl, rfl, rfl, rfl, rfl, rfl, rfl, rfl, rfl, trivial⟩ ⟨rfl, trivial⟩ rfl rfl, by omega⟩
  | some a =>
    obtain ⟨ha1, ha2, ha3⟩ := hab a rfl
    have hcy := List.getElem?_eq_getElem (show j < a.length by omega)
    generalize a[j] = y at hcy
    have hw4 : IntKind.i64.wrap ((i : Int) - 1) = ((i - 1 : Nat) : Int) := by rw [wrap_in (by omega) (by omega)]; omega
    rw [show Option.map (List.drop j) (some a) = some (y :: a.drop (j + 1)) from congrArg some (drop_of hcy)] at hj2
    refine Fork.mk (fun h => ?_) (fun h => ?_)
    rotate_left
    · exfalso; simp at h; omega
    clear h
    conv => whnf
    rw [hw4]
    refine ⟨by omega, rwC a, by rw [Int.toNat_natCast, List.getElem?_map, ha2]; rfl, rfl, ?_⟩
    conv => whnf
    refine ⟨by omega, eI y, by rw [Int.toNat_natCast, List.getElem?_map, hcy]; rfl, rfl, ?_⟩
    conv => whnf
    refine Fork.mk (fun h => ?_) (fun h => ?_)
    · rw [if_pos (by simp [qltF, abF] at *; omega)] at hj2
      conv => whnf
      exact hbad 4 hj2 (by omega)
    have hy : ¬ x < y := by simpa using h
    clear h
    rw [if_neg (by simp [qltF, abF]; omega)] at hj2
    conv => whnf
    (repeat ((first | refine fork_t ?_ | refine fork_f ?_); (conv => whnf)))
    rw [hw2]
    exact ⟨_, ⟨hj, by rw [hj2, if_neg (Nat.succ_ne_zero _), show ∀ n, Nat.succ n - 1 = n from fun _ => rfl, hcj]⟩, Shift.reset ⟨rfl, rfl, rfl, rfl, rfl, rfl, rfl, rfl, rfl, trivial⟩ ⟨rfl, trivial⟩ rfl rfl, by omega⟩
end Go.Proofs
