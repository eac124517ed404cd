/- Proved here: what functions of the given program come to, for the statements of this chapter; no condition but those in the theorems. -/
import Derived.Test.YtnmijdmpbpnjhaaX5c
import Derived.Test.YtnmijdmpbpnjhaaPStorage
namespace Go.Proofs
open Go Go.Abs
set_option linter.unusedSimpArgs false
set_option linter.unusedVariables false
set_option maxRecDepth 4000
theorem ckS_ok' : FunR Try.prog 30 (R_rs ckS) := by
  intro args k h
  unfold R_rs at h
  split at h
  case h_2 => exact h.elim
  rename_i a b cc d e
  obtain ⟨c, rfl, hl, hk⟩ := h
  have hm := eP_len c
  refine does_ex (qc := qc1) (np := [(14, [(1, 23), (2, 23), (4, 23), (6, 23), (8, 23), (10, 23), (12, 23), (14, 23), (16, 23), (19, 23), (21, 23)])]) (CK := ckK [(39, cSc R_ckC)]) mixed Try.func30 rfl rfl Try.ntmps30 Try.results30 τ_ok (by kernel_rfl) (ckK_ok ⟨cSc_ok ckC_ok', trivial⟩) (by simp) ?_
  conv => whnf
  refine ⟨c, rfl, hl, ?_⟩
  conv => whnf
  refine Fork.mk (fun h => ?_) (fun h => ?_)
  · have h1 : ckC c ≠ 0 := by simpa using h
    rw [show ckS ⟨c, a, b, cc, d, e⟩ = ckC c from if_pos h1] at hk
    conv => whnf
    exact hk
  have h1 : ckC c = 0 := by simpa using h
  obtain ⟨hc0, hcl⟩ := ckC_ne h1
  have f1 : ckS ⟨c, a, b, cc, d, e⟩ = if c.length < 2 then 3 else if 16777216 < (lastP c).1 then 1 else if riseB c = false then 4 else if srt (Rs.lv ⟨c, a, b, cc, d, e⟩) = false then 4 else 0 := by
    unfold ckS; rw [if_neg (by simpa using h1)]
  conv => whnf
  refine Fork.mk (fun h => ?_) (fun h => ?_)
  · have h2 : c.length < 2 := by simp at h; omega
    rw [f1, if_pos h2] at hk
    conv => whnf
    exact hk
  have h2 : ¬ c.length < 2 := by simp at h; omega
  rw [if_neg h2] at f1
  have hla := lastP_at hc0
  have hw2 : IntKind.i64.wrap (((eP c).length : Int) - 1) = ((c.length - 1 : Nat) : Int) := by rw [eP_len, wrap_in (by omega) (by omega)]; omega
  conv => whnf
  rw [hw2]
  refine ⟨by omega, ePt (lastP c), by rw [Int.toNat_natCast]; exact eP_at c hla, rfl, ?_⟩
  conv => whnf
  refine Fork.mk (fun h => ?_) (fun h => ?_)
  · have h3 : 16777216 < (lastP c).1 := by simpa using h
    rw [f1, if_pos h3] at hk
    conv => whnf
    exact hk
  have h3 : ¬ 16777216 < (lastP c).1 := by simpa using h
  rw [if_neg h3] at f1
  conv => whnf
  refine ⟨Nat, fun i => ([(1, .c (.ptr (.l 1 0) 0)), (4, I (eP c).length), (5, I i)], ⟨[(.l 1 0, .blk (rsC ⟨c, a, b, cc, d, e⟩))], 5, []⟩),
    fun i => (1 ≤ i ∧ i ≤ c.length) ∧ riseB c = riseB (c.drop (i - 1)), fun i => c.length - i, 1, ⟨⟨by omega, by omega⟩, rfl⟩,
    Shift.reset ⟨rfl, rfl, rfl, trivial⟩ ⟨rfl, trivial⟩ rfl rfl, fun i hi => ?_⟩
  obtain ⟨⟨hi0, hi1⟩, hi2⟩ := hi
  dsimp only
  conv => whnf
  refine Fork.mk (fun h => ?_) (fun h => ?_)
  · have hi : i < c.length := by simp at h; omega
    have hci := List.getElem?_eq_getElem hi
    have hcj := List.getElem?_eq_getElem (show i - 1 < c.length by omega)
    generalize c[i] = p at hci
    generalize c[i - 1] = q at hcj
    have e1 := drop_of hcj
    rw [show i - 1 + 1 = i by omega] at e1
    have e2 := drop_of hci
    rw [e1, e2] at hi2
    have hw1 := wr_succ (i := i) (by omega)
    have hw3 : IntKind.i64.wrap ((i : Int) - 1) = ((i - 1 : Nat) : Int) := by rw [wrap_in (by omega) (by omega)]; omega
    conv => whnf
    refine ⟨by omega, ePt p, by rw [Int.toNat_natCast]; exact eP_at c hci, rfl, ?_⟩
    conv => whnf
    rw [hw3]
    refine ⟨by omega, ePt q, by rw [Int.toNat_natCast]; exact eP_at c hcj, rfl, ?_⟩
    conv => whnf
    refine Fork.mk (fun h => ?_) (fun h => ?_)
    · have h4 : p.2 ≤ q.2 := by simpa using h
      rw [f1, if_pos (by rw [hi2]; exact rise_bad h4)] at hk
      conv => whnf
      exact hk
    have h4 : ¬ p.2 ≤ q.2 := by simpa using h
    conv => whnf
    rw [hw1]
    refine ⟨i + 1, ⟨⟨by omega, hi⟩, by rw [hi2, rise_good h4, ← e2]; rfl⟩, Shift.reset ⟨rfl, rfl, rfl, trivial⟩ ⟨rfl, trivial⟩ rfl rfl, ?_⟩
    show c.length - (i + 1) < c.length - i
    omega
  have hie : i = c.length := by simp at h; omega
  have h5 : riseB c = true := by
    rw [hi2, hie]
    have := drop_of hla
    rw [this, show c.length - 1 + 1 = c.length by omega, List.drop_length]
    rfl
  clear hi2 hi0 hi1 h
  rw [if_neg (by rw [h5]; simp)] at f1
  have hh := head_at hc0
  conv => whnf
  refine ⟨by omega, ePt (c.headD (0, 0)), eP_at c hh, rfl, ?_⟩
  conv => whnf
  rw [hw2]
  refine ⟨by omega, ePt (lastP c), by rw [Int.toNat_natCast]; exact eP_at c hla, rfl, ?_⟩
  conv => whnf
  rw [show Rs.lv ⟨c, a, b, cc, d, e⟩ = [(c.headD (0, 0)).1, a, b, cc, d, e, (lastP c).1] from rfl] at f1
  generalize hL : [(c.headD (0, 0)).1, a, b, cc, d, e, (lastP c).1] = L at f1
  refine ⟨Nat, fun i => ([(6, .c (.ptr (.l 6 0) 0)), (7, I i)], ⟨[(.l 6 0, .blk [IC (c.headD (0, 0)).1, IC a, IC b, IC cc, IC d, IC e, IC (lastP c).1])], 5, []⟩),
    fun i => (1 ≤ i ∧ i ≤ 7) ∧ srt L = srt (L.drop (i - 1)), fun i => 7 - i, 1, ⟨⟨by omega, by omega⟩, rfl⟩,
    Shift.rename [(.l 6 0, .l 6 5)] ⟨rfl, rfl, trivial⟩ ⟨rfl, trivial⟩ rfl rfl rfl, fun i hi => ?_⟩
  obtain ⟨⟨hi0, hi1⟩, hi2⟩ := hi
  dsimp only
  conv => whnf
  subst hL
  refine Fork.mk (fun h => ?_) (fun h => ?_)
  · have hi : i < 7 := by simp at h; omega
    clear h
    have hw1 := wr_succ (i := i) (by omega)
    have hw3 : IntKind.i64.wrap ((i : Int) - 1) = ((i - 1 : Nat) : Int) := by rw [wrap_in (by omega) (by omega)]; omega
    rcases (by omega : i = 1 ∨ i = 2 ∨ i = 3 ∨ i = 4 ∨ i = 5 ∨ i = 6) with rfl | rfl | rfl | rfl | rfl | rfl
    all_goals
      conv => whnf
      refine ⟨by omega, ?_⟩
      conv => whnf
      rw [hw3]
      refine ⟨by omega, ?_⟩
      conv => whnf
      refine Fork.mk (fun h => ?_) (fun h => ?_)
      · rw [f1, if_pos (by rw [hi2]; exact srt_bad (by simpa using h))] at hk
        conv => whnf
        exact hk
      · conv => whnf
        rw [hw1]
        exact ⟨_, ⟨⟨by omega, by omega⟩, by rw [hi2]; exact srt_good (by simpa using h)⟩, Shift.reset ⟨rfl, rfl, trivial⟩ ⟨rfl, trivial⟩ rfl rfl, by decide⟩
  · have hie : i = 7 := by simp at h; omega
    rw [f1, if_neg (by rw [hi2, hie]; simp [Rs.lv, srt])] at hk
    conv => whnf
    exact hk
end Go.Proofs
