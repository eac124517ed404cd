/- Proved here: what functions of the given program come to, and the plain laws of it; no condition but those in the theorems. -/
import Derived.Test.YtfhnicamjcfddaaGreatDoorM99
import Derived.Test.YtfhnicamjcfddaaGreatDoorPUnit
namespace Go.Proofs
open Go Go.Abs
set_option linter.unusedSimpArgs false
set_option linter.unusedVariables false
set_option maxRecDepth 4000
theorem rckS_ok : FunR Tryz.prog 53 (R_rs ckS) := by
  intro args k h
  unfold R_rs at h
  split at h
  case h_2 => exact h.elim
  rename_i a b cc d e
  obtain ⟨c, rfl, hl, hk⟩ := h
  have hm := eP_len c
  refine does_ex (qc := qc1) (np := []) (CK := ckK [(55, cSc R_ckC)]) mixed Tryz.func53 rfl rfl Tryz.ntmps53 Tryz.results53 τ_ok (by kernel_rfl) (ckK_ok ⟨cSc_ok rckC_ok, trivial⟩) (by simp) ?_
  conv => whnf
  refine ⟨c, rfl, hl, ?_⟩
  conv => whnf
  refine Fork.mk (fun h => ?_) (fun h => ?_)
  · have h1 : ckC c ≠ 0 := by simpa using h
    rw [show ckS ⟨c, a, b, cc, d, e⟩ = ckC c from if_pos h1] at hk
    conv => whnf
    exact hk
  have h1 : ckC c = 0 := by simpa using h
  obtain ⟨hc0, hcl⟩ := ckC_ne h1
  have f1 : ckS ⟨c, a, b, cc, d, e⟩ = if c.length < 2 then 3 else if 16777216 < (lastP c).1 then 1 else if riseB c = false then 4 else if srt (Rs.lv ⟨c, a, b, cc, d, e⟩) = false then 4 else 0 := by
    unfold ckS; rw [if_neg (by simpa using h1)]
  conv => whnf
  refine Fork.mk (fun h => ?_) (fun h => ?_)
  · have h2 : c.length < 2 := by simp at h; omega
    rw [f1, if_pos h2] at hk
    conv => whnf
    exact hk
  have h2 : ¬ c.length < 2 := by simp at h; omega
  rw [if_neg h2] at f1
  have hla := lastP_at hc0
  have hw2 : IntKind.i64.wrap (((eP c).length : Int) - 1) = ((c.length - 1 : Nat) : Int) := by rw [eP_len, wrap_in (by omega) (by omega)]; omega
  conv => whnf
  refine ⟨Nat, fun i => ([(1, .c (.ptr (.l 1 0) 0)), (4, I (eP c).length), (22, .c (.lst (eP c))), (23, I (eP c).length), (24, I i)], ⟨[(.l 1 0, .blk (rsC ⟨c, a, b, cc, d, e⟩))], 5, []⟩),
    fun i => i ≤ c.length ∧ ∀ j p, c[j]? = some p → j < i → p.1 ≤ 16777216, fun i => c.length - i, 0, ⟨by omega, fun j p _ h => by omega⟩,
    Shift.reset ⟨rfl, rfl, rfl, rfl, rfl, trivial⟩ ⟨rfl, trivial⟩ rfl rfl, fun i hi => ?_⟩
  obtain ⟨hi1, hi2⟩ := hi
  dsimp only
  conv => whnf
  refine Fork.mk (fun h => ?_) (fun h => ?_)
  · have hi : i < c.length := by simp at h; omega
    have hci := List.getElem?_eq_getElem hi
    have hmem := List.getElem_mem hi
    generalize c[i] = p at hci hmem
    have hw1 := wr_succ (i := i) (by omega)
    conv => whnf
    refine ⟨by omega, ePt p, by rw [Int.toNat_natCast]; exact eP_at c hci, rfl, ?_⟩
    conv => whnf
    refine Fork.mk (fun h => ?_) (fun h => ?_)
    · have h4 : 16777216 < p.1 := by simpa using h
      have := le_last h1 _ hmem
      rw [f1, if_pos (by omega)] at hk
      conv => whnf
      exact hk
    have h4 : ¬ 16777216 < p.1 := by simpa using h
    conv => whnf
    rw [hw1]
    refine ⟨i + 1, ⟨hi, fun j q hj hlt => ?_⟩, Shift.reset ⟨rfl, rfl, rfl, rfl, rfl, trivial⟩ ⟨rfl, trivial⟩ rfl rfl, ?_⟩
    · by_cases e : j = i
      · subst e; rw [hci] at hj; cases hj; omega
      · exact hi2 j q hj (by omega)
    show c.length - (i + 1) < c.length - i
    omega
  have hie : i = c.length := by simp at h; omega
  have h3 : ¬ 16777216 < (lastP c).1 := by have := hi2 _ _ hla (by omega); omega
  rw [if_neg h3] at f1
  clear hi2 hi1 h hie
  conv => whnf
  refine ⟨Nat, fun i => ([(1, .c (.ptr (.l 1 0) 0)), (4, I (eP c).length), (7, I i)], ⟨[(.l 1 0, .blk (rsC ⟨c, a, b, cc, d, e⟩))], 5, []⟩),
    fun i => (1 ≤ i ∧ i ≤ c.length) ∧ riseB c = riseB (c.drop (i - 1)), fun i => c.length - i, 1, ⟨⟨by omega, by omega⟩, rfl⟩,
    Shift.reset ⟨rfl, rfl, rfl, trivial⟩ ⟨rfl, trivial⟩ rfl rfl, fun i hi => ?_⟩
  obtain ⟨⟨hi0, hi1⟩, hi2⟩ := hi
  dsimp only
  conv => whnf
  refine Fork.mk (fun h => ?_) (fun h => ?_)
  · have hi : i < c.length := by simp at h; omega
    have hci := List.getElem?_eq_getElem hi
    have hcj := List.getElem?_eq_getElem (show i - 1 < c.length by omega)
    generalize c[i] = p at hci
    generalize c[i - 1] = q at hcj
    have e1 := drop_of hcj
    rw [show i - 1 + 1 = i by omega] at e1
    have e2 := drop_of hci
    rw [e1, e2] at hi2
    have hw1 := wr_succ (i := i) (by omega)
    have hw3 : IntKind.i64.wrap ((i : Int) - 1) = ((i - 1 : Nat) : Int) := by rw [wrap_in (by omega) (by omega)]; omega
    conv => whnf
    refine ⟨by omega, ePt p, by rw [Int.toNat_natCast]; exact eP_at c hci, rfl, ?_⟩
    conv => whnf
    rw [hw3]
    refine ⟨by omega, ePt q, by rw [Int.toNat_natCast]; exact eP_at c hcj, rfl, ?_⟩
    conv => whnf
    refine Fork.mk (fun h => ?_) (fun h => ?_)
    · have h4 : p.2 ≤ q.2 := by simpa using h
      rw [f1, if_pos (by rw [hi2]; exact rise_bad h4)] at hk
      conv => whnf
      exact hk
    have h4 : ¬ p.2 ≤ q.2 := by simpa using h
    conv => whnf
    rw [hw1]
    refine ⟨i + 1, ⟨⟨by omega, hi⟩, by rw [hi2, rise_good h4, ← e2]; rfl⟩, Shift.reset ⟨rfl, rfl, rfl, trivial⟩ ⟨rfl, trivial⟩ rfl rfl, ?_⟩
    show c.length - (i + 1) < c.length - i
    omega
  have hie : i = c.length := by simp at h; omega
  have h5 : riseB c = true := by
    rw [hi2, hie]
    have := drop_of hla
    rw [this, show c.length - 1 + 1 = c.length by omega, List.drop_length]
    rfl
  clear hi2 hi0 hi1 h
  rw [if_neg (by rw [h5]; simp)] at f1
  have hh := head_at hc0
  conv => whnf
  refine ⟨by omega, ePt (c.headD (0, 0)), eP_at c hh, rfl, ?_⟩
  conv => whnf
  rw [hw2]
  refine ⟨by omega, ePt (lastP c), by rw [Int.toNat_natCast]; exact eP_at c hla, rfl, ?_⟩
  conv => whnf
  rw [show Rs.lv ⟨c, a, b, cc, d, e⟩ = [(c.headD (0, 0)).1, a, b, cc, d, e, (lastP c).1] from rfl] at f1
  generalize hL : [(c.headD (0, 0)).1, a, b, cc, d, e, (lastP c).1] = L at f1
  refine ⟨Nat, fun i => ([(8, .c (.view (.l 73 0) 0 7)), (9, I i)], ⟨[(.l 73 0, .arr 3 1 [[IC (c.headD (0, 0)).1], [IC a], [IC b], [IC cc], [IC d], [IC e], [IC (lastP c).1]] false)], 5, []⟩),
    fun i => (1 ≤ i ∧ i ≤ 7) ∧ srt L = srt (L.drop (i - 1)), fun i => 7 - i, 1, ⟨⟨by omega, by omega⟩, rfl⟩,
    Shift.rename [(.l 73 0, .l 73 5)] ⟨rfl, rfl, trivial⟩ ⟨rfl, trivial⟩ rfl rfl rfl, fun i hi => ?_⟩
  obtain ⟨⟨hi0, hi1⟩, hi2⟩ := hi
  dsimp only
  conv => whnf
  subst hL
  refine Fork.mk (fun h => ?_) (fun h => ?_)
  · have hi : i < 7 := by simp at h; omega
    clear h
    have hw1 := wr_succ (i := i) (by omega)
    have hw3 : IntKind.i64.wrap ((i : Int) - 1) = ((i - 1 : Nat) : Int) := by rw [wrap_in (by omega) (by omega)]; omega
    rcases (by omega : i = 1 ∨ i = 2 ∨ i = 3 ∨ i = 4 ∨ i = 5 ∨ i = 6) with rfl | rfl | rfl | rfl | rfl | rfl
    all_goals
      conv => whnf
      refine ⟨by omega, rfl, ?_⟩
      conv => whnf
      refine ⟨_, rfl, ?_⟩
      conv => whnf
      rw [hw3]
      refine ⟨by omega, rfl, ?_⟩
      conv => whnf
      refine ⟨_, rfl, ?_⟩
      conv => whnf
      refine Fork.mk (fun h => ?_) (fun h => ?_)
      · rw [f1, if_pos (by rw [hi2]; exact srt_bad (by simpa using h))] at hk
        conv => whnf
        exact hk
      · conv => whnf
        rw [hw1]
        exact ⟨_, ⟨⟨by omega, by omega⟩, by rw [hi2]; exact srt_good (by simpa using h)⟩, Shift.reset ⟨rfl, rfl, trivial⟩ ⟨rfl, trivial⟩ rfl rfl, by decide⟩
  · have hie : i = 7 := by simp at h; omega
    rw [f1, if_neg (by rw [hi2, hie]; simp [Rs.lv, srt])] at hk
    conv => whnf
    exact hk
theorem rwrong_ok : FunR Tryz.prog 34 (R_rsI fun r x => askS r 0 x) := by
  intro args k h
  unfold R_rsI at h
  split at h
  case h_2 => exact h.elim
  rename_i a b cc d e x
  obtain ⟨c, rfl, hl, hk⟩ := h
  have hk : k (I (askS ⟨c, a, b, cc, d, e⟩ 0 x)) := hk
  refine does_ex (qc := qc1) (np := []) (CK := ckK [(53, cSc (R_rs ckS)), (54, cSc R_within)]) mixed Tryz.func34 rfl rfl Tryz.ntmps34 Tryz.results34 τ_ok (by kernel_rfl) (ckK_ok ⟨cSc_ok rckS_ok, cSc_ok rIn_ok, trivial⟩) (by simp) ?_
  conv => whnf
  refine ⟨c, rfl, hl, ?_⟩
  conv => whnf
  refine Fork.mk (fun h => ?_) (fun h => ?_)
  · have h1 : ckS ⟨c, a, b, cc, d, e⟩ ≠ 0 := by simpa using h
    rw [show askS ⟨c, a, b, cc, d, e⟩ 0 x = ckS ⟨c, a, b, cc, d, e⟩ from if_pos h1] at hk
    conv => whnf
    exact hk
  have h1 : ckS ⟨c, a, b, cc, d, e⟩ = 0 := by simpa using h
  have f1 : askS ⟨c, a, b, cc, d, e⟩ 0 x = if inB 0 274877906944 0 = true ∧ inB 0 16777216 x = true then 0 else 1 := by unfold askS; rw [if_neg (by rw [h1]; simp)]
  conv => whnf
  refine Fork.mk (fun h => ?_) (fun h => ?_)
  · rw [f1, if_neg (by simp [inB] at h ⊢; omega)] at hk
    conv => whnf
    exact hk
  · rw [f1, if_pos (by simp [inB] at h ⊢; omega)] at hk
    conv => whnf
    exact hk
theorem rvolS_ok : FunR Tryz.prog 18 (R_rs1 volS) := by
  intro args k h
  unfold R_rs1 at h
  split at h
  case h_2 => exact h.elim
  rename_i a b cc d e x
  obtain ⟨c, rfl, hl, hk⟩ := h
  refine does_ex (qc := qc1) (np := []) (CK := ckK [(34, cSc (R_rsI fun r x => askS r 0 x)), (35, cSc R_at)]) mixed Tryz.func18 rfl rfl Tryz.ntmps18 Tryz.results18 τ_ok (by kernel_rfl) (ckK_ok ⟨cSc_ok rwrong_ok, cSc_ok rAt_ok, trivial⟩) (by simp) ?_
  conv => whnf
  refine ⟨c, rfl, hl, ?_⟩
  conv => whnf
  refine Fork.mk (fun h => ?_) (fun h => ?_)
  · have h1 : askS ⟨c, a, b, cc, d, e⟩ 0 x ≠ 0 := by simpa using h
    rw [show volS ⟨c, a, b, cc, d, e⟩ x = (0, askS ⟨c, a, b, cc, d, e⟩ 0 x) from if_pos h1] at hk
    conv => whnf
    exact hk
  have h1 : askS ⟨c, a, b, cc, d, e⟩ 0 x = 0 := by simpa using h
  obtain ⟨hck, hv, hx⟩ := askS_ok h1
  obtain ⟨hc, hlen, hlast, hrise, hsrt⟩ := ckS_ok hck
  dsimp only at hc hlen hlast hrise
  rw [show volS ⟨c, a, b, cc, d, e⟩ x = (valC c x, 0) by unfold volS; exact if_neg (by rw [h1]; simp)] at hk
  conv => whnf
  refine ⟨c, rfl, hl, ?_⟩
  rw [show atV c x = (valC c x, 0) from if_neg (by simpa using hc)]
  conv => whnf
  exact hk
end Go.Proofs

namespace Go.Proofs
open Go Go.Abs
set_option linter.unusedSimpArgs false
set_option linter.unusedVariables false
set_option maxRecDepth 4000
theorem ckU_prog : FunR Tryz.prog 82 (R_unI ckU) := by
  intro args k h
  obtain ⟨u, rfl, hu, hk⟩ := h
  refine does_ex (qc := qc1) (np := []) (CK := ckK [(85, cSc R_ckC), (25, cSc R_within)]) mixed Tryz.func82 rfl rfl Tryz.ntmps82 Tryz.results82 τ_ok (by kernel_rfl) (ckK_ok ⟨cSc_ok ckC_ok', cSc_ok within_ok, trivial⟩) (by simp) ?_
  conv => whnf
  refine ⟨u.tb, rfl, hu.tb, ?_⟩
  conv => whnf
  refine Fork.mk (fun h => ?_) (fun h => ?_)
  · have h1 : ckC u.tb ≠ 0 := by simpa using h
    rw [show ckU u = ckC u.tb from if_pos h1] at hk
    conv => whnf
    exact hk
  have h1 : ckC u.tb = 0 := by simpa using h
  have h0 := ckC_ne h1
  have h0l : 0 < u.tb.length := List.length_pos_iff.2 h0.1
  have hm := eP_len u.tb
  have hmr := eP_len u.rg
  have hla := lastP_at h0.1
  have hw2 : IntKind.i64.wrap (((eP u.tb).length : Int) - 1) = ((u.tb.length - 1 : Nat) : Int) := by rw [eP_len, wrap_in (by omega) (by omega)]; omega
  have e1 : ckU u = if 1073741824 < (lastP u.tb).2 then 1 else if u.lo < 1 ∨ u.mo < u.lo ∨ 1073741824 < u.mo then 1 else if 10 < u.rg.length then 10 else if zE u.rg ≠ 0 then zE u.rg else if (inB 0 1000 u.up && inB 0 1000 u.dn) = false then 1 else 0 := by
    rw [ckU, if_neg (by simp [h1])]
  conv => whnf
  rw [hw2]
  refine ⟨by omega, ePt (lastP u.tb), by rw [Int.toNat_natCast]; exact eP_at u.tb hla, rfl, ?_⟩
  conv => whnf
  refine Fork.mk (fun h => ?_) (fun h => ?_)
  · have h2 : 1073741824 < (lastP u.tb).2 := by simpa using h
    rw [e1, if_pos h2] at hk
    conv => whnf
    ((repeat (refine fork_t ?_; (conv => whnf))); exact hk)
  have h2 : ¬ 1073741824 < (lastP u.tb).2 := by simpa using h
  rw [if_neg h2] at e1
  conv => whnf
  refine Fork.mk (fun h => ?_) (fun h => ?_)
  · have h3 : u.lo < 1 := by simpa using h
    rw [e1, if_pos (.inl h3)] at hk
    conv => whnf
    ((repeat (refine fork_t ?_; (conv => whnf))); exact hk)
  have h3 : ¬ u.lo < 1 := by simpa using h
  conv => whnf
  refine Fork.mk (fun h => ?_) (fun h => ?_)
  · have h4 : u.mo < u.lo := by simpa using h
    rw [e1, if_pos (.inr (.inl h4))] at hk
    conv => whnf
    ((repeat (refine fork_t ?_; (conv => whnf))); exact hk)
  have h4 : ¬ u.mo < u.lo := by simpa using h
  conv => whnf
  refine Fork.mk (fun h => ?_) (fun h => ?_)
  · have h5 : 1073741824 < u.mo := by simpa using h
    rw [e1, if_pos (.inr (.inr h5))] at hk
    conv => whnf
    ((repeat (refine fork_t ?_; (conv => whnf))); exact hk)
  have h5 : ¬ 1073741824 < u.mo := by simpa using h
  rw [if_neg (show ¬ (u.lo < 1 ∨ u.mo < u.lo ∨ 1073741824 < u.mo) by omega)] at e1
  conv => whnf
  refine Fork.mk (fun h => ?_) (fun h => ?_)
  · have h6 : 10 < u.rg.length := by simp at h; omega
    rw [e1, if_pos h6] at hk
    conv => whnf
    exact hk
  have h6 : ¬ 10 < u.rg.length := by simp at h; omega
  rw [if_neg h6] at e1
  conv => whnf
  refine ⟨Nat, fun i => ([(1, .c (.ptr (.l 1 0) 0)), (45, .c (.lst (eP u.rg))), (46, I (eP u.rg).length), (47, I i)], ⟨[(.l 1 0, .blk (unC u))], 5, []⟩),
    fun i => i ≤ u.rg.length ∧ zE u.rg = zE (u.rg.drop i), fun i => u.rg.length - i, 0, ⟨Nat.zero_le _, rfl⟩,
    Shift.reset ⟨rfl, rfl, rfl, rfl, trivial⟩ ⟨rfl, trivial⟩ rfl rfl, fun i hi => ?_⟩
  obtain ⟨hi1, hi2⟩ := hi
  dsimp only
  conv => whnf
  refine Fork.mk (fun h => ?_) (fun h => ?_)
  · have hi : i < u.rg.length := by simp at h; omega
    have hci := List.getElem?_eq_getElem hi
    generalize u.rg[i] = z at hci
    rw [drop_of hci] at hi2
    have hw1 := wr_succ (i := i) (by omega)
    conv => whnf
    refine ⟨by omega, ePt z, by rw [Int.toNat_natCast]; exact eP_at u.rg hci, rfl, ?_⟩
    conv => whnf
    have bad : ∀ e, zE (z :: u.rg.drop (i + 1)) = e → e ≠ 0 → ckU u = e := fun e h he => by rw [e1, if_pos (by rw [hi2, h]; exact he), hi2, h]
    refine Fork.mk (fun h => ?_) (fun h => ?_)
    · rw [bad 1 (by simp at h; rw [zE_cons]; rw [if_pos (by simp [inB]; omega)]) (by omega)] at hk
      conv => whnf
      ((repeat (refine fork_t ?_; (conv => whnf))); exact hk)
    have h7 : 0 ≤ z.1 ∧ z.1 ≤ 1073741824 := by simp at h; omega
    conv => whnf
    refine Fork.mk (fun h => ?_) (fun h => ?_)
    · rw [bad 1 (by simp at h; rw [zE_cons]; rw [if_pos (by simp [inB]; omega)]) (by omega)] at hk
      conv => whnf
      ((repeat (refine fork_t ?_; (conv => whnf))); exact hk)
    have h8 : 0 ≤ z.2 ∧ z.2 ≤ 1073741824 := by simp at h; omega
    conv => whnf
    refine Fork.mk (fun h => ?_) (fun h => ?_)
    · rw [bad 4 (by simp at h; rw [zE_cons]; rw [if_neg (by simp [inB, h7, h8]), if_pos h]) (by omega)] at hk
      conv => whnf
      ((repeat (refine fork_t ?_; (conv => whnf))); exact hk)
    have h9 : ¬ z.2 ≤ z.1 := by simp at h; omega
    conv => whnf
    rw [hw1]
    refine ⟨i + 1, ⟨hi, by rw [hi2]; rw [zE_cons, if_neg (by simp [inB, h7, h8]), if_neg h9]⟩, Shift.reset ⟨rfl, rfl, rfl, rfl, trivial⟩ ⟨rfl, trivial⟩ rfl rfl, ?_⟩
    show u.rg.length - (i + 1) < u.rg.length - i
    omega
  have hie : i = u.rg.length := by simp at h; omega
  subst hie
  rw [List.drop_length] at hi2
  rw [if_neg (by simp [hi2, zE])] at e1
  conv => whnf
  refine Fork.mk (fun h => ?_) (fun h => ?_)
  · rw [e1, if_pos (by simp [inB] at h ⊢; omega)] at hk
    conv => whnf
    ((repeat (refine fork_t ?_; (conv => whnf))); exact hk)
  have h7 : 0 ≤ u.up ∧ u.up ≤ 1000 := by simp at h; omega
  conv => whnf
  refine Fork.mk (fun h => ?_) (fun h => ?_)
  · rw [e1, if_pos (by simp [inB] at h ⊢; omega)] at hk
    conv => whnf
    exact hk
  have h8 : 0 ≤ u.dn ∧ u.dn ≤ 1000 := by simp at h; omega
  rw [e1, if_neg (by simp [inB, h7, h8])] at hk
  conv => whnf
  exact hk
theorem bey_ok : FunR Tryz.prog 119 R_bey := by
  intro args k h
  obtain ⟨u, q, rfl, hu, hk⟩ := h
  have hu := hu.rg
  have hm := eP_len u.rg
  refine does_ex (qc := qc1) (np := []) (CK := ckK []) mixed Tryz.func119 rfl rfl Tryz.ntmps119 Tryz.results119 τ_ok (by kernel_rfl) (ckK_ok trivial) (by simp) ?_
  conv => whnf
  refine ⟨Int, fun f => ([(1, I f), (2, .c (.ptr (.l 2 0) 0))], ⟨[(.l 2 0, .blk (unC u))], 5, []⟩),
    fun f => q ≤ f ∧ (∀ x, q ≤ x → x < f → outZ u.rg x = false) ∧ (f = q ∨ ∃ z ∈ u.rg, f = z.2), fun f => zAb u.rg f, q, ⟨Int.le_refl _, fun x _ _ => by omega, .inl rfl⟩,
    Shift.reset ⟨rfl, rfl, trivial⟩ ⟨rfl, trivial⟩ rfl rfl, fun f hf => ?_⟩
  obtain ⟨hf1, hf2, hf3⟩ := hf
  dsimp only
  conv => whnf
  refine ⟨Nat, fun i => ([(1, I f), (2, .c (.ptr (.l 2 0) 0)), (8, .c (.lst (eP u.rg))), (9, I (eP u.rg).length), (10, I i)], ⟨[(.l 2 0, .blk (unC u))], 5, []⟩),
    fun i => i ≤ u.rg.length ∧ ∀ z ∈ u.rg.take i, ¬ (z.1 < f ∧ f < z.2), fun i => u.rg.length - i, 0, ⟨Nat.zero_le _, fun z hz => by simp at hz⟩,
    Shift.reset ⟨rfl, rfl, rfl, rfl, rfl, trivial⟩ ⟨rfl, trivial⟩ rfl rfl, fun i hi => ?_⟩
  obtain ⟨hi1, hi2⟩ := hi
  dsimp only
  conv => whnf
  refine Fork.mk (fun h => ?_) (fun h => ?_)
  · have hi : i < u.rg.length := by simp at h; omega
    have hci := List.getElem?_eq_getElem hi
    have hzm := List.getElem_mem hi
    have htk := List.take_append_getElem hi
    generalize u.rg[i] = z at hci hzm htk
    have hw1 := wr_succ (i := i) (by omega)
    have next : ¬ (z.1 < f ∧ f < z.2) → ∀ y ∈ u.rg.take (i + 1), ¬ (y.1 < f ∧ f < y.2) := fun h y hy => by
      rw [← htk] at hy
      rcases List.mem_append.1 hy with hy | hy
      · exact hi2 y hy
      · simp at hy; subst hy; exact h
    conv => whnf
    refine ⟨by omega, ePt z, by rw [Int.toNat_natCast]; exact eP_at u.rg hci, rfl, ?_⟩
    conv => whnf
    refine Fork.mk (fun h => ?_) (fun h => ?_)
    · have h1 : z.1 < f := by simpa using h
      conv => whnf
      refine Fork.mk (fun h => ?_) (fun h => ?_)
      · have h2 : f < z.2 := by simpa using h
        conv => whnf
        refine ⟨z.2, ⟨by omega, fun x hx1 hx2 => ?_, .inr ⟨z, hzm, rfl⟩⟩, Shift.reset ⟨rfl, rfl, trivial⟩ ⟨rfl, trivial⟩ rfl rfl, zAb_lt hzm h2⟩
        by_cases hx : x < f
        · exact hf2 x hx1 hx
        · exact outZ_f hzm (by omega) hx2
      have h2 : ¬ f < z.2 := by simpa using h
      conv => whnf
      rw [hw1]
      refine ⟨i + 1, ⟨hi, next (by omega)⟩, Shift.reset ⟨rfl, rfl, rfl, rfl, rfl, trivial⟩ ⟨rfl, trivial⟩ rfl rfl, ?_⟩
      show u.rg.length - (i + 1) < u.rg.length - i
      omega
    have h1 : ¬ z.1 < f := by simpa using h
    conv => whnf
    first | rw [hw1] | (refine fork_f ?_; (conv => whnf); rw [hw1])
    refine ⟨i + 1, ⟨hi, next (by omega)⟩, Shift.reset ⟨rfl, rfl, rfl, rfl, rfl, trivial⟩ ⟨rfl, trivial⟩ rfl rfl, ?_⟩
    show u.rg.length - (i + 1) < u.rg.length - i
    omega
  have hie : i = u.rg.length := by simp at h; omega
  subst hie
  rw [List.take_length] at hi2
  conv => whnf
  exact hk f ⟨hf1, outZ_iff.2 hi2, hf2, hf3⟩
theorem runs_ok : FunR Tryz.prog 99 (R_unQB runB) := by
  intro args k h
  obtain ⟨u, q, rfl, hu, hk⟩ := h
  refine does_ex (qc := qc1) (np := []) (CK := ckK [(119, cSc R_bey)]) mixed Tryz.func99 rfl rfl Tryz.ntmps99 Tryz.results99 τ_ok (by kernel_rfl) (ckK_ok ⟨cSc_ok bey_ok, trivial⟩) (by simp) ?_
  conv => whnf
  refine Fork.mk (fun h => ?_) (fun h => ?_)
  · have h1 : u.lo ≤ q := by simpa using h
    conv => whnf
    refine Fork.mk (fun h => ?_) (fun h => ?_)
    · have h2 : q ≤ u.mo := by simpa using h
      conv => whnf
      refine ⟨u, q, rfl, hu, fun r hr => ?_⟩
      conv => whnf
      rw [isBey_eq hr]
      have : runB u q = outZ u.rg q := by simp [runB, h1, h2]
      rw [← this]
      exact hk
    have h2 : ¬ q ≤ u.mo := by simpa using h
    rw [show runB u q = false by simp [runB, h2]] at hk
    conv => whnf
    first | exact hk | (refine fork_f ?_; (conv => whnf); exact hk)
  have h1 : ¬ u.lo ≤ q := by simpa using h
  rw [show runB u q = false by simp [runB, h1]] at hk
  conv => whnf
  first | exact hk | (refine fork_f ?_; (conv => whnf); exact hk)
end Go.Proofs
