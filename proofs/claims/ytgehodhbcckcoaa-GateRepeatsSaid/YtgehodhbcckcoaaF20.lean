/- Proved here: what functions of the given program come to, for the statements of this chapter; no condition but those in the theorems. -/
import Derived.Test.YtgehodhbcckcoaaE20
import Derived.Test.YtgehodhbcckcoaaPGate
namespace Go.Proofs
open Go Go.Abs
set_option linter.unusedSimpArgs false
set_option linter.unusedVariables false
set_option maxRecDepth 4000
theorem ckG_prog : FunR Try.prog 22 (R_gI ckG) := by
  intro args k h
  obtain ⟨g, rfl, hg, hk⟩ := h
  have hm : (g.rt.map rtC).length = g.rt.length := List.length_map _
  have hgn := hg.n
  refine does_ex (qc := qc1) (np := []) (CK := ckK [(43, cSc R_ckC), (29, cSc R_within)]) mixed Try.func22 rfl rfl Try.ntmps22 Try.results22 τ_ok (by kernel_rfl) (ckK_ok ⟨cSc_ok ckC_ok', cSc_ok within_ok, trivial⟩) (by simp) ?_
  conv => whnf
  refine Fork.mk (fun h => ?_) (fun h => ?_)
  · have h1 : g.rt.length = 0 := by simp at h; simp [h]
    rw [show ckG g = 3 from if_pos h1] at hk
    conv => whnf
    exact hk
  have h1 : ¬ g.rt.length = 0 := by simp at h; simpa using h
  conv => whnf
  refine Fork.mk (fun h => ?_) (fun h => ?_)
  · have h2 : 10 < g.rt.length := by simp at h; omega
    rw [show ckG g = 10 by rw [ckG, if_neg h1, if_pos h2]] at hk
    conv => whnf
    exact hk
  have h2 : ¬ 10 < g.rt.length := by simp at h; omega
  have e1 : ckG g = if rE none g.rt ≠ 0 then rE none g.rt else if (inB 0 1000 g.mo && inB 0 1000 g.mv) = false then 1 else 0 := by rw [ckG, if_neg h1, if_neg h2]
  conv => whnf
  refine ⟨Nat, fun i => ([(1, .c (.ptr (.l 1 0) 0)), (17, .c (.lst (g.rt.map rtC))), (18, I (g.rt.map rtC).length), (19, I i)], ⟨[(.l 1 0, .blk (gtC g))], 5, []⟩),
    fun i => i ≤ g.rt.length ∧ rE none g.rt = rE (if i = 0 then none else (g.rt[i - 1]?).map (·.1)) (g.rt.drop i), fun i => g.rt.length - i, 0, ⟨Nat.zero_le _, rfl⟩,
    Shift.reset ⟨rfl, rfl, rfl, rfl, trivial⟩ ⟨rfl, trivial⟩ rfl rfl, fun i hi => ?_⟩
  obtain ⟨hi1, hi2⟩ := hi
  dsimp only
  conv => whnf
  refine Fork.mk (fun h => ?_) (fun h => ?_)
  · have hi : i < g.rt.length := by simp at h; omega
    clear h
    have hci := List.getElem?_eq_getElem hi
    have hcl := hg.c _ (List.getElem_mem hi)
    generalize g.rt[i] = r at hci hcl
    rw [drop_of hci, rE_cons] at hi2
    have hw1 := wr_succ (i := i) (by omega)
    have hcm := eP_len r.2
    conv => whnf
    refine ⟨by omega, rtC r, by rw [Int.toNat_natCast, List.getElem?_map, hci]; rfl, rfl, ?_⟩
    conv => whnf
    refine Fork.mk (fun h => ?_) (fun h => ?_)
    · rw [if_pos (by simp at h; simp [inB]; omega)] at hi2
      rw [e1, if_pos (by omega), hi2] at hk
      conv => whnf
      ((repeat (refine fork_t ?_; (conv => whnf))); exact hk)
    have h3 : 0 ≤ r.1 ∧ r.1 ≤ 16777216 := by simp at h; omega
    rw [if_neg (by simp [inB, h3])] at hi2
    clear h
    conv => whnf
    rcases Nat.eq_zero_or_pos i with hi0 | hi0
    · subst hi0
      refine Fork.mk (fun h => ?_) (fun h => ?_)
      · exfalso; simp at h
      clear h
      rw [if_neg (by simp [qle])] at hi2
      conv => whnf
      repeat (refine fork_f ?_; (conv => whnf))
      refine ⟨r.2, rfl, hcl, ?_⟩
      conv => whnf
      refine Fork.mk (fun h => ?_) (fun h => ?_)
      · have h5 : ckC r.2 ≠ 0 := by simpa using h
        rw [if_pos h5] at hi2
        rw [e1, if_pos (by omega), hi2] at hk
        conv => whnf
        exact hk
      have h5 : ckC r.2 = 0 := by simpa using h
      rw [if_neg (by simp [h5])] at hi2
      clear h
      obtain ⟨hc0, hc1⟩ := ckC_ne h5
      have hc2 : 0 < r.2.length := List.length_pos_iff.2 hc0
      have hh := head_at hc0
      have hla := lastP_at hc0
      have hw2 : IntKind.i64.wrap (((eP r.2).length : Int) - 1) = ((r.2.length - 1 : Nat) : Int) := by rw [eP_len, wrap_in (by omega) (by omega)]; omega
      conv => whnf
      refine ⟨by omega, ePt (r.2.headD (0, 0)), eP_at r.2 hh, rfl, ?_⟩
      conv => whnf
      refine Fork.mk (fun h => ?_) (fun h => ?_)
      · have h6 : r.2.headD (0, 0) ≠ (0, 0) := fun e => by rw [e] at h; simp at h
        rw [if_pos h6] at hi2
        rw [e1, if_pos (by omega), hi2] at hk
        conv => whnf
        exact hk
      have h6 : r.2.headD (0, 0) = (0, 0) := by
        generalize r.2.headD (0, 0) = z at h ⊢
        simp at h
        exact Prod.ext h.1 h.2
      rw [if_neg (fun e => e h6)] at hi2
      clear h
      conv => whnf
      rw [hw2]
      refine ⟨by omega, ePt (lastP r.2), by rw [Int.toNat_natCast]; exact eP_at r.2 hla, rfl, ?_⟩
      conv => whnf
      refine Fork.mk (fun h => ?_) (fun h => ?_)
      · have h7 : 1073741824 < (lastP r.2).2 := by simpa using h
        rw [if_pos h7] at hi2
        rw [e1, if_pos (by omega), hi2] at hk
        conv => whnf
        exact hk
      have h7 : ¬ 1073741824 < (lastP r.2).2 := by simpa using h
      rw [if_neg h7] at hi2
      clear h
      conv => whnf
      rw [hw1]
      exact ⟨_, ⟨hi, by rw [hi2, if_neg (Nat.succ_ne_zero _), show ∀ n, Nat.succ n - 1 = n from fun _ => rfl, hci]; rfl⟩, Shift.reset ⟨rfl, rfl, rfl, rfl, trivial⟩ ⟨rfl, trivial⟩ rfl rfl, by omega⟩
    have hcj := List.getElem?_eq_getElem (show i - 1 < g.rt.length by omega)
    generalize g.rt[i - 1] = q at hcj
    rw [if_neg (by omega : ¬ i = 0), hcj] at hi2
    refine Fork.mk (fun h => ?_) (fun h => ?_)
    rotate_left
    · exfalso; simp at h; omega
    clear h
    have hw3 : IntKind.i64.wrap ((i : Int) - 1) = ((i - 1 : Nat) : Int) := by rw [wrap_in (by omega) (by omega)]; omega
    conv => whnf
    rw [hw3]
    refine ⟨by omega, rtC q, by rw [Int.toNat_natCast, List.getElem?_map, hcj]; rfl, rfl, ?_⟩
    conv => whnf
    refine Fork.mk (fun h => ?_) (fun h => ?_)
    · rw [if_pos (by simpa [qle] using h)] at hi2
      rw [e1, if_pos (by omega), hi2] at hk
      conv => whnf
      exact hk
    rw [if_neg (by simpa [qle] using h)] at hi2
    clear h
    conv => whnf
    refine ⟨r.2, rfl, hcl, ?_⟩
    conv => whnf
    refine Fork.mk (fun h => ?_) (fun h => ?_)
    · have h5 : ckC r.2 ≠ 0 := by simpa using h
      rw [if_pos h5] at hi2
      rw [e1, if_pos (by omega), hi2] at hk
      conv => whnf
      exact hk
    have h5 : ckC r.2 = 0 := by simpa using h
    rw [if_neg (by simp [h5])] at hi2
    clear h
    obtain ⟨hc0, hc1⟩ := ckC_ne h5
    have hc2 : 0 < r.2.length := List.length_pos_iff.2 hc0
    have hh := head_at hc0
    have hla := lastP_at hc0
    have hw2 : IntKind.i64.wrap (((eP r.2).length : Int) - 1) = ((r.2.length - 1 : Nat) : Int) := by rw [eP_len, wrap_in (by omega) (by omega)]; omega
    conv => whnf
    refine ⟨by omega, ePt (r.2.headD (0, 0)), eP_at r.2 hh, rfl, ?_⟩
    conv => whnf
    refine Fork.mk (fun h => ?_) (fun h => ?_)
    · have h6 : r.2.headD (0, 0) ≠ (0, 0) := fun e => by rw [e] at h; simp at h
      rw [if_pos h6] at hi2
      rw [e1, if_pos (by omega), hi2] at hk
      conv => whnf
      exact hk
    have h6 : r.2.headD (0, 0) = (0, 0) := by
      generalize r.2.headD (0, 0) = z at h ⊢
      simp at h
      exact Prod.ext h.1 h.2
    rw [if_neg (fun e => e h6)] at hi2
    clear h
    conv => whnf
    rw [hw2]
    refine ⟨by omega, ePt (lastP r.2), by rw [Int.toNat_natCast]; exact eP_at r.2 hla, rfl, ?_⟩
    conv => whnf
    refine Fork.mk (fun h => ?_) (fun h => ?_)
    · have h7 : 1073741824 < (lastP r.2).2 := by simpa using h
      rw [if_pos h7] at hi2
      rw [e1, if_pos (by omega), hi2] at hk
      conv => whnf
      exact hk
    have h7 : ¬ 1073741824 < (lastP r.2).2 := by simpa using h
    rw [if_neg h7] at hi2
    clear h
    conv => whnf
    rw [hw1]
    exact ⟨_, ⟨hi, by rw [hi2, if_neg (Nat.succ_ne_zero _), show ∀ n, Nat.succ n - 1 = n from fun _ => rfl, hci]; rfl⟩, Shift.reset ⟨rfl, rfl, rfl, rfl, trivial⟩ ⟨rfl, trivial⟩ rfl rfl, by omega⟩
  have hie : i = g.rt.length := by simp at h; omega
  subst hie
  rw [List.drop_length] at hi2
  rw [if_neg (by simp [hi2, rE])] at e1
  clear hi2 hi1 h
  conv => whnf
  refine Fork.mk (fun h => ?_) (fun h => ?_)
  · rw [e1, if_pos (by simp [inB] at h ⊢; omega)] at hk
    conv => whnf
    ((repeat (refine fork_t ?_; (conv => whnf))); exact hk)
  have h7 : 0 ≤ g.mo ∧ g.mo ≤ 1000 := by simp at h; omega
  conv => whnf
  refine Fork.mk (fun h => ?_) (fun h => ?_)
  · rw [e1, if_pos (by simp [inB] at h ⊢; omega)] at hk
    conv => whnf
    exact hk
  have h8 : 0 ≤ g.mv ∧ g.mv ≤ 1000 := by simp at h; omega
  rw [e1, if_neg (by simp [inB, h7, h8])] at hk
  conv => whnf
  exact hk
theorem rckG_ok : FunR Try.prog 23 (R_gI ckG) := by
  intro args k h
  obtain ⟨g, rfl, hg, hk⟩ := h
  have hm : (g.rt.map rtC).length = g.rt.length := List.length_map _
  have hgn := hg.n
  refine does_ex (qc := qc1) (np := []) (CK := ckK [(44, cSc R_ckC), (37, cSc R_within)]) mixed Try.func23 rfl rfl Try.ntmps23 Try.results23 τ_ok (by kernel_rfl) (ckK_ok ⟨cSc_ok rckC_ok, cSc_ok rIn_ok, trivial⟩) (by simp) ?_
  conv => whnf
  refine Fork.mk (fun h => ?_) (fun h => ?_)
  · have h1 : g.rt.length = 0 := by simp at h; simp [h]
    rw [show ckG g = 3 from if_pos h1] at hk
    conv => whnf
    exact hk
  have h1 : ¬ g.rt.length = 0 := by simp at h; simpa using h
  conv => whnf
  refine Fork.mk (fun h => ?_) (fun h => ?_)
  · have h2 : 10 < g.rt.length := by simp at h; omega
    rw [show ckG g = 10 by rw [ckG, if_neg h1, if_pos h2]] at hk
    conv => whnf
    exact hk
  have h2 : ¬ 10 < g.rt.length := by simp at h; omega
  have e1 : ckG g = if rE none g.rt ≠ 0 then rE none g.rt else if (inB 0 1000 g.mo && inB 0 1000 g.mv) = false then 1 else 0 := by rw [ckG, if_neg h1, if_neg h2]
  conv => whnf
  refine ⟨Nat, fun i => ([(1, .c (.ptr (.l 1 0) 0)), (15, .c (.lst (g.rt.map rtC))), (16, I (g.rt.map rtC).length), (17, I i)], ⟨[(.l 1 0, .blk (gtC g))], 5, []⟩),
    fun i => i ≤ g.rt.length ∧ rE none g.rt = rE (if i = 0 then none else (g.rt[i - 1]?).map (·.1)) (g.rt.drop i), fun i => g.rt.length - i, 0, ⟨Nat.zero_le _, rfl⟩,
    Shift.reset ⟨rfl, rfl, rfl, rfl, trivial⟩ ⟨rfl, trivial⟩ rfl rfl, fun i hi => ?_⟩
  obtain ⟨hi1, hi2⟩ := hi
  dsimp only
  conv => whnf
  refine Fork.mk (fun h => ?_) (fun h => ?_)
  · have hi : i < g.rt.length := by simp at h; omega
    clear h
    have hci := List.getElem?_eq_getElem hi
    have hcl := hg.c _ (List.getElem_mem hi)
    generalize g.rt[i] = r at hci hcl
    rw [drop_of hci, rE_cons] at hi2
    have hw1 := wr_succ (i := i) (by omega)
    have hcm := eP_len r.2
    conv => whnf
    refine ⟨by omega, rtC r, by rw [Int.toNat_natCast, List.getElem?_map, hci]; rfl, rfl, ?_⟩
    conv => whnf
    refine Fork.mk (fun h => ?_) (fun h => ?_)
    · rw [if_pos (by simp at h; simp [inB]; omega)] at hi2
      rw [e1, if_pos (by omega), hi2] at hk
      conv => whnf
      ((repeat (refine fork_t ?_; (conv => whnf))); exact hk)
    have h3 : 0 ≤ r.1 ∧ r.1 ≤ 16777216 := by simp at h; omega
    rw [if_neg (by simp [inB, h3])] at hi2
    clear h
    conv => whnf
    rcases Nat.eq_zero_or_pos i with hi0 | hi0
    · subst hi0
      refine Fork.mk (fun h => ?_) (fun h => ?_)
      · exfalso; simp at h
      clear h
      rw [if_neg (by simp [qle])] at hi2
      conv => whnf
      repeat (refine fork_f ?_; (conv => whnf))
      refine ⟨r.2, rfl, hcl, ?_⟩
      conv => whnf
      refine Fork.mk (fun h => ?_) (fun h => ?_)
      · have h5 : ckC r.2 ≠ 0 := by simpa using h
        rw [if_pos h5] at hi2
        rw [e1, if_pos (by omega), hi2] at hk
        conv => whnf
        exact hk
      have h5 : ckC r.2 = 0 := by simpa using h
      rw [if_neg (by simp [h5])] at hi2
      clear h
      obtain ⟨hc0, hc1⟩ := ckC_ne h5
      have hc2 : 0 < r.2.length := List.length_pos_iff.2 hc0
      have hh := head_at hc0
      have hla := lastP_at hc0
      have hw2 : IntKind.i64.wrap (((eP r.2).length : Int) - 1) = ((r.2.length - 1 : Nat) : Int) := by rw [eP_len, wrap_in (by omega) (by omega)]; omega
      conv => whnf
      refine ⟨by omega, ePt (r.2.headD (0, 0)), eP_at r.2 hh, rfl, ?_⟩
      conv => whnf
      refine Fork.mk (fun h => ?_) (fun h => ?_)
      · have h6 : r.2.headD (0, 0) ≠ (0, 0) := fun e => by rw [e] at h; simp at h
        rw [if_pos h6] at hi2
        rw [e1, if_pos (by omega), hi2] at hk
        conv => whnf
        exact hk
      have h6 : r.2.headD (0, 0) = (0, 0) := by
        generalize r.2.headD (0, 0) = z at h ⊢
        simp at h
        exact Prod.ext h.1 h.2
      rw [if_neg (fun e => e h6)] at hi2
      clear h
      conv => whnf
      rw [hw2]
      refine ⟨by omega, ePt (lastP r.2), by rw [Int.toNat_natCast]; exact eP_at r.2 hla, rfl, ?_⟩
      conv => whnf
      refine Fork.mk (fun h => ?_) (fun h => ?_)
      · have h7 : 1073741824 < (lastP r.2).2 := by simpa using h
        rw [if_pos h7] at hi2
        rw [e1, if_pos (by omega), hi2] at hk
        conv => whnf
        exact hk
      have h7 : ¬ 1073741824 < (lastP r.2).2 := by simpa using h
      rw [if_neg h7] at hi2
      clear h
      conv => whnf
      rw [hw1]
      exact ⟨_, ⟨hi, by rw [hi2, if_neg (Nat.succ_ne_zero _), show ∀ n, Nat.succ n - 1 = n from fun _ => rfl, hci]; rfl⟩, Shift.reset ⟨rfl, rfl, rfl, rfl, trivial⟩ ⟨rfl, trivial⟩ rfl rfl, by omega⟩
    have hcj := List.getElem?_eq_getElem (show i - 1 < g.rt.length by omega)
    generalize g.rt[i - 1] = q at hcj
    rw [if_neg (by omega : ¬ i = 0), hcj] at hi2
    refine Fork.mk (fun h => ?_) (fun h => ?_)
    rotate_left
    · exfalso; simp at h; omega
    clear h
    have hw3 : IntKind.i64.wrap ((i : Int) - 1) = ((i - 1 : Nat) : Int) := by rw [wrap_in (by omega) (by omega)]; omega
    conv => whnf
    rw [hw3]
    refine ⟨by omega, rtC q, by rw [Int.toNat_natCast, List.getElem?_map, hcj]; rfl, rfl, ?_⟩
    conv => whnf
    refine Fork.mk (fun h => ?_) (fun h => ?_)
    · rw [if_pos (by simpa [qle] using h)] at hi2
      rw [e1, if_pos (by omega), hi2] at hk
      conv => whnf
      exact hk
    rw [if_neg (by simpa [qle] using h)] at hi2
    clear h
    conv => whnf
    refine ⟨r.2, rfl, hcl, ?_⟩
    conv => whnf
    refine Fork.mk (fun h => ?_) (fun h => ?_)
    · have h5 : ckC r.2 ≠ 0 := by simpa using h
      rw [if_pos h5] at hi2
      rw [e1, if_pos (by omega), hi2] at hk
      conv => whnf
      exact hk
    have h5 : ckC r.2 = 0 := by simpa using h
    rw [if_neg (by simp [h5])] at hi2
    clear h
    obtain ⟨hc0, hc1⟩ := ckC_ne h5
    have hc2 : 0 < r.2.length := List.length_pos_iff.2 hc0
    have hh := head_at hc0
    have hla := lastP_at hc0
    have hw2 : IntKind.i64.wrap (((eP r.2).length : Int) - 1) = ((r.2.length - 1 : Nat) : Int) := by rw [eP_len, wrap_in (by omega) (by omega)]; omega
    conv => whnf
    refine ⟨by omega, ePt (r.2.headD (0, 0)), eP_at r.2 hh, rfl, ?_⟩
    conv => whnf
    refine Fork.mk (fun h => ?_) (fun h => ?_)
    · have h6 : r.2.headD (0, 0) ≠ (0, 0) := fun e => by rw [e] at h; simp at h
      rw [if_pos h6] at hi2
      rw [e1, if_pos (by omega), hi2] at hk
      conv => whnf
      exact hk
    have h6 : r.2.headD (0, 0) = (0, 0) := by
      generalize r.2.headD (0, 0) = z at h ⊢
      simp at h
      exact Prod.ext h.1 h.2
    rw [if_neg (fun e => e h6)] at hi2
    clear h
    conv => whnf
    rw [hw2]
    refine ⟨by omega, ePt (lastP r.2), by rw [Int.toNat_natCast]; exact eP_at r.2 hla, rfl, ?_⟩
    conv => whnf
    refine Fork.mk (fun h => ?_) (fun h => ?_)
    · have h7 : 1073741824 < (lastP r.2).2 := by simpa using h
      rw [if_pos h7] at hi2
      rw [e1, if_pos (by omega), hi2] at hk
      conv => whnf
      exact hk
    have h7 : ¬ 1073741824 < (lastP r.2).2 := by simpa using h
    rw [if_neg h7] at hi2
    clear h
    conv => whnf
    rw [hw1]
    exact ⟨_, ⟨hi, by rw [hi2, if_neg (Nat.succ_ne_zero _), show ∀ n, Nat.succ n - 1 = n from fun _ => rfl, hci]; rfl⟩, Shift.reset ⟨rfl, rfl, rfl, rfl, trivial⟩ ⟨rfl, trivial⟩ rfl rfl, by omega⟩
  have hie : i = g.rt.length := by simp at h; omega
  subst hie
  rw [List.drop_length] at hi2
  rw [if_neg (by simp [hi2, rE])] at e1
  clear hi2 hi1 h
  conv => whnf
  refine Fork.mk (fun h => ?_) (fun h => ?_)
  · rw [e1, if_pos (by simp [inB] at h ⊢; omega)] at hk
    conv => whnf
    ((repeat (refine fork_t ?_; (conv => whnf))); exact hk)
  have h7 : 0 ≤ g.mo ∧ g.mo ≤ 1000 := by simp at h; omega
  conv => whnf
  refine Fork.mk (fun h => ?_) (fun h => ?_)
  · rw [e1, if_pos (by simp [inB] at h ⊢; omega)] at hk
    conv => whnf
    exact hk
  have h8 : 0 ≤ g.mv ∧ g.mv ≤ 1000 := by simp at h; omega
  rw [e1, if_neg (by simp [inB, h7, h8])] at hk
  conv => whnf
  exact hk
theorem at_ok : FunR Try.prog 31 R_atG := by
  intro args k h
  obtain ⟨g, lv, rfl, hg, hk⟩ := h
  have hm : (g.rt.map rtC).length = g.rt.length := List.length_map _
  have hgn := hg.n
  refine does_ex (qc := qc1) (np := []) (CK := ckK []) mixed Try.func31 rfl rfl Try.ntmps31 Try.results31 τ_ok (by kernel_rfl) (ckK_ok trivial) (by simp) ?_
  conv => whnf
  refine ⟨Nat × List Pt, fun s => ([(1, I lv), (4, .c (.ptr (.l 4 1) 0)), (5, .c (.ptr (.l 5 2) 0)), (9, .c (.lst (g.rt.map rtC))), (10, I (g.rt.map rtC).length), (11, I s.1)], ⟨[(.l 4 1, .blk [.sc (.slice none 0 0), IC 0]), (.l 5 2, .blk [.lst (eP s.2), IC 0])], 10, []⟩),
    fun s => s.1 ≤ g.rt.length ∧ atL [] g.rt lv = atL s.2 (g.rt.drop s.1) lv, fun s => g.rt.length - s.1, (0, []), ⟨Nat.zero_le _, rfl⟩,
    Shift.trans (Shift.reset ⟨rfl, rfl, rfl, rfl, rfl, rfl, trivial⟩ ⟨rfl, rfl, trivial⟩ rfl rfl) (Shift.purCell (i := .l 5 2) (cs := [.sc (.slice none 0 0), IC 0]) (j := 0) (c' := .lst []) rfl rfl rfl), fun s hs => ?_⟩
  obtain ⟨i, a⟩ := s
  obtain ⟨hi1, hi2⟩ := hs
  dsimp only at hi1 hi2 ⊢
  conv => whnf
  refine Fork.mk (fun h => ?_) (fun h => ?_)
  · have hi : i < g.rt.length := by simp at h; omega
    clear h
    have hci := List.getElem?_eq_getElem hi
    generalize g.rt[i] = r at hci
    rw [drop_of hci] at hi2
    have hw1 := wr_succ (i := i) (by omega)
    conv => whnf
    refine ⟨by omega, rtC r, by rw [Int.toNat_natCast, List.getElem?_map, hci]; rfl, rfl, ?_⟩
    conv => whnf
    refine Fork.mk (fun h => ?_) (fun h => ?_)
    · have h1 : r.1 ≤ lv := by simpa using h
      conv => whnf
      rw [hw1]
      exact ⟨(i + 1, r.2), ⟨hi, by rw [hi2]; exact congrArg (fun z => atL z _ _) (if_pos h1)⟩, Shift.reset ⟨rfl, rfl, rfl, rfl, rfl, rfl, trivial⟩ ⟨rfl, rfl, trivial⟩ rfl rfl, by dsimp only; omega⟩
    have h1 : ¬ r.1 ≤ lv := by simpa using h
    conv => whnf
    rw [hw1]
    exact ⟨(i + 1, a), ⟨hi, by rw [hi2]; exact congrArg (fun z => atL z _ _) (if_neg h1)⟩, Shift.reset ⟨rfl, rfl, rfl, rfl, rfl, rfl, trivial⟩ ⟨rfl, rfl, trivial⟩ rfl rfl, by dsimp only; omega⟩
  have hie : i = g.rt.length := by simp at h; omega
  subst hie
  rw [List.drop_length] at hi2
  have hi3 : atG g lv = a := hi2
  rw [hi3] at hk
  conv => whnf
  exact hk
theorem vflow_ok : FunR Try.prog 33 R_vflow := by
  intro args k h
  obtain ⟨c, w, x, rfl, hc, hk⟩ := h
  refine does_ex (qc := qc1) (np := []) (CK := ckK [(47, cSc R_val)]) mixed Try.func33 rfl rfl Try.ntmps33 Try.results33 τ_ok (by kernel_rfl) (ckK_ok ⟨cSc_ok val_ok, trivial⟩) (by simp) ?_
  conv => whnf
  refine Fork.mk (fun h => ?_) (fun h => ?_)
  · have h1 : c = [] := by simpa using h
    subst h1
    conv => whnf
    exact hk
  have h1 : c ≠ [] := fun e => by subst e; simp at h
  conv => whnf
  refine ⟨c, rfl, (hc.resolve_left h1).c, ?_⟩
  rw [gfl_ne h1] at hk
  conv => whnf
  exact hk
theorem enough_ok : FunR Try.prog 30 R_enough := by
  intro args k h
  obtain ⟨c, w, x, rfl, hc, hk⟩ := h
  refine does_ex (qc := qc1) (np := []) (CK := ckK [(33, cSc R_vflow)]) mixed Try.func30 rfl rfl Try.ntmps30 Try.results30 τ_ok (by kernel_rfl) (ckK_ok ⟨cSc_ok vflow_ok, trivial⟩) (by simp) ?_
  conv => whnf
  refine ⟨c, w, x, rfl, hc, ?_⟩
  conv => whnf
  exact hk
theorem flow_ok : FunR Try.prog 21 R_flowS := by
  intro args k h
  obtain ⟨g, x, lv, rfl, hg, hk⟩ := h
  refine does_ex (qc := qc1) (np := []) (CK := ckK [(22, cSc (R_gI ckG)), (29, cSc R_within), (31, cPq R_atG), (33, cSc R_vflow)]) mixed Try.func21 rfl rfl Try.ntmps21 Try.results21 τ_ok (by kernel_rfl) (ckK_ok ⟨cSc_ok ckG_prog, cSc_ok within_ok, cPq_ok at_ok, cSc_ok vflow_ok, trivial⟩) (by simp) ?_
  conv => whnf
  refine ⟨g, rfl, hg, ?_⟩
  conv => whnf
  refine Fork.mk (fun h => ?_) (fun h => ?_)
  · have h1 : ckG g ≠ 0 := by simpa using h
    conv => whnf
    exact kI2 hk (by rw [flowS, if_pos h1])
  have h1 : ckG g = 0 := by simpa using h
  conv => whnf
  refine Fork.mk (fun h => ?_) (fun h => ?_)
  · conv => whnf
    (repeat (refine fork_t ?_; (conv => whnf)))
    exact kI2 hk (by rw [flowS, if_neg (by simp [h1]), if_pos (by simp [inB] at h ⊢; omega)])
  have h2 : 0 ≤ x ∧ x ≤ g.mo := by simp at h; omega
  clear h
  conv => whnf
  refine Fork.mk (fun h => ?_) (fun h => ?_)
  · conv => whnf
    exact kI2 hk (by rw [flowS, if_neg (by simp [h1]), if_pos (by simp [inB] at h ⊢; omega)])
  have h3 : 0 ≤ lv ∧ lv ≤ 16777216 := by simp at h; omega
  clear h
  conv => whnf
  refine ⟨g, lv, rfl, hg, ?_⟩
  conv => whnf
  refine ⟨atG g lv, 0, x, rfl, atG_ok h1 lv, ?_⟩
  conv => whnf
  exact kI2 hk (by rw [flowS, if_neg (by simp [h1]), if_neg (by simp [inB, h2, h3])])
theorem rflow_ok : FunR Try.prog 45 R_rflow := by
  intro args k h
  obtain ⟨g, x, lv, rfl, hg, hk⟩ := h
  have hok := ckG_ok hg
  have hm : (g.rt.map rtC).length = g.rt.length := List.length_map _
  have hgn := hok.n
  refine does_ex (qc := qc1) (np := []) (CK := ckK [(53, cSc R_at)]) mixed Try.func45 rfl rfl Try.ntmps45 Try.results45 τ_ok (by kernel_rfl) (ckK_ok ⟨cSc_ok rAt_ok, trivial⟩) (by simp) ?_
  conv => whnf
  refine ⟨Nat × List Pt, fun s => ([(1, I x), (2, I lv), (7, I (gfl s.2 x)), (11, .c (.lst (g.rt.map rtC))), (12, I (g.rt.map rtC).length), (13, I s.1)], ⟨[], 10, []⟩),
    fun s => s.1 ≤ g.rt.length ∧ atL [] g.rt lv = atL s.2 (g.rt.drop s.1) lv, fun s => g.rt.length - s.1, (0, []), ⟨Nat.zero_le _, rfl⟩,
    Shift.reset ⟨rfl, rfl, rfl, rfl, rfl, rfl, trivial⟩ trivial rfl rfl, fun s hs => ?_⟩
  obtain ⟨i, a⟩ := s
  obtain ⟨hi1, hi2⟩ := hs
  dsimp only at hi1 hi2 ⊢
  conv => whnf
  refine Fork.mk (fun h => ?_) (fun h => ?_)
  · have hi : i < g.rt.length := by simp at h; omega
    clear h
    have hci := List.getElem?_eq_getElem hi
    have hv := (hok.r _ (List.getElem_mem hi)).2
    generalize g.rt[i] = r at hci hv
    rw [drop_of hci] at hi2
    have hw1 := wr_succ (i := i) (by omega)
    have hcl := (ckC_ne hv.c).2
    conv => whnf
    refine ⟨by omega, rtC r, by rw [Int.toNat_natCast, List.getElem?_map, hci]; rfl, rfl, ?_⟩
    conv => whnf
    refine Fork.mk (fun h => ?_) (fun h => ?_)
    · have h1 : r.1 ≤ lv := by simpa using h
      conv => whnf
      refine ⟨r.2, rfl, by omega, ?_⟩
      rw [show (atV r.2 x).1 = gfl r.2 x by rw [gfl_ne (ckC_ne hv.c).1, atV, if_neg (by simp [hv.c])]]
      conv => whnf
      rw [hw1]
      exact ⟨(i + 1, r.2), ⟨hi, by rw [hi2]; exact congrArg (fun z => atL z _ _) (if_pos h1)⟩, Shift.reset ⟨rfl, rfl, rfl, rfl, rfl, rfl, trivial⟩ trivial rfl rfl, by dsimp only; omega⟩
    have h1 : ¬ r.1 ≤ lv := by simpa using h
    conv => whnf
    rw [hw1]
    exact ⟨(i + 1, a), ⟨hi, by rw [hi2]; exact congrArg (fun z => atL z _ _) (if_neg h1)⟩, Shift.reset ⟨rfl, rfl, rfl, rfl, rfl, rfl, trivial⟩ trivial rfl rfl, by dsimp only; omega⟩
  have hie : i = g.rt.length := by simp at h; omega
  subst hie
  rw [List.drop_length] at hi2
  have hi3 : atG g lv = a := hi2
  rw [hi3] at hk
  conv => whnf
  exact hk
theorem rFlow_ok : FunR Try.prog 24 R_flowS := by
  intro args k h
  obtain ⟨g, x, lv, rfl, hg, hk⟩ := h
  refine does_ex (qc := qc1) (np := []) (CK := ckK [(23, cSc (R_gI ckG)), (37, cSc R_within), (45, cSc R_rflow)]) mixed Try.func24 rfl rfl Try.ntmps24 Try.results24 τ_ok (by kernel_rfl) (ckK_ok ⟨cSc_ok rckG_ok, cSc_ok rIn_ok, cSc_ok rflow_ok, trivial⟩) (by simp) ?_
  conv => whnf
  refine ⟨g, rfl, hg, ?_⟩
  conv => whnf
  refine Fork.mk (fun h => ?_) (fun h => ?_)
  · have h1 : ckG g ≠ 0 := by simpa using h
    conv => whnf
    exact kI2 hk (by rw [flowS, if_pos h1])
  have h1 : ckG g = 0 := by simpa using h
  conv => whnf
  refine Fork.mk (fun h => ?_) (fun h => ?_)
  · conv => whnf
    (repeat (refine fork_t ?_; (conv => whnf)))
    exact kI2 hk (by rw [flowS, if_neg (by simp [h1]), if_pos (by simp [inB] at h ⊢; omega)])
  have h2 : 0 ≤ x ∧ x ≤ g.mo := by simp at h; omega
  clear h
  conv => whnf
  refine Fork.mk (fun h => ?_) (fun h => ?_)
  · conv => whnf
    exact kI2 hk (by rw [flowS, if_neg (by simp [h1]), if_pos (by simp [inB] at h ⊢; omega)])
  have h3 : 0 ≤ lv ∧ lv ≤ 16777216 := by simp at h; omega
  clear h
  conv => whnf
  refine ⟨g, x, lv, rfl, h1, ?_⟩
  conv => whnf
  exact kI2 hk (by rw [flowS, if_neg (by simp [h1]), if_neg (by simp [inB, h2, h3])])
theorem okS_ok : FunR Try.prog 41 R_okS := by
  intro args k h
  obtain ⟨g, s, rfl, hk⟩ := h
  refine does_ex (qc := qc1) (np := []) (CK := ckK [(29, cSc R_within)]) mixed Try.func41 rfl rfl Try.ntmps41 Try.results41 τ_ok (by kernel_rfl) (ckK_ok ⟨cSc_ok within_ok, trivial⟩) (by simp) ?_
  conv => whnf
  exact hk
theorem rokS_ok : FunR Try.prog 50 R_okS := by
  intro args k h
  obtain ⟨g, s, rfl, hk⟩ := h
  refine does_ex (qc := qc1) (np := []) (CK := ckK [(37, cSc R_within)]) mixed Try.func50 rfl rfl Try.ntmps50 Try.results50 τ_ok (by kernel_rfl) (ckK_ok ⟨cSc_ok rIn_ok, trivial⟩) (by simp) ?_
  conv => whnf
  exact hk
end Go.Proofs
