/- Proved here: what functions of the given program come to, for the statements of this chapter; no condition but those in the theorems. -/
import Derived.Test.YtnaggkcpagbolaaD18
import Derived.Test.YtnaggkcpagbolaaPUnit
namespace Go.Proofs
open Go Go.Abs
set_option linter.unusedSimpArgs false
set_option linter.unusedVariables false
set_option maxRecDepth 4000
theorem ckU_prog : FunR Try.prog 23 (R_unI ckU) := by
  intro args k h
  obtain ⟨u, rfl, hu, hk⟩ := h
  refine does_ex (qc := qc1) (np := []) (CK := ckK [(39, cSc R_ckC), (40, cSc R_within)]) mixed Try.func23 rfl rfl Try.ntmps23 Try.results23 τ_ok (by kernel_rfl) (ckK_ok ⟨cSc_ok ckC_ok', cSc_ok within_ok, trivial⟩) (by simp) ?_
  conv => whnf
  refine ⟨u.tb, rfl, hu.tb, ?_⟩
  conv => whnf
  refine Fork.mk (fun h => ?_) (fun h => ?_)
  · have h1 : ckC u.tb ≠ 0 := by simpa using h
    rw [show ckU u = ckC u.tb from if_pos h1] at hk
    conv => whnf
    exact hk
  have h1 : ckC u.tb = 0 := by simpa using h
  have h0 := ckC_ne h1
  have h0l : 0 < u.tb.length := List.length_pos_iff.2 h0.1
  have hm := eP_len u.tb
  have hmr := eP_len u.rg
  have hla := lastP_at h0.1
  have hw2 : IntKind.i64.wrap (((eP u.tb).length : Int) - 1) = ((u.tb.length - 1 : Nat) : Int) := by rw [eP_len, wrap_in (by omega) (by omega)]; omega
  have e1 : ckU u = if 1073741824 < (lastP u.tb).2 then 1 else if u.lo < 1 ∨ u.mo < u.lo ∨ 1073741824 < u.mo then 1 else if 10 < u.rg.length then 10 else if zE u.rg ≠ 0 then zE u.rg else if (inB 0 1000 u.up && inB 0 1000 u.dn) = false then 1 else 0 := by
    rw [ckU, if_neg (by simp [h1])]
  conv => whnf
  rw [hw2]
  refine ⟨by omega, ePt (lastP u.tb), by rw [Int.toNat_natCast]; exact eP_at u.tb hla, rfl, ?_⟩
  conv => whnf
  refine Fork.mk (fun h => ?_) (fun h => ?_)
  · have h2 : 1073741824 < (lastP u.tb).2 := by simpa using h
    rw [e1, if_pos h2] at hk
    conv => whnf
    ((repeat (refine fork_t ?_; (conv => whnf))); exact hk)
  have h2 : ¬ 1073741824 < (lastP u.tb).2 := by simpa using h
  rw [if_neg h2] at e1
  conv => whnf
  refine Fork.mk (fun h => ?_) (fun h => ?_)
  · have h3 : u.lo < 1 := by simpa using h
    rw [e1, if_pos (.inl h3)] at hk
    conv => whnf
    ((repeat (refine fork_t ?_; (conv => whnf))); exact hk)
  have h3 : ¬ u.lo < 1 := by simpa using h
  conv => whnf
  refine Fork.mk (fun h => ?_) (fun h => ?_)
  · have h4 : u.mo < u.lo := by simpa using h
    rw [e1, if_pos (.inr (.inl h4))] at hk
    conv => whnf
    ((repeat (refine fork_t ?_; (conv => whnf))); exact hk)
  have h4 : ¬ u.mo < u.lo := by simpa using h
  conv => whnf
  refine Fork.mk (fun h => ?_) (fun h => ?_)
  · have h5 : 1073741824 < u.mo := by simpa using h
    rw [e1, if_pos (.inr (.inr h5))] at hk
    conv => whnf
    ((repeat (refine fork_t ?_; (conv => whnf))); exact hk)
  have h5 : ¬ 1073741824 < u.mo := by simpa using h
  rw [if_neg (show ¬ (u.lo < 1 ∨ u.mo < u.lo ∨ 1073741824 < u.mo) by omega)] at e1
  conv => whnf
  refine Fork.mk (fun h => ?_) (fun h => ?_)
  · have h6 : 10 < u.rg.length := by simp at h; omega
    rw [e1, if_pos h6] at hk
    conv => whnf
    exact hk
  have h6 : ¬ 10 < u.rg.length := by simp at h; omega
  rw [if_neg h6] at e1
  conv => whnf
  refine ⟨Nat, fun i => ([(1, .c (.ptr (.l 1 0) 0)), (45, .c (.lst (eP u.rg))), (46, I (eP u.rg).length), (47, I i)], ⟨[(.l 1 0, .blk (unC u))], 5, []⟩),
    fun i => i ≤ u.rg.length ∧ zE u.rg = zE (u.rg.drop i), fun i => u.rg.length - i, 0, ⟨Nat.zero_le _, rfl⟩,
    Shift.reset ⟨rfl, rfl, rfl, rfl, trivial⟩ ⟨rfl, trivial⟩ rfl rfl, fun i hi => ?_⟩
  obtain ⟨hi1, hi2⟩ := hi
  dsimp only
  conv => whnf
  refine Fork.mk (fun h => ?_) (fun h => ?_)
  · have hi : i < u.rg.length := by simp at h; omega
    have hci := List.getElem?_eq_getElem hi
    generalize u.rg[i] = z at hci
    rw [drop_of hci] at hi2
    have hw1 := wr_succ (i := i) (by omega)
    conv => whnf
    refine ⟨by omega, ePt z, by rw [Int.toNat_natCast]; exact eP_at u.rg hci, rfl, ?_⟩
    conv => whnf
    have bad : ∀ e, zE (z :: u.rg.drop (i + 1)) = e → e ≠ 0 → ckU u = e := fun e h he => by rw [e1, if_pos (by rw [hi2, h]; exact he), hi2, h]
    refine Fork.mk (fun h => ?_) (fun h => ?_)
    · rw [bad 1 (by simp at h; rw [zE_cons]; rw [if_pos (by simp [inB]; omega)]) (by omega)] at hk
      conv => whnf
      ((repeat (refine fork_t ?_; (conv => whnf))); exact hk)
    have h7 : 0 ≤ z.1 ∧ z.1 ≤ 1073741824 := by simp at h; omega
    conv => whnf
    refine Fork.mk (fun h => ?_) (fun h => ?_)
    · rw [bad 1 (by simp at h; rw [zE_cons]; rw [if_pos (by simp [inB]; omega)]) (by omega)] at hk
      conv => whnf
      ((repeat (refine fork_t ?_; (conv => whnf))); exact hk)
    have h8 : 0 ≤ z.2 ∧ z.2 ≤ 1073741824 := by simp at h; omega
    conv => whnf
    refine Fork.mk (fun h => ?_) (fun h => ?_)
    · rw [bad 4 (by simp at h; rw [zE_cons]; rw [if_neg (by simp [inB, h7, h8]), if_pos h]) (by omega)] at hk
      conv => whnf
      ((repeat (refine fork_t ?_; (conv => whnf))); exact hk)
    have h9 : ¬ z.2 ≤ z.1 := by simp at h; omega
    conv => whnf
    rw [hw1]
    refine ⟨i + 1, ⟨hi, by rw [hi2]; rw [zE_cons, if_neg (by simp [inB, h7, h8]), if_neg h9]⟩, Shift.reset ⟨rfl, rfl, rfl, rfl, trivial⟩ ⟨rfl, trivial⟩ rfl rfl, ?_⟩
    show u.rg.length - (i + 1) < u.rg.length - i
    omega
  have hie : i = u.rg.length := by simp at h; omega
  subst hie
  rw [List.drop_length] at hi2
  rw [if_neg (by simp [hi2, zE])] at e1
  conv => whnf
  refine Fork.mk (fun h => ?_) (fun h => ?_)
  · rw [e1, if_pos (by simp [inB] at h ⊢; omega)] at hk
    conv => whnf
    ((repeat (refine fork_t ?_; (conv => whnf))); exact hk)
  have h7 : 0 ≤ u.up ∧ u.up ≤ 1000 := by simp at h; omega
  conv => whnf
  refine Fork.mk (fun h => ?_) (fun h => ?_)
  · rw [e1, if_pos (by simp [inB] at h ⊢; omega)] at hk
    conv => whnf
    exact hk
  have h8 : 0 ≤ u.dn ∧ u.dn ≤ 1000 := by simp at h; omega
  rw [e1, if_neg (by simp [inB, h7, h8])] at hk
  conv => whnf
  exact hk
theorem bey_ok : FunR Try.prog 38 R_bey := by
  intro args k h
  obtain ⟨u, q, rfl, hu, hk⟩ := h
  have hu := hu.rg
  have hm := eP_len u.rg
  refine does_ex (qc := qc1) (np := []) (CK := ckK []) mixed Try.func38 rfl rfl Try.ntmps38 Try.results38 τ_ok (by kernel_rfl) (ckK_ok trivial) (by simp) ?_
  conv => whnf
  refine ⟨Int, fun f => ([(1, I f), (2, .c (.ptr (.l 2 0) 0))], ⟨[(.l 2 0, .blk (unC u))], 5, []⟩),
    fun f => q ≤ f ∧ (∀ x, q ≤ x → x < f → outZ u.rg x = false) ∧ (f = q ∨ ∃ z ∈ u.rg, f = z.2), fun f => zAb u.rg f, q, ⟨Int.le_refl _, fun x _ _ => by omega, .inl rfl⟩,
    Shift.reset ⟨rfl, rfl, trivial⟩ ⟨rfl, trivial⟩ rfl rfl, fun f hf => ?_⟩
  obtain ⟨hf1, hf2, hf3⟩ := hf
  dsimp only
  conv => whnf
  refine ⟨Nat, fun i => ([(1, I f), (2, .c (.ptr (.l 2 0) 0)), (8, .c (.lst (eP u.rg))), (9, I (eP u.rg).length), (10, I i)], ⟨[(.l 2 0, .blk (unC u))], 5, []⟩),
    fun i => i ≤ u.rg.length ∧ ∀ z ∈ u.rg.take i, ¬ (z.1 < f ∧ f < z.2), fun i => u.rg.length - i, 0, ⟨Nat.zero_le _, fun z hz => by simp at hz⟩,
    Shift.reset ⟨rfl, rfl, rfl, rfl, rfl, trivial⟩ ⟨rfl, trivial⟩ rfl rfl, fun i hi => ?_⟩
  obtain ⟨hi1, hi2⟩ := hi
  dsimp only
  conv => whnf
  refine Fork.mk (fun h => ?_) (fun h => ?_)
  · have hi : i < u.rg.length := by simp at h; omega
    have hci := List.getElem?_eq_getElem hi
    have hzm := List.getElem_mem hi
    have htk := List.take_append_getElem hi
    generalize u.rg[i] = z at hci hzm htk
    have hw1 := wr_succ (i := i) (by omega)
    have next : ¬ (z.1 < f ∧ f < z.2) → ∀ y ∈ u.rg.take (i + 1), ¬ (y.1 < f ∧ f < y.2) := fun h y hy => by
      rw [← htk] at hy
      rcases List.mem_append.1 hy with hy | hy
      · exact hi2 y hy
      · simp at hy; subst hy; exact h
    conv => whnf
    refine ⟨by omega, ePt z, by rw [Int.toNat_natCast]; exact eP_at u.rg hci, rfl, ?_⟩
    conv => whnf
    refine Fork.mk (fun h => ?_) (fun h => ?_)
    · have h1 : z.1 < f := by simpa using h
      conv => whnf
      refine Fork.mk (fun h => ?_) (fun h => ?_)
      · have h2 : f < z.2 := by simpa using h
        conv => whnf
        refine ⟨z.2, ⟨by omega, fun x hx1 hx2 => ?_, .inr ⟨z, hzm, rfl⟩⟩, Shift.reset ⟨rfl, rfl, trivial⟩ ⟨rfl, trivial⟩ rfl rfl, zAb_lt hzm h2⟩
        by_cases hx : x < f
        · exact hf2 x hx1 hx
        · exact outZ_f hzm (by omega) hx2
      have h2 : ¬ f < z.2 := by simpa using h
      conv => whnf
      rw [hw1]
      refine ⟨i + 1, ⟨hi, next (by omega)⟩, Shift.reset ⟨rfl, rfl, rfl, rfl, rfl, trivial⟩ ⟨rfl, trivial⟩ rfl rfl, ?_⟩
      show u.rg.length - (i + 1) < u.rg.length - i
      omega
    have h1 : ¬ z.1 < f := by simpa using h
    conv => whnf
    first | rw [hw1] | (refine fork_f ?_; (conv => whnf); rw [hw1])
    refine ⟨i + 1, ⟨hi, next (by omega)⟩, Shift.reset ⟨rfl, rfl, rfl, rfl, rfl, trivial⟩ ⟨rfl, trivial⟩ rfl rfl, ?_⟩
    show u.rg.length - (i + 1) < u.rg.length - i
    omega
  have hie : i = u.rg.length := by simp at h; omega
  subst hie
  rw [List.take_length] at hi2
  conv => whnf
  exact hk f ⟨hf1, outZ_iff.2 hi2, hf2, hf3⟩
theorem runs_ok : FunR Try.prog 42 (R_unQB runB) := by
  intro args k h
  obtain ⟨u, q, rfl, hu, hk⟩ := h
  refine does_ex (qc := qc1) (np := []) (CK := ckK [(38, cSc R_bey)]) mixed Try.func42 rfl rfl Try.ntmps42 Try.results42 τ_ok (by kernel_rfl) (ckK_ok ⟨cSc_ok bey_ok, trivial⟩) (by simp) ?_
  conv => whnf
  refine Fork.mk (fun h => ?_) (fun h => ?_)
  · have h1 : u.lo ≤ q := by simpa using h
    conv => whnf
    refine Fork.mk (fun h => ?_) (fun h => ?_)
    · have h2 : q ≤ u.mo := by simpa using h
      conv => whnf
      refine ⟨u, q, rfl, hu, fun r hr => ?_⟩
      conv => whnf
      rw [isBey_eq hr]
      have : runB u q = outZ u.rg q := by simp [runB, h1, h2]
      rw [← this]
      exact hk
    have h2 : ¬ q ≤ u.mo := by simpa using h
    rw [show runB u q = false by simp [runB, h2]] at hk
    conv => whnf
    first | exact hk | (refine fork_f ?_; (conv => whnf); exact hk)
  have h1 : ¬ u.lo ≤ q := by simpa using h
  rw [show runB u q = false by simp [runB, h1]] at hk
  conv => whnf
  first | exact hk | (refine fork_f ?_; (conv => whnf); exact hk)
theorem Runs_ok : FunR Try.prog 27 (R_unQB runS) := by
  intro args k h
  obtain ⟨u, q, rfl, hu, hk⟩ := h
  have hk : k (Bo (decide (ckU u = 0) && runB u q)) := hk
  refine does_ex (qc := qc1) (np := []) (CK := ckK [(23, cSc (R_unI ckU)), (42, cSc (R_unQB runB))]) mixed Try.func27 rfl rfl Try.ntmps27 Try.results27 τ_ok (by kernel_rfl) (ckK_ok ⟨cSc_ok ckU_prog, cSc_ok runs_ok, trivial⟩) (by simp) ?_
  conv => whnf
  refine ⟨u, rfl, hu, ?_⟩
  conv => whnf
  refine Fork.mk (fun h => ?_) (fun h => ?_)
  · have h1 : ckU u = 0 := by simpa using h
    conv => whnf
    refine ⟨u, q, rfl, hu, ?_⟩
    simp only [h1, decide_true, Bool.true_and] at hk
    conv => whnf
    exact hk
  have h1 : ¬ ckU u = 0 := by simpa using h
  simp only [h1, decide_false, Bool.false_and] at hk
  conv => whnf
  exact hk
end Go.Proofs
