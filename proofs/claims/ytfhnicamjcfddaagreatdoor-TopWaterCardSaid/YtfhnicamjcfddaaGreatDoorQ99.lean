/- Proved here: what functions of the given program come to, and the plain laws of it; no condition but those in the theorems. -/
import Derived.Test.YtfhnicamjcfddaaGreatDoorO99
namespace Go.Proofs
open Go Go.Abs
set_option linter.unusedSimpArgs false
set_option linter.unusedVariables false
set_option maxRecDepth 4000
theorem power_ok : FunR Tryz.prog 67 (R_unQ2 powS) := by
  intro args k h
  obtain ⟨u, q, rfl, hu, hk⟩ := h
  refine does_ex (qc := qc1) (np := []) (CK := ckK [(82, cSc (R_unI ckU)), (99, cSc (R_unQB runB)), (86, cSc R_val)]) mixed Tryz.func67 rfl rfl Tryz.ntmps67 Tryz.results67 τ_ok (by kernel_rfl) (ckK_ok ⟨cSc_ok ckU_prog, cSc_ok runs_ok, cSc_ok val_ok, trivial⟩) (by simp) ?_
  conv => whnf
  refine ⟨u, rfl, hu, ?_⟩
  conv => whnf
  repeat' ((first | refine fork_t ?_ | refine fork_f ?_ | refine Fork.mk (fun h => ?_) (fun h => ?_) | refine ⟨u, _, rfl, hu, ?_⟩ | refine ⟨u.tb, rfl, (ckU_ok (by simp_all)).c, ?_⟩ | fail) <;> (conv => whnf))
  all_goals exact kI2 hk (by simp_all [powS])
theorem fits_ok : FunR Tryz.prog 97 (R_usB fitB) := by
  intro args k h
  obtain ⟨u, s, rfl, hu, hk⟩ := h
  refine does_ex (qc := qc1) (np := []) (CK := ckK [(25, cSc R_within), (99, cSc (R_unQB runB))]) mixed Tryz.func97 rfl rfl Tryz.ntmps97 Tryz.results97 τ_ok (by kernel_rfl) (ckK_ok ⟨cSc_ok within_ok, cSc_ok runs_ok, trivial⟩) (by simp) ?_
  conv => whnf
  repeat' ((first | refine fork_t ?_ | refine fork_f ?_ | refine Fork.mk (fun h => ?_) (fun h => ?_) | refine ⟨u, _, rfl, hu, ?_⟩ | fail) <;> (conv => whnf))
  all_goals exact kB hk (by simp_all [fitB, inB] <;> intros <;> omega)
theorem valid_ok : FunR Tryz.prog 84 (R_usB validB) := by
  intro args k h
  obtain ⟨u, s, rfl, hu, hk⟩ := h
  refine does_ex (qc := qc1) (np := []) (CK := ckK [(82, cSc (R_unI ckU)), (97, cSc (R_usB fitB))]) mixed Tryz.func84 rfl rfl Tryz.ntmps84 Tryz.results84 τ_ok (by kernel_rfl) (ckK_ok ⟨cSc_ok ckU_prog, cSc_ok fits_ok, trivial⟩) (by simp) ?_
  conv => whnf
  refine ⟨u, rfl, hu, ?_⟩
  conv => whnf
  repeat' ((first | refine fork_t ?_ | refine fork_f ?_ | refine Fork.mk (fun h => ?_) (fun h => ?_) | refine ⟨u, s, rfl, hu, ?_⟩ | fail) <;> (conv => whnf))
  all_goals exact kB hk (by simp_all [validB])
theorem may_ok : FunR Tryz.prog 98 (R_usQB mayB) := by
  intro args k h
  obtain ⟨u, s, q, rfl, hu, hk⟩ := h
  refine does_ex (qc := qc1) (np := []) (CK := ckK [(99, cSc (R_unQB runB))]) mixed Tryz.func98 rfl rfl Tryz.ntmps98 Tryz.results98 τ_ok (by kernel_rfl) (ckK_ok ⟨cSc_ok runs_ok, trivial⟩) (by simp) ?_
  conv => whnf
  repeat' ((first | refine fork_t ?_ | refine fork_f ?_ | refine Fork.mk (fun h => ?_) (fun h => ?_) | refine ⟨u, _, rfl, hu, ?_⟩ | fail) <;> (conv => whnf))
  all_goals exact kB hk (by simp_all [mayB] <;> omega)
theorem May_ok : FunR Tryz.prog 140 (R_usQB mayV) := by
  intro args k h
  obtain ⟨u, s, q, rfl, hu, hk⟩ := h
  refine does_ex (qc := qc1) (np := []) (CK := ckK [(84, cSc (R_usB validB)), (98, cSc (R_usQB mayB))]) mixed Tryz.func140 rfl rfl Tryz.ntmps140 Tryz.results140 τ_ok (by kernel_rfl) (ckK_ok ⟨cSc_ok valid_ok, cSc_ok may_ok, trivial⟩) (by simp) ?_
  conv => whnf
  refine ⟨u, s, rfl, hu, ?_⟩
  conv => whnf
  repeat' ((first | refine fork_t ?_ | refine fork_f ?_ | refine Fork.mk (fun h => ?_) (fun h => ?_) | refine ⟨u, s, q, rfl, hu, ?_⟩ | fail) <;> (conv => whnf))
  all_goals exact kB hk (by simp_all [mayV])
theorem mn_in {a : Int} (h1 : 0 ≤ a) (h2 : a ≤ 1000) : IntKind.i64.wrap (a + 1) = a + 1 := wrap_in (by omega) (by omega)
theorem next_ok' : FunR Tryz.prog 66 R_nextS := by
  intro args k h
  obtain ⟨u, s, q, rfl, hu, hk⟩ := h
  refine does_ex (qc := qc1) (np := [(11, [(5, 8)])]) (CK := ckK [(82, cSc (R_unI ckU)), (97, cSc (R_usB fitB)), (98, cSc (R_usQB mayB))]) mixed Tryz.func66 rfl rfl Tryz.ntmps66 Tryz.results66 τ_ok (by kernel_rfl) (ckK_ok ⟨cSc_ok ckU_prog, cSc_ok fits_ok, cSc_ok may_ok, trivial⟩) (by simp) ?_
  conv => whnf
  refine ⟨u, rfl, hu, ?_⟩
  conv => whnf
  refine Fork.mk (fun h => ?_) (fun h => ?_)
  · have h1 : ckU u ≠ 0 := by simpa using h
    conv => whnf
    exact kN hk (by rw [nextS, if_pos h1]; rfl)
  have h1 : ckU u = 0 := by simpa using h
  conv => whnf
  refine ⟨u, s, rfl, hu, ?_⟩
  conv => whnf
  refine Fork.mk (fun h => ?_) (fun h => ?_)
  · have h2 : fitB u s = false := by simpa using h
    conv => whnf
    exact kN hk (by rw [nextS, if_neg (by simp [h1]), if_pos h2]; rfl)
  have h2 : fitB u s = true := by simpa using h
  have hs : 0 ≤ s.si ∧ s.si ≤ 1000 := by simp [fitB, inB] at h2; omega
  conv => whnf
  refine ⟨u, s, q, rfl, hu, ?_⟩
  conv => whnf
  refine Fork.mk (fun h => ?_) (fun h => ?_)
  · have h3 : mayB u s q = false := by simpa using h
    conv => whnf
    exact kN hk (by rw [nextS, if_neg (by simp [h1]), if_neg (by simp [h2]), if_pos h3]; rfl)
  have h3 : mayB u s q = true := by simpa using h
  have e : nextS u s q = (⟨q, if decide (0 < q) = decide (0 < s.fl) then mn (s.si + 1) 1000 else 1, s.ot⟩, decide (0 < q) && decide (s.fl = 0), 0) := by
    rw [nextS, if_neg (by simp [h1]), if_neg (by simp [h2]), if_neg (by simp [h3])]
  rw [e] at hk
  conv => whnf
  repeat' ((first | refine fork_t ?_ | refine fork_f ?_ | refine Fork.mk (fun h => ?_) (fun h => ?_) | fail) <;> (conv => whnf))
  all_goals (try rw [mn_in hs.1 hs.2])
  all_goals refine kN hk ?_
  all_goals (by_cases a : 0 < q <;> by_cases b : 0 < s.fl <;> by_cases c : s.fl = 0 <;> simp_all [mn] <;> omega)
theorem flows_ok : FunR Tryz.prog 137 R_flS := by
  intro args k h
  obtain ⟨u, g, rfl, hu, hk⟩ := h
  refine does_ex (qc := qc1) (np := []) (CK := ckK [(82, cSc (R_unI ckU)), (119, cSc R_bey)]) mixed Tryz.func137 rfl rfl Tryz.ntmps137 Tryz.results137 τ_ok (by kernel_rfl) (ckK_ok ⟨cSc_ok ckU_prog, cSc_ok bey_ok, trivial⟩) (by simp) ?_
  conv => whnf
  refine ⟨u, rfl, hu, ?_⟩
  conv => whnf
  refine Fork.mk (fun h => ?_) (fun h => ?_)
  · have h1 : ckU u ≠ 0 := by simpa using h
    rw [show flS u g = ([], ckU u) from if_pos h1] at hk
    conv => whnf
    exact hk
  have h1 : ckU u = 0 := by simpa using h
  have ho := ckU_ok h1
  have ho1 := ho.l1
  have ho2 := ho.lm
  have ho3 := ho.m
  conv => whnf
  refine Fork.mk (fun h => ?_) (fun h => ?_)
  · have h2 : g < 1 := by simpa using h
    rw [show flS u g = ([], 1) by rw [flS, if_neg (by simp [h1]), if_pos (.inl h2)]] at hk
    conv => whnf
    first | exact hk | (refine fork_t ?_; (conv => whnf); exact hk)
  have h2 : ¬ g < 1 := by simpa using h
  conv => whnf
  refine Fork.mk (fun h => ?_) (fun h => ?_)
  · have h3 : 1073741824 < g := by simpa using h
    rw [show flS u g = ([], 1) by rw [flS, if_neg (by simp [h1]), if_pos (.inr h3)]] at hk
    conv => whnf
    exact hk
  have h3 : ¬ 1073741824 < g := by simpa using h
  have e1 : flS u g = if 200 < (flT u g (u.mo + 1)).length then ([], 10) else (flT u g (u.mo + 1), 0) := by rw [flS, if_neg (by simp [h1]), if_neg (by omega)]
  conv => whnf
  refine ⟨Ls × Int, fun s => ([(1, I g), (2, .c (.ptr (.l 2 0) 0)), (7, .c (.view (.l 49 1) 0 s.1.length)), (8, I s.2)], ⟨[(.l 2 0, .blk (unC u)), (.l 49 1, .arr 3 1 (eL s.1) false)], 5, []⟩),
    fun s => s.1 = flT u g s.2 ∧ (u.lo ≤ s.2 ∧ s.2 ≤ 1073741825) ∧ s.1.length ≤ 200 ∧ ∀ x, u.mo < x → x < s.2 → okQ u g x = false, fun s => (1073741826 - s.2).toNat, ([], u.lo), ⟨(flT_lo (Int.le_refl _)).symm, ⟨Int.le_refl _, by dsimp only; omega⟩, Nat.zero_le _, fun x hx1 hx2 => by dsimp only at hx2; omega⟩,
    Shift.trans (Shift.rename [] ⟨rfl, rfl, rfl, rfl, trivial⟩ ⟨rfl, rfl, trivial⟩ rfl rfl rfl) (Shift.nilArr (t := 7) rfl 49 3 1), fun s hs => ?_⟩
  obtain ⟨l, f⟩ := s
  obtain ⟨hl, ⟨hf1, hf2⟩, hf3, hf4⟩ := hs
  dsimp only at hl hf1 hf2 hf3 hf4 ⊢
  subst hl
  have hm := eL_len (flT u g f)
  obtain ⟨u1, u2, u3, u4⟩ := up_mul (f := f) (g := g) (by omega) (by omega)
  have w3 : IntKind.i64.wrap ((f + g - 1).tdiv g) = (f + g - 1) / g := by
    have q1 := Int.ediv_nonneg (show 0 ≤ f + g - 1 by omega) (show 0 ≤ g by omega)
    have q2 := Int.ediv_le_self g (show 0 ≤ f + g - 1 by omega)
    rw [Int.tdiv_eq_ediv_of_nonneg (by omega)]; exact wrap_in (by omega) (by omega)
  have w4 : IntKind.i64.wrap ((f + g - 1) / g * g) = (f + g - 1) / g * g := wrap_in (by omega) (by omega)
  conv => whnf
  rw [show IntKind.i64.wrap (f + g) = f + g from wrap_in (by omega) (by omega)]
  rw [show IntKind.i64.wrap (f + g - 1) = f + g - 1 from wrap_in (by omega) (by omega)]
  refine ⟨by omega, ?_⟩
  rw [w3]
  conv => whnf
  rw [w4]
  generalize (f + g - 1) / g * g = a at u1 u2 u3 u4 w4 ⊢
  clear w3 w4
  have sk : ∀ x, f ≤ x → x < a → okQ u g x = false := fun x hx1 hx2 => by simp [okQ, u4 x hx1 hx2]
  refine Fork.mk (fun h => ?_) (fun h => ?_)
  · have h4 : u.mo < a := by simpa using h
    have e2 : flT u g (u.mo + 1) = flT u g f := by
      by_cases hc : f ≤ u.mo + 1
      · exact flT_to hc fun x hx1 hx2 => sk x hx1 (by omega)
      · exact (flT_to (by omega) fun x hx1 hx2 => hf4 x (by omega) hx2).symm
    rw [e2, if_neg (by omega)] at e1
    conv => whnf
    refine ⟨by rw [hm]; omega, ?_⟩
    conv => whnf
    exact kL hk rfl e1
  have h4 : ¬ u.mo < a := by simpa using h
  conv => whnf
  refine ⟨u, a, rfl, hu, fun r hr => ?_⟩
  conv => whnf
  obtain ⟨r1, r2, r3, r4⟩ := hr
  refine Fork.mk (fun h => ?_) (fun h => ?_)
  · have h5 : r ≠ a := by simpa using h
    have h6 : r ≤ 1073741824 := by
      rcases r4 with r4 | ⟨z, hz, rfl⟩
      · exact absurd r4 h5
      · exact (ho.z z hz).2.1.2
    have sk2 : ∀ x, f ≤ x → x < r → okQ u g x = false := fun x hx1 hx2 => by
      by_cases hx : x < a
      · exact sk x hx1 hx
      · simp [okQ, r3 x (by omega) hx2]
    conv => whnf
    refine ⟨(flT u g f, r), ⟨(flT_to (by omega) sk2).symm, ⟨by dsimp only; omega, by dsimp only; omega⟩, hf3, fun x hx1 hx2 => sk2 x (by dsimp only at hx2; omega) hx2⟩, Shift.reset ⟨rfl, rfl, rfl, rfl, trivial⟩ ⟨rfl, rfl, trivial⟩ rfl rfl, ?_⟩
    show (1073741826 - r).toNat < (1073741826 - f).toNat
    omega
  have h5 : r = a := by simpa using h
  subst h5
  have hok : okQ u g r = true := by simp [okQ, u1, r2]
  have e2 : flT u g (r + 1) = flT u g f ++ [r] := by rw [flT_one (by omega), flT_to u2 sk, if_pos hok]
  conv => whnf
  refine Fork.mk (fun h => ?_) (fun h => ?_)
  · have h6 : (flT u g f).length = 200 := by simp at h; omega
    have h7 := flT_mono (u := u) (g := g) (show r + 1 ≤ u.mo + 1 by omega)
    rw [e2, List.length_append, h6] at h7
    rw [e1, if_pos (by simp at h7; omega)] at hk
    conv => whnf
    exact hk
  have h6 : ¬ (flT u g f).length = 200 := by simp at h; omega
  conv => whnf
  refine ⟨by simp, ?_⟩
  conv => whnf
  refine ⟨rfl, ?_⟩
  conv => whnf
  refine ⟨⟨rfl, rfl, rfl, hm.symm, by rw [hm]; simp; omega⟩, ?_⟩
  conv => whnf
  rw [show IntKind.i64.wrap (r + 1) = r + 1 from wrap_in (by omega) (by omega)]
  refine ⟨(flT u g f ++ [r], r + 1), ⟨e2.symm, ⟨by dsimp only; omega, by dsimp only; omega⟩, by simp; omega, fun x hx1 hx2 => by dsimp only at hx2; omega⟩, Shift.rename [(.l 49 1, .l 49 6)] ⟨rfl, rfl, ?_, rfl, trivial⟩ ⟨rfl, ?_, trivial⟩ rfl rfl rfl, ?_⟩
  · dsimp only; rw [List.length_append, ← hm]; rfl
  · dsimp only; rw [← eL_snoc]; rfl
  · show (1073741826 - (r + 1)).toNat < (1073741826 - f).toNat
    omega
end Go.Proofs

namespace Go.Proofs
open Go Go.Abs
set_option linter.unusedSimpArgs false
set_option linter.unusedVariables false
set_option maxRecDepth 4000
theorem rckU_ok : FunR Tryz.prog 78 (R_unI ckU) := by
  intro args k h
  obtain ⟨u, rfl, hu, hk⟩ := h
  refine does_ex (qc := qc1) (np := []) (CK := ckK [(55, cSc R_ckC), (54, cSc R_within)]) mixed Tryz.func78 rfl rfl Tryz.ntmps78 Tryz.results78 τ_ok (by kernel_rfl) (ckK_ok ⟨cSc_ok rckC_ok, cSc_ok rIn_ok, trivial⟩) (by simp) ?_
  conv => whnf
  refine ⟨u.tb, rfl, hu.tb, ?_⟩
  conv => whnf
  refine Fork.mk (fun h => ?_) (fun h => ?_)
  · have h1 : ckC u.tb ≠ 0 := by simpa using h
    rw [show ckU u = ckC u.tb from if_pos h1] at hk
    conv => whnf
    exact hk
  have h1 : ckC u.tb = 0 := by simpa using h
  have h0 := ckC_ne h1
  have h0l : 0 < u.tb.length := List.length_pos_iff.2 h0.1
  have hm := eP_len u.tb
  have hmr := eP_len u.rg
  have hla := lastP_at h0.1
  have hw2 : IntKind.i64.wrap (((eP u.tb).length : Int) - 1) = ((u.tb.length - 1 : Nat) : Int) := by rw [eP_len, wrap_in (by omega) (by omega)]; omega
  have e1 : ckU u = if 1073741824 < (lastP u.tb).2 then 1 else if u.lo < 1 ∨ u.mo < u.lo ∨ 1073741824 < u.mo then 1 else if 10 < u.rg.length then 10 else if zE u.rg ≠ 0 then zE u.rg else if (inB 0 1000 u.up && inB 0 1000 u.dn) = false then 1 else 0 := by
    rw [ckU, if_neg (by simp [h1])]
  conv => whnf
  rw [hw2]
  refine ⟨by omega, ePt (lastP u.tb), by rw [Int.toNat_natCast]; exact eP_at u.tb hla, rfl, ?_⟩
  conv => whnf
  refine Fork.mk (fun h => ?_) (fun h => ?_)
  · have h2 : 1073741824 < (lastP u.tb).2 := by simpa using h
    rw [e1, if_pos h2] at hk
    conv => whnf
    ((repeat (refine fork_t ?_; (conv => whnf))); exact hk)
  have h2 : ¬ 1073741824 < (lastP u.tb).2 := by simpa using h
  rw [if_neg h2] at e1
  conv => whnf
  refine Fork.mk (fun h => ?_) (fun h => ?_)
  · have h3 : u.lo < 1 := by simpa using h
    rw [e1, if_pos (.inl h3)] at hk
    conv => whnf
    ((repeat (refine fork_t ?_; (conv => whnf))); exact hk)
  have h3 : ¬ u.lo < 1 := by simpa using h
  conv => whnf
  refine Fork.mk (fun h => ?_) (fun h => ?_)
  · have h4 : u.mo < u.lo := by simpa using h
    rw [e1, if_pos (.inr (.inl h4))] at hk
    conv => whnf
    ((repeat (refine fork_t ?_; (conv => whnf))); exact hk)
  have h4 : ¬ u.mo < u.lo := by simpa using h
  conv => whnf
  refine Fork.mk (fun h => ?_) (fun h => ?_)
  · have h5 : 1073741824 < u.mo := by simpa using h
    rw [e1, if_pos (.inr (.inr h5))] at hk
    conv => whnf
    ((repeat (refine fork_t ?_; (conv => whnf))); exact hk)
  have h5 : ¬ 1073741824 < u.mo := by simpa using h
  rw [if_neg (show ¬ (u.lo < 1 ∨ u.mo < u.lo ∨ 1073741824 < u.mo) by omega)] at e1
  conv => whnf
  refine Fork.mk (fun h => ?_) (fun h => ?_)
  · have h6 : 10 < u.rg.length := by simp at h; omega
    rw [e1, if_pos h6] at hk
    conv => whnf
    exact hk
  have h6 : ¬ 10 < u.rg.length := by simp at h; omega
  rw [if_neg h6] at e1
  conv => whnf
  refine ⟨Nat, fun i => ([(1, .c (.ptr (.l 1 0) 0)), (44, .c (.lst (eP u.rg))), (45, I (eP u.rg).length), (46, I i)], ⟨[(.l 1 0, .blk (unC u))], 5, []⟩),
    fun i => i ≤ u.rg.length ∧ zE u.rg = zE (u.rg.drop i), fun i => u.rg.length - i, 0, ⟨Nat.zero_le _, rfl⟩,
    Shift.reset ⟨rfl, rfl, rfl, rfl, trivial⟩ ⟨rfl, trivial⟩ rfl rfl, fun i hi => ?_⟩
  obtain ⟨hi1, hi2⟩ := hi
  dsimp only
  conv => whnf
  refine Fork.mk (fun h => ?_) (fun h => ?_)
  · have hi : i < u.rg.length := by simp at h; omega
    have hci := List.getElem?_eq_getElem hi
    generalize u.rg[i] = z at hci
    rw [drop_of hci] at hi2
    have hw1 := wr_succ (i := i) (by omega)
    conv => whnf
    refine ⟨by omega, ePt z, by rw [Int.toNat_natCast]; exact eP_at u.rg hci, rfl, ?_⟩
    conv => whnf
    have bad : ∀ e, zE (z :: u.rg.drop (i + 1)) = e → e ≠ 0 → ckU u = e := fun e h he => by rw [e1, if_pos (by rw [hi2, h]; exact he), hi2, h]
    refine Fork.mk (fun h => ?_) (fun h => ?_)
    · rw [bad 1 (by simp at h; rw [zE_cons]; rw [if_pos (by simp [inB]; omega)]) (by omega)] at hk
      conv => whnf
      ((repeat (refine fork_t ?_; (conv => whnf))); exact hk)
    have h7 : 0 ≤ z.1 ∧ z.1 ≤ 1073741824 := by simp at h; omega
    conv => whnf
    refine Fork.mk (fun h => ?_) (fun h => ?_)
    · rw [bad 1 (by simp at h; rw [zE_cons]; rw [if_pos (by simp [inB]; omega)]) (by omega)] at hk
      conv => whnf
      ((repeat (refine fork_t ?_; (conv => whnf))); exact hk)
    have h8 : 0 ≤ z.2 ∧ z.2 ≤ 1073741824 := by simp at h; omega
    conv => whnf
    refine Fork.mk (fun h => ?_) (fun h => ?_)
    · rw [bad 4 (by simp at h; rw [zE_cons]; rw [if_neg (by simp [inB, h7, h8]), if_pos h]) (by omega)] at hk
      conv => whnf
      ((repeat (refine fork_t ?_; (conv => whnf))); exact hk)
    have h9 : ¬ z.2 ≤ z.1 := by simp at h; omega
    conv => whnf
    rw [hw1]
    refine ⟨i + 1, ⟨hi, by rw [hi2]; rw [zE_cons, if_neg (by simp [inB, h7, h8]), if_neg h9]⟩, Shift.reset ⟨rfl, rfl, rfl, rfl, trivial⟩ ⟨rfl, trivial⟩ rfl rfl, ?_⟩
    show u.rg.length - (i + 1) < u.rg.length - i
    omega
  have hie : i = u.rg.length := by simp at h; omega
  subst hie
  rw [List.drop_length] at hi2
  rw [if_neg (by simp [hi2, zE])] at e1
  conv => whnf
  refine Fork.mk (fun h => ?_) (fun h => ?_)
  · rw [e1, if_pos (by simp [inB] at h ⊢; omega)] at hk
    conv => whnf
    ((repeat (refine fork_t ?_; (conv => whnf))); exact hk)
  have h7 : 0 ≤ u.up ∧ u.up ≤ 1000 := by simp at h; omega
  conv => whnf
  refine Fork.mk (fun h => ?_) (fun h => ?_)
  · rw [e1, if_pos (by simp [inB] at h ⊢; omega)] at hk
    conv => whnf
    exact hk
  have h8 : 0 ≤ u.dn ∧ u.dn ≤ 1000 := by simp at h; omega
  rw [e1, if_neg (by simp [inB, h7, h8])] at hk
  conv => whnf
  exact hk
theorem ins_ok : FunR Tryz.prog 79 R_ins := by
  intro args k h
  obtain ⟨u, q, rfl, hu, hk⟩ := h
  have hu := hu.rg
  have hm := eP_len u.rg
  refine does_ex (qc := qc1) (np := []) (CK := ckK []) mixed Tryz.func79 rfl rfl Tryz.ntmps79 Tryz.results79 τ_ok (by kernel_rfl) (ckK_ok trivial) (by simp) ?_
  conv => whnf
  refine ⟨Nat, fun i => ([(1, I q), (9, .c (.lst (eP u.rg))), (10, I (eP u.rg).length), (11, I i)], ⟨[], 5, []⟩),
    fun i => i ≤ u.rg.length ∧ insZ u.rg q = insZ (u.rg.drop i) q, fun i => u.rg.length - i, 0, ⟨Nat.zero_le _, rfl⟩,
    Shift.reset ⟨rfl, rfl, rfl, rfl, trivial⟩ trivial rfl rfl, fun i hi => ?_⟩
  obtain ⟨hi1, hi2⟩ := hi
  dsimp only
  conv => whnf
  refine Fork.mk (fun h => ?_) (fun h => ?_)
  · have hi : i < u.rg.length := by simp at h; omega
    have hci := List.getElem?_eq_getElem hi
    generalize u.rg[i] = z at hci
    rw [drop_of hci] at hi2
    have hw1 := wr_succ (i := i) (by omega)
    have next : ¬ (z.1 < q ∧ q < z.2) → insZ u.rg q = insZ (u.rg.drop (i + 1)) q := fun h => by rw [hi2]; exact if_neg h
    conv => whnf
    refine ⟨by omega, ePt z, by rw [Int.toNat_natCast]; exact eP_at u.rg hci, rfl, ?_⟩
    conv => whnf
    refine Fork.mk (fun h => ?_) (fun h => ?_)
    · have h1 : z.1 < q := by simpa using h
      conv => whnf
      refine Fork.mk (fun h => ?_) (fun h => ?_)
      · have h2 : q < z.2 := by simpa using h
        rw [hi2, show insZ (z :: u.rg.drop (i + 1)) q = (z.2, true) from if_pos ⟨h1, h2⟩] at hk
        conv => whnf
        exact hk
      have h2 : ¬ q < z.2 := by simpa using h
      conv => whnf
      rw [hw1]
      refine ⟨i + 1, ⟨hi, next (by omega)⟩, Shift.reset ⟨rfl, rfl, rfl, rfl, trivial⟩ trivial rfl rfl, ?_⟩
      show u.rg.length - (i + 1) < u.rg.length - i
      omega
    have h1 : ¬ z.1 < q := by simpa using h
    conv => whnf
    first | rw [hw1] | (refine fork_f ?_; (conv => whnf); rw [hw1])
    refine ⟨i + 1, ⟨hi, next (by omega)⟩, Shift.reset ⟨rfl, rfl, rfl, rfl, trivial⟩ trivial rfl rfl, ?_⟩
    show u.rg.length - (i + 1) < u.rg.length - i
    omega
  have hie : i = u.rg.length := by simp at h; omega
  subst hie
  rw [List.drop_length] at hi2
  rw [hi2] at hk
  conv => whnf
  exact hk
theorem atV_of {u : Un} (h : ckU u = 0) (x : Int) : (atV u.tb x).1 = valC u.tb x := by rw [atV, if_neg (by simp [(ckU_ok h).c])]
theorem run_pos {u : Un} {q : Int} (h : ckU u = 0) (hr : runB u q = true) : 0 < q := by have := (ckU_ok h).l1; have := (runB_iff.1 hr).1; omega
theorem fit_pos {u : Un} {s : Us} (h : ckU u = 0) (hr : fitB u s = true) : 0 ≤ s.fl := by
  simp [fitB] at hr
  rcases hr.2 with h1 | h1
  · omega
  · have := run_pos h h1.2; omega
theorem rmay_lem {u : Un} {s : Us} {q : Int} : mayV u s q = if validB u s = false then false else if q ≠ 0 ∧ (s.ot = true ∨ runB u q = false) then false else if 0 < s.fl ∧ q = 0 then decide (u.up ≤ s.si) else if s.fl = 0 ∧ 0 < q then decide (u.dn ≤ s.si) else true := by
  unfold mayV
  cases hv : validB u s with
  | false => rfl
  | true =>
    simp [validB] at hv
    have h1 := fit_pos hv.1 hv.2
    unfold mayB
    by_cases hq : q = 0
    · subst hq
      by_cases hs : 0 < s.fl <;> simp [hs]
    · by_cases ho : s.ot = true
      · simp [hq, ho]
      · cases hr : runB u q with
        | false => simp [hq]
        | true =>
          have h2 := run_pos hv.1 hr
          by_cases hs : s.fl = 0
          · simp [hq, ho, hs, h2]
            by_cases hd : s.si < u.dn
            · simp [hd]
            · simp [hd]; omega
          · simp [hq, ho, hs]
theorem rflows_ok : FunR Tryz.prog 52 R_flS := by
  intro args k h
  obtain ⟨u, g, rfl, hu, hk⟩ := h
  refine does_ex (qc := qc1) (np := []) (CK := ckK [(78, cSc (R_unI ckU)), (79, cSc R_ins)]) mixed Tryz.func52 rfl rfl Tryz.ntmps52 Tryz.results52 τ_ok (by kernel_rfl) (ckK_ok ⟨cSc_ok rckU_ok, cSc_ok ins_ok, trivial⟩) (by simp) ?_
  conv => whnf
  refine ⟨u, rfl, hu, ?_⟩
  conv => whnf
  refine Fork.mk (fun h => ?_) (fun h => ?_)
  · have h1 : ckU u ≠ 0 := by simpa using h
    rw [show flS u g = ([], ckU u) from if_pos h1] at hk
    conv => whnf
    exact hk
  have h1 : ckU u = 0 := by simpa using h
  have ho := ckU_ok h1
  have ho1 := ho.l1
  have ho2 := ho.lm
  have ho3 := ho.m
  conv => whnf
  refine Fork.mk (fun h => ?_) (fun h => ?_)
  · have h2 : g < 1 := by simpa using h
    rw [show flS u g = ([], 1) by rw [flS, if_neg (by simp [h1]), if_pos (.inl h2)]] at hk
    conv => whnf
    first | exact hk | (refine fork_t ?_; (conv => whnf); exact hk)
  have h2 : ¬ g < 1 := by simpa using h
  conv => whnf
  refine Fork.mk (fun h => ?_) (fun h => ?_)
  · have h3 : 1073741824 < g := by simpa using h
    rw [show flS u g = ([], 1) by rw [flS, if_neg (by simp [h1]), if_pos (.inr h3)]] at hk
    conv => whnf
    exact hk
  have h3 : ¬ 1073741824 < g := by simpa using h
  have e1 : flS u g = if 200 < (flT u g (u.mo + 1)).length then ([], 10) else (flT u g (u.mo + 1), 0) := by rw [flS, if_neg (by simp [h1]), if_neg (by omega)]
  have roundup : ∀ f, 0 ≤ f → f ≤ 2147483648 → IntKind.i64.wrap (f + g) = f + g ∧ IntKind.i64.wrap (f + g - 1) = f + g - 1 ∧ IntKind.i64.wrap ((f + g - 1).tdiv g) = (f + g - 1) / g ∧ IntKind.i64.wrap ((f + g - 1) / g * g) = (f + g - 1) / g * g := fun f q3 q4 => by
    have q1 := Int.ediv_nonneg (show 0 ≤ f + g - 1 by omega) (show 0 ≤ g by omega)
    have q2 := Int.ediv_le_self g (show 0 ≤ f + g - 1 by omega)
    obtain ⟨u1, u2, u3, u4⟩ := up_mul (f := f) (g := g) (by omega) (by omega)
    exact ⟨wrap_in (by omega) (by omega), wrap_in (by omega) (by omega), by rw [Int.tdiv_eq_ediv_of_nonneg (by omega)]; exact wrap_in (by omega) (by omega), wrap_in (by omega) (by omega)⟩
  conv => whnf
  obtain ⟨w1, w2, w3, w4⟩ := roundup u.lo (by omega) (by omega)
  obtain ⟨u1, u2, u3, u4⟩ := up_mul (f := u.lo) (g := g) (by omega) (by omega)
  rw [w1, w2]
  refine ⟨by omega, ?_⟩
  rw [w3]
  conv => whnf
  refine ⟨Ls × Int, fun s => ([(1, I g), (2, .c (.ptr (.l 2 0) 0)), (7, .c (.view (.l 56 1) 0 s.1.length)), (8, I s.2)], ⟨[(.l 2 0, .blk (unC u)), (.l 56 1, .arr 3 1 (eL s.1) false)], 5, []⟩),
    fun s => s.1 = flT u g s.2 ∧ (u.lo ≤ s.2 ∧ s.2 ≤ 3221225472) ∧ s.1.length ≤ 200 ∧ s.2 % g = 0 ∧ ∀ x, u.mo < x → x < s.2 → okQ u g x = false, fun s => (3221225473 - s.2).toNat, ([], (u.lo + g - 1) / g * g), ⟨?_, ⟨u2, by dsimp only; omega⟩, Nat.zero_le _, u1, fun x hx1 hx2 => ?_⟩,
    Shift.trans (Shift.rename [] ⟨rfl, rfl, rfl, by rw [w4]; rfl, trivial⟩ ⟨rfl, rfl, trivial⟩ rfl rfl rfl) (Shift.nilArr (t := 7) rfl 56 3 1), fun s hs => ?_⟩
  · rw [flT_to u2 fun x hx1 hx2 => by simp [okQ, u4 x hx1 hx2]]
    exact (flT_lo (Int.le_refl _)).symm
  · simp [okQ, u4 x (by omega) hx2]
  clear u1 u2 u3 u4 w1 w2 w3 w4
  obtain ⟨l, a⟩ := s
  obtain ⟨hl, ⟨hf1, hf2⟩, hf3, hf5, hf4⟩ := hs
  dsimp only at hl hf1 hf2 hf3 hf4 hf5 ⊢
  subst hl
  have hm := eL_len (flT u g a)
  conv => whnf
  refine Fork.mk (fun h => ?_) (fun h => ?_)
  rotate_left
  · have h4 : u.mo < a := by simpa using h
    have e2 : flT u g (u.mo + 1) = flT u g a := (flT_to (by omega) fun x hx1 hx2 => hf4 x (by omega) hx2).symm
    rw [e2, if_neg (by omega)] at e1
    conv => whnf
    refine ⟨by rw [hm]; omega, ?_⟩
    conv => whnf
    exact kL hk rfl e1
  have h4 : a ≤ u.mo := by simpa using h
  conv => whnf
  refine ⟨u, a, rfl, hu, ?_⟩
  conv => whnf
  refine Fork.mk (fun h => ?_) (fun h => ?_)
  · obtain ⟨z, hz, z1, z2, z3⟩ := insZ_mem h
    have hz2 := (ho.z z hz).2.1.2
    have hz1 := (ho.z z hz).1.1
    rw [z3]
    obtain ⟨w1, w2, w3, w4⟩ := roundup z.2 (by omega) (by omega)
    obtain ⟨u1, u2, u3, u4⟩ := up_mul (f := z.2) (g := g) (by omega) (by omega)
    have sk2 : ∀ x, a ≤ x → x < (z.2 + g - 1) / g * g → okQ u g x = false := fun x hx1 hx2 => by
      by_cases hx : x < z.2
      · simp [okQ, outZ_f hz (by omega) hx]
      · simp [okQ, u4 x (by omega) hx2]
    conv => whnf
    rw [w1, w2]
    refine ⟨by omega, ?_⟩
    rw [w3]
    conv => whnf
    refine ⟨(flT u g a, (z.2 + g - 1) / g * g), ⟨(flT_to (by omega) sk2).symm, ⟨by dsimp only; omega, by dsimp only; omega⟩, hf3, u1, fun x hx1 hx2 => sk2 x (by omega) hx2⟩, Shift.reset ⟨rfl, rfl, rfl, by rw [w4]; rfl, trivial⟩ ⟨rfl, rfl, trivial⟩ rfl rfl, ?_⟩
    show (3221225473 - (z.2 + g - 1) / g * g).toNat < (3221225473 - a).toNat
    omega
  have h5 : outZ u.rg a = true := by simpa [insZ_iff] using h
  have hok : okQ u g a = true := by simp [okQ, hf5, h5]
  have e2 : flT u g (a + 1) = flT u g a ++ [a] := by rw [flT_one (by omega), if_pos hok]
  have sk : ∀ x, a + 1 ≤ x → x < a + g → okQ u g x = false := fun x hx1 hx2 => by
    have : x % g ≠ 0 := fun hm => by
      have q1 := Int.emod_nonneg (x - a) (show g ≠ 0 by omega)
      have q2 : (x - a) % g = 0 := by rw [Int.sub_emod, hm, hf5]; simp
      have q3 : (x - a) % g = x - a := Int.emod_eq_of_lt (by omega) (by omega)
      omega
    simp [okQ, this]
  conv => whnf
  refine Fork.mk (fun h => ?_) (fun h => ?_)
  · have h6 : (flT u g a).length = 200 := by simp at h; omega
    have h7 := flT_mono (u := u) (g := g) (show a + 1 ≤ u.mo + 1 by omega)
    rw [e2, List.length_append, h6] at h7
    rw [e1, if_pos (by simp at h7; omega)] at hk
    conv => whnf
    exact hk
  have h6 : ¬ (flT u g a).length = 200 := by simp at h; omega
  conv => whnf
  refine ⟨by simp, ?_⟩
  conv => whnf
  refine ⟨rfl, ?_⟩
  conv => whnf
  refine ⟨⟨rfl, rfl, rfl, hm.symm, by rw [hm]; simp; omega⟩, ?_⟩
  conv => whnf
  rw [show IntKind.i64.wrap (a + g) = a + g from wrap_in (by omega) (by omega)]
  refine ⟨(flT u g a ++ [a], a + g), ⟨by rw [← e2]; exact (flT_to (by omega) sk).symm, ⟨by dsimp only; omega, by dsimp only; omega⟩, by simp; omega, by dsimp only; rw [Int.add_emod_right]; exact hf5, fun x hx1 hx2 => sk x (by omega) hx2⟩, Shift.rename [(.l 56 1, .l 56 6)] ⟨rfl, rfl, ?_, rfl, trivial⟩ ⟨rfl, ?_, trivial⟩ rfl rfl rfl, ?_⟩
  · dsimp only; rw [List.length_append, ← hm]; rfl
  · dsimp only; rw [← eL_snoc]; rfl
  · show (3221225473 - (a + g)).toNat < (3221225473 - a).toNat
    omega
end Go.Proofs
