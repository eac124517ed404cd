/- Proved here: what functions of the given program come to, for the statements of this chapter; no condition but those in the theorems. -/
import Derived.Test.YtnaggkcpagbolaaH18
namespace Go.Proofs
open Go Go.Abs
set_option linter.unusedSimpArgs false
set_option linter.unusedVariables false
set_option maxRecDepth 4000
theorem mul64_ok : FunR Try.prog 49 R_mul64 := by
  intro args k h
  obtain ⟨a, b, rfl, ha, hb, hk⟩ := h
  refine does_ex (qc := qc1) (np := []) (CK := ckK []) mixed Try.func49 rfl rfl Try.ntmps49 Try.results49 τ_ok (by kernel_rfl) (ckK_ok trivial) (by simp) ?_
  conv => whnf
  refine ⟨by omega, ?_⟩
  conv => whnf
  refine ⟨by omega, ?_⟩
  conv => whnf
  refine ⟨by omega, ?_⟩
  conv => whnf
  refine ⟨by omega, ?_⟩
  conv => whnf
  refine ⟨by omega, ?_⟩
  conv => whnf
  have hp := mul_le ha hb
  have hd1 := Int.ediv_nonneg hp.1 (show (0 : Int) ≤ 4294967296 by omega)
  have hd2 : a * b / 4294967296 < 4294967296 := Int.ediv_lt_of_lt_mul (by omega) (by omega)
  have z0 : ∀ x : Int, 0 ≤ x → x < 4294967296 → shrI .u64 x 32 = 0 := fun x h1 h2 => by rw [shr32 x h1]; exact Int.ediv_eq_zero_of_lt h1 h2
  simp only [and32 ha.1 (by omega), and32 hb.1 (by omega), z0 a ha.1 (by omega), z0 b hb.1 (by omega), Int.zero_mul, Int.mul_zero, Int.zero_add, Int.add_zero, u64_in hp.1 (show a * b < 18446744073709551616 by omega), shr32 _ hp.1, u64_in (show (0 : Int) ≤ 0 by omega) (by omega), u64_in hd1 (show a * b / 4294967296 < 18446744073709551616 by omega), and32 hd1 hd2, z0 _ hd1 hd2]
  exact hk
theorem better_ok : FunR Try.prog 45 R_better := by
  intro args k h
  obtain ⟨a, b, c, d, rfl, ⟨ha, hb, hc, hd⟩, hk⟩ := h
  have hp := mul_le ha hd
  have hp2 := mul_le hc hb
  refine does_ex (qc := qc1) (np := []) (CK := ckK [(49, cSc R_mul64)]) mixed Try.func45 rfl rfl Try.ntmps45 Try.results45 τ_ok (by kernel_rfl) (ckK_ok ⟨cSc_ok mul64_ok, trivial⟩) (by simp) ?_
  conv => whnf
  refine ⟨a, d, by rw [u64_in ha.1 (by omega), u64_in hd.1 (by omega)]; rfl, ha, hd, ?_⟩
  conv => whnf
  refine ⟨c, b, by rw [u64_in hc.1 (by omega), u64_in hb.1 (by omega)]; rfl, hc, hb, ?_⟩
  conv => whnf
  repeat' ((first | refine fork_t ?_ | refine fork_f ?_ | refine Fork.mk (fun h => ?_) (fun h => ?_) | fail) <;> (conv => whnf))
  all_goals first | (exact kB hk (by simp_all)) | trace_state
theorem best_ok : FunR Try.prog 30 (R_unQ2 bestS) := by
  intro args k h
  obtain ⟨u, g, rfl, hu, hk⟩ := h
  refine does_ex (qc := qc1) (np := []) (CK := ckK [(21, cPq R_flS), (43, cSc R_val), (45, cSc R_better)]) mixed Try.func30 rfl rfl Try.ntmps30 Try.results30 τ_ok (by kernel_rfl) (ckK_ok ⟨cPq_ok flows_ok, cSc_ok val_ok, cSc_ok better_ok, trivial⟩) (by simp) ?_
  conv => whnf
  refine ⟨u, g, rfl, hu, ?_⟩
  conv => whnf
  refine Fork.mk (fun h => ?_) (fun h => ?_)
  · have h1 : (flS u g).2 ≠ 0 := by simpa using h
    conv => whnf
    exact kI2 hk (by rw [bestS, if_pos h1])
  have h1 : (flS u g).2 = 0 := by simpa using h
  have hb : bestS u g = match (flS u g).1 with | [] => (0, 9) | q :: r => (bestG u.tb q r, 0) := by rw [bestS, if_neg (by simp [h1])]; rfl
  obtain ⟨hu0, hg, hl, hn⟩ := flS_ok h1
  have hmem : ∀ q ∈ (flS u g).1, (1 ≤ q ∧ q ≤ 1073741824) := fun q hq => (flS_mem h1 hq).1
  rw [← hl] at hn
  generalize (flS u g).1 = l at hb hmem hn ⊢
  rw [hb] at hk
  clear hb
  have hc := (ckU_ok hu0).c
  have hy := (ckU_ok hu0).y
  have hv : ∀ x, 0 ≤ valC u.tb x ∧ valC u.tb x ≤ 1073741824 := fun x => ⟨(valC_in hc x).1, by have := valC_last hc x; omega⟩
  have hm := eL_len l
  conv => whnf
  refine Fork.mk (fun h => ?_) (fun h => ?_)
  · have h2 : l = [] := by simpa using h
    subst h2
    conv => whnf
    exact hk
  have h2 : l ≠ [] := fun e => by subst e; simp at h
  obtain ⟨q, r, rfl⟩ := List.exists_cons_of_ne_nil h2
  have hm2 := eL_len r
  simp at hn
  conv => whnf
  refine ⟨by simp, eI q, rfl, rfl, ?_⟩
  conv => whnf
  refine ⟨by simp; omega, ?_⟩
  conv => whnf
  refine ⟨eL_all (q :: r), ?_⟩
  rw [show List.drop (Int.toNat 1) (List.take (((eL (q :: r)).length : Int)).toNat (eL (q :: r))) = eL r by rw [Int.toNat_natCast, List.take_length]; rfl]
  conv => whnf
  refine ⟨Int × Nat, fun s => ([(2, .c (.ptr (.l 2 0) 0)), (8, I s.1), (29, .c (.lst (eL r))), (30, I (eL r).length), (31, I s.2)], ⟨[(.l 2 0, .blk (unC u))], 5, []⟩),
    fun s => s.2 ≤ r.length ∧ s.1 ∈ q :: r ∧ bestG u.tb q r = bestG u.tb s.1 (r.drop s.2), fun s => r.length - s.2, (q, 0), ⟨Nat.zero_le _, by simp, rfl⟩,
    Shift.reset ⟨rfl, rfl, rfl, rfl, rfl, trivial⟩ ⟨rfl, trivial⟩ rfl rfl, fun s hs => ?_⟩
  obtain ⟨b, i⟩ := s
  obtain ⟨hi1, hi2, hi3⟩ := hs
  dsimp only at hi1 hi2 hi3 ⊢
  have hbb := hmem b hi2
  conv => whnf
  refine Fork.mk (fun h => ?_) (fun h => ?_)
  · have hi : i < r.length := by simp at h; omega
    have ha := List.getElem?_eq_getElem hi
    have hxm := List.getElem_mem hi
    generalize r[i] = x at ha hxm
    have hx := hmem x (by simp [hxm])
    rw [drop_of ha] at hi3
    have hw1 := wr_succ (i := i) (by omega)
    conv => whnf
    refine ⟨by omega, eI x, by rw [Int.toNat_natCast, List.getElem?_map, ha]; rfl, rfl, ?_⟩
    conv => whnf
    refine ⟨u.tb, rfl, hc, ?_⟩
    conv => whnf
    refine ⟨u.tb, rfl, hc, ?_⟩
    conv => whnf
    refine ⟨valC u.tb x, x, valC u.tb b, b, rfl, ⟨hv x, by omega, hv b, by omega⟩, ?_⟩
    conv => whnf
    refine Fork.mk (fun h => ?_) (fun h => ?_)
    · have h3 : valC u.tb b * x < valC u.tb x * b := by simpa using h
      conv => whnf
      rw [hw1]
      refine ⟨(x, i + 1), ⟨hi, by simp [hxm], by rw [hi3]; exact congrArg (fun z => bestG u.tb z _) (if_pos h3)⟩, Shift.reset ⟨rfl, rfl, rfl, rfl, rfl, trivial⟩ ⟨rfl, trivial⟩ rfl rfl, ?_⟩
      show r.length - (i + 1) < r.length - i
      omega
    have h3 : ¬ valC u.tb b * x < valC u.tb x * b := by simpa using h
    conv => whnf
    rw [hw1]
    refine ⟨(b, i + 1), ⟨hi, hi2, by rw [hi3]; exact congrArg (fun z => bestG u.tb z _) (if_neg h3)⟩, Shift.reset ⟨rfl, rfl, rfl, rfl, rfl, trivial⟩ ⟨rfl, trivial⟩ rfl rfl, ?_⟩
    show r.length - (i + 1) < r.length - i
    omega
  have hie : i = r.length := by simp at h; omega
  subst hie
  rw [List.drop_length] at hi3
  conv => whnf
  exact kI2 hk (by show (bestG u.tb q r, (0 : Int)) = _; rw [hi3]; rfl)
end Go.Proofs
