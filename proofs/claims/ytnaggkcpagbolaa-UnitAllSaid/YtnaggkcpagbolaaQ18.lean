/- Proved here: what functions of the given program come to, for the statements of this chapter; no condition but those in the theorems. -/
import Derived.Test.YtnaggkcpagbolaaO18
namespace Go.Proofs
open Go Go.Abs
set_option linter.unusedSimpArgs false
set_option linter.unusedVariables false
set_option maxRecDepth 4000
theorem atV_2 {u : Un} (h : ckU u = 0) (x : Int) : (atV u.tb x).2 = 0 := by rw [atV, if_neg (by simp [(ckU_ok h).c])]
theorem rbest_ok : FunR Try.prog 31 (R_unQ2 bestS) := by
  intro args k h
  obtain ⟨u, g, rfl, hu, hk⟩ := h
  refine does_ex (qc := qc1) (np := []) (CK := ckK [(29, cPq R_flS), (33, cSc R_at)]) mixed Try.func31 rfl rfl Try.ntmps31 Try.results31 τ_ok (by kernel_rfl) (ckK_ok ⟨cPq_ok rflows_ok, cSc_ok rAt_ok, trivial⟩) (by simp) ?_
  conv => whnf
  refine ⟨u, g, rfl, hu, ?_⟩
  conv => whnf
  refine Fork.mk (fun h => ?_) (fun h => ?_)
  · have h1 : (flS u g).2 ≠ 0 := by simpa using h
    conv => whnf
    exact kI2 hk (by rw [bestS, if_pos h1])
  have h1 : (flS u g).2 = 0 := by simpa using h
  have hb : bestS u g = match (flS u g).1 with | [] => (0, 9) | q :: r => (bestG u.tb q r, 0) := by rw [bestS, if_neg (by simp [h1])]; rfl
  obtain ⟨hu0, hg, hl, hn⟩ := flS_ok h1
  have hmem : ∀ q ∈ (flS u g).1, (1 ≤ q ∧ q ≤ 1073741824) := fun q hq => (flS_mem h1 hq).1
  rw [← hl] at hn
  generalize (flS u g).1 = l at hb hmem hn ⊢
  rw [hb] at hk
  clear hb
  have hc := (ckU_ok hu0).c
  have hy := (ckU_ok hu0).y
  have hv : ∀ x, 0 ≤ valC u.tb x ∧ valC u.tb x ≤ 1073741824 := fun x => ⟨(valC_in hc x).1, by have := valC_last hc x; omega⟩
  have hm := eL_len l
  conv => whnf
  refine Fork.mk (fun h => ?_) (fun h => ?_)
  · have h2 : l = [] := by simpa using h
    subst h2
    conv => whnf
    exact hk
  have h2 : l ≠ [] := fun e => by subst e; simp at h
  obtain ⟨q, r, rfl⟩ := List.exists_cons_of_ne_nil h2
  have hrl : (q :: r).length ≤ 200 := hn
  conv => whnf
  refine ⟨by simp, eI q, rfl, rfl, ?_⟩
  conv => whnf
  have hfirst : bestG u.tb q r = bestG u.tb q (q :: r) := by
    show _ = bestG u.tb (if valC u.tb q * q < valC u.tb q * q then q else q) r
    rw [if_neg (by omega)]
  generalize hL : q :: r = L at hm hrl hmem hfirst ⊢
  refine ⟨Int × Nat, fun s => ([(2, .c (.ptr (.l 2 0) 0)), (8, I s.1), (30, .c (.lst (eL L))), (31, I (eL L).length), (32, I s.2)], ⟨[(.l 2 0, .blk (unC u))], 5, []⟩),
    fun s => s.2 ≤ L.length ∧ s.1 ∈ L ∧ bestG u.tb q L = bestG u.tb s.1 (L.drop s.2), fun s => L.length - s.2, (q, 0), ⟨Nat.zero_le _, by rw [← hL]; simp, rfl⟩,
    Shift.reset ⟨rfl, rfl, by rw [← hL]; rfl, by rw [← hL]; rfl, rfl, trivial⟩ ⟨rfl, trivial⟩ rfl rfl, fun s hs => ?_⟩
  obtain ⟨b, i⟩ := s
  obtain ⟨hi1, hi2, hi3⟩ := hs
  dsimp only at hi1 hi2 hi3 ⊢
  have hbb := hmem b hi2
  conv => whnf
  refine Fork.mk (fun h => ?_) (fun h => ?_)
  · have hi : i < L.length := by simp at h; omega
    have ha := List.getElem?_eq_getElem hi
    have hxm := List.getElem_mem hi
    generalize L[i] = x at ha hxm
    have hx := hmem x hxm
    rw [drop_of ha] at hi3
    have hw1 := wr_succ (i := i) (by omega)
    have m1 := mul_le (hv x) (show 0 ≤ b ∧ b ≤ 1073741824 by omega)
    have m2 := mul_le (hv b) (show 0 ≤ x ∧ x ≤ 1073741824 by omega)
    conv => whnf
    refine ⟨by omega, eI x, by rw [Int.toNat_natCast, List.getElem?_map, ha]; rfl, rfl, ?_⟩
    conv => whnf
    refine ⟨u.tb, rfl, hu.tb, ?_⟩
    rw [atV_of hu0, atV_2 hu0]
    conv => whnf
    refine ⟨u.tb, rfl, hu.tb, ?_⟩
    rw [atV_of hu0, atV_2 hu0]
    conv => whnf
    rw [show IntKind.i64.wrap (valC u.tb x * b) = valC u.tb x * b from wrap_in (by omega) (by omega), show IntKind.i64.wrap (valC u.tb b * x) = valC u.tb b * x from wrap_in (by omega) (by omega)]
    refine Fork.mk (fun h => ?_) (fun h => ?_)
    · have h3 : valC u.tb b * x < valC u.tb x * b := by simpa using h
      conv => whnf
      rw [hw1]
      refine ⟨(x, i + 1), ⟨hi, hxm, by rw [hi3]; exact congrArg (fun z => bestG u.tb z _) (if_pos h3)⟩, Shift.reset ⟨rfl, rfl, rfl, rfl, rfl, trivial⟩ ⟨rfl, trivial⟩ rfl rfl, ?_⟩
      show L.length - (i + 1) < L.length - i
      omega
    have h3 : ¬ valC u.tb b * x < valC u.tb x * b := by simpa using h
    conv => whnf
    rw [hw1]
    refine ⟨(b, i + 1), ⟨hi, hi2, by rw [hi3]; exact congrArg (fun z => bestG u.tb z _) (if_neg h3)⟩, Shift.reset ⟨rfl, rfl, rfl, rfl, rfl, trivial⟩ ⟨rfl, trivial⟩ rfl rfl, ?_⟩
    show L.length - (i + 1) < L.length - i
    omega
  have hie : i = L.length := by simp at h; omega
  subst hie
  rw [List.drop_length] at hi3
  conv => whnf
  exact kI2 hk (by show (bestG u.tb q r, (0 : Int)) = _; rw [hfirst, hi3]; rfl)
end Go.Proofs
