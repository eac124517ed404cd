/- Proved here: what functions of the given program come to, for the statements of this chapter; no condition but those in the theorems. -/
import Derived.Test.YtgehodhbcckcoaaL20
import Derived.Test.YtgehodhbcckcoaaPGate2
namespace Go.Proofs
open Go Go.Abs
set_option linter.unusedSimpArgs false
set_option linter.unusedVariables false
set_option maxRecDepth 4000
theorem odd_ok : FunB Try.prog 18 R_oddG := by
  intro cs args k h
  obtain ⟨d, g, rfl, rfl, hd, hf, hn, hk⟩ := h
  have hm : (g.rt.map rtC).length = g.rt.length := List.length_map _
  refine doesB_ex (qc := qc1) (np := [(5, [(1, 3), (1, 5), (3, 5)]), (7, [(1, 4), (1, 7), (1, 10)]), (15, [(1, 7)])]) (CK := ckK [(12, cB R_next)]) mixed Try.func18 rfl rfl Try.ntmps18 Try.results18 τ_ok (by kernel_rfl) (ckK_ok ⟨cB_ok next_ok rfl, trivial⟩) (by simp) rfl rfl ?_
  conv => whnf
  refine ⟨by simp [rtC], ?_⟩
  conv => whnf
  refine ⟨by rw [hm]; show _ * 32 ≤ _; omega, ?_⟩
  conv => whnf
  refine ⟨d, rfl, hd, by rw [hm]; omega, fun v d hd hv1 hv2 => ?_⟩
  obtain ⟨i, rfl⟩ : ∃ i : Nat, v = i := ⟨v.toNat, by omega⟩
  have hi : i < g.rt.length := by rw [hm] at hv2; omega
  have hci := List.getElem?_eq_getElem hi
  have hcl := hf.c _ (List.getElem_mem hi)
  generalize g.rt[i] = r at hci hcl
  have hgt : (g.rt.map rtC)[0 + (i : Int).toNat]? = some (rtC r) := by rw [Nat.zero_add, Int.toNat_natCast, List.getElem?_map, hci]; rfl
  conv => whnf
  refine ⟨d, rfl, hd, by omega, fun j d hd hj1 hj2 => ?_⟩
  conv => whnf
  refine Fork.mk (fun h => ?_) (fun h => ?_)
  · conv => whnf
    refine ⟨d, rfl, hd, by omega, fun v d hd hv1 hv2 => ?_⟩
    obtain ⟨x, hx⟩ := tri (-1) 16777216 16777217 hv1 hv2
    conv => whnf
    refine ⟨by (show 0 ≤ v ∧ v < 3); omega, rfl, ?_⟩
    conv => whnf
    refine ⟨eI x, hx, ?_⟩
    conv => whnf
    refine ⟨by rw [hm]; omega, rfl, ?_⟩
    conv => whnf
    refine ⟨rtC r, hgt, by simp [rtC], ?_⟩
    conv => whnf
    refine ⟨by simp, ?_⟩
    conv => whnf
    exact leafG' (l := g.rt.set i (x, r.2)) (by rw [Nat.zero_add, Int.toNat_natCast]; exact rt_set g.rt i (x, r.2)) (by simp) rfl (hk ⟨g.rt.set i (x, r.2), g.mo, g.mv⟩ d hd (fin_set hf hcl))
  conv => whnf
  refine Fork.mk (fun h => ?_) (fun h => ?_)
  · conv => whnf
    refine ⟨d, rfl, hd, by omega, fun a d hd ha1 ha2 => ?_⟩
    conv => whnf
    refine ⟨d, rfl, hd, by omega, fun b d hd hb1 hb2 => ?_⟩
    conv => whnf
    refine ⟨by rw [hm]; omega, rfl, ?_⟩
    conv => whnf
    refine ⟨by simp, ?_⟩
    conv => whnf
    refine ⟨rtC r, hgt, by simp [rtC], ?_⟩
    conv => whnf
    refine ⟨by simp, ?_⟩
    conv => whnf
    exact leafG' (l := g.rt.set i (r.1, [(a, 0), (3, IntKind.i64.wrap (1073741824 + b))])) (by rw [Nat.zero_add, Int.toNat_natCast]; exact rt_set g.rt i (r.1, [(a, 0), (3, IntKind.i64.wrap (1073741824 + b))])) (by simp) rfl (hk ⟨g.rt.set i (r.1, [(a, 0), (3, IntKind.i64.wrap (1073741824 + b))]), g.mo, g.mv⟩ d hd (fin_set hf (by simp)))
  conv => whnf
  refine Fork.mk (fun h => ?_) (fun h => ?_)
  · conv => whnf
    refine ⟨d, rfl, hd, by omega, fun v d hd hv1 hv2 => ?_⟩
    obtain ⟨x, hx⟩ := tri (-1) 1000 1001 hv1 hv2
    conv => whnf
    refine ⟨by (show 0 ≤ v ∧ v < 3); omega, rfl, ?_⟩
    conv => whnf
    refine ⟨eI x, hx, ?_⟩
    conv => whnf
    refine ⟨by rw [hm]; omega, ?_⟩
    conv => whnf
    exact leafG hm rfl (hk ⟨g.rt, x, g.mv⟩ d hd ⟨hf.n, hf.c⟩)
  conv => whnf
  refine Fork.mk (fun h => ?_) (fun h => ?_)
  · conv => whnf
    refine ⟨d, rfl, hd, by omega, fun v d hd hv1 hv2 => ?_⟩
    obtain ⟨x, hx⟩ := tri (-1) 1000 1001 hv1 hv2
    conv => whnf
    refine ⟨by (show 0 ≤ v ∧ v < 3); omega, rfl, ?_⟩
    conv => whnf
    refine ⟨eI x, hx, ?_⟩
    conv => whnf
    refine ⟨by rw [hm]; omega, ?_⟩
    conv => whnf
    exact leafG hm rfl (hk ⟨g.rt, g.mo, x⟩ d hd ⟨hf.n, hf.c⟩)
  conv => whnf
  refine Fork.mk (fun h => ?_) (fun h => ?_)
  · conv => whnf
    exact ⟨rfl, rfl, hk ⟨[], g.mo, g.mv⟩ d hd ⟨by simp, fun r h => by simp at h⟩⟩
  conv => whnf
  refine Fork.mk (fun h => ?_) (fun h => ?_)
  · conv => whnf
    refine ⟨by rw [hm]; omega, rfl, ?_⟩
    conv => whnf
    refine ⟨rtC r, hgt, ?_⟩
    conv => whnf
    refine ⟨by simp, ?_⟩
    conv => whnf
    refine ⟨rfl, ?_⟩
    conv => whnf
    refine ⟨⟨rfl, rfl, rfl, by simp, by simp; omega⟩, ?_⟩
    conv => whnf
    refine ⟨by simp, ?_⟩
    conv => whnf
    exact leafG' (l := g.rt ++ [r]) (by rw [List.map_append]; rfl) (by simp) rfl (hk ⟨g.rt ++ [r], g.mo, g.mv⟩ d hd ⟨by simp; omega, fun x hx => (List.mem_append.1 hx).elim (hf.c x) fun hx => by simp at hx; subst hx; exact hcl⟩)
  conv => whnf
  refine ⟨by rw [hm]; omega, ?_⟩
  conv => whnf
  exact leafG hm rfl (hk g d hd hf)
end Go.Proofs
