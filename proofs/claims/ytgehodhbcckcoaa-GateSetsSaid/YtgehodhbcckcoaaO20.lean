/- Proved here: what functions of the given program come to, and the plain laws of it; no condition but those in the theorems. -/
import Derived.Test.YtgehodhbcckcoaaL20
import Derived.Test.YtgehodhbcckcoaaPGate2
namespace Go.Proofs
open Go Go.Abs
set_option linter.unusedSimpArgs false
set_option linter.unusedVariables false
set_option maxRecDepth 4000
theorem odd_ok : FunB Try.prog 18 R_oddG := by
  intro cs args k h
  obtain ⟨d, g, rfl, rfl, hd, hf, hn, hk⟩ := h
  have hm : (g.rt.map rtC).length = g.rt.length := List.length_map _
  refine doesB_ex (qc := qc1) (np := [(5, [(1, 3), (1, 5), (3, 5)]), (7, [(1, 4), (1, 7), (1, 10)]), (15, [(1, 7)])]) (CK := ckK [(12, cB R_next)]) mixed Try.func18 rfl rfl Try.ntmps18 Try.results18 τ_ok (by kernel_rfl) (ckK_ok ⟨cB_ok next_ok rfl, trivial⟩) (by simp) rfl rfl ?_
  conv => whnf
  refine ⟨by simp [rtC], ?_⟩
  conv => whnf
  refine ⟨by rw [hm]; show _ * 32 ≤ _; omega, ?_⟩
  conv => whnf
  refine ⟨d, rfl, hd, by rw [hm]; omega, fun v d hd hv1 hv2 => ?_⟩
  obtain ⟨i, rfl⟩ : ∃ i : Nat, v = i := ⟨v.toNat, by omega⟩
  have hi : i < g.rt.length := by rw [hm] at hv2; omega
  have hci := List.getElem?_eq_getElem hi
  have hcl := hf.c _ (List.getElem_mem hi)
  generalize g.rt[i] = r at hci hcl
  have hgt : (g.rt.map rtC)[0 + (i : Int).toNat]? = some (rtC r) := by rw [Nat.zero_add, Int.toNat_natCast, List.getElem?_map, hci]; rfl
  conv => whnf
  refine ⟨d, rfl, hd, by omega, fun j d hd hj1 hj2 => ?_⟩
  conv => whnf
  refine Fork.mk (fun h => ?_) (fun h => ?_)
  · conv => whnf
    refine ⟨d, rfl, hd, by omega, fun v d hd hv1 hv2 => ?_⟩
    obtain ⟨x, hx⟩ := tri (-1) 16777216 16777217 hv1 hv2
    conv => whnf
    refine ⟨by (show 0 ≤ v ∧ v < 3); omega, rfl, ?_⟩
    conv => whnf
    refine ⟨eI x, hx, ?_⟩
    conv => whnf
    refine ⟨by rw [hm]; omega, rfl, ?_⟩
    conv => whnf
    refine ⟨rtC r, hgt, by simp [rtC], ?_⟩
    conv => whnf
    refine ⟨by simp, ?_⟩
    conv => whnf
    exact leafG' (l := g.rt.set i (x, r.2)) (by rw [Nat.zero_add, Int.toNat_natCast]; exact rt_set g.rt i (x, r.2)) (by simp) rfl (hk ⟨g.rt.set i (x, r.2), g.mo, g.mv⟩ d hd (fin_set hf hcl))
  conv => whnf
  refine Fork.mk (fun h => ?_) (fun h => ?_)
  · conv => whnf
    refine ⟨d, rfl, hd, by omega, fun a d hd ha1 ha2 => ?_⟩
    conv => whnf
    refine ⟨d, rfl, hd, by omega, fun b d hd hb1 hb2 => ?_⟩
    conv => whnf
    refine ⟨by rw [hm]; omega, rfl, ?_⟩
    conv => whnf
    refine ⟨by simp, ?_⟩
    conv => whnf
    refine ⟨rtC r, hgt, by simp [rtC], ?_⟩
    conv => whnf
    refine ⟨by simp, ?_⟩
    conv => whnf
    exact leafG' (l := g.rt.set i (r.1, [(a, 0), (3, IntKind.i64.wrap (1073741824 + b))])) (by rw [Nat.zero_add, Int.toNat_natCast]; exact rt_set g.rt i (r.1, [(a, 0), (3, IntKind.i64.wrap (1073741824 + b))])) (by simp) rfl (hk ⟨g.rt.set i (r.1, [(a, 0), (3, IntKind.i64.wrap (1073741824 + b))]), g.mo, g.mv⟩ d hd (fin_set hf (by simp)))
  conv => whnf
  refine Fork.mk (fun h => ?_) (fun h => ?_)
  · conv => whnf
    refine ⟨d, rfl, hd, by omega, fun v d hd hv1 hv2 => ?_⟩
    obtain ⟨x, hx⟩ := tri (-1) 1000 1001 hv1 hv2
    conv => whnf
    refine ⟨by (show 0 ≤ v ∧ v < 3); omega, rfl, ?_⟩
    conv => whnf
    refine ⟨eI x, hx, ?_⟩
    conv => whnf
    refine ⟨by rw [hm]; omega, ?_⟩
    conv => whnf
    exact leafG hm rfl (hk ⟨g.rt, x, g.mv⟩ d hd ⟨hf.n, hf.c⟩)
  conv => whnf
  refine Fork.mk (fun h => ?_) (fun h => ?_)
  · conv => whnf
    refine ⟨d, rfl, hd, by omega, fun v d hd hv1 hv2 => ?_⟩
    obtain ⟨x, hx⟩ := tri (-1) 1000 1001 hv1 hv2
    conv => whnf
    refine ⟨by (show 0 ≤ v ∧ v < 3); omega, rfl, ?_⟩
    conv => whnf
    refine ⟨eI x, hx, ?_⟩
    conv => whnf
    refine ⟨by rw [hm]; omega, ?_⟩
    conv => whnf
    exact leafG hm rfl (hk ⟨g.rt, g.mo, x⟩ d hd ⟨hf.n, hf.c⟩)
  conv => whnf
  refine Fork.mk (fun h => ?_) (fun h => ?_)
  · conv => whnf
    exact ⟨rfl, rfl, hk ⟨[], g.mo, g.mv⟩ d hd ⟨by simp, fun r h => by simp at h⟩⟩
  conv => whnf
  refine Fork.mk (fun h => ?_) (fun h => ?_)
  · conv => whnf
    refine ⟨by rw [hm]; omega, rfl, ?_⟩
    conv => whnf
    refine ⟨rtC r, hgt, ?_⟩
    conv => whnf
    refine ⟨by simp, ?_⟩
    conv => whnf
    refine ⟨rfl, ?_⟩
    conv => whnf
    refine ⟨⟨rfl, rfl, rfl, by simp, by simp; omega⟩, ?_⟩
    conv => whnf
    refine ⟨by simp, ?_⟩
    conv => whnf
    exact leafG' (l := g.rt ++ [r]) (by rw [List.map_append]; rfl) (by simp) rfl (hk ⟨g.rt ++ [r], g.mo, g.mv⟩ d hd ⟨by simp; omega, fun x hx => (List.mem_append.1 hx).elim (hf.c x) fun hx => by simp at hx; subst hx; exact hcl⟩)
  conv => whnf
  refine ⟨by rw [hm]; omega, ?_⟩
  conv => whnf
  exact leafG hm rfl (hk g d hd hf)
end Go.Proofs

namespace Go.Proofs
open Go Go.Abs
set_option linter.unusedSimpArgs false
set_option linter.unusedVariables false
set_option maxRecDepth 4000
theorem reaches_ok : FunR Try.prog 5 R_reaches := by
  intro args k h
  obtain ⟨raw, l, op, jm, rfl, hraw, hl, hk⟩ := h
  have hm : (raw.rt.map rtC).length = raw.rt.length := List.length_map _
  refine does_ex (qc := qc1) (np := [(5, [(0, 4), (1, 4)])]) (CK := ckK [(10, cN R_new), (17, cB R_mkG), (13, cSc R_mod), (18, cB R_oddG), (12, cB R_next), (19, cSc R_rchS), (20, cSc R_rchS), (9, cSc R_tt)]) mixed Try.func5 rfl rfl Try.ntmps5 Try.results5 τ_ok (by kernel_rfl) (ckK_ok ⟨cN_ok new_ok rfl, cB_ok mkG_ok rfl, cSc_ok mod_ok, cB_ok odd_ok rfl, cB_ok next_ok rfl, cSc_ok Reach_ok, cSc_ok rReach_ok, cSc_ok awake_ok, trivial⟩) (by simp) ?_
  conv => whnf
  refine Fork.mk (fun h => ?_) (fun h => ?_)
  · conv => whnf
    refine ⟨rfl, ?_⟩
    conv => whnf
    exact hk
  have hrl : raw.rt.length ≤ 20 := by simp at h; omega
  clear h
  conv => whnf
  refine ⟨l, rfl, ?_⟩
  conv => whnf
  refine ⟨⟨l, 0⟩, rfl, rfl, ⟨Nat.zero_le _, hl⟩, fun g d hd hg => ?_⟩
  conv => whnf
  refine ⟨d, g, rfl, rfl, hd, hg.fin, ⟨hg.ok.n0, by have := hg.ok.n; omega⟩, fun o d hd ho => ?_⟩
  conv => whnf
  have hmo := hg.ok.o
  have hmm := hg.m
  have e1 : IntKind.i64.wrap (g.mo + 1) = g.mo + 1 := wrap_in (by omega) (by omega)
  refine ⟨Nat × Dk, fun s => ([(2, I op), (3, Bo jm), (9, .c (.ptr (.l 25 1) 0)), (10, .c (.ptr (.l 10 2) 0)), (33, .c (.view (.l 33 3) 0 3)), (34, I ((3 : Nat) : Int)), (35, I s.1)], ⟨[(.l 25 1, .blk (dkC s.2)), (.l 10 2, .blk (gtC g)), (.l 33 3, .arr 24 3 [gtC g, gtC raw, gtC o] false)], 10, []⟩),
    fun s => s.1 ≤ 3 ∧ s.2.ok, fun s => 3 - s.1, (0, d), ⟨Nat.zero_le _, hd⟩, Shift.reset ⟨rfl, rfl, rfl, rfl, rfl, rfl, rfl, trivial⟩ ⟨rfl, rfl, rfl, trivial⟩ rfl rfl, fun s hs => ?_⟩
  obtain ⟨i, d⟩ := s
  obtain ⟨hi1, hd⟩ := hs
  dsimp only at hi1 hd ⊢
  conv => whnf
  refine Fork.mk (fun h => ?_) (fun h => ?_)
  · have hi : i < 3 := by simp at h; omega
    clear h
    obtain ⟨x, hx, hxf⟩ := triG g raw o hi hg.fin hraw ho
    have hw1 := wr_succ (i := i) (by omega)
    conv => whnf
    refine ⟨by omega, rfl, ?_⟩
    conv => whnf
    refine ⟨gtC x, hx, ?_⟩
    conv => whnf
    refine ⟨by omega, ?_⟩
    conv => whnf
    rw [e1]
    refine ⟨d, rfl, hd, by omega, fun w d hd hw2 hw3 => ?_⟩
    conv => whnf
    refine ⟨Nat, fun j => ([(2, I op), (3, Bo jm), (9, .c (.ptr (.l 25 1) 0)), (10, .c (.ptr (.l 10 2) 0)), (12, .c (.ptr (.l 12 10) 0)), (33, .c (.view (.l 33 3) 0 3)), (34, I ((3 : Nat) : Int)), (35, I i), (47, .c (.view (.l 47 11) 0 3)), (48, I ((3 : Nat) : Int)), (49, I j)], ⟨[(.l 25 1, .blk (dkC d)), (.l 10 2, .blk (gtC g)), (.l 33 3, .arr 24 3 [gtC g, gtC raw, gtC o] false), (.l 12 10, .blk (gtC x)), (.l 47 11, .arr 3 1 [eI op, eI (op % 14), eI w] false)], 30, []⟩),
      fun j => j ≤ 3, fun j => 3 - j, 0, Nat.zero_le _, Shift.reset ⟨rfl, rfl, rfl, rfl, rfl, rfl, rfl, rfl, rfl, rfl, rfl, trivial⟩ ⟨rfl, rfl, rfl, rfl, rfl, trivial⟩ rfl rfl, fun j hj => ?_⟩
    dsimp only at hj ⊢
    conv => whnf
    refine Fork.mk (fun h => ?_) (fun h => ?_)
    · have hj : j < 3 := by simp at h; omega
      clear h
      obtain ⟨y, hy⟩ := tri op (op % 14) w (v := (j : Int)) (by omega) (by omega)
      have hw4 := wr_succ (i := j) (by omega)
      conv => whnf
      refine ⟨by omega, rfl, ?_⟩
      conv => whnf
      refine ⟨eI y, hy, ?_⟩
      conv => whnf
      refine ⟨x, ⟨y, jm⟩, rfl, hxf, ?_⟩
      conv => whnf
      refine ⟨x, ⟨y, jm⟩, rfl, hxf, ?_⟩
      conv => whnf
      (refine Fork.mk (fun h => ?_) (fun h => ?_); focus (exfalso; simp at h))
      clear h
      conv => whnf
      (refine Fork.mk (fun h => ?_) (fun h => ?_); focus (exfalso; simp at h))
      clear h
      conv => whnf
      rw [hw4]
      exact ⟨j + 1, hj, Shift.reset ⟨rfl, rfl, rfl, rfl, rfl, rfl, rfl, rfl, rfl, rfl, rfl, trivial⟩ ⟨rfl, rfl, rfl, rfl, rfl, trivial⟩ rfl rfl, by omega⟩
    conv => whnf
    rw [hw1]
    exact ⟨(i + 1, d), ⟨hi, hd⟩, Shift.reset ⟨rfl, rfl, rfl, rfl, rfl, rfl, rfl, trivial⟩ ⟨rfl, rfl, rfl, trivial⟩ rfl rfl, by dsimp only; omega⟩
  conv => whnf
  refine ⟨rfl, ?_⟩
  conv => whnf
  exact hk
end Go.Proofs
