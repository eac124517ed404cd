/- Proved here: what functions of the given program come to, for the statements of this chapter; no condition but those in the theorems. -/
import Derived.Test.YtgehodhbcckcoaaN20
import Derived.Test.YtgehodhbcckcoaaPGate2
namespace Go.Proofs
open Go Go.Abs
set_option linter.unusedSimpArgs false
set_option linter.unusedVariables false
set_option maxRecDepth 4000
theorem reaches_ok : FunR Try.prog 5 R_reaches := by
  intro args k h
  obtain ⟨raw, l, op, jm, rfl, hraw, hl, hk⟩ := h
  have hm : (raw.rt.map rtC).length = raw.rt.length := List.length_map _
  refine does_ex (qc := qc1) (np := [(5, [(0, 4), (1, 4)])]) (CK := ckK [(10, cN R_new), (17, cB R_mkG), (13, cSc R_mod), (18, cB R_oddG), (12, cB R_next), (19, cSc R_rchS), (20, cSc R_rchS), (9, cSc R_tt)]) mixed Try.func5 rfl rfl Try.ntmps5 Try.results5 τ_ok (by kernel_rfl) (ckK_ok ⟨cN_ok new_ok rfl, cB_ok mkG_ok rfl, cSc_ok mod_ok, cB_ok odd_ok rfl, cB_ok next_ok rfl, cSc_ok Reach_ok, cSc_ok rReach_ok, cSc_ok awake_ok, trivial⟩) (by simp) ?_
  conv => whnf
  refine Fork.mk (fun h => ?_) (fun h => ?_)
  · conv => whnf
    refine ⟨rfl, ?_⟩
    conv => whnf
    exact hk
  have hrl : raw.rt.length ≤ 20 := by simp at h; omega
  clear h
  conv => whnf
  refine ⟨l, rfl, ?_⟩
  conv => whnf
  refine ⟨⟨l, 0⟩, rfl, rfl, ⟨Nat.zero_le _, hl⟩, fun g d hd hg => ?_⟩
  conv => whnf
  refine ⟨d, g, rfl, rfl, hd, hg.fin, ⟨hg.ok.n0, by have := hg.ok.n; omega⟩, fun o d hd ho => ?_⟩
  conv => whnf
  have hmo := hg.ok.o
  have hmm := hg.m
  have e1 : IntKind.i64.wrap (g.mo + 1) = g.mo + 1 := wrap_in (by omega) (by omega)
  refine ⟨Nat × Dk, fun s => ([(2, I op), (3, Bo jm), (9, .c (.ptr (.l 25 1) 0)), (10, .c (.ptr (.l 10 2) 0)), (33, .c (.view (.l 33 3) 0 3)), (34, I ((3 : Nat) : Int)), (35, I s.1)], ⟨[(.l 25 1, .blk (dkC s.2)), (.l 10 2, .blk (gtC g)), (.l 33 3, .arr 24 3 [gtC g, gtC raw, gtC o] false)], 10, []⟩),
    fun s => s.1 ≤ 3 ∧ s.2.ok, fun s => 3 - s.1, (0, d), ⟨Nat.zero_le _, hd⟩, Shift.reset ⟨rfl, rfl, rfl, rfl, rfl, rfl, rfl, trivial⟩ ⟨rfl, rfl, rfl, trivial⟩ rfl rfl, fun s hs => ?_⟩
  obtain ⟨i, d⟩ := s
  obtain ⟨hi1, hd⟩ := hs
  dsimp only at hi1 hd ⊢
  conv => whnf
  refine Fork.mk (fun h => ?_) (fun h => ?_)
  · have hi : i < 3 := by simp at h; omega
    clear h
    obtain ⟨x, hx, hxf⟩ := triG g raw o hi hg.fin hraw ho
    have hw1 := wr_succ (i := i) (by omega)
    conv => whnf
    refine ⟨by omega, rfl, ?_⟩
    conv => whnf
    refine ⟨gtC x, hx, ?_⟩
    conv => whnf
    refine ⟨by omega, ?_⟩
    conv => whnf
    rw [e1]
    refine ⟨d, rfl, hd, by omega, fun w d hd hw2 hw3 => ?_⟩
    conv => whnf
    refine ⟨Nat, fun j => ([(2, I op), (3, Bo jm), (9, .c (.ptr (.l 25 1) 0)), (10, .c (.ptr (.l 10 2) 0)), (12, .c (.ptr (.l 12 10) 0)), (33, .c (.view (.l 33 3) 0 3)), (34, I ((3 : Nat) : Int)), (35, I i), (47, .c (.view (.l 47 11) 0 3)), (48, I ((3 : Nat) : Int)), (49, I j)], ⟨[(.l 25 1, .blk (dkC d)), (.l 10 2, .blk (gtC g)), (.l 33 3, .arr 24 3 [gtC g, gtC raw, gtC o] false), (.l 12 10, .blk (gtC x)), (.l 47 11, .arr 3 1 [eI op, eI (op % 14), eI w] false)], 30, []⟩),
      fun j => j ≤ 3, fun j => 3 - j, 0, Nat.zero_le _, Shift.reset ⟨rfl, rfl, rfl, rfl, rfl, rfl, rfl, rfl, rfl, rfl, rfl, trivial⟩ ⟨rfl, rfl, rfl, rfl, rfl, trivial⟩ rfl rfl, fun j hj => ?_⟩
    dsimp only at hj ⊢
    conv => whnf
    refine Fork.mk (fun h => ?_) (fun h => ?_)
    · have hj : j < 3 := by simp at h; omega
      clear h
      obtain ⟨y, hy⟩ := tri op (op % 14) w (v := (j : Int)) (by omega) (by omega)
      have hw4 := wr_succ (i := j) (by omega)
      conv => whnf
      refine ⟨by omega, rfl, ?_⟩
      conv => whnf
      refine ⟨eI y, hy, ?_⟩
      conv => whnf
      refine ⟨x, ⟨y, jm⟩, rfl, hxf, ?_⟩
      conv => whnf
      refine ⟨x, ⟨y, jm⟩, rfl, hxf, ?_⟩
      conv => whnf
      (refine Fork.mk (fun h => ?_) (fun h => ?_); focus (exfalso; simp at h))
      clear h
      conv => whnf
      (refine Fork.mk (fun h => ?_) (fun h => ?_); focus (exfalso; simp at h))
      clear h
      conv => whnf
      rw [hw4]
      exact ⟨j + 1, hj, Shift.reset ⟨rfl, rfl, rfl, rfl, rfl, rfl, rfl, rfl, rfl, rfl, rfl, trivial⟩ ⟨rfl, rfl, rfl, rfl, rfl, trivial⟩ rfl rfl, by omega⟩
    conv => whnf
    rw [hw1]
    exact ⟨(i + 1, d), ⟨hi, hd⟩, Shift.reset ⟨rfl, rfl, rfl, rfl, rfl, rfl, rfl, trivial⟩ ⟨rfl, rfl, rfl, trivial⟩ rfl rfl, by dsimp only; omega⟩
  conv => whnf
  refine ⟨rfl, ?_⟩
  conv => whnf
  exact hk
end Go.Proofs
