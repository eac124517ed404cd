/- ReachEmpties: the walk. -/
import Derived.Test.YtagjajmkmambiaaL16p
import Derived.Test.YtagjajmkmambiaaL16k
import Derived.Test.YtagjajmkmambiaaL16i
import Derived.Test.YtagjajmkmambiaaL16j
set_option maxRecDepth 4000
namespace Go.Proofs
open Go Go.Abs
theorem eL_rep (n : Nat) : (List.replicate n (eI 0)) = eL (List.replicate n 0) := by simp [eL]
theorem empties_ok : FunR Try.prog 3 (R_law1 0) := by
  intro args k h
  unfold R_law1 at h
  split at h
  case h_2 => exact h.elim
  obtain ⟨⟨l, rfl, hl⟩, ⟨xs, rfl, hx⟩, hk⟩ := h
  obtain rfl : xs = [] := List.eq_nil_of_length_eq_zero hx
  refine does_ex (qc := qc1) (np := [(4, [(0, 5), (0, 11), (1, 5), (1, 11), (3, 11), (5, 11), (6, 11)]), (5, [(0, 2), (0, 8), (1, 2), (1, 8), (2, 8), (3, 8)])]) (CK := ckK [(10, cN R_new), (11, cB R_reach), (12, cB R_wave), (13, cPu R_run), (15, cSc R_wsame), (14, cSc R_held), (16, cSc R_true)]) mixed Try.func3 rfl rfl Try.ntmps3 Try.results3 τ_ok (by kernel_rfl) (ckK_ok ⟨cN_ok new_ok rfl, cB_ok reach_ok rfl, cB_ok wave_ok rfl, cPu_ok run_ok rfl, cSc_ok wsame_ok, cSc_ok held_ok, cSc_ok awake_ok, trivial⟩) (by simp) ?_
  conv => whnf
  refine ⟨l, rfl, ?_⟩
  conv => whnf
  refine ⟨⟨l, 0⟩, rfl, ⟨Nat.zero_le _, hl⟩, fun ws den d hd hr hw5 hw => ?_⟩
  conv => whnf
  refine ⟨d, ws, rfl, rfl, hd, hr, fun ps d hd hf hs => ?_⟩
  obtain ⟨a1, a2, _, a4, a5, a6, _⟩ := rk_facts hr
  obtain ⟨b1, _, b3, _⟩ := fits_facts hf
  obtain ⟨x, o, o2, e1, e2, f1, f2, f3, f4, f5, f6, f7, f8, f9⟩ := empties_law hr hf hs
  obtain ⟨c1, _, c3, _⟩ := fits_facts f1
  have hml := eL_len ws
  conv => whnf
  refine ⟨⟨rfl, by omega, by show ((eL ws).length : Int) * 8 ≤ _; omega⟩, ?_⟩
  conv => whnf
  refine ⟨by simp, ?_⟩
  conv => whnf
  have hz : List.take ((eL ws).length : Int).toNat (List.drop 0 (List.replicate ((eL ws).length : Int).toNat [Cell.sc (Value.int IntKind.i64 0)])) = eL (List.replicate ws.length 0) := by
    rw [List.drop_zero, Int.toNat_natCast, List.take_of_length_le (by simp), hml]; exact eL_rep _
  rw [hz]
  refine ⟨ws, ps, List.replicate ws.length 0, rfl, rfl, rfl, by omega, by omega, by simp; omega, ?_⟩
  rw [e1]
  conv => whnf
  refine ⟨⟨rfl, by decide, by decide⟩, ?_⟩
  conv => whnf
  refine ⟨by simp, ?_⟩
  conv => whnf
  refine ⟨ws, x, List.replicate 5 0, rfl, rfl, rfl, by omega, by omega, by simp, ?_⟩
  rw [e2]
  conv => whnf
  refine ⟨Nat, fun i => ([(2, Bo false), (4, .c (.ptr (.l 4 1) 0)), (5, .c (.ptr (.l 5 2) 0)), (6, .c (.ptr (.l 6 3) 0)), (8, I 0), (9, .c (.ptr (.l 9 4) 0)), (10, .c (.lst (eL o2))), (11, I 0), (12, I (o.take i).sum), (43, .c (.lst (eL o))), (44, I (eL o).length), (45, I i)],
      ⟨[(.l 4 1, .blk (RcC ws den)), (.l 5 2, .blk (WvC ps)), (.l 6 3, .blk (WvC x)), (.l 9 4, .blk (WvC x))], 5, []⟩),
    fun i => i ≤ o.length, fun i => o.length - i, 0, Nat.zero_le _,
    Shift.reset ⟨rfl, rfl, rfl, rfl, rfl, rfl, rfl, rfl, rfl, rfl, rfl, rfl, trivial⟩ ⟨rfl, rfl, rfl, rfl, trivial⟩ rfl rfl, fun i hi => ?_⟩
  dsimp only at hi ⊢
  have hmo := eL_len o
  conv => whnf
  refine Fork.mk (fun h => ?_) (fun h => ?_)
  · have hi : i < o.length := by simp at h; omega
    have hat := map_at eI o hi
    have hst := sum_take hi
    have hq := f6 _ (List.getElem_mem hi)
    generalize o[i] = q at *
    have hin := sum_in (l := o.take i) (a := 24000000) (by omega) (fun y hy => f6 y (List.mem_of_mem_take hy))
    have hlt : ((o.take i).length : Int) ≤ 24 := by rw [List.length_take]; omega
    conv => whnf
    refine ⟨by omega, eI q, hat, rfl, ?_⟩
    conv => whnf
    rw [show IntKind.i64.wrap ((o.take i).sum + q) = (o.take (i + 1)).sum by rw [hst]; exact wrap_in (by omega) (by omega)]
    have hw1 : IntKind.i64.wrap ((i : Int) + 1) = ((i + 1 : Nat) : Int) := by rw [wrap_in (by omega) (by omega)]; omega
    rw [hw1]
    refine ⟨i + 1, hi, Shift.reset ⟨rfl, rfl, rfl, rfl, rfl, rfl, rfl, rfl, rfl, rfl, rfl, rfl, trivial⟩ ⟨rfl, rfl, rfl, rfl, trivial⟩ rfl rfl, ?_⟩
    show o.length - (i + 1) < o.length - i
    omega
  · have hie : i = o.length := by simp at h; omega
    subst hie
    rw [List.take_length, f4]
    conv => whnf
    refine ⟨Nat, fun i => ([(2, Bo false), (4, .c (.ptr (.l 4 1) 0)), (5, .c (.ptr (.l 5 2) 0)), (6, .c (.ptr (.l 6 3) 0)), (8, I 0), (9, .c (.ptr (.l 9 4) 0)), (11, I 0), (12, I (ps.sum / den)), (53, .c (.lst (eL o2))), (54, I (eL o2).length), (55, I i)],
        ⟨[(.l 4 1, .blk (RcC ws den)), (.l 5 2, .blk (WvC ps)), (.l 6 3, .blk (WvC x)), (.l 9 4, .blk (WvC x))], 5, []⟩),
      fun i => i ≤ o2.length, fun i => o2.length - i, 0, Nat.zero_le _,
      Shift.reset ⟨rfl, rfl, rfl, rfl, rfl, rfl, rfl, rfl, rfl, rfl, rfl, trivial⟩ ⟨rfl, rfl, rfl, rfl, trivial⟩ rfl rfl, fun i hi => ?_⟩
    dsimp only at hi ⊢
    have hm2 := eL_len o2
    conv => whnf
    refine Fork.mk (fun h => ?_) (fun h => ?_)
    · have hi : i < o2.length := by simp at h; omega
      have hat := map_at eI o2 hi
      have hq := f8 _ (List.getElem_mem hi)
      rw [hq] at hat
      conv => whnf
      refine ⟨by omega, eI 0, hat, rfl, ?_⟩
      conv => whnf
      refine Fork.mk (fun h => (by simp at h)) (fun h => ?_)
      conv => whnf
      have hw1 : IntKind.i64.wrap ((i : Int) + 1) = ((i + 1 : Nat) : Int) := by rw [wrap_in (by omega) (by omega)]; omega
      rw [hw1]
      refine ⟨i + 1, hi, Shift.reset ⟨rfl, rfl, rfl, rfl, rfl, rfl, rfl, rfl, rfl, rfl, rfl, trivial⟩ ⟨rfl, rfl, rfl, rfl, trivial⟩ rfl rfl, ?_⟩
      show o2.length - (i + 1) < o2.length - i
      omega
    · conv => whnf
      refine Fork.mk (fun h => ?_) (fun h => (by simp at h))
      conv => whnf
      refine Fork.mk (fun h => ?_) (fun h => (by simp at h))
      conv => whnf
      refine ⟨x, rfl, by omega, fun y hy => (by have := c3 y hy; unfold inH; omega), ?_⟩
      conv => whnf
      refine Fork.mk (fun h => ?_) (fun h => (by simp at h; omega))
      conv => whnf
      refine ⟨x, x, rfl, rfl, by omega, ?_⟩
      conv => whnf
      refine Fork.mk (fun h => ?_) (fun h => (by simp at h))
      conv => whnf
      refine ⟨ps, rfl, by omega, fun y hy => (by have := b3 y hy; unfold inH; omega), ?_⟩
      conv => whnf
      refine ⟨by omega, ?_⟩
      conv => whnf
      have hdv : 0 ≤ ps.sum / den ∧ ps.sum / den ≤ ps.sum := ⟨Int.ediv_nonneg f9 (by omega), Int.ediv_le_self _ f9⟩
      rw [show IntKind.i64.wrap (ps.sum.tdiv den) = ps.sum / den by rw [Int.tdiv_eq_ediv_of_nonneg f9]; exact wrap_in (by omega) (by omega)]
      refine Fork.mk (fun h => ?_) (fun h => (by simp at h))
      conv => whnf
      exact hk
end Go.Proofs
