/- ReachPulse: the walk. -/
import Derived.Test.YtagjajmkmambiaaL16t
import Derived.Test.YtagjajmkmambiaaL16j
import Derived.Test.YtagjajmkmambiaaL16k
set_option maxRecDepth 4000
namespace Go.Proofs
open Go Go.Abs
set_option linter.unusedSimpArgs false
set_option linter.unusedVariables false
def R_lag : RT := fun args k => match args with
  | [.agg [.lst es, .sc (.int .i64 den)]] => ∃ ws, es = eL ws ∧ rkCheck ws den = 0 ∧ k (.tup [I (lagN ws ws.length), I den, I 0])
  | _ => False
def R_pulse : RT := fun args k => match args with
  | [.agg [.lst es, .sc (.int .i64 den)], .c (.sc (.int .i64 q))] => ∃ ws, es = eL ws ∧ (1 ≤ ws.length ∧ ws.length ≤ 1000) ∧ k (.tup [.c (.lst (eL (rkRun ws den [] (q :: List.replicate (ws.length - 1) 0)).2.1)), I (rkRun ws den [] (q :: List.replicate (ws.length - 1) 0)).2.2])
  | _ => False
theorem lag_ok : FunR Try.prog 24 R_lag := by
  intro args k h
  unfold R_lag at h
  split at h
  case h_2 => exact h.elim
  rename_i den
  obtain ⟨ws, rfl, hr, hk⟩ := h
  obtain ⟨hn1, hn2, hw, hd1, hd2, _⟩ := rk_facts hr
  have hml := eL_len ws
  refine does_ex (qc := qc1) (np := []) (CK := ckK [(27, cSc R_rk)]) mixed Try.func24 rfl rfl Try.ntmps24 Try.results24 τ_ok (by kernel_rfl) (ckK_ok ⟨cSc_ok rk_ok, trivial⟩) (by simp) ?_
  conv => whnf
  refine ⟨ws, rfl, by omega, ?_⟩
  rw [hr]
  conv => whnf
  refine fork_f ?_
  conv => whnf
  refine ⟨Nat, fun i => ([(1, .c (.ptr (.l 1 0) 0)), (6, I (lagN ws i)), (15, .c (.lst (eL ws))), (16, I (eL ws).length), (17, I i)], ⟨[(.l 1 0, .blk [.lst (eL ws), IC den])], 5, []⟩),
    fun i => i ≤ ws.length, fun i => ws.length - i, 0, Nat.zero_le _,
    Shift.reset ⟨rfl, rfl, rfl, rfl, rfl, trivial⟩ ⟨rfl, trivial⟩ rfl rfl, fun i hi => ?_⟩
  dsimp only at hi ⊢
  conv => whnf
  refine Fork.mk (fun h => ?_) (fun h => ?_)
  · have hi : i < ws.length := by simp at h; omega
    have hci := List.getElem?_eq_getElem hi
    have hf := fP_at hi
    have hl1 := lagN_in hw i (by omega)
    have hwi := hw i
    have e1 : 0 ≤ (i : Int) * fP ws i := Int.mul_nonneg (by omega) hwi.1
    have e2 : (i : Int) * fP ws i ≤ 24 * 10000 := Int.mul_le_mul (by omega) hwi.2 hwi.1 (by omega)
    have hw1 : IntKind.i64.wrap ((i : Int) + 1) = ((i + 1 : Nat) : Int) := by rw [wrap_in (by omega) (by omega)]; omega
    rw [← hf] at hci
    conv => whnf
    refine ⟨by omega, eI (fP ws i), by rw [Int.toNat_natCast, List.getElem?_map, hci]; rfl, rfl, ?_⟩
    conv => whnf
    rw [show IntKind.i64.wrap ((i : Int) * fP ws i) = i * fP ws i from wrap_in (by omega) (by omega), show IntKind.i64.wrap (lagN ws i + i * fP ws i) = lagN ws i + i * fP ws i from wrap_in (by omega) (by omega), hw1]
    refine ⟨i + 1, hi, Shift.reset ⟨rfl, rfl, rfl, rfl, rfl, trivial⟩ ⟨rfl, trivial⟩ rfl rfl, ?_⟩
    show ws.length - (i + 1) < ws.length - i
    omega
  · have hie : i = ws.length := by simp at h; omega
    subst hie
    conv => whnf
    exact hk
theorem pulse_ok : FunR Try.prog 23 R_pulse := by
  intro args k h
  unfold R_pulse at h
  split at h
  case h_2 => exact h.elim
  rename_i den q
  obtain ⟨ws, rfl, hl, hk⟩ := h
  have hml := eL_len ws
  refine does_ex (qc := qc1) (np := [(1, [(0, 3), (0, 9), (0, 15), (3, 5), (3, 15), (5, 15), (9, 15), (10, 15)])]) (CK := ckK [(13, cPu R_run)]) mixed Try.func23 rfl rfl Try.ntmps23 Try.results23 τ_ok (by kernel_rfl) (ckK_ok ⟨cPu_ok run_ok rfl, trivial⟩) (by simp) ?_
  conv => whnf
  have hn : IntKind.i64.wrap ((if ((eL ws).length : Int) < 1 then 1 else ((eL ws).length : Int)) - 1) = ((ws.length - 1 : Nat) : Int) := by rw [hml, if_neg (by omega), wrap_in (by omega) (by omega)]; omega
  rw [hn, Int.toNat_natCast]
  refine ⟨⟨rfl, rfl, rfl, rfl, by omega, by show (1 + (ws.length - 1)) * 8 ≤ _; omega⟩, ?_⟩
  conv => whnf
  refine ⟨by simp; omega, ?_⟩
  have hq : List.take (1 + (ws.length - 1)) (List.drop 0 ([[IC q]] ++ List.replicate (ws.length - 1) [IC 0])) = eL (q :: List.replicate (ws.length - 1) 0) := by
    rw [List.drop_zero, List.take_of_length_le (by simp; omega)]
    simp [eL, eI]
  conv => whnf
  refine ⟨ws, [], q :: List.replicate (ws.length - 1) 0, rfl, rfl, hq, by omega, by simp, by simp; omega, ?_⟩
  conv => whnf
  exact hk
theorem pulselaw_ok : FunR Try.prog 8 (R_law1 1) := by
  intro args k h
  unfold R_law1 at h
  split at h
  case h_2 => exact h.elim
  obtain ⟨⟨l, rfl, hl⟩, ⟨xs, rfl, hx⟩, hk⟩ := h
  obtain ⟨v0, rfl⟩ : ∃ a, xs = [a] := by
    match xs, hx with
    | [a], _ => exact ⟨a, rfl⟩
  refine does_ex (qc := qc1) (np := []) (CK := ckK [(10, cN R_new), (11, cB R_reach), (18, cSc R_mod), (23, cPu R_pulse), (24, cSc R_lag), (16, cSc R_true)]) mixed Try.func8 rfl rfl Try.ntmps8 Try.results8 τ_ok (by kernel_rfl) (ckK_ok ⟨cN_ok new_ok rfl, cB_ok reach_ok rfl, cSc_ok mod_ok, cPu_ok pulse_ok rfl, cSc_ok lag_ok, cSc_ok awake_ok, trivial⟩) (by simp) ?_
  conv => whnf
  refine ⟨l, rfl, ?_⟩
  conv => whnf
  refine ⟨⟨l, 0⟩, rfl, ⟨Nat.zero_le _, hl⟩, fun ws den d hd hr hw5 hw4 => ?_⟩
  obtain ⟨hn1, hn2, hw, hd1, hd2, hsum, _⟩ := rk_facts hr
  have hml := eL_len ws
  have hsm := sum_in (l := ws) (a := 4) (by omega) hw4
  conv => whnf
  refine ⟨by decide, ?_⟩
  have hb : 0 ≤ v0 % 50 ∧ v0 % 50 < 50 := by omega
  generalize v0 % 50 = kk at *
  have hden : den ≤ 20 := by omega
  have e1 : 0 ≤ kk * den := Int.mul_nonneg hb.1 (by omega)
  have e2 : kk * den ≤ 50 * 20 := Int.mul_le_mul (by omega) hden (by omega) (by omega)
  obtain ⟨p, o, r1, r2, r3⟩ := pulse_law hr (kk := kk) (by omega) (by omega)
  have hmo := (eL_len o).trans r2
  conv => whnf
  rw [show IntKind.i64.wrap (kk * den) = kk * den from wrap_in (by omega) (by omega)]
  refine ⟨ws, rfl, by omega, ?_⟩
  rw [r1]
  conv => whnf
  refine ⟨ws, rfl, hr, ?_⟩
  conv => whnf
  refine fork_f ?_
  conv => whnf
  refine fork_f ?_
  conv => whnf
  refine Fork.mk (fun h => (by simp at h)) (fun h => ?_)
  clear h
  conv => whnf
  refine Fork.mk (fun h => (by simp at h; omega)) (fun h => ?_)
  clear h
  conv => whnf
  refine ⟨Nat, fun i => ([(5, .c (.ptr (.l 5 9) 0)), (6, I kk), (9, I (lagN ws ws.length)), (12, I (kk * lagN ws i)), (55, .c (.lst (eL o))), (56, I (eL o).length), (57, I i)], ⟨[(.l 5 9, .blk [.lst (eL ws), IC den])], 20, []⟩),
    fun i => i ≤ ws.length, fun i => ws.length - i, 0, Nat.zero_le _,
    ?_, fun i hi => ?_⟩
  · exact Shift.rename [(.l 5 9, .l 5 1)] ⟨rfl, rfl, rfl, by rw [show kk * lagN ws 0 = 0 by simp [lagN]]; rfl, rfl, rfl, rfl, trivial⟩ ⟨rfl, trivial⟩ rfl rfl rfl
  dsimp only at hi ⊢
  conv => whnf
  have hlg := lagN_in hw i (by omega)
  have f1 : 0 ≤ kk * lagN ws i := Int.mul_nonneg hb.1 hlg.1
  have f2 : kk * lagN ws i ≤ 50 * (240000 * 24) := Int.mul_le_mul (by omega) (by omega) hlg.1 (by omega)
  refine Fork.mk (fun h => ?_) (fun h => ?_)
  · have hi : i < ws.length := by simp at h; omega
    have hci := List.getElem?_eq_getElem hi
    have hf := fP_at hi
    have hwi := hw i
    have hoi := r3 i hi
    have g1 : 0 ≤ kk * fP ws i := Int.mul_nonneg hb.1 hwi.1
    have g2 : kk * fP ws i ≤ 50 * 10000 := Int.mul_le_mul (by omega) hwi.2 hwi.1 (by omega)
    have g3 : 0 ≤ (i : Int) * (kk * fP ws i) := Int.mul_nonneg (by omega) g1
    have g4 : (i : Int) * (kk * fP ws i) ≤ 24 * (50 * 10000) := Int.mul_le_mul (by omega) g2 g1 (by omega)
    have hw1 : IntKind.i64.wrap ((i : Int) + 1) = ((i + 1 : Nat) : Int) := by rw [wrap_in (by omega) (by omega)]; omega
    have hsum : kk * lagN ws i + i * (kk * fP ws i) = kk * lagN ws (i + 1) := by
      show _ = kk * (lagN ws i + i * fP ws i)
      rw [Int.mul_add, Int.mul_left_comm]
    rw [← hf] at hci
    conv => whnf
    refine ⟨by omega, eI (kk * fP ws i), by rw [Int.toNat_natCast, List.getElem?_map, hoi]; rfl, rfl, ?_⟩
    conv => whnf
    refine ⟨by omega, eI (fP ws i), by rw [Int.toNat_natCast, List.getElem?_map, hci]; rfl, rfl, ?_⟩
    conv => whnf
    rw [show IntKind.i64.wrap (kk * fP ws i) = kk * fP ws i from wrap_in (by omega) (by omega)]
    refine Fork.mk (fun h => (by simp at h)) (fun h => ?_)
    clear h
    conv => whnf
    rw [show IntKind.i64.wrap ((i : Int) * (kk * fP ws i)) = i * (kk * fP ws i) from wrap_in (by omega) (by omega), show IntKind.i64.wrap (kk * lagN ws i + i * (kk * fP ws i)) = kk * lagN ws i + i * (kk * fP ws i) from wrap_in (by omega) (by omega), hw1, hsum]
    refine ⟨i + 1, hi, Shift.reset ⟨rfl, rfl, rfl, rfl, rfl, rfl, rfl, trivial⟩ ⟨rfl, trivial⟩ rfl rfl, ?_⟩
    show ws.length - (i + 1) < ws.length - i
    omega
  · have hie : i = ws.length := by simp at h; omega
    subst hie
    conv => whnf
    rw [show IntKind.i64.wrap (kk * lagN ws ws.length) = kk * lagN ws ws.length from wrap_in (by omega) (by omega)]
    refine Fork.mk (fun h => ?_) (fun h => (by simp at h))
    conv => whnf
    exact hk
end Go.Proofs
