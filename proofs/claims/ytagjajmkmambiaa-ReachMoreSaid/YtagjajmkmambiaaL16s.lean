/- ReachMore: the walk. -/
import Derived.Test.YtagjajmkmambiaaL16q
import Derived.Test.YtagjajmkmambiaaL16r
set_option maxRecDepth 4000
namespace Go.Proofs
open Go Go.Abs
theorem wr0 : IntKind.i64.wrap 0 = 0 := wr00
theorem more_ok : FunR Try.prog 4 (R_law1 3) := by
  intro args k h
  unfold R_law1 at h
  split at h
  case h_2 => exact h.elim
  obtain ⟨⟨l, rfl, hl⟩, ⟨xs, rfl, hx⟩, hk⟩ := h
  obtain ⟨at_, by_, ct, rfl⟩ : ∃ a b c, xs = [a, b, c] := by
    match xs, hx with
    | [a, b, c], _ => exact ⟨a, b, c, rfl⟩
  refine does_ex (qc := qc1) (np := [(10, [(0, 10), (1, 10), (4, 10), (5, 10)]), (11, [(0, 10), (1, 10), (4, 10), (5, 10)])]) (CK := ckK [(10, cN R_new), (11, cB R_reach), (12, cB R_wave), (17, cB R_flows), (18, cSc R_mod), (13, cPu R_run), (15, cSc R_wsame), (19, cSc R_same), (16, cSc R_true)]) mixed Try.func4 rfl rfl Try.ntmps4 Try.results4 τ_ok (by kernel_rfl) (ckK_ok ⟨cN_ok new_ok rfl, cB_ok reach_ok rfl, cB_ok wave_ok rfl, cB_ok flows_ok rfl, cSc_ok mod_ok, cPu_ok run_ok rfl, cSc_ok wsame_ok, cSc_ok same_ok, cSc_ok awake_ok, trivial⟩) (by simp) ?_
  conv => whnf
  refine ⟨l, rfl, ?_⟩
  conv => whnf
  refine ⟨⟨l, 0⟩, rfl, ⟨Nat.zero_le _, hl⟩, fun ws den d hd hr hw5 hw => ?_⟩
  conv => whnf
  refine ⟨d, ws, rfl, rfl, hd, hr, fun ps d hd hf hs => ?_⟩
  obtain ⟨a1, a2, _, a4, a5, a6, _⟩ := rk_facts hr
  obtain ⟨b1, _, b3, _⟩ := fits_facts hf
  conv => whnf
  refine ⟨d, 10, rfl, hd, rfl, by omega, by omega, fun qs d hd hq10 hq => ?_⟩
  have hmq : (eL qs).length = 10 := (eL_len qs).trans hq10
  conv => whnf
  refine ⟨eL_all _, by rw [hmq]; decide, ?_⟩
  conv => whnf
  rw [hmq]
  refine ⟨by omega, ?_⟩
  conv => whnf
  have hj0 : 0 ≤ at_ % ((10 : Nat) : Int) ∧ at_ % ((10 : Nat) : Int) < 10 := by omega
  generalize at_ % ((10 : Nat) : Int) = jz at *
  obtain ⟨j, rfl⟩ := Int.eq_ofNat_of_zero_le hj0.1
  have hj : j < qs.length := by omega
  refine ⟨by omega, rfl, ?_⟩
  conv => whnf
  refine ⟨eI qs[j], map_at0 eI qs hj, ?_⟩
  conv => whnf
  refine ⟨by decide, ?_⟩
  conv => whnf
  have hy1 : 0 ≤ by_ % 20 := by omega
  have hy2 : by_ % 20 < 20 := by omega
  generalize by_ % 20 = y at *
  have hqj := hq _ (List.getElem_mem hj)
  have hk0 : 0 ≤ ct % 11 ∧ ct % 11 < 11 := by omega
  obtain ⟨kk, hkk⟩ := Int.eq_ofNat_of_zero_le hk0.1
  obtain ⟨x, p, x', q, z, u, v, e1, e2, e3, e4, e5, e6, e7, e8, e9, e10, e11, e12, e13, e14⟩ := more_law hr hf hs hq hq10 hj hy1 hy2 (k := kk) (by omega)
  rw [wrap_in (z := qs[j] + y) (by omega) (by omega)]
  refine ⟨by omega, rfl, ?_⟩
  conv => whnf
  refine ⟨eI qs[j], map_at0 eI qs hj, by show 0 + 1 ≤ 1; omega, ?_⟩
  conv => whnf
  refine ⟨ws, ps, qs, rfl, rfl, rfl, by omega, by omega, by omega, ?_⟩
  rw [e1]
  conv => whnf
  have hset : (eL qs).set (0 + (j : Int).toNat) [nrm (Value.int IntKind.i64 (qs[j] + y))] = eL (qs.set j (qs[j] + y)) := by
    rw [Nat.zero_add, Int.toNat_natCast, show [nrm (Value.int IntKind.i64 (qs[j] + y))] = eI (qs[j] + y) from rfl, eL_set]
  rw [hset]
  have hbl : (eL (qs.set j (qs[j] + y))).length = 10 := by rw [eL_len, List.length_set, hq10]
  refine ⟨by omega, ?_⟩
  conv => whnf
  rw [List.drop_zero, List.take_of_length_le (by omega)]
  refine ⟨ws, ps, qs.set j (qs[j] + y), rfl, rfl, rfl, by omega, by omega, by rw [List.length_set]; omega, ?_⟩
  rw [e2]
  conv => whnf
  rw [hmq]
  refine ⟨by decide, ?_⟩
  conv => whnf
  rw [show ct % (IntKind.i64.wrap (((10 : Nat) : Int) + 1)) = (kk : Int) from hkk]
  rw [hmq]
  refine ⟨by omega, ?_⟩
  conv => whnf
  refine ⟨eL_all _, ?_⟩
  conv => whnf
  have hsl1 : List.drop (((0 : Nat) : Int).toNat) (List.take ((kk : Nat) : Int).toNat (eL qs)) = eL (qs.take kk) := by
    rw [Int.toNat_natCast, eL_take]; rfl
  rw [hsl1]
  refine ⟨ws, ps, qs.take kk, rfl, rfl, rfl, by omega, by omega, by rw [List.length_take]; omega, ?_⟩
  rw [e3]
  conv => whnf
  rw [hmq]
  refine ⟨by omega, ?_⟩
  conv => whnf
  refine ⟨eL_all _, ?_⟩
  conv => whnf
  have hsl2 : List.drop ((kk : Nat) : Int).toNat (List.take (((10 : Nat) : Int)).toNat (eL qs)) = eL (qs.drop kk) := by
    rw [Int.toNat_natCast, Int.toNat_natCast, List.take_of_length_le (by omega), eL_drop]
  rw [hsl2]
  refine ⟨ws, z, qs.drop kk, rfl, rfl, rfl, by omega, by omega, by rw [List.length_drop]; omega, ?_⟩
  rw [e4]
  conv => whnf
  refine Fork.mk (fun h => (by simp [wr0] at h)) (fun h => ?_)
  conv => whnf
  have hlp : (eL p).length = 10 := (eL_len p).trans e6
  have hlq : (eL q).length = 10 := (eL_len q).trans e7
  refine Fork.mk (fun h => (by simp [e6, hmq] at h)) (fun h => ?_)
  conv => whnf
  refine Fork.mk (fun h => (by simp [e7, hmq] at h)) (fun h => ?_)
  conv => whnf
  refine ⟨x, x, rfl, rfl, by omega, ?_⟩
  conv => whnf
  refine Fork.mk (fun h => (by simp at h)) (fun h => ?_)
  conv => whnf
  have hlu := eL_len u
  have hlv := eL_len v
  refine ⟨eL_all _, by show (eL u).length * 8 ≤ _; omega, ?_⟩
  conv => whnf
  refine ⟨eL_all _, ⟨rfl, rfl, rfl, rfl, by show ((eL u).length + (eL v).length) * 8 ≤ _; omega⟩, ?_⟩
  conv => whnf
  refine ⟨by show 0 + ((eL u).length + (eL v).length) ≤ (eL u ++ eL v).length; rw [List.length_append]; omega, ?_⟩
  conv => whnf
  have hcat : List.take ((eL (z, u, (0 : Int)).2.1).length + (eL (x, v, (0 : Int)).2.1).length) (List.drop 0 (eL (z, u, (0 : Int)).2.1 ++ eL (x, v, (0 : Int)).2.1)) = eL (u ++ v) := by
    show List.take ((eL u).length + (eL v).length) (List.drop 0 (eL u ++ eL v)) = _
    rw [List.drop_zero, List.take_of_length_le (by rw [List.length_append]; omega)]
    exact List.map_append.symm
  rw [hcat]
  refine ⟨p, u ++ v, rfl, rfl, by omega, ?_⟩
  rw [e5, decide_eq_true rfl]
  conv => whnf
  refine Fork.mk (fun h => (by simp at h)) (fun h => ?_)
  conv => whnf
  rw [← e5]
  refine ⟨Nat, fun i => ([(8, Bo false), (15, .c (.lst (eL p))), (18, .c (.lst (eL q))), (27, I (p.take i).sum), (28, I (q.take i).sum), (131, I (eL p).length), (132, I i)], ⟨[], 20, []⟩),
    fun i => i ≤ 10, fun i => 10 - i, 0, Nat.zero_le _,
    Shift.reset ⟨rfl, rfl, rfl, rfl, rfl, rfl, rfl, trivial⟩ trivial rfl rfl, fun i hi => ?_⟩
  dsimp only at hi ⊢
  conv => whnf
  refine Fork.mk (fun h => ?_) (fun h => ?_)
  · have hi : i < 10 := by simp at h; omega
    have hip : i < p.length := by omega
    have hiq : i < q.length := by omega
    have hatp := map_at eI p hip
    have hatq := map_at eI q hiq
    have hsp := sum_take hip
    have hsq := sum_take hiq
    have hvp := e8 _ (List.getElem_mem hip)
    have hvq := e9 _ (List.getElem_mem hiq)
    have hpre := prefLe_at e10 (by omega) (by omega) (i + 1) (by omega)
    generalize p[i] = pv at *
    generalize q[i] = qv at *
    have hinp := sum_in (l := p.take i) (a := 300000000) (by omega) (fun y hy => e8 y (List.mem_of_mem_take hy))
    have hinq := sum_in (l := q.take i) (a := 300000000) (by omega) (fun y hy => e9 y (List.mem_of_mem_take hy))
    have hltp : ((p.take i).length : Int) ≤ 10 := by rw [List.length_take]; omega
    have hltq : ((q.take i).length : Int) ≤ 10 := by rw [List.length_take]; omega
    conv => whnf
    refine ⟨by omega, eI pv, hatp, rfl, ?_⟩
    conv => whnf
    refine ⟨by omega, eI qv, hatq, rfl, ?_⟩
    conv => whnf
    rw [show IntKind.i64.wrap ((p.take i).sum + pv) = (p.take (i + 1)).sum by rw [hsp]; exact wrap_in (by omega) (by omega), show IntKind.i64.wrap ((q.take i).sum + qv) = (q.take (i + 1)).sum by rw [hsq]; exact wrap_in (by omega) (by omega)]
    refine Fork.mk (fun h => (by simp at h; omega)) (fun h => ?_)
    conv => whnf
    have hw1 : IntKind.i64.wrap ((i : Int) + 1) = ((i + 1 : Nat) : Int) := by rw [wrap_in (by omega) (by omega)]; omega
    rw [hw1]
    refine ⟨i + 1, hi, Shift.reset ⟨rfl, rfl, rfl, rfl, rfl, rfl, rfl, trivial⟩ trivial rfl rfl, ?_⟩
    show 10 - (i + 1) < 10 - i
    omega
  · conv => whnf
    exact hk
end Go.Proofs
