/- Proved here: what functions of the given program come to, for the statements of this chapter; no condition but those in the theorems. -/
import Derived.Test.YtdibnpagbafadaaH07
namespace Go.Proofs
open Go Go.Abs
set_option linter.unusedSimpArgs false
set_option linter.unusedVariables false
set_option maxRecDepth 4000
theorem rckRd_ok : FunR Try.prog 25 R_ckRd := by
  intro args k h
  unfold R_ckRd at h
  split at h
  case h_2 => exact h.elim
  rename_i g t v f
  refine does_ex (qc := qc1) (np := []) (CK := ckK [(29, cSc R_within)]) mixed Try.func25 rfl rfl Try.ntmps25 Try.results25 τ_ok (by kernel_rfl) (ckK_ok ⟨cSc_ok rIn_ok, trivial⟩) (by simp) ?_
  conv => whnf
  refine Fork.mk (fun h1 => ?_) (fun h1 => ?_)
  · have e : inB 0 255 g = false := by simp [inB] at h1 ⊢; omega
    rw [show ckRd ⟨g, t, v, f⟩ = 1 by unfold ckRd; rw [if_pos e]] at h
    conv => whnf
    exact h
  have e1 : ¬ inB 0 255 g = false := by simp [inB] at h1 ⊢; omega
  conv => whnf
  refine Fork.mk (fun h1 => ?_) (fun h1 => ?_)
  · have e : inB 0 16777216 t = false := by simp [inB] at h1 ⊢; omega
    rw [show ckRd ⟨g, t, v, f⟩ = 6 by unfold ckRd; rw [if_neg e1, if_pos e]] at h
    conv => whnf
    exact h
  have e2 : ¬ inB 0 16777216 t = false := by simp [inB] at h1 ⊢; omega
  conv => whnf
  refine Fork.mk (fun h1 => ?_) (fun h1 => ?_)
  · have e : inB 0 1073741824 v = false := by simp [inB] at h1 ⊢; omega
    rw [show ckRd ⟨g, t, v, f⟩ = 1 by unfold ckRd; rw [if_neg e1, if_neg e2, if_pos e]] at h
    conv => whnf
    exact h
  have e3 : ¬ inB 0 1073741824 v = false := by simp [inB] at h1 ⊢; omega
  conv => whnf
  refine Fork.mk (fun h1 => ?_) (fun h1 => ?_)
  · have e : inB 0 2 f = false := by simp [inB] at h1 ⊢; omega
    rw [show ckRd ⟨g, t, v, f⟩ = 5 by unfold ckRd; rw [if_neg e1, if_neg e2, if_neg e3, if_pos e]] at h
    conv => whnf
    exact h
  have e4 : ¬ inB 0 2 f = false := by simp [inB] at h1 ⊢; omega
  rw [show ckRd ⟨g, t, v, f⟩ = 0 by unfold ckRd; rw [if_neg e1, if_neg e2, if_neg e3, if_neg e4]] at h
  conv => whnf
  exact h
theorem rckAll_ok : FunR Try.prog 16 R_ckAll := by
  intro args k h
  unfold R_ckAll at h
  split at h
  case h_2 => exact h.elim
  obtain ⟨l, rfl, hl, hk⟩ := h
  have hm : (eR l).length = l.length := List.length_map _
  refine does_ex (qc := qc1) (np := []) (CK := ckK [(25, cSc R_ckRd)]) mixed Try.func16 rfl rfl Try.ntmps16 Try.results16 τ_ok (by kernel_rfl) (ckK_ok ⟨cSc_ok rckRd_ok, trivial⟩) (by simp) ?_
  conv => whnf
  refine ⟨Nat, fun i => ([(0, .c (.lst (eR l))), (2, I 0), (6, .c (.lst (eR l))), (7, I (eR l).length), (8, I i)], ⟨[], 5, []⟩), fun i => i ≤ l.length ∧ ckAll l = ckAll (l.drop i), fun i => l.length - i, 0, ⟨Nat.zero_le _, rfl⟩,
    Shift.reset ⟨rfl, rfl, rfl, rfl, rfl, trivial⟩ trivial rfl rfl, fun i hi => ?_⟩
  obtain ⟨hi1, hi2⟩ := hi
  dsimp only
  conv => whnf
  refine Fork.mk (fun h => ?_) (fun h => ?_)
  · have hi : i < l.length := by simp at h; omega
    have hci := List.getElem?_eq_getElem hi
    generalize l[i] = r at hci
    rw [drop_of hci] at hi2
    have hw1 := wr_succ (i := i) (by omega)
    conv => whnf
    refine ⟨by omega, rdC r, by rw [Int.toNat_natCast]; exact eR_at l hci, rfl, ?_⟩
    conv => whnf
    refine Fork.mk (fun h => ?_) (fun h => ?_)
    · have h1 : ckRd r ≠ 0 := by simpa using h
      rw [hi2, show ckAll (r :: l.drop (i + 1)) = ckRd r from if_pos h1] at hk
      conv => whnf
      exact hk
    have h1 : ¬ ckRd r ≠ 0 := by simpa using h
    conv => whnf
    rw [hw1]
    refine ⟨i + 1, ⟨hi, by rw [hi2]; exact if_neg h1⟩, Shift.reset ⟨rfl, rfl, rfl, rfl, rfl, trivial⟩ trivial rfl rfl, ?_⟩
    show l.length - (i + 1) < l.length - i
    omega
  · have hie : i = l.length := by simp at h; omega
    subst hie
    rw [hi2, List.drop_length] at hk
    conv => whnf
    exact hk
theorem stagelaw_ok : FunR Try.prog 6 (R_law1 1) := by
  intro args k h
  unfold R_law1 at h
  split at h
  case h_2 => exact h.elim
  obtain ⟨⟨l, rfl, hl⟩, ⟨xs, rfl, hx⟩, hk⟩ := h
  obtain ⟨vv, rfl⟩ : ∃ a, xs = [a] := by
    match xs, hx with
    | [a], _ => exact ⟨a, rfl⟩
  refine does_ex (qc := qc1) (np := []) (CK := ckK [(8, cN R_new), (7, cB R_rating), (9, cSc R_mod), (13, cSc R_stage), (10, cSc R_flow1), (15, cPu R_flowsV), (14, cB R_readings), (16, cSc R_ckAll), (11, cSc R_true)]) mixed Try.func6 rfl rfl Try.ntmps6 Try.results6 τ_ok (by kernel_rfl) (ckK_ok ⟨cN_ok new_ok rfl, cB_ok mkrating_ok rfl, cSc_ok mod_ok, cSc_ok stage_ok, cSc_ok flow1_ok, cPu_ok flowsV_ok rfl, cB_ok readings_ok rfl, cSc_ok rckAll_ok, cSc_ok awake_ok, trivial⟩) (by simp) ?_
  conv => whnf
  refine ⟨l, rfl, ?_⟩
  conv => whnf
  refine ⟨⟨l, 0⟩, rfl, ⟨Nat.zero_le _, hl⟩, fun p r ice d hd hp1 hp2 hr hch hi => ?_⟩
  obtain ⟨hc, hin⟩ := rating_ok' hp1 hp2 hr hch
  have hend := endP_at p r
  have hcr : (p :: r).length = r.length + 1 := rfl
  have hrk := rkR_of hc hi.1 (show ice ≤ 16777216 by omega)
  have hcl : (eP (p :: r)).length = r.length + 1 := by simp
  have hw2 : IntKind.i64.wrap (((eP (p :: r)).length : Int) - 1) = (r.length : Int) := by rw [hcl, wrap_in (by omega) (by omega)]; omega
  conv => whnf
  refine ⟨by decide, ?_⟩
  have hv : 0 ≤ vv % 400 ∧ vv % 400 < 400 := by omega
  generalize vv % 400 = n at *
  conv => whnf
  obtain ⟨f0, f1, f2⟩ := first_ok hc n
  have hst : stageV (p :: r) ice n = firstV (p :: r) n := by unfold stageV; rw [if_neg (by rw [hrk]; simp), if_neg (by simp [inB]; omega)]
  refine ⟨p :: r, rfl, by omega, ?_⟩
  rw [hst]
  have hE := hin _ (List.mem_of_getElem? hend)
  generalize firstV (p :: r) n = st at *
  obtain ⟨s, ok, e⟩ := st
  dsimp only at f0 f1 f2
  subst f0
  conv => whnf
  refine ⟨by omega, ePt p, rfl, rfl, ?_⟩
  conv => whnf
  refine fork_f ?_
  conv => whnf
  rw [hw2]
  refine ⟨by omega, ePt (endP p r), by rw [Int.toNat_natCast]; exact eP_at _ hend, rfl, ?_⟩
  conv => whnf
  refine Fork.mk (fun h => absurd h (by subst f1; simp)) (fun h => ?_)
  clear h
  have hrd : ∀ v, 0 ≤ v → v ≤ 1000 → ckRd ⟨0, 0, v, 0⟩ = 0 := fun v h1 h2 => ckRd_of (by omega) (by omega) (by omega) (by omega)
  have hpx := hin p (by simp)
  conv => whnf
  refine Fork.mk (fun h => ?_) (fun h => ?_)
  · have hok : ok = true := h
    subst hok
    obtain ⟨⟨g1, g2⟩, g3, g4⟩ := f2 rfl
    clear h
    conv => whnf
    refine ⟨p :: r, rfl, by omega, ?_⟩
    rw [flow1_good hrk (hrd s (by omega) (by omega)), show flowV (p :: r) ice ⟨0, 0, s, 0⟩ = (valC (p :: r) s, true) by unfold flowV tAt; dsimp only; rw [if_neg (by omega), if_neg (by omega), if_neg (by omega)]]
    conv => whnf
    refine fork_f ?_
    conv => whnf
    refine Fork.mk (fun h => (by simp at h; omega)) (fun h => ?_)
    clear h
    conv => whnf
    refine Fork.mk (fun h => (by simp at h; omega)) (fun h => ?_)
    clear h
    conv => whnf
    rw [show IntKind.i64.wrap (s - 1) = s - 1 from wrap_in (by omega) (by omega)]
    refine ⟨p :: r, rfl, by omega, ?_⟩
    have hsp : p.1 < s → flow1 (p :: r) ice ⟨0, 0, s - 1, 0⟩ = (valC (p :: r) (s - 1), true, 0) := fun g => by
      rw [flow1_good hrk (hrd (s - 1) (by omega) (by omega)), show flowV (p :: r) ice ⟨0, 0, s - 1, 0⟩ = (valC (p :: r) (s - 1), true) by unfold flowV tAt; dsimp only; rw [if_neg (by omega), if_neg (by omega), if_neg (by omega)]]
    generalize flow1 (p :: r) ice ⟨0, 0, s - 1, 0⟩ = fl at *
    obtain ⟨fa, fb, fe⟩ := fl
    conv => whnf
    refine Fork.mk (fun h => ?_) (fun h => ?_)
    · have hs : p.1 < s := by simpa using h
      have e := hsp hs
      simp only [Prod.mk.injEq] at e
      obtain ⟨rfl, rfl, rfl⟩ := e
      have := g4 hs
      clear h
      conv => whnf
      refine fork_f ?_
      conv => whnf
      refine Fork.mk (fun h => (by simp at h; omega)) (fun h => ?_)
      clear h
      conv => whnf
      refine ⟨d, rfl, hd, by omega, fun rl d hd hrl hrr => ?_⟩
      have hal := ckAll_of hrr
      have hrl : rl.length ≤ 8 := hrl
      conv => whnf
      refine ⟨p :: r, rl, rfl, rfl, by omega, by omega, ?_⟩
      rw [flowsV_good hrk hal]
      conv => whnf
      refine fork_f ?_
      conv => whnf
      refine Fork.mk (fun h => (by simp at h)) (fun h => ?_)
      clear h
      conv => whnf
      refine Fork.mk (fun h => (by simp at h)) (fun h => ?_)
      clear h
      conv => whnf
      refine ⟨rl, rfl, by omega, ?_⟩
      rw [hal]
      conv => whnf
      refine fork_f ?_
      conv => whnf
      refine ⟨Nat, fun i => ([(6, .c (.ptr (.l 6 9) 0)), (18, .c (.lst (eR rl))), (19, .c (.lst (eL (rl.map fun g => (flowV (p :: r) ice g).1)))), (20, .c (.lst (eB (rl.map fun g => (flowV (p :: r) ice g).2)))), (134, .c (.lst (eR rl))), (135, I (eR rl).length), (136, I i)],
          ⟨[(.l 6 9, .blk [.lst (eP (p :: r)), IC ice])], 20, []⟩), fun i => i ≤ rl.length, fun i => rl.length - i, 0, Nat.zero_le _,
        ?_, fun i hi => ?_⟩
      · exact Shift.rename [(.l 6 9, .l 6 1)] ⟨rfl, rfl, rfl, rfl, rfl, rfl, rfl, trivial⟩ ⟨rfl, trivial⟩ rfl rfl rfl
      dsimp only at hi ⊢
      conv => whnf
      refine Fork.mk (fun h => ?_) (fun h => ?_)
      · have hi : i < rl.length := by simp at h; omega
        have hci := List.getElem?_eq_getElem hi
        have hmem := hrr _ (List.getElem_mem hi)
        generalize rl[i] = g at hci hmem
        have hw1 := wr_succ (i := i) (by omega)
        have e1 : (eL (rl.map fun g => (flowV (p :: r) ice g).1))[((i : Int)).toNat]? = some (eI (flowV (p :: r) ice g).1) := by rw [Int.toNat_natCast, List.getElem?_map, List.getElem?_map, hci]; rfl
        have e2 : (eB (rl.map fun g => (flowV (p :: r) ice g).2))[((i : Int)).toNat]? = some [BC (flowV (p :: r) ice g).2] := by rw [Int.toNat_natCast, List.getElem?_map, List.getElem?_map, hci]; rfl
        conv => whnf
        refine ⟨by omega, rdC g, by rw [Int.toNat_natCast]; exact eR_at rl hci, rfl, ?_⟩
        conv => whnf
        refine ⟨p :: r, rfl, by omega, ?_⟩
        rw [show flow1 (p :: r) ice ⟨g.g, g.t, g.v, g.f⟩ = ((flowV (p :: r) ice g).1, (flowV (p :: r) ice g).2, 0) from flow1_good hrk hmem]
        generalize flowV (p :: r) ice g = fg at *
        obtain ⟨fa, fb⟩ := fg
        dsimp only at e1 e2
        conv => whnf
        refine fork_f ?_
        conv => whnf
        refine ⟨by omega, _, e1, rfl, ?_⟩
        conv => whnf
        refine Fork.mk (fun h => (by simp at h)) (fun h => ?_)
        conv => whnf
        refine ⟨by omega, _, e2, rfl, ?_⟩
        conv => whnf
        refine Fork.mk (fun h => (by simp at h)) (fun h => ?_)
        conv => whnf
        rw [hw1]
        refine ⟨i + 1, hi, Shift.reset ⟨rfl, rfl, rfl, rfl, rfl, rfl, rfl, trivial⟩ ⟨rfl, trivial⟩ rfl rfl, ?_⟩
        show rl.length - (i + 1) < rl.length - i
        omega
      · conv => whnf
        exact hk
    clear h
    conv => whnf
    refine fork_f ?_
    conv => whnf
    refine ⟨d, rfl, hd, by omega, fun rl d hd hrl hrr => ?_⟩
    have hal := ckAll_of hrr
    have hrl : rl.length ≤ 8 := hrl
    conv => whnf
    refine ⟨p :: r, rl, rfl, rfl, by omega, by omega, ?_⟩
    rw [flowsV_good hrk hal]
    conv => whnf
    refine fork_f ?_
    conv => whnf
    refine Fork.mk (fun h => (by simp at h)) (fun h => ?_)
    clear h
    conv => whnf
    refine Fork.mk (fun h => (by simp at h)) (fun h => ?_)
    clear h
    conv => whnf
    refine ⟨rl, rfl, by omega, ?_⟩
    rw [hal]
    conv => whnf
    refine fork_f ?_
    conv => whnf
    refine ⟨Nat, fun i => ([(6, .c (.ptr (.l 6 9) 0)), (18, .c (.lst (eR rl))), (19, .c (.lst (eL (rl.map fun g => (flowV (p :: r) ice g).1)))), (20, .c (.lst (eB (rl.map fun g => (flowV (p :: r) ice g).2)))), (134, .c (.lst (eR rl))), (135, I (eR rl).length), (136, I i)],
        ⟨[(.l 6 9, .blk [.lst (eP (p :: r)), IC ice])], 20, []⟩), fun i => i ≤ rl.length, fun i => rl.length - i, 0, Nat.zero_le _,
      ?_, fun i hi => ?_⟩
    · exact Shift.rename [(.l 6 9, .l 6 1)] ⟨rfl, rfl, rfl, rfl, rfl, rfl, rfl, trivial⟩ ⟨rfl, trivial⟩ rfl rfl rfl
    dsimp only at hi ⊢
    conv => whnf
    refine Fork.mk (fun h => ?_) (fun h => ?_)
    · have hi : i < rl.length := by simp at h; omega
      have hci := List.getElem?_eq_getElem hi
      have hmem := hrr _ (List.getElem_mem hi)
      generalize rl[i] = g at hci hmem
      have hw1 := wr_succ (i := i) (by omega)
      have e1 : (eL (rl.map fun g => (flowV (p :: r) ice g).1))[((i : Int)).toNat]? = some (eI (flowV (p :: r) ice g).1) := by rw [Int.toNat_natCast, List.getElem?_map, List.getElem?_map, hci]; rfl
      have e2 : (eB (rl.map fun g => (flowV (p :: r) ice g).2))[((i : Int)).toNat]? = some [BC (flowV (p :: r) ice g).2] := by rw [Int.toNat_natCast, List.getElem?_map, List.getElem?_map, hci]; rfl
      conv => whnf
      refine ⟨by omega, rdC g, by rw [Int.toNat_natCast]; exact eR_at rl hci, rfl, ?_⟩
      conv => whnf
      refine ⟨p :: r, rfl, by omega, ?_⟩
      rw [show flow1 (p :: r) ice ⟨g.g, g.t, g.v, g.f⟩ = ((flowV (p :: r) ice g).1, (flowV (p :: r) ice g).2, 0) from flow1_good hrk hmem]
      generalize flowV (p :: r) ice g = fg at *
      obtain ⟨fa, fb⟩ := fg
      dsimp only at e1 e2
      conv => whnf
      refine fork_f ?_
      conv => whnf
      refine ⟨by omega, _, e1, rfl, ?_⟩
      conv => whnf
      refine Fork.mk (fun h => (by simp at h)) (fun h => ?_)
      conv => whnf
      refine ⟨by omega, _, e2, rfl, ?_⟩
      conv => whnf
      refine Fork.mk (fun h => (by simp at h)) (fun h => ?_)
      conv => whnf
      rw [hw1]
      refine ⟨i + 1, hi, Shift.reset ⟨rfl, rfl, rfl, rfl, rfl, rfl, rfl, trivial⟩ ⟨rfl, trivial⟩ rfl rfl, ?_⟩
      show rl.length - (i + 1) < rl.length - i
      omega
    · conv => whnf
      exact hk
  clear h
  conv => whnf
  refine ⟨d, rfl, hd, by omega, fun rl d hd hrl hrr => ?_⟩
  have hal := ckAll_of hrr
  have hrl : rl.length ≤ 8 := hrl
  conv => whnf
  refine ⟨p :: r, rl, rfl, rfl, by omega, by omega, ?_⟩
  rw [flowsV_good hrk hal]
  conv => whnf
  refine fork_f ?_
  conv => whnf
  refine Fork.mk (fun h => (by simp at h)) (fun h => ?_)
  clear h
  conv => whnf
  refine Fork.mk (fun h => (by simp at h)) (fun h => ?_)
  clear h
  conv => whnf
  refine ⟨rl, rfl, by omega, ?_⟩
  rw [hal]
  conv => whnf
  refine fork_f ?_
  conv => whnf
  refine ⟨Nat, fun i => ([(6, .c (.ptr (.l 6 9) 0)), (18, .c (.lst (eR rl))), (19, .c (.lst (eL (rl.map fun g => (flowV (p :: r) ice g).1)))), (20, .c (.lst (eB (rl.map fun g => (flowV (p :: r) ice g).2)))), (134, .c (.lst (eR rl))), (135, I (eR rl).length), (136, I i)],
      ⟨[(.l 6 9, .blk [.lst (eP (p :: r)), IC ice])], 20, []⟩), fun i => i ≤ rl.length, fun i => rl.length - i, 0, Nat.zero_le _,
    ?_, fun i hi => ?_⟩
  · exact Shift.rename [(.l 6 9, .l 6 1)] ⟨rfl, rfl, rfl, rfl, rfl, rfl, rfl, trivial⟩ ⟨rfl, trivial⟩ rfl rfl rfl
  dsimp only at hi ⊢
  conv => whnf
  refine Fork.mk (fun h => ?_) (fun h => ?_)
  · have hi : i < rl.length := by simp at h; omega
    have hci := List.getElem?_eq_getElem hi
    have hmem := hrr _ (List.getElem_mem hi)
    generalize rl[i] = g at hci hmem
    have hw1 := wr_succ (i := i) (by omega)
    have e1 : (eL (rl.map fun g => (flowV (p :: r) ice g).1))[((i : Int)).toNat]? = some (eI (flowV (p :: r) ice g).1) := by rw [Int.toNat_natCast, List.getElem?_map, List.getElem?_map, hci]; rfl
    have e2 : (eB (rl.map fun g => (flowV (p :: r) ice g).2))[((i : Int)).toNat]? = some [BC (flowV (p :: r) ice g).2] := by rw [Int.toNat_natCast, List.getElem?_map, List.getElem?_map, hci]; rfl
    conv => whnf
    refine ⟨by omega, rdC g, by rw [Int.toNat_natCast]; exact eR_at rl hci, rfl, ?_⟩
    conv => whnf
    refine ⟨p :: r, rfl, by omega, ?_⟩
    rw [show flow1 (p :: r) ice ⟨g.g, g.t, g.v, g.f⟩ = ((flowV (p :: r) ice g).1, (flowV (p :: r) ice g).2, 0) from flow1_good hrk hmem]
    generalize flowV (p :: r) ice g = fg at *
    obtain ⟨fa, fb⟩ := fg
    dsimp only at e1 e2
    conv => whnf
    refine fork_f ?_
    conv => whnf
    refine ⟨by omega, _, e1, rfl, ?_⟩
    conv => whnf
    refine Fork.mk (fun h => (by simp at h)) (fun h => ?_)
    conv => whnf
    refine ⟨by omega, _, e2, rfl, ?_⟩
    conv => whnf
    refine Fork.mk (fun h => (by simp at h)) (fun h => ?_)
    conv => whnf
    rw [hw1]
    refine ⟨i + 1, hi, Shift.reset ⟨rfl, rfl, rfl, rfl, rfl, rfl, rfl, trivial⟩ ⟨rfl, trivial⟩ rfl rfl, ?_⟩
    show rl.length - (i + 1) < rl.length - i
    omega
  · conv => whnf
    exact hk
end Go.Proofs
