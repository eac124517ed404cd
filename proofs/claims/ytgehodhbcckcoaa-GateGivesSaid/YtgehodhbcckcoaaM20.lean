/- Proved here: what functions of the given program come to, for the statements of this chapter; no condition but those in the theorems. -/
import Derived.Test.YtgehodhbcckcoaaL20
import Derived.Test.YtgehodhbcckcoaaPGate2
namespace Go.Proofs
open Go Go.Abs
set_option linter.unusedSimpArgs false
set_option linter.unusedVariables false
set_option maxRecDepth 4000
set_option maxHeartbeats 4000000 in
theorem gives_ok : FunR Try.prog 8 (R_law1 1) := by
  intro args k h
  unfold R_law1 at h
  split at h
  case h_2 => exact h.elim
  obtain ⟨⟨l, rfl, hl⟩, ⟨xs, rfl, hx⟩, hk⟩ := h
  obtain ⟨v0, rfl⟩ : ∃ v0, xs = [v0] := by
    match xs, hx with
    | [v0], _ => exact ⟨v0, rfl⟩

  refine does_ex (qc := qc1) (np := [(13, [(2, 12), (3, 12), (6, 12), (7, 12), (8, 12)]), (18, [(2, 12), (3, 12), (6, 12), (7, 12), (8, 12)])]) (CK := ckK [(10, cN R_new), (11, cB R_mkGs), (12, cB R_next), (13, cSc R_mod), (14, cPu R_setS), (27, cSc R_rngS), (25, cSc R_totS), (19, cSc R_rchS), (9, cSc R_tt)]) mixed Try.func8 rfl rfl Try.ntmps8 Try.results8 τ_ok (by kernel_rfl) (ckK_ok ⟨cN_ok new_ok rfl, cB_ok mkGs_ok rfl, cB_ok next_ok rfl, cSc_ok mod_ok, cPu_ok set_ok rfl, cSc_ok rng_ok, cSc_ok tot_ok, cSc_ok Reach_ok, cSc_ok awake_ok, trivial⟩) (by simp) ?_
  conv => whnf
  refine ⟨l, rfl, ?_⟩
  conv => whnf
  refine ⟨⟨l, 0⟩, 4, rfl, rfl, ⟨Nat.zero_le _, hl⟩, by omega, fun gs ss d hd hgl hgs => ?_⟩
  conv => whnf
  refine ⟨d, rfl, hd, by omega, fun v d hd hv1 hv2 => ?_⟩
  conv => whnf
  refine ⟨by omega, ?_⟩
  have e1 : IntKind.i64.wrap (100 + v) = 100 + v := wrap_in (by omega) (by omega)
  have hw0 := Int.emod_nonneg v0 (show (120 : Int) ≠ 0 by omega)
  have hw1 := Int.emod_lt_of_pos v0 (show (0 : Int) < 120 by omega)
  conv => whnf
  rw [e1]
  obtain ⟨w, hw⟩ : ∃ w, v0 % 120 = w := ⟨_, rfl⟩
  obtain ⟨lv, hlv⟩ : ∃ lv, 100 + v = lv := ⟨_, rfl⟩
  rw [hw, hlv]
  replace hw : 0 ≤ w ∧ w ≤ 119 := by omega
  replace hlv : 100 ≤ lv ∧ lv ≤ 219 := by omega
  clear e1 hw0 hw1 hv1 hv2
  have hsl := hgs.l
  have hgf : ∀ g ∈ gs, g.fin := fun g h => (hgs.g g h).fin
  have hA : ∀ g ∈ gs, ckG g = 0 := fun g h => ckG_of (hgs.g g h).ok
  have hb := hgs.s
  have hask := askG_of (by omega) hsl hb hA (show 0 ≤ lv ∧ lv ≤ 16777216 by omega)
  have hfin : fins gs ss := hgs.fins (by omega)
  have F := setF (w := w) (lv := lv) (s := totL gs (losL gs ss) lv) hsl hA hb
  have hSat := fun i g z => @set_at w lv gs ss (totL gs (losL gs ss) lv) i g z
  have hS : setS gs ss lv w = ((setL w lv (totL gs (losL gs ss) lv) gs ss).1, (setL w lv (totL gs (losL gs ss) lv) gs ss).2, 0) := by
    rw [setS, if_neg (by simp [hask]), if_neg (by simp [inB]; omega)]
  have hR : rngS gs ss lv = (totL gs (losL gs ss) lv, totL gs (hisL gs ss) lv, 0) := by rw [rngS, if_neg (by simp [hask])]
  have f1 := F.len
  have f2 := F.bad
  have f3 := F.tot
  have f4 := F.lo
  have f5 := F.hi
  have f6 := F.en
  have f7 := F.fin
  clear F
  have hLH : losL gs ss = hisL gs ss → totL gs (losL gs ss) lv = totL gs (hisL gs ss) lv := fun e => by rw [e]
  generalize totL gs (hisL gs ss) lv = H at hR f5 f6 hLH
  generalize totL gs (losL gs ss) lv = T at *
  generalize hX : (setL w lv T gs ss).1 = X at *
  generalize hQ : (setL w lv T gs ss).2 = Q at *
  have hXm := eS_len X
  have hm := eG_len gs
  have hn := eS_len ss
  have haskX := askG_of (by omega) (show gs.length = X.length by omega) f2 hA (show 0 ≤ lv ∧ lv ≤ 16777216 by omega)
  have hTot : totS gs X lv = (Q, 0) := by rw [totS, if_neg (by simp [haskX]), f3]; exact Prod.ext (by dsimp only; omega) rfl
  refine ⟨gs, ss, lv, w, rfl, hfin, ?_⟩
  rw [show (setS gs ss lv w).1 = X by rw [hS], show (setS gs ss lv w).2.1 = Q by rw [hS], show (setS gs ss lv w).2.2 = 0 by rw [hS]]
  conv => whnf
  refine ⟨gs, ss, lv, rfl, hfin, ?_⟩
  rw [show (rngS gs ss lv).1 = T by rw [hR], show (rngS gs ss lv).2.1 = H by rw [hR], show (rngS gs ss lv).2.2 = 0 by rw [hR]]
  conv => whnf
  refine ⟨gs, X, lv, rfl, ⟨by omega, by omega, hgf⟩, ?_⟩
  rw [show (totS gs X lv).1 = Q by rw [hTot], show (totS gs X lv).2 = 0 by rw [hTot]]
  conv => whnf
  (repeat (refine fork_f ?_; (conv => whnf)))
  (refine Fork.mk (fun h => ?_) (fun h => ?_); focus (exfalso; simp at h))
  clear h
  conv => whnf
  (refine Fork.mk (fun h => ?_) (fun h => ?_); focus (exfalso; simp at h <;> omega)); clear h; (conv => whnf)
  (refine Fork.mk (fun h => ?_) (fun h => ?_); focus (exfalso; simp at h <;> omega)); clear h; (conv => whnf)
  (refine Fork.mk (fun h => ?_) (fun h => ?_); focus (exfalso; simp at h <;> omega)); clear h; (conv => whnf)
  (refine Fork.mk (fun h => ?_) (fun h => ?_); focus (exfalso; simp at h <;> omega)); clear h; (conv => whnf)
  refine ⟨Nat × Option Nat, fun s => ([(6, .c (.lst (eG gs))), (7, .c (.lst (eS ss))), (8, I lv), (9, I w), (10, .c (.lst (eS X))), (11, I Q), (13, .c (.ptr (.l 13 1) 0)), (17, I (lstV s.2)), (100, I (eG gs).length), (101, I s.1)], ⟨[(.l 13 1, .blk [IC T, IC H])], 20, []⟩),
    fun s => s.1 ≤ gs.length ∧ lastI w lv T gs ss s.1 s.2, fun s => gs.length - s.1, (0, none), ⟨Nat.zero_le _, ⟨fun m e => by (cases e), fun j hj => by omega⟩⟩, Shift.reset ⟨rfl, rfl, rfl, rfl, rfl, rfl, rfl, rfl, rfl, rfl, trivial⟩ ⟨rfl, trivial⟩ rfl rfl, fun s hi => ?_⟩
  obtain ⟨i, la⟩ := s
  obtain ⟨hi1, hi2⟩ := hi
  dsimp only at hi1 hi2 ⊢
  conv => whnf
  refine Fork.mk (fun h => ?_) (fun h => ?_)
  · have hi : i < gs.length := by simp at h; omega
    clear h
    have hci := List.getElem?_eq_getElem hi
    have hcf := hA _ (List.getElem_mem hi)
    have hcn := hgf _ (List.getElem_mem hi)
    have hdi := List.getElem?_eq_getElem (show i < ss.length by omega)
    generalize gs[i] = g at hci hcf hcn
    generalize ss[i] = z at hdi
    have hz := badS_at hb hci hdi
    have hxi := (hSat i g z hci hdi).1
    have hrc := rch_in hcf hz
    have hin := opO_in (c := atG g lv) (w := w) (s := sAt w lv T gs ss i) hrc.1.2
    have hst := fun h => hi2.step hsl hA hb hci hdi h
    have hsk := fun h => hi2.skip hci hdi h
    have hq : rchS g z = ((rch g z).1, (rch g z).2, 0) := by rw [rchS, if_neg (by simp [hz]), if_neg (by simp [hcf])]
    generalize opO (atG g lv) w (sAt w lv T gs ss i) (rch g z).1 (rch g z).2 = o at *
    have hw1 := wr_succ (i := i) (by omega)
    conv => whnf
    refine ⟨by omega, gtC g, by rw [Int.toNat_natCast, List.getElem?_map, hci]; rfl, rfl, ?_⟩
    conv => whnf
    refine ⟨by omega, gsC z, by rw [Int.toNat_natCast, List.getElem?_map, hdi]; rfl, rfl, ?_⟩
    conv => whnf
    refine ⟨g, z, rfl, hcn, ?_⟩
    rw [show (rchS g z).1 = (rch g z).1 by rw [hq], show (rchS g z).2.1 = (rch g z).2 by rw [hq], show (rchS g z).2.2 = 0 by rw [hq]]
    conv => whnf
    refine fork_f ?_
    conv => whnf
    refine ⟨by omega, gsC ⟨o, z.jm⟩, by rw [Int.toNat_natCast, List.getElem?_map, hxi]; rfl, rfl, ?_⟩
    conv => whnf
    (refine Fork.mk (fun h => ?_) (fun h => ?_); focus (exfalso; simp at h <;> omega)); clear h; (conv => whnf)
    refine ⟨by omega, gsC ⟨o, z.jm⟩, by rw [Int.toNat_natCast, List.getElem?_map, hxi]; rfl, rfl, ?_⟩
    conv => whnf
    (refine Fork.mk (fun h => ?_) (fun h => ?_); focus (exfalso; simp at h <;> omega)); clear h; (conv => whnf)
    refine ⟨by omega, gsC ⟨o, z.jm⟩, by rw [Int.toNat_natCast, List.getElem?_map, hxi]; rfl, rfl, ?_⟩
    conv => whnf
    refine ⟨by omega, gsC z, by rw [Int.toNat_natCast, List.getElem?_map, hdi]; rfl, rfl, ?_⟩
    conv => whnf
    (refine Fork.mk (fun h => ?_) (fun h => ?_); focus (exfalso; simp at h))
    clear h
    conv => whnf
    refine ⟨by omega, gsC ⟨o, z.jm⟩, by rw [Int.toNat_natCast, List.getElem?_map, hxi]; rfl, rfl, ?_⟩
    conv => whnf
    refine Fork.mk (fun h => ?_) (fun h => ?_)
    · have hlt : (rch g z).1 < o := by simpa using h
      clear h
      obtain ⟨st1, st2⟩ := hst hlt
      conv => whnf
      cases la with
      | none =>
        refine fork_f ?_
        conv => whnf
        rw [hw1]
        exact ⟨(i + 1, some i), ⟨hi, st1⟩, Shift.reset ⟨rfl, rfl, rfl, rfl, rfl, rfl, rfl, rfl, rfl, rfl, trivial⟩ ⟨rfl, trivial⟩ rfl rfl, by dsimp only; omega⟩
      | some m =>
        obtain ⟨g', z', c1, c2, c3⟩ := st2 m rfl
        rw [show lstV (some m) = (m : Int) from rfl]
        have hml := (List.getElem?_eq_some_iff.1 c1).1
        have hxm := (hSat m g' z' c1 c2).1
        rw [c3] at hxm
        have hcf' := hA g' (List.mem_of_getElem? c1)
        have hz' := badS_at hb c1 c2
        have hq' : rchS g' z' = ((rch g' z').1, (rch g' z').2, 0) := by rw [rchS, if_neg (by simp [hz']), if_neg (by simp [hcf'])]
        refine Fork.mk (fun h => ?_) (fun h => ?_)
        rotate_left
        · exfalso; simp at h <;> omega
        clear h
        conv => whnf
        refine ⟨by omega, gtC g', by rw [Int.toNat_natCast, List.getElem?_map, c1]; rfl, rfl, ?_⟩
        conv => whnf
        refine ⟨by omega, gsC z', by rw [Int.toNat_natCast, List.getElem?_map, c2]; rfl, rfl, ?_⟩
        conv => whnf
        refine ⟨g', z', rfl, hgf g' (List.mem_of_getElem? c1), ?_⟩
        rw [show (rchS g' z').1 = (rch g' z').1 by rw [hq'], show (rchS g' z').2.1 = (rch g' z').2 by rw [hq'], show (rchS g' z').2.2 = 0 by rw [hq']]
        conv => whnf
        refine ⟨by omega, gsC ⟨(rch g' z').2, z'.jm⟩, by rw [Int.toNat_natCast, List.getElem?_map, hxm]; rfl, rfl, ?_⟩
        conv => whnf
        (refine Fork.mk (fun h => ?_) (fun h => ?_); focus (exfalso; simp at h <;> omega)); clear h; (conv => whnf)
        rw [hw1]
        exact ⟨(i + 1, some i), ⟨hi, st1⟩, Shift.reset ⟨rfl, rfl, rfl, rfl, rfl, rfl, rfl, rfl, rfl, rfl, trivial⟩ ⟨rfl, trivial⟩ rfl rfl, by dsimp only; omega⟩
    have hlt : ¬ (rch g z).1 < o := by simpa using h
    clear h
    conv => whnf
    rw [hw1]
    exact ⟨(i + 1, la), ⟨hi, hsk (by omega)⟩, Shift.reset ⟨rfl, rfl, rfl, rfl, rfl, rfl, rfl, rfl, rfl, rfl, trivial⟩ ⟨rfl, trivial⟩ rfl rfl, by dsimp only; omega⟩
  have hie : i = gs.length := by simp at h; omega
  subst hie
  clear h hi1
  conv => whnf
  cases la with
  | none =>
    have hno := fun h => hLH (hi2.none hsl hA hb h)
    refine fork_t ?_
    conv => whnf
    refine Fork.mk (fun h => ?_) (fun h => ?_)
    · conv => whnf
      (repeat ((first | refine fork_t ?_ | refine ⟨rfl, ?_⟩); (conv => whnf)))
      exact hk
    have hTH := hno (by simp at h; omega)
    conv => whnf
    refine Fork.mk (fun h => ?_) (fun h => ?_)
    · conv => whnf
      (repeat ((first | refine fork_t ?_ | refine ⟨rfl, ?_⟩); (conv => whnf)))
      exact hk
    exfalso; simp at h; exact h hTH
  | some m =>
    rw [show lstV (some m) = (m : Int) from rfl]
    refine Fork.mk (fun h => ?_) (fun h => ?_)
    · exfalso; simp at h; omega
    clear h
    obtain ⟨hml, g, z, c1, c2, hmv⟩ := hi2.m m rfl
    have hsum := hi2.sum (Nat.le_refl _) hsl
    dsimp only at hsum
    obtain ⟨hxm, hnx⟩ := hSat m g z c1 c2
    have hcf := hA g (List.mem_of_getElem? c1)
    have hz := badS_at hb c1 c2
    have hrc := rch_in hcf hz
    have hin := opO_in (c := atG g lv) (w := w) (s := sAt w lv T gs ss m) hrc.1.2
    have hmw := (nx_moved hcf hz hmv).2.1
    have hQ2 : Q = sAt w lv T gs ss m - gfl (atG g lv) (rch g z).1 + gfl (atG g lv) (opO (atG g lv) w (sAt w lv T gs ss m) (rch g z).1 (rch g z).2) := by rw [f7, hsum, hnx]
    clear hSat hnx hsum f7
    generalize opO (atG g lv) w (sAt w lv T gs ss m) (rch g z).1 (rch g z).2 = o at *
    generalize sAt w lv T gs ss m = sm at *
    conv => whnf
    refine ⟨by simp [gsC], ?_⟩
    conv => whnf
    refine ⟨by simp; omega, ?_⟩
    conv => whnf
    refine ⟨by omega, rfl, ?_⟩
    conv => whnf
    have hgt : (eS X)[0 + (m : Int).toNat]? = some (gsC ⟨o, z.jm⟩) := by rw [Nat.zero_add, Int.toNat_natCast, List.getElem?_map, hxm]; rfl
    refine ⟨gsC ⟨o, z.jm⟩, hgt, ?_⟩
    have hwo : IntKind.i64.wrap (o - 1) = o - 1 := wrap_in (by omega) (by omega)
    conv => whnf
    rw [hwo]
    refine ⟨by omega, rfl, ?_⟩
    conv => whnf
    refine ⟨gsC ⟨o, z.jm⟩, hgt, by simp [gsC], ?_⟩
    conv => whnf
    have hset : (eS X).set (0 + (m : Int).toNat) (gsC ⟨o - 1, z.jm⟩) = eS (X.set m ⟨o - 1, z.jm⟩) := by rw [Nat.zero_add, Int.toNat_natCast]; exact (List.map_set ..).symm
    have hsm := eS_len (X.set m ⟨o - 1, z.jm⟩)
    have hsn : (X.set m ⟨o - 1, z.jm⟩).length = X.length := List.length_set
    have htl : List.take (eS X).length (List.drop 0 ((eS X).set (0 + (m : Int).toNat) (gsC ⟨o - 1, z.jm⟩))) = eS (X.set m ⟨o - 1, z.jm⟩) := by rw [hset, List.drop_zero, List.take_of_length_le (by omega)]
    have hbad2 := badS_set f2 c1 (show okS g ⟨o - 1, z.jm⟩ = true by simp [okS, inB]; omega)
    have haskY := askG_of (ss := X.set m ⟨o - 1, z.jm⟩) (lv := lv) (by omega) (by omega) hbad2 hA (by omega)
    have hox : (opsL X)[m]? = some o := by rw [opsL, List.getElem?_map, hxm]; rfl
    have hY : totS gs (X.set m ⟨o - 1, z.jm⟩) lv = (sm - gfl (atG g lv) (rch g z).1 + gfl (atG g lv) (o - 1), 0) := by
      rw [totS, if_neg (by simp [haskY]), opsL_set, totL_set c1 hox, f3]
      exact Prod.ext (by dsimp only; omega) rfl
    refine ⟨by simp, ?_⟩
    conv => whnf
    refine ⟨gs, X.set m ⟨o - 1, z.jm⟩, lv, congrArg (fun y => [AV.c (.lst (eG gs)), AV.c (.lst y), I lv]) htl, ⟨by omega, by omega, hgf⟩, ?_⟩
    rw [show (totS gs (X.set m ⟨o - 1, z.jm⟩) lv).1 = sm - gfl (atG g lv) (rch g z).1 + gfl (atG g lv) (o - 1) by rw [hY], show (totS gs (X.set m ⟨o - 1, z.jm⟩) lv).2 = 0 by rw [hY]]
    conv => whnf
    refine fork_t ?_
    conv => whnf
    refine Fork.mk (fun h => ?_) (fun h => ?_)
    rotate_left
    · exfalso; simp at h; omega
    conv => whnf
    (repeat ((first | refine fork_t ?_ | refine ⟨rfl, ?_⟩); (conv => whnf)))
    exact hk
end Go.Proofs
