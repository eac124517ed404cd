/- Proved here: what functions of the given program come to, for the statements of this chapter; no condition but those in the theorems. -/
import Derived.Test.YtfhnicamjcfddaaGreatDoorB99
import Derived.Test.YtfhnicamjcfddaaGreatDoorPReach
namespace Go.Proofs
open Go Go.Abs
set_option linter.unusedSimpArgs false
set_option linter.unusedVariables false
set_option maxRecDepth 4000
theorem rk_ok : FunR Tryz.prog 44 R_rk := by
  intro args k h
  unfold R_rk at h
  split at h
  case h_2 => exact h.elim
  rename_i den
  obtain ⟨ws, rfl, hlen, hk⟩ := h
  have hml := eL_len ws
  refine does_ex (qc := qc1) (np := []) (CK := ckK [(25, cSc R_within)]) mixed Tryz.func44 rfl rfl Tryz.ntmps44 Tryz.results44 τ_ok (by kernel_rfl) (ckK_ok ⟨cSc_ok within_ok, trivial⟩) (by simp) ?_
  conv => whnf
  refine Fork.mk (fun h => ?_) (fun h => ?_)
  · have h0 : ws.length = 0 := by simp at h; simp [h]
    conv => whnf
    refine Fork.mk (fun h => ?_) (fun h => (by simp [h0] at h))
    conv => whnf
    have e : rkCheck ws den = 3 := by unfold rkCheck; rw [if_pos (.inl h0)]
    rw [e] at hk
    exact hk
  · have h0 : ws.length ≠ 0 := by simp at h; simpa using h
    conv => whnf
    have hw : IntKind.i64.wrap (((eL ws).length : Int) - 1) = ((ws.length - 1 : Nat) : Int) := by rw [hml, wrap_in (by omega) (by omega)]; omega
    rw [hw]
    refine ⟨by omega, eI (ws[ws.length - 1]'(by omega)), map_at eI ws (by omega), rfl, ?_⟩
    have hla := last_at h0
    have hlw : ws.length - 1 < ws.length := by omega
    generalize hlv : ws[ws.length - 1] = la at *
    conv => whnf
    refine Fork.mk (fun h => ?_) (fun h => ?_)
    · have h1 : la = 0 := by simpa using h
      conv => whnf
      have e : rkCheck ws den = 3 := by unfold rkCheck; rw [if_pos (.inr (by rw [hla, h1]))]
      rw [e] at hk
      exact hk
    · have h1 : la ≠ 0 := by simpa using h
      conv => whnf
      have hne : ¬ (ws.length = 0 ∨ ws.getLast? = some 0) := by
        rintro (h | h)
        · exact h0 h
        · rw [hla] at h; simp at h; exact h1 h
      refine Fork.mk (fun h => ?_) (fun h => ?_)
      · have h2 : 24 < ws.length := by simp at h; omega
        conv => whnf
        have e : rkCheck ws den = 10 := by unfold rkCheck; rw [if_neg hne, if_pos h2]
        rw [e] at hk
        exact hk
      · have h2 : ¬ 24 < ws.length := by simp at h; omega
        have e : rkCheck ws den = if ws.all okW then (if ws.sum = den then 0 else 2) else 1 := by unfold rkCheck; rw [if_neg hne, if_neg h2]
        rw [e] at hk
        clear e h hlv hla
        conv => whnf
        refine ⟨Nat, fun i => ([(1, .c (.ptr (.l 1 0) 0)), (4, I (ws.take i).sum), (26, .c (.lst (eL ws))), (27, I (eL ws).length), (28, I i)], ⟨[(.l 1 0, .blk (RcC ws den))], 1, []⟩), fun i => i ≤ ws.length ∧ (ws.take i).all okW = true, fun i => ws.length - i, 0,
          ⟨Nat.zero_le _, rfl⟩, Shift.reset ⟨rfl, rfl, rfl, rfl, rfl, trivial⟩ ⟨rfl, trivial⟩ rfl rfl, fun i hi => ?_⟩
        obtain ⟨hi1, hi2⟩ := hi
        dsimp only
        have hsb := sum_in (l := ws.take i) (a := 10000) (by omega) (fun x hx => okW_in (all_in hi2 x hx))
        rw [List.length_take_of_le hi1] at hsb
        conv => whnf
        refine Fork.mk (fun h => ?_) (fun h => ?_)
        · have hi : i < ws.length := by simp at h; omega
          have hsum := sum_take hi
          have hall := all_take (f := okW) hi
          have hat := map_at eI ws hi
          have hmem : ws[i] ∈ ws := List.getElem_mem _
          generalize hv : ws[i] = v at *
          conv => whnf
          refine ⟨by omega, eI v, hat, rfl, ?_⟩
          conv => whnf
          refine Fork.mk (fun h => ?_) (fun h => ?_)
          · have hb : okW v = false := by simp at h; simp [okW]; omega
            conv => whnf
            rw [if_neg (fun hh => by have := all_in hh v hmem; rw [hb] at this; cases this)] at hk
            exact hk
          · have hb : okW v = true := by simpa [okW] using h
            have hvb := okW_in hb
            conv => whnf
            rw [wrap_in (z := (ws.take i).sum + v) (by omega) (by omega), ← hsum]
            have hw1 : IntKind.i64.wrap ((i : Int) + 1) = ((i + 1 : Nat) : Int) := by rw [wrap_in (by omega) (by omega)]; omega
            rw [hw1]
            refine ⟨i + 1, ⟨hi, by rw [hall, hi2, hb]; rfl⟩, Shift.reset ⟨rfl, rfl, rfl, rfl, rfl, trivial⟩ ⟨rfl, trivial⟩ rfl rfl, ?_⟩
            show ws.length - (i + 1) < ws.length - i
            omega
        · have hie : i = ws.length := by simp at h; omega
          subst hie
          rw [List.take_length] at hi2 hsb ⊢
          rw [if_pos hi2] at hk
          conv => whnf
          refine Fork.mk (fun h => ?_) (fun h => ?_)
          · have h3 : ¬ ws.sum = den := by simpa using h
            conv => whnf
            rw [if_neg h3] at hk
            exact hk
          · have h3 : ws.sum = den := by simpa using h
            conv => whnf
            rw [if_pos h3] at hk
            exact hk
theorem rrk_ok : FunR Tryz.prog 57 R_rk := by
  intro args k h
  unfold R_rk at h
  split at h
  case h_2 => exact h.elim
  rename_i den
  obtain ⟨ws, rfl, hlen, hk⟩ := h
  have hml := eL_len ws
  refine does_ex (qc := qc1) (np := []) (CK := ckK [(54, cSc R_within)]) mixed Tryz.func57 rfl rfl Tryz.ntmps57 Tryz.results57 τ_ok (by kernel_rfl) (ckK_ok ⟨cSc_ok rIn_ok, trivial⟩) (by simp) ?_
  conv => whnf
  refine Fork.mk (fun h => ?_) (fun h => ?_)
  · have h0 : ws.length = 0 := by simp at h; simp [h]
    conv => whnf
    refine Fork.mk (fun h => ?_) (fun h => (by simp [h0] at h))
    conv => whnf
    have e : rkCheck ws den = 3 := by unfold rkCheck; rw [if_pos (.inl h0)]
    rw [e] at hk
    exact hk
  · have h0 : ws.length ≠ 0 := by simp at h; simpa using h
    conv => whnf
    have hw : IntKind.i64.wrap (((eL ws).length : Int) - 1) = ((ws.length - 1 : Nat) : Int) := by rw [hml, wrap_in (by omega) (by omega)]; omega
    rw [hw]
    refine ⟨by omega, eI (ws[ws.length - 1]'(by omega)), map_at eI ws (by omega), rfl, ?_⟩
    have hla := last_at h0
    have hlw : ws.length - 1 < ws.length := by omega
    generalize hlv : ws[ws.length - 1] = la at *
    conv => whnf
    refine Fork.mk (fun h => ?_) (fun h => ?_)
    · have h1 : la = 0 := by simpa using h
      conv => whnf
      have e : rkCheck ws den = 3 := by unfold rkCheck; rw [if_pos (.inr (by rw [hla, h1]))]
      rw [e] at hk
      exact hk
    · have h1 : la ≠ 0 := by simpa using h
      conv => whnf
      have hne : ¬ (ws.length = 0 ∨ ws.getLast? = some 0) := by
        rintro (h | h)
        · exact h0 h
        · rw [hla] at h; simp at h; exact h1 h
      refine Fork.mk (fun h => ?_) (fun h => ?_)
      · have h2 : 24 < ws.length := by simp at h; omega
        conv => whnf
        have e : rkCheck ws den = 10 := by unfold rkCheck; rw [if_neg hne, if_pos h2]
        rw [e] at hk
        exact hk
      · have h2 : ¬ 24 < ws.length := by simp at h; omega
        have e : rkCheck ws den = if ws.all okW then (if ws.sum = den then 0 else 2) else 1 := by unfold rkCheck; rw [if_neg hne, if_neg h2]
        rw [e] at hk
        clear e h hlv hla
        conv => whnf
        refine ⟨Nat, fun i => ([(1, .c (.ptr (.l 1 0) 0)), (4, I (ws.take i).sum), (24, .c (.lst (eL ws))), (25, I (eL ws).length), (26, I i)], ⟨[(.l 1 0, .blk (RcC ws den))], 1, []⟩), fun i => i ≤ ws.length ∧ (ws.take i).all okW = true, fun i => ws.length - i, 0,
          ⟨Nat.zero_le _, rfl⟩, Shift.reset ⟨rfl, rfl, rfl, rfl, rfl, trivial⟩ ⟨rfl, trivial⟩ rfl rfl, fun i hi => ?_⟩
        obtain ⟨hi1, hi2⟩ := hi
        dsimp only
        have hsb := sum_in (l := ws.take i) (a := 10000) (by omega) (fun x hx => okW_in (all_in hi2 x hx))
        rw [List.length_take_of_le hi1] at hsb
        conv => whnf
        refine Fork.mk (fun h => ?_) (fun h => ?_)
        · have hi : i < ws.length := by simp at h; omega
          have hsum := sum_take hi
          have hall := all_take (f := okW) hi
          have hat := map_at eI ws hi
          have hmem : ws[i] ∈ ws := List.getElem_mem _
          generalize hv : ws[i] = v at *
          conv => whnf
          refine ⟨by omega, eI v, hat, rfl, ?_⟩
          conv => whnf
          refine Fork.mk (fun h => ?_) (fun h => ?_)
          · have hb : okW v = false := by simp at h; simp [okW]; omega
            conv => whnf
            rw [if_neg (fun hh => by have := all_in hh v hmem; rw [hb] at this; cases this)] at hk
            exact hk
          · have hb : okW v = true := by simpa [okW] using h
            have hvb := okW_in hb
            conv => whnf
            rw [wrap_in (z := (ws.take i).sum + v) (by omega) (by omega), ← hsum]
            have hw1 : IntKind.i64.wrap ((i : Int) + 1) = ((i + 1 : Nat) : Int) := by rw [wrap_in (by omega) (by omega)]; omega
            rw [hw1]
            refine ⟨i + 1, ⟨hi, by rw [hall, hi2, hb]; rfl⟩, Shift.reset ⟨rfl, rfl, rfl, rfl, rfl, trivial⟩ ⟨rfl, trivial⟩ rfl rfl, ?_⟩
            show ws.length - (i + 1) < ws.length - i
            omega
        · have hie : i = ws.length := by simp at h; omega
          subst hie
          rw [List.take_length] at hi2 hsb ⊢
          rw [if_pos hi2] at hk
          conv => whnf
          refine Fork.mk (fun h => ?_) (fun h => ?_)
          · have h3 : ¬ ws.sum = den := by simpa using h
            conv => whnf
            rw [if_neg h3] at hk
            exact hk
          · have h3 : ws.sum = den := by simpa using h
            conv => whnf
            rw [if_pos h3] at hk
            exact hk
theorem rfit_ok : FunR Tryz.prog 45 R_fits := by
  intro args k h
  unfold R_fits at h
  split at h
  case h_2 => exact h.elim
  rename_i den _
  obtain ⟨ws, ps, rfl, rfl, hlw, hlp, hk⟩ := h
  have hml := eL_len ws
  have hmp := eL_len ps
  refine does_ex (qc := qc1) (np := []) (CK := ckK [(25, cSc R_within)]) mixed Tryz.func45 rfl rfl Tryz.ntmps45 Tryz.results45 τ_ok (by kernel_rfl) (ckK_ok ⟨cSc_ok within_ok, trivial⟩) (by simp) ?_
  conv => whnf
  refine Fork.mk (fun h => ?_) (fun h => ?_)
  · have h1 : ¬ ps.length ≤ ws.length := by simp at h; omega
    conv => whnf
    have e : fitsB ws.length ps = false := by unfold fitsB; rw [decide_eq_false h1]; rfl
    rw [e] at hk
    repeat (first | ((with_reducible refine fork_t ?_); conv => whnf) | ((with_reducible refine fork_f ?_); conv => whnf))
    exact hk
  · have h1 : ps.length ≤ ws.length := by simp at h; omega
    conv => whnf
    have e1 : fitsB ws.length ps = (!decide (ps.getLast? = some 0) && ps.all okP) := by unfold fitsB; rw [decide_eq_true h1]; rfl
    rw [e1] at hk
    refine Fork.mk (fun h => ?_) (fun h => ?_)
    · have h0 : ps.length ≠ 0 := by simp at h; omega
      have hw : IntKind.i64.wrap (((eL ps).length : Int) - 1) = ((ps.length - 1 : Nat) : Int) := by rw [hmp, wrap_in (by omega) (by omega)]; omega
      have hla := last_at h0
      have hlw' : ps.length - 1 < ps.length := by omega
      have hat0 := map_at eI ps hlw'
      generalize hlv : ps[ps.length - 1] = la at *
      conv => whnf
      rw [hw]
      refine ⟨by omega, eI la, hat0, rfl, ?_⟩
      conv => whnf
      refine Fork.mk (fun h => ?_) (fun h => ?_)
      · have h2 : la = 0 := by simpa using h
        conv => whnf
        rw [hla, h2] at hk
        exact hk
      · have h2 : la ≠ 0 := by simpa using h
        conv => whnf
        have e2 : (!decide (ps.getLast? = some 0)) = true := by rw [hla]; simpa using h2
        rw [e2, Bool.true_and] at hk
        refine ⟨Nat, fun i => ([(30, .c (.lst (eL ps))), (31, I (eL ps).length), (32, I i)], ⟨[], 0, []⟩), fun i => i ≤ ps.length ∧ (ps.take i).all okP = true, fun i => ps.length - i, 0,
          ⟨Nat.zero_le _, rfl⟩, Shift.reset ⟨rfl, rfl, rfl, trivial⟩ trivial rfl rfl, fun i hi => ?_⟩
        obtain ⟨hi1, hi2⟩ := hi
        dsimp only
        conv => whnf
        refine Fork.mk (fun h => ?_) (fun h => ?_)
        · have hi : i < ps.length := by simp at h; omega
          have hall := all_take (f := okP) hi
          have hat := map_at eI ps hi
          have hmem : ps[i] ∈ ps := List.getElem_mem _
          generalize hv : ps[i] = v at *
          conv => whnf
          refine ⟨by omega, eI v, hat, rfl, ?_⟩
          conv => whnf
          refine Fork.mk (fun h => ?_) (fun h => ?_)
          · have hb : okP v = false := by simp at h; simp [okP]; omega
            conv => whnf
            have hna : ps.all okP = false := by
              cases hh : ps.all okP with
              | false => rfl
              | true => have := all_in hh v hmem; rw [hb] at this; cases this
            rw [hna] at hk
            exact hk
          · have hb : okP v = true := by simpa [okP] using h
            conv => whnf
            have hw1 : IntKind.i64.wrap ((i : Int) + 1) = ((i + 1 : Nat) : Int) := by rw [wrap_in (by omega) (by omega)]; omega
            rw [hw1]
            refine ⟨i + 1, ⟨hi, by rw [hall, hi2, hb]; rfl⟩, Shift.reset ⟨rfl, rfl, rfl, trivial⟩ trivial rfl rfl, ?_⟩
            show ps.length - (i + 1) < ps.length - i
            omega
        · have hie : i = ps.length := by simp at h; omega
          subst hie
          rw [List.take_length] at hi2
          rw [hi2] at hk
          conv => whnf
          exact hk
    · have h0 : ps.length = 0 := by simp at h; simp [h]
      have hp0 : ps = [] := List.eq_nil_of_length_eq_zero h0
      conv => whnf
      repeat (first | ((with_reducible refine fork_t ?_); conv => whnf) | ((with_reducible refine fork_f ?_); conv => whnf))
      have e2 : (!decide (ps.getLast? = some 0)) = true := by rw [hp0]; rfl
      rw [e2, Bool.true_and] at hk
      refine ⟨Nat, fun i => ([(30, .c (.lst (eL ps))), (31, I (eL ps).length), (32, I i)], ⟨[], 0, []⟩), fun i => i ≤ ps.length ∧ (ps.take i).all okP = true, fun i => ps.length - i, 0,
        ⟨Nat.zero_le _, rfl⟩, Shift.reset ⟨rfl, rfl, rfl, trivial⟩ trivial rfl rfl, fun i hi => ?_⟩
      obtain ⟨hi1, hi2⟩ := hi
      dsimp only
      conv => whnf
      refine Fork.mk (fun h => ?_) (fun h => ?_)
      · have hi : i < ps.length := by simp at h; omega
        have hall := all_take (f := okP) hi
        have hat := map_at eI ps hi
        have hmem : ps[i] ∈ ps := List.getElem_mem _
        generalize hv : ps[i] = v at *
        conv => whnf
        refine ⟨by omega, eI v, hat, rfl, ?_⟩
        conv => whnf
        refine Fork.mk (fun h => ?_) (fun h => ?_)
        · have hb : okP v = false := by simp at h; simp [okP]; omega
          conv => whnf
          have hna : ps.all okP = false := by
            cases hh : ps.all okP with
            | false => rfl
            | true => have := all_in hh v hmem; rw [hb] at this; cases this
          rw [hna] at hk
          exact hk
        · have hb : okP v = true := by simpa [okP] using h
          conv => whnf
          have hw1 : IntKind.i64.wrap ((i : Int) + 1) = ((i + 1 : Nat) : Int) := by rw [wrap_in (by omega) (by omega)]; omega
          rw [hw1]
          refine ⟨i + 1, ⟨hi, by rw [hall, hi2, hb]; rfl⟩, Shift.reset ⟨rfl, rfl, rfl, trivial⟩ trivial rfl rfl, ?_⟩
          show ps.length - (i + 1) < ps.length - i
          omega
      · have hie : i = ps.length := by simp at h; omega
        subst hie
        rw [List.take_length] at hi2
        rw [hi2] at hk
        conv => whnf
        exact hk
theorem rvld_ok : FunR Tryz.prog 58 R_valid := by
  intro args k h
  unfold R_valid at h
  split at h
  case h_2 => exact h.elim
  rename_i den _
  obtain ⟨ws, ps, rfl, rfl, hlw, hlp, hk⟩ := h
  have hml := eL_len ws
  have hmp := eL_len ps
  refine does_ex (qc := qc1) (np := []) (CK := ckK [(57, cSc R_rk), (54, cSc R_within)]) mixed Tryz.func58 rfl rfl Tryz.ntmps58 Tryz.results58 τ_ok (by kernel_rfl) (ckK_ok ⟨cSc_ok rrk_ok, cSc_ok rIn_ok, trivial⟩) (by simp) ?_
  conv => whnf
  refine ⟨ws, rfl, hlw, ?_⟩
  conv => whnf
  refine Fork.mk (fun h => ?_) (fun h => ?_)
  · have h1 : rkCheck ws den ≠ 0 := by simpa using h
    conv => whnf
    repeat (first | ((with_reducible refine fork_t ?_); conv => whnf) | ((with_reducible refine fork_f ?_); conv => whnf))
    rw [decide_eq_false h1] at hk
    exact hk
  have h00 : rkCheck ws den = 0 := by simpa using h
  rw [decide_eq_true h00, Bool.true_and] at hk
  conv => whnf
  refine Fork.mk (fun h => ?_) (fun h => ?_)
  · have h1 : ¬ ps.length ≤ ws.length := by simp at h; omega
    conv => whnf
    have e : fitsB ws.length ps = false := by unfold fitsB; rw [decide_eq_false h1]; rfl
    rw [e] at hk
    repeat (first | ((with_reducible refine fork_t ?_); conv => whnf) | ((with_reducible refine fork_f ?_); conv => whnf))
    exact hk
  · have h1 : ps.length ≤ ws.length := by simp at h; omega
    conv => whnf
    have e1 : fitsB ws.length ps = (!decide (ps.getLast? = some 0) && ps.all okP) := by unfold fitsB; rw [decide_eq_true h1]; rfl
    rw [e1] at hk
    refine Fork.mk (fun h => ?_) (fun h => ?_)
    · have h0 : ps.length ≠ 0 := by simp at h; omega
      have hw : IntKind.i64.wrap (((eL ps).length : Int) - 1) = ((ps.length - 1 : Nat) : Int) := by rw [hmp, wrap_in (by omega) (by omega)]; omega
      have hla := last_at h0
      have hlw' : ps.length - 1 < ps.length := by omega
      have hat0 := map_at eI ps hlw'
      generalize hlv : ps[ps.length - 1] = la at *
      conv => whnf
      rw [hw]
      refine ⟨by omega, eI la, hat0, rfl, ?_⟩
      conv => whnf
      refine Fork.mk (fun h => ?_) (fun h => ?_)
      · have h2 : la = 0 := by simpa using h
        conv => whnf
        rw [hla, h2] at hk
        exact hk
      · have h2 : la ≠ 0 := by simpa using h
        conv => whnf
        have e2 : (!decide (ps.getLast? = some 0)) = true := by rw [hla]; simpa using h2
        rw [e2, Bool.true_and] at hk
        refine ⟨Nat, fun i => ([(35, .c (.lst (eL ps))), (36, I (eL ps).length), (37, I i)], ⟨[], 0, []⟩), fun i => i ≤ ps.length ∧ (ps.take i).all okP = true, fun i => ps.length - i, 0,
          ⟨Nat.zero_le _, rfl⟩, Shift.reset ⟨rfl, rfl, rfl, trivial⟩ trivial rfl rfl, fun i hi => ?_⟩
        obtain ⟨hi1, hi2⟩ := hi
        dsimp only
        conv => whnf
        refine Fork.mk (fun h => ?_) (fun h => ?_)
        · have hi : i < ps.length := by simp at h; omega
          have hall := all_take (f := okP) hi
          have hat := map_at eI ps hi
          have hmem : ps[i] ∈ ps := List.getElem_mem _
          generalize hv : ps[i] = v at *
          conv => whnf
          refine ⟨by omega, eI v, hat, rfl, ?_⟩
          conv => whnf
          refine Fork.mk (fun h => ?_) (fun h => ?_)
          · have hb : okP v = false := by simp at h; simp [okP]; omega
            conv => whnf
            have hna : ps.all okP = false := by
              cases hh : ps.all okP with
              | false => rfl
              | true => have := all_in hh v hmem; rw [hb] at this; cases this
            rw [hna] at hk
            exact hk
          · have hb : okP v = true := by simpa [okP] using h
            conv => whnf
            have hw1 : IntKind.i64.wrap ((i : Int) + 1) = ((i + 1 : Nat) : Int) := by rw [wrap_in (by omega) (by omega)]; omega
            rw [hw1]
            refine ⟨i + 1, ⟨hi, by rw [hall, hi2, hb]; rfl⟩, Shift.reset ⟨rfl, rfl, rfl, trivial⟩ trivial rfl rfl, ?_⟩
            show ps.length - (i + 1) < ps.length - i
            omega
        · have hie : i = ps.length := by simp at h; omega
          subst hie
          rw [List.take_length] at hi2
          rw [hi2] at hk
          conv => whnf
          exact hk
    · have h0 : ps.length = 0 := by simp at h; simp [h]
      have hp0 : ps = [] := List.eq_nil_of_length_eq_zero h0
      conv => whnf
      repeat (first | ((with_reducible refine fork_t ?_); conv => whnf) | ((with_reducible refine fork_f ?_); conv => whnf))
      have e2 : (!decide (ps.getLast? = some 0)) = true := by rw [hp0]; rfl
      rw [e2, Bool.true_and] at hk
      refine ⟨Nat, fun i => ([(35, .c (.lst (eL ps))), (36, I (eL ps).length), (37, I i)], ⟨[], 0, []⟩), fun i => i ≤ ps.length ∧ (ps.take i).all okP = true, fun i => ps.length - i, 0,
        ⟨Nat.zero_le _, rfl⟩, Shift.reset ⟨rfl, rfl, rfl, trivial⟩ trivial rfl rfl, fun i hi => ?_⟩
      obtain ⟨hi1, hi2⟩ := hi
      dsimp only
      conv => whnf
      refine Fork.mk (fun h => ?_) (fun h => ?_)
      · have hi : i < ps.length := by simp at h; omega
        have hall := all_take (f := okP) hi
        have hat := map_at eI ps hi
        have hmem : ps[i] ∈ ps := List.getElem_mem _
        generalize hv : ps[i] = v at *
        conv => whnf
        refine ⟨by omega, eI v, hat, rfl, ?_⟩
        conv => whnf
        refine Fork.mk (fun h => ?_) (fun h => ?_)
        · have hb : okP v = false := by simp at h; simp [okP]; omega
          conv => whnf
          have hna : ps.all okP = false := by
            cases hh : ps.all okP with
            | false => rfl
            | true => have := all_in hh v hmem; rw [hb] at this; cases this
          rw [hna] at hk
          exact hk
        · have hb : okP v = true := by simpa [okP] using h
          conv => whnf
          have hw1 : IntKind.i64.wrap ((i : Int) + 1) = ((i + 1 : Nat) : Int) := by rw [wrap_in (by omega) (by omega)]; omega
          rw [hw1]
          refine ⟨i + 1, ⟨hi, by rw [hall, hi2, hb]; rfl⟩, Shift.reset ⟨rfl, rfl, rfl, trivial⟩ trivial rfl rfl, ?_⟩
          show ps.length - (i + 1) < ps.length - i
          omega
      · have hie : i = ps.length := by simp at h; omega
        subst hie
        rw [List.take_length] at hi2
        rw [hi2] at hk
        conv => whnf
        exact hk
theorem held_ok : FunR Tryz.prog 8 R_held := by
  intro args k h
  unfold R_held at h
  split at h
  case h_2 => exact h.elim
  obtain ⟨ps, rfl, hl, hp, hk⟩ := h
  have hmp := eL_len ps
  refine does_ex (qc := qc1) (np := []) (CK := ckK []) mixed Tryz.func8 rfl rfl Tryz.ntmps8 Tryz.results8 τ_ok (by kernel_rfl) (ckK_ok trivial) (by simp) ?_
  conv => whnf
  refine ⟨Nat, fun i => ([(3, I (ps.take i).sum), (7, .c (.lst (eL ps))), (8, I (eL ps).length), (9, I i)], ⟨[], 0, []⟩), fun i => i ≤ ps.length, fun i => ps.length - i, 0, Nat.zero_le _,
    Shift.reset ⟨rfl, rfl, rfl, rfl, trivial⟩ trivial rfl rfl, fun i hi => ?_⟩
  dsimp only at hi ⊢
  have hsb := sum_abs (l := ps.take i) (fun x hx => hp x (List.mem_of_mem_take hx))
  rw [List.length_take_of_le hi] at hsb
  conv => whnf
  refine Fork.mk (fun h => ?_) (fun h => ?_)
  · have hi : i < ps.length := by simp at h; omega
    have hsum := sum_take hi
    have hat := map_at eI ps hi
    have hv1 := hp _ (List.getElem_mem hi)
    unfold inH at hv1
    generalize hv : ps[i] = v at *
    conv => whnf
    refine ⟨by omega, eI v, hat, rfl, ?_⟩
    conv => whnf
    have hw1 : IntKind.i64.wrap ((i : Int) + 1) = ((i + 1 : Nat) : Int) := by rw [wrap_in (by omega) (by omega)]; omega
    rw [wrap_in (z := (ps.take i).sum + v) (by omega) (by omega), ← hsum, hw1]
    refine ⟨i + 1, hi, Shift.reset ⟨rfl, rfl, rfl, rfl, trivial⟩ trivial rfl rfl, ?_⟩
    show ps.length - (i + 1) < ps.length - i
    omega
  · have hie : i = ps.length := by simp at h; omega
    subst hie
    rw [List.take_length]
    conv => whnf
    exact hk
theorem mflows_ok : FunB Tryz.prog 20 R_flows := by
  intro cs args k h
  unfold R_flows at h
  split at h
  case h_2 => exact h.elim
  rename_i n most
  obtain ⟨d, N, rfl, hd, rfl, hN, hm, hk⟩ := h
  refine doesB_ex (qc := qc1) (np := []) (CK := ckK [(9, cB R_next)]) mixed Tryz.func20 rfl rfl Tryz.ntmps20 Tryz.results20 τ_ok (by kernel_rfl) (ckK_ok ⟨cB_ok next_ok rfl, trivial⟩) (by simp) rfl rfl ?_
  conv => whnf
  refine ⟨Ls × Dk, fun s => ([(0, .c (.ptr (.x 0) 0)), (2, I most), (7, .c (.view (.l 16 0) 0 s.1.length)), (8, I N), (9, I s.1.length)], ⟨[(.x 0, .blk (dkC s.2)), (.l 16 0, .arr 3 1 (eL s.1) false)], 1, []⟩),
    fun s => s.2.ok ∧ s.1.length ≤ N ∧ ∀ x ∈ s.1, 0 ≤ x ∧ x < most, fun s => N - s.1.length, ([], d), ⟨hd, Nat.zero_le _, by simp⟩,
    Shift.trans (Shift.rename [] ⟨rfl, rfl, rfl, rfl, rfl, trivial⟩ ⟨rfl, rfl, trivial⟩ rfl rfl rfl) (Shift.nilArr (t := 7) rfl 16 3 1), fun s hs => ?_⟩
  obtain ⟨l, d⟩ := s
  obtain ⟨h1, h2, h3⟩ := hs
  dsimp only at h1 h2 h3 ⊢
  conv => whnf
  refine Fork.mk (fun h => ?_) (fun h => ?_)
  · have h4 : l.length < N := by simp at h; omega
    conv => whnf
    refine ⟨d, rfl, h1, by omega, fun v d hd hv1 hv2 => ?_⟩
    conv => whnf
    refine ⟨by simp, ?_⟩
    conv => whnf
    refine ⟨rfl, ?_⟩
    conv => whnf
    refine ⟨⟨rfl, rfl, rfl, (eL_len l).symm, by rw [eL_len]; simp; omega⟩, ?_⟩
    conv => whnf
    have hw1 : IntKind.i64.wrap ((l.length : Int) + 1) = (((l ++ [v]).length : Nat) : Int) := by rw [wrap_in (by omega) (by omega)]; simp
    rw [hw1]
    refine ⟨(l ++ [v], d), ⟨hd, by simp; omega, fun x hx => ?_⟩, Shift.rename [(.l 16 0, .l 16 2)] ⟨rfl, rfl, ?_, rfl, rfl, trivial⟩ ⟨rfl, ?_, trivial⟩ rfl rfl rfl, ?_⟩
    · rcases List.mem_append.1 hx with hx | hx
      · exact h3 x hx
      · simp at hx; subst hx; omega
    · dsimp only
      rw [snoc_len]; rfl
    · dsimp only
      rw [← eL_snoc]; rfl
    · show N - (l ++ [v]).length < N - l.length
      simp; omega
  · have h4 : l.length = N := by simp at h; omega
    conv => whnf
    refine ⟨by rw [eL_len]; omega, ?_⟩
    conv => whnf
    exact leaf_l l rfl rfl (hk l d h1 h4 h3)
theorem reach_ok : FunB Tryz.prog 6 R_reach := by
  intro cs args k h
  unfold R_reach at h
  split at h
  case h_2 => exact h.elim
  obtain ⟨d, rfl, hd, hk⟩ := h
  refine doesB_ex (qc := qc1) (np := [(8, [(1, 3), (3, 6), (4, 6)])]) (CK := ckK [(9, cB R_next)]) mixed Tryz.func6 rfl rfl Tryz.ntmps6 Tryz.results6 τ_ok (by kernel_rfl) (ckK_ok ⟨cB_ok next_ok rfl, trivial⟩) (by simp) rfl rfl ?_
  conv => whnf
  refine ⟨d, rfl, hd, by omega, fun k0 d hd hk1 hk2 => ?_⟩
  conv => whnf
  refine ⟨Ls × Dk × Int, fun s => ([(0, .c (.ptr (.x 0) 0)), (2, .c (.ptr (.l 2 0) 0)), (3, .c (.ptr (.l 3 1) 0)), (4, I s.2.2)], ⟨[(.x 0, .blk (dkC s.2.1)), (.l 2 0, .blk [.sc (.slice none 0 0), IC 0]), (.l 3 1, .blk [.view (.l 22 2) 0 s.1.length, IC s.1.sum]), (.l 22 2, .arr 3 1 (eL s.1) false)], 3, []⟩),
    fun s => s.2.1.ok ∧ (∀ x ∈ s.1, 0 ≤ x ∧ x ≤ 4) ∧ -1 ≤ s.2.2 ∧ s.1.length + s.2.2 ≤ 4 ∧ (s.2.2 = -1 → s.1.getLast? ≠ some 0 ∧ s.1.length ≠ 0), fun s => (s.2.2 + 1).toNat, ([], d, k0),
    ⟨hd, by simp, by dsimp only; omega, by simp; omega, fun h => by dsimp only at h; omega⟩,
    Shift.trans (Shift.rename [] ⟨rfl, rfl, rfl, rfl, trivial⟩ ⟨rfl, rfl, rfl, rfl, trivial⟩ rfl rfl rfl) (Shift.nilCell (i := .l 3 1) (cs := [.sc (.slice none 0 0), IC 0]) (j := 0) rfl rfl 22 3 1), fun s hs => ?_⟩
  obtain ⟨ws, d, kk⟩ := s
  obtain ⟨h1, h2, h3, h4, h5⟩ := hs
  dsimp only at h1 h2 h3 h4 h5 ⊢
  have hsum := sum_in (l := ws) (a := 4) (by omega) h2
  conv => whnf
  refine Fork.mk (fun h => ?_) (fun h => ?_)
  · have h6 : 0 ≤ kk := by simpa using h
    conv => whnf
    refine ⟨d, rfl, h1, by omega, fun v d hd hv1 hv2 => ?_⟩
    conv => whnf
    have go : ∀ v, 0 ≤ v → v ≤ 4 → (kk = 0 → 1 ≤ v) → ((ws ++ [v]).getLast? ≠ some 0 ∨ kk ≠ 0) ∧ (∀ x ∈ ws ++ [v], 0 ≤ x ∧ x ≤ 4) := fun v a b c => ⟨by
        by_cases h0 : kk = 0
        · left; simp; have := c h0; omega
        · exact .inr h0, fun x hx => by
        rcases List.mem_append.1 hx with hx | hx
        · exact h2 x hx
        · simp at hx; subst hx; exact ⟨a, b⟩⟩
    refine Fork.mk (fun h => ?_) (fun h => ?_)
    · have h7 : kk = 0 := by simpa using h
      conv => whnf
      rw [wrap_in (z := v + 1) (by omega) (by omega)]
      obtain ⟨g1, g2⟩ := go (v + 1) (by omega) (by omega) (by omega)
      have hvb : 0 ≤ v + 1 ∧ v + 1 ≤ 4 := by omega
      generalize v + 1 = v at *
      refine ⟨by simp, ?_⟩
      conv => whnf
      refine ⟨rfl, ?_⟩
      conv => whnf
      refine ⟨⟨rfl, rfl, rfl, (eL_len ws).symm, by rw [eL_len]; simp; omega⟩, ?_⟩
      conv => whnf
      rw [wrap_in (z := ws.sum + v) (by omega) (by omega), wrap_in (z := kk - 1) (by omega) (by omega)]
      have hs2 : (ws ++ [v]).sum = ws.sum + v := by simp
      refine ⟨(ws ++ [v], d, kk - 1), ⟨hd, g2, by dsimp only; omega, by simp; omega, fun hh => ⟨by dsimp only at hh ⊢; exact g1.resolve_right (fun hn => hn (by omega)), by simp⟩⟩, Shift.rename [(.l 22 2, .l 22 3)] ⟨rfl, rfl, rfl, rfl, trivial⟩ ⟨rfl, rfl, ?_, ?_, trivial⟩ rfl rfl rfl, ?_⟩
      · dsimp only
        rw [snoc_len, hs2]; rfl
      · dsimp only
        rw [← eL_snoc]; rfl
      · show (kk - 1 + 1).toNat < (kk + 1).toNat
        omega
    · have h7 : kk ≠ 0 := by simpa using h
      conv => whnf
      obtain ⟨g1, g2⟩ := go v (by omega) (by omega) (by omega)
      refine ⟨by simp, ?_⟩
      conv => whnf
      refine ⟨rfl, ?_⟩
      conv => whnf
      refine ⟨⟨rfl, rfl, rfl, (eL_len ws).symm, by rw [eL_len]; simp; omega⟩, ?_⟩
      conv => whnf
      rw [wrap_in (z := ws.sum + v) (by omega) (by omega), wrap_in (z := kk - 1) (by omega) (by omega)]
      have hs2 : (ws ++ [v]).sum = ws.sum + v := by simp
      refine ⟨(ws ++ [v], d, kk - 1), ⟨hd, g2, by dsimp only; omega, by simp; omega, fun hh => ⟨by dsimp only at hh ⊢; exact g1.resolve_right (fun hn => hn (by omega)), by simp⟩⟩, Shift.rename [(.l 22 2, .l 22 3)] ⟨rfl, rfl, rfl, rfl, trivial⟩ ⟨rfl, rfl, ?_, ?_, trivial⟩ rfl rfl rfl, ?_⟩
      · dsimp only
        rw [snoc_len, hs2]; rfl
      · dsimp only
        rw [← eL_snoc]; rfl
      · show (kk - 1 + 1).toNat < (kk + 1).toNat
        omega
  · have hkk : kk = -1 := by simp at h; omega
    obtain ⟨g1, g2⟩ := h5 hkk
    conv => whnf
    refine ⟨by rw [eL_len]; omega, ?_⟩
    conv => whnf
    rw [List.drop_zero, List.take_of_length_le (by rw [eL_len]; exact Nat.le_refl _)]
    exact ⟨rfl, rfl, hk ws ws.sum d h1 (rk_of g2 g1 (by omega) (fun w hw => by have := h2 w hw; omega) rfl) (by omega) h2⟩
theorem pass_ok : FunR Tryz.prog 46 R_pass := by
  intro args k h
  unfold R_pass at h
  split at h
  case h_2 => exact h.elim
  rename_i den _ q
  obtain ⟨ws, ps, rfl, rfl, hr, hf, hq, hk1, hk2⟩ := h
  obtain ⟨hn1, hn2, hw, hd1, hd2, hsum, hwm⟩ := rk_facts hr
  obtain ⟨hpl, hlast, hpm, hp⟩ := fits_facts hf
  have hg := g_in hw hp hq.1 hq.2
  have hml := eL_len ws
  have hmp := eL_len ps
  refine does_ex (qc := qc1) (np := []) (CK := ckK []) mixed Tryz.func46 rfl rfl Tryz.ntmps46 Tryz.results46 τ_ok (by kernel_rfl) (ckK_ok trivial) (by simp) ?_
  conv => whnf
  have hwn : IntKind.i64.wrap (((eL ws).length : Int) + 1) = ((ws.length + 1 : Nat) : Int) := by rw [hml, wrap_in (by omega) (by omega)]; omega
  rw [hwn]
  refine ⟨⟨rfl, by omega, by show ((ws.length + 1 : Nat) : Int) * 8 ≤ _; omega⟩, ?_⟩
  conv => whnf
  refine ⟨by simp [eL, eI], ?_⟩
  conv => whnf
  refine ⟨⟨rfl, rfl, by simp⟩, ?_⟩
  conv => whnf
  let Li : Nat → Ls := fun i => tab (ws.length + 1) fun k => if k < i then gP ws ps q k else fP ps k
  have hLi : ∀ i, Li i = tab (ws.length + 1) fun k => if k < i then gP ws ps q k else fP ps k := fun _ => rfl
  refine ⟨Nat, fun i => ([(2, I q), (3, .c (.ptr (.l 3 0) 0)), (6, .c (.ptr (.l 6 2) 0)), (7, I 0), (8, Bo false), (9, .c (.view (.l 17 3) 0 (ws.length + 1))), (23, .c (.lst (eL ws))), (24, I (eL ws).length), (25, I i)],
      ⟨[(.l 3 0, .blk (RcC ws den)), (.l 6 2, .blk [.sc (.slice none 0 0)]), (.l 17 3, .arr 3 1 (eL (Li i)) false)], 4, []⟩),
    fun i => i ≤ ws.length ∧ ∀ k, k < i → gP ws ps q k ≤ 1125899906842624, fun i => ws.length - i, 0, ⟨Nat.zero_le _, fun k hk => absurd hk (Nat.not_lt_zero _)⟩,
    Shift.reset ⟨rfl, rfl, rfl, rfl, rfl, rfl, rfl, rfl, rfl, trivial⟩ ⟨rfl, rfl, ?_, trivial⟩ rfl rfl, fun i hi => ?_⟩
  · show some (MObj.arr 3 1 (wrE (List.replicate (ws.length + 1) (eI 0)) 0 ((eL ps).take (Nat.min (eL ps).length (ws.length + 1)))) false) = _
    rw [copy_tab (by omega), hLi]
    rfl
  obtain ⟨hi1, hi2⟩ := hi
  dsimp only
  clear_value Li
  conv => whnf
  refine Fork.mk (fun h => ?_) (fun h => ?_)
  · have hi : i < ws.length := by simp at h; omega
    have hat := map_at eI ws hi
    have hwi : ws[i] = fP ws i := (fP_at hi).symm
    rw [hwi] at hat
    have hgi := hg i
    conv => whnf
    refine ⟨by omega, eI (fP ws i), hat, rfl, ?_⟩
    conv => whnf
    refine ⟨by omega, rfl, ?_⟩
    conv => whnf
    have hLg : ∀ j k, k < ws.length + 1 → (eL (Li j))[0 + k]? = some (eI (if k < j then gP ws ps q k else fP ps k)) := fun j k hk => by rw [hLi]; exact eL_tab hk
    have hL0 : (eL (Li i))[0 + (i : Int).toNat]? = some (eI (fP ps i)) := by rw [Int.toNat_natCast, hLg i i (by omega), if_neg (Nat.lt_irrefl _)]
    refine ⟨eI (fP ps i), hL0, ?_⟩
    conv => whnf
    have hpi := hp i
    rw [show IntKind.i64.wrap (q * fP ws i) = q * fP ws i from wrap_in (by omega) (by omega), show IntKind.i64.wrap (fP ps i + q * fP ws i) = gP ws ps q i from wrap_in (by omega) (by omega)]
    refine ⟨by omega, rfl, ?_⟩
    conv => whnf
    refine ⟨eI (fP ps i), hL0, by show 0 + 1 ≤ 1; omega, ?_⟩
    conv => whnf
    have hset : (eL (Li i)).set (0 + (i : Int).toNat) [nrm (Value.int IntKind.i64 (gP ws ps q i))] = eL (Li (i + 1)) := by
      rw [Nat.zero_add, Int.toNat_natCast, show [nrm (Value.int IntKind.i64 (gP ws ps q i))] = eI (gP ws ps q i) from rfl, eL_set, hLi, hLi, tab_set]
      congr 1
      refine tab_ext fun k hk => ?_
      by_cases hki : k = i
      · subst hki; rw [if_pos rfl, if_pos (by omega)]
      · rw [if_neg hki]
        by_cases hlt : k < i
        · rw [if_pos hlt, if_pos (by omega)]
        · rw [if_neg hlt, if_neg (by omega)]
    rw [hset]
    refine ⟨by omega, rfl, ?_⟩
    conv => whnf
    have hL1 : (eL (Li (i + 1)))[0 + (i : Int).toNat]? = some (eI (gP ws ps q i)) := by rw [Int.toNat_natCast, hLg (i + 1) i (by omega), if_pos (by omega)]
    refine ⟨eI (gP ws ps q i), hL1, ?_⟩
    conv => whnf
    refine Fork.mk (fun h => ?_) (fun h => ?_)
    · have hbig : ¬ gP ws ps q i ≤ 1125899906842624 := by simp at h; omega
      conv => whnf
      exact hk2 (fun hh => hbig (hh i hi))
    · have hok : gP ws ps q i ≤ 1125899906842624 := by simp at h; omega
      conv => whnf
      have hw1 : IntKind.i64.wrap ((i : Int) + 1) = ((i + 1 : Nat) : Int) := by rw [wrap_in (by omega) (by omega)]; omega
      rw [hw1]
      refine ⟨i + 1, ⟨hi, fun k hk => ?_⟩, Shift.reset ⟨rfl, rfl, rfl, rfl, rfl, rfl, rfl, rfl, rfl, trivial⟩ ⟨rfl, rfl, rfl, trivial⟩ rfl rfl, ?_⟩
      · by_cases hki : k = i
        · rw [hki]; exact hok
        · exact hi2 k (by omega)
      · show ws.length - (i + 1) < ws.length - i
        omega
  · have hie : i = ws.length := by simp at h; omega
    subst hie
    have hk := hk1 hi2
    clear hk1 hk2
    have hLe : Li ws.length = tab (ws.length + 1) (gP ws ps q) := by
      rw [hLi]
      refine tab_ext fun k hk => ?_
      by_cases hlt : k < ws.length
      · rw [if_pos hlt]
      · rw [if_neg hlt, show k = ws.length by omega]
        unfold gP
        rw [fP_out (l := ws) (Nat.le_refl _)]; omega
    rw [hLe]
    have hG : ∀ k, k < ws.length + 1 → (eL (tab (ws.length + 1) (gP ws ps q)))[0 + k]? = some (eI (gP ws ps q k)) := fun k hk => eL_tab hk
    have hg0 := hg 0
    have hg1 := hg 1
    conv => whnf
    refine ⟨by omega, rfl, ?_⟩
    conv => whnf
    refine ⟨_, hG 0 (by omega), ?_⟩
    conv => whnf
    refine ⟨by omega, ?_⟩
    conv => whnf
    refine ⟨by omega, rfl, ?_⟩
    conv => whnf
    refine ⟨_, hG 1 (by omega), ?_⟩
    conv => whnf
    refine ⟨by omega, rfl, ?_⟩
    conv => whnf
    refine ⟨_, hG 0 (by omega), ?_⟩
    conv => whnf
    refine ⟨by omega, ?_⟩
    conv => whnf
    have hdiv : 0 ≤ gP ws ps q 0 / den ∧ gP ws ps q 0 / den ≤ 2262537231925248 := ⟨Int.ediv_nonneg (by omega) (by omega), Int.le_trans (Int.ediv_le_self _ hg0.2.1) hg0.2.2⟩
    have hmod : 0 ≤ gP ws ps q 0 % den ∧ gP ws ps q 0 % den < den := ⟨Int.emod_nonneg _ (by omega), Int.emod_lt_of_pos _ (by omega)⟩
    have e1 : IntKind.i64.wrap ((gP ws ps q 0).tdiv den) = gP ws ps q 0 / den := by rw [Int.tdiv_eq_ediv_of_nonneg (by omega), wrap_in (by omega) (by omega)]
    have e2 : IntKind.i64.wrap (gP ws ps q 1 + (gP ws ps q 0).tmod den) = gP ws ps q 1 + gP ws ps q 0 % den := by rw [Int.tmod_eq_emod_of_nonneg (by omega), wrap_in (by omega) (by omega)]
    rw [e1, e2]
    refine ⟨by omega, rfl, ?_⟩
    conv => whnf
    refine ⟨_, hG 1 (by omega), by show 0 + 1 ≤ 1; omega, ?_⟩
    conv => whnf
    have hset : (eL (tab (ws.length + 1) (gP ws ps q))).set (0 + (1 : Int).toNat) [nrm (Value.int IntKind.i64 (gP ws ps q 1 + gP ws ps q 0 % den))] = eL (tab (ws.length + 1) fun k => if k = 1 then gP ws ps q 1 + gP ws ps q 0 % den else gP ws ps q k) := by
      rw [show [nrm (Value.int IntKind.i64 (gP ws ps q 1 + gP ws ps q 0 % den))] = eI (gP ws ps q 1 + gP ws ps q 0 % den) from rfl, eL_set, tab_set]; rfl
    rw [hset]
    have hQl : (eL (tab (ws.length + 1) fun k => if k = 1 then gP ws ps q 1 + gP ws ps q 0 % den else gP ws ps q k)).length = ws.length + 1 := by rw [eL_len, tab_len]
    refine ⟨by omega, ?_⟩
    conv => whnf
    refine ⟨rfl, ?_⟩
    conv => whnf
    refine ⟨by rw [hQl]; simp; omega, ?_⟩
    conv => whnf
    have hsrc : List.take (((ws.length + 1 : Nat) : Int).toNat - Int.toNat 1) (List.drop (0 + Int.toNat 1) (eL (tab (ws.length + 1) fun k => if k = 1 then gP ws ps q 1 + gP ws ps q 0 % den else gP ws ps q k))) = eL (tab ws.length (hP ws den ps q)) := by
      show List.take ws.length (List.drop 1 _) = _
      rw [eL_drop, eL_take, tab_tail]
      congr 1
      refine tab_ext fun k hk => ?_
      unfold hP
      by_cases hk0 : k = 0
      · subst hk0; rfl
      · rw [if_neg (by omega), if_neg hk0]; omega
    rw [hsrc]
    refine ⟨eL_all _, ?_⟩
    conv => whnf
    refine ⟨⟨rfl, rfl, by rw [hQl]; omega⟩, ?_⟩
    have hTl : (tab ws.length (hP ws den ps q)).length = ws.length := tab_len _ _
    rw [wrE_all (by rw [hTl]; omega)]
    have hmin : Nat.min (eL (tab ws.length (hP ws den ps q))).length (ws.length + 1) = ws.length := by rw [eL_len, hTl]; exact Nat.min_eq_left (by omega)
    rw [hmin]
    conv => whnf
    refine ⟨by omega, ?_⟩
    conv => whnf
    refine ⟨rfl, ?_⟩
    conv => whnf
    have hstep : stepF ws den ps q = trimZ (tab ws.length (hP ws den ps q)) := rfl
    have hQt : (tab ws.length (hP ws den ps q) ++ (tab (ws.length + 1) fun k => if k = 1 then gP ws ps q 1 + gP ws ps q 0 % den else gP ws ps q k).drop (tab ws.length (hP ws den ps q)).length).take ws.length = tab ws.length (hP ws den ps q) := by
      rw [List.take_append_of_le_length (by omega), List.take_of_length_le (by omega)]
    have hQl2 : (tab ws.length (hP ws den ps q) ++ (tab (ws.length + 1) fun k => if k = 1 then gP ws ps q 1 + gP ws ps q 0 % den else gP ws ps q k).drop (tab ws.length (hP ws den ps q)).length).length = ws.length + 1 := by
      rw [List.length_append, hTl, List.length_drop, tab_len]; omega
    rw [hstep, ← hQt] at hk
    generalize tab ws.length (hP ws den ps q) ++ (tab (ws.length + 1) fun k => if k = 1 then gP ws ps q 1 + gP ws ps q 0 % den else gP ws ps q k).drop (tab ws.length (hP ws den ps q)).length = Q at *
    refine ⟨Nat, fun n => ([(6, .c (.ptr (.l 6 2) 0)), (9, .c (.view (.l 17 3) 0 n)), (12, I (gP ws ps q 0 / den))], ⟨[(.l 6 2, .blk [.sc (.slice none 0 0)]), (.l 17 3, .arr 3 1 (eL Q) false)], 4, []⟩),
      fun n => n ≤ ws.length ∧ trimZ (Q.take n) = trimZ (Q.take ws.length), fun n => n, ws.length, ⟨Nat.le_refl _, rfl⟩, Shift.reset ⟨rfl, rfl, rfl, trivial⟩ ⟨rfl, rfl, trivial⟩ rfl rfl, fun n hn => ?_⟩
    obtain ⟨hn1', hn2'⟩ := hn
    dsimp only
    have done_ : trimZ (Q.take n) = Q.take n → eL (trimZ (Q.take ws.length)) = List.take n (List.drop 0 (eL Q)) := fun h => by
      rw [List.drop_zero, eL_take, ← hn2', h]
    conv => whnf
    refine Fork.mk (fun h => ?_) (fun h => ?_)
    · have hn0 : 0 < n := by simpa using h
      conv => whnf
      have hw1 : IntKind.i64.wrap ((n : Int) - 1) = ((n - 1 : Nat) : Int) := by rw [wrap_in (by omega) (by omega)]; omega
      rw [hw1]
      have hnl : n - 1 < Q.length := by omega
      have hat := map_at0 eI Q hnl
      have hsp : Q.take n = Q.take (n - 1) ++ [Q[n - 1]] := by
        have := List.take_append_getElem hnl
        rw [show n - 1 + 1 = n by omega] at this
        exact this.symm
      generalize Q[n - 1] = v at *
      refine ⟨by omega, rfl, ?_⟩
      conv => whnf
      refine ⟨_, hat, ?_⟩
      conv => whnf
      refine Fork.mk (fun h => ?_) (fun h => ?_)
      · have hv : v = 0 := by simpa using h
        subst hv
        conv => whnf
        rw [hw1]
        refine ⟨by omega, ?_⟩
        conv => whnf
        refine ⟨rfl, ?_⟩
        conv => whnf
        refine ⟨n - 1, ⟨by omega, ?_⟩, Shift.reset ⟨rfl, rfl, rfl, trivial⟩ ⟨rfl, rfl, trivial⟩ rfl rfl, ?_⟩
        · rw [← hn2', hsp, trim_zero]
        · show n - 1 < n
          omega
      · have hv : v ≠ 0 := by simpa using h
        have hd := done_ (by rw [hsp]; exact trim_snoc hv _)
        conv => whnf
        refine ⟨by rw [eL_len]; omega, ?_⟩
        conv => whnf
        rw [hd] at hk
        exact hk
    · have hn0 : n = 0 := by simpa using h
      subst hn0
      have hd := done_ rfl
      conv => whnf
      repeat (first | ((with_reducible refine fork_t ?_); conv => whnf) | ((with_reducible refine fork_f ?_); conv => whnf))
      refine ⟨by omega, ?_⟩
      conv => whnf
      rw [hd] at hk
      exact hk
theorem step_ok : FunR Tryz.prog 37 R_step := by
  intro args k h
  unfold R_step at h
  split at h
  case h_2 => exact h.elim
  rename_i den _ q
  obtain ⟨ws, ps, rfl, rfl, hr, hf, hk1, hk2⟩ := h
  obtain ⟨hn1, hn2, hw, hd1, hd2, hsum, hwm⟩ := rk_facts hr
  obtain ⟨hpl, hlast, hpm, hp⟩ := fits_facts hf
  have hml := eL_len ws
  have hmp := eL_len ps
  refine does_ex (qc := qc1) (np := []) (CK := ckK [(54, cSc R_within)]) mixed Tryz.func37 rfl rfl Tryz.ntmps37 Tryz.results37 τ_ok (by kernel_rfl) (ckK_ok ⟨cSc_ok rIn_ok, trivial⟩) (by simp) ?_
  conv => whnf
  refine Fork.mk (fun h => ?_) (fun h => ?_)
  · have hq : ¬ (0 ≤ q ∧ q ≤ 1073741824) := by simp at h; omega
    conv => whnf
    exact hk2 (fun hh => hq ⟨hh.1, hh.2.1⟩)
  have hq : 0 ≤ q ∧ q ≤ 1073741824 := by simpa using h
  have hg := g_in hw hp hq.1 hq.2
  conv => whnf
  have hwn : IntKind.i64.wrap (((eL ws).length : Int) + 1) = ((ws.length + 1 : Nat) : Int) := by rw [hml, wrap_in (by omega) (by omega)]; omega
  rw [hwn]
  refine ⟨⟨rfl, by omega, by show ((ws.length + 1 : Nat) : Int) * 8 ≤ _; omega⟩, ?_⟩
  conv => whnf
  refine ⟨by simp [eL, eI], ?_⟩
  conv => whnf
  refine ⟨⟨rfl, rfl, by simp⟩, ?_⟩
  conv => whnf
  let Li : Nat → Ls := fun i => tab (ws.length + 1) fun k => if k < i then gP ws ps q k else fP ps k
  have hLi : ∀ i, Li i = tab (ws.length + 1) fun k => if k < i then gP ws ps q k else fP ps k := fun _ => rfl
  refine ⟨Nat, fun i => ([(2, I q), (3, .c (.ptr (.l 3 0) 0)), (6, .c (.ptr (.l 6 2) 0)), (7, I 0), (8, I 0), (9, .c (.view (.l 21 3) 0 (ws.length + 1))), (27, .c (.lst (eL ws))), (28, I (eL ws).length), (29, I i)],
      ⟨[(.l 3 0, .blk (RcC ws den)), (.l 6 2, .blk [.sc (.slice none 0 0)]), (.l 21 3, .arr 3 1 (eL (Li i)) false)], 4, []⟩),
    fun i => i ≤ ws.length ∧ ∀ k, k < i → gP ws ps q k ≤ 1125899906842624, fun i => ws.length - i, 0, ⟨Nat.zero_le _, fun k hk => absurd hk (Nat.not_lt_zero _)⟩,
    Shift.reset ⟨rfl, rfl, rfl, rfl, rfl, rfl, rfl, rfl, rfl, trivial⟩ ⟨rfl, rfl, ?_, trivial⟩ rfl rfl, fun i hi => ?_⟩
  · show some (MObj.arr 3 1 (wrE (List.replicate (ws.length + 1) (eI 0)) 0 ((eL ps).take (Nat.min (eL ps).length (ws.length + 1)))) false) = _
    rw [copy_tab (by omega), hLi]
    rfl
  obtain ⟨hi1, hi2⟩ := hi
  dsimp only
  clear_value Li
  conv => whnf
  refine Fork.mk (fun h => ?_) (fun h => ?_)
  · have hi : i < ws.length := by simp at h; omega
    have hat := map_at eI ws hi
    have hwi : ws[i] = fP ws i := (fP_at hi).symm
    rw [hwi] at hat
    have hgi := hg i
    conv => whnf
    refine ⟨by omega, eI (fP ws i), hat, rfl, ?_⟩
    conv => whnf
    refine ⟨by omega, rfl, ?_⟩
    conv => whnf
    have hLg : ∀ j k, k < ws.length + 1 → (eL (Li j))[0 + k]? = some (eI (if k < j then gP ws ps q k else fP ps k)) := fun j k hk => by rw [hLi]; exact eL_tab hk
    have hL0 : (eL (Li i))[0 + (i : Int).toNat]? = some (eI (fP ps i)) := by rw [Int.toNat_natCast, hLg i i (by omega), if_neg (Nat.lt_irrefl _)]
    refine ⟨eI (fP ps i), hL0, ?_⟩
    conv => whnf
    have hpi := hp i
    rw [show IntKind.i64.wrap (q * fP ws i) = q * fP ws i from wrap_in (by omega) (by omega), show IntKind.i64.wrap (fP ps i + q * fP ws i) = gP ws ps q i from wrap_in (by omega) (by omega)]
    refine ⟨by omega, rfl, ?_⟩
    conv => whnf
    refine ⟨eI (fP ps i), hL0, by show 0 + 1 ≤ 1; omega, ?_⟩
    conv => whnf
    have hset : (eL (Li i)).set (0 + (i : Int).toNat) [nrm (Value.int IntKind.i64 (gP ws ps q i))] = eL (Li (i + 1)) := by
      rw [Nat.zero_add, Int.toNat_natCast, show [nrm (Value.int IntKind.i64 (gP ws ps q i))] = eI (gP ws ps q i) from rfl, eL_set, hLi, hLi, tab_set]
      congr 1
      refine tab_ext fun k hk => ?_
      by_cases hki : k = i
      · subst hki; rw [if_pos rfl, if_pos (by omega)]
      · rw [if_neg hki]
        by_cases hlt : k < i
        · rw [if_pos hlt, if_pos (by omega)]
        · rw [if_neg hlt, if_neg (by omega)]
    rw [hset]
    refine ⟨by omega, rfl, ?_⟩
    conv => whnf
    have hL1 : (eL (Li (i + 1)))[0 + (i : Int).toNat]? = some (eI (gP ws ps q i)) := by rw [Int.toNat_natCast, hLg (i + 1) i (by omega), if_pos (by omega)]
    refine ⟨eI (gP ws ps q i), hL1, ?_⟩
    conv => whnf
    refine Fork.mk (fun h => ?_) (fun h => ?_)
    · have hbig : ¬ gP ws ps q i ≤ 1125899906842624 := by simp at h; omega
      conv => whnf
      exact hk2 (fun hh => hbig (hh.2.2 i hi))
    · have hok : gP ws ps q i ≤ 1125899906842624 := by simp at h; omega
      conv => whnf
      have hw1 : IntKind.i64.wrap ((i : Int) + 1) = ((i + 1 : Nat) : Int) := by rw [wrap_in (by omega) (by omega)]; omega
      rw [hw1]
      refine ⟨i + 1, ⟨hi, fun k hk => ?_⟩, Shift.reset ⟨rfl, rfl, rfl, rfl, rfl, rfl, rfl, rfl, rfl, trivial⟩ ⟨rfl, rfl, rfl, trivial⟩ rfl rfl, ?_⟩
      · by_cases hki : k = i
        · rw [hki]; exact hok
        · exact hi2 k (by omega)
      · show ws.length - (i + 1) < ws.length - i
        omega
  · have hie : i = ws.length := by simp at h; omega
    subst hie
    have hk := hk1 ⟨hq.1, hq.2, hi2⟩
    clear hk1 hk2
    have hLe : Li ws.length = tab (ws.length + 1) (gP ws ps q) := by
      rw [hLi]
      refine tab_ext fun k hk => ?_
      by_cases hlt : k < ws.length
      · rw [if_pos hlt]
      · rw [if_neg hlt, show k = ws.length by omega]
        unfold gP
        rw [fP_out (l := ws) (Nat.le_refl _)]; omega
    rw [hLe]
    have hG : ∀ k, k < ws.length + 1 → (eL (tab (ws.length + 1) (gP ws ps q)))[0 + k]? = some (eI (gP ws ps q k)) := fun k hk => eL_tab hk
    have hg0 := hg 0
    have hg1 := hg 1
    conv => whnf
    refine ⟨by omega, rfl, ?_⟩
    conv => whnf
    refine ⟨_, hG 0 (by omega), ?_⟩
    conv => whnf
    refine ⟨by omega, ?_⟩
    conv => whnf
    refine ⟨by omega, rfl, ?_⟩
    conv => whnf
    refine ⟨_, hG 1 (by omega), ?_⟩
    conv => whnf
    refine ⟨by omega, rfl, ?_⟩
    conv => whnf
    refine ⟨_, hG 0 (by omega), ?_⟩
    conv => whnf
    refine ⟨by omega, ?_⟩
    conv => whnf
    have hdiv : 0 ≤ gP ws ps q 0 / den ∧ gP ws ps q 0 / den ≤ 2262537231925248 := ⟨Int.ediv_nonneg (by omega) (by omega), Int.le_trans (Int.ediv_le_self _ hg0.2.1) hg0.2.2⟩
    have hmod : 0 ≤ gP ws ps q 0 % den ∧ gP ws ps q 0 % den < den := ⟨Int.emod_nonneg _ (by omega), Int.emod_lt_of_pos _ (by omega)⟩
    have e1 : IntKind.i64.wrap ((gP ws ps q 0).tdiv den) = gP ws ps q 0 / den := by rw [Int.tdiv_eq_ediv_of_nonneg (by omega), wrap_in (by omega) (by omega)]
    have e2 : IntKind.i64.wrap (gP ws ps q 1 + (gP ws ps q 0).tmod den) = gP ws ps q 1 + gP ws ps q 0 % den := by rw [Int.tmod_eq_emod_of_nonneg (by omega), wrap_in (by omega) (by omega)]
    rw [e1, e2]
    refine ⟨by omega, rfl, ?_⟩
    conv => whnf
    refine ⟨_, hG 1 (by omega), by show 0 + 1 ≤ 1; omega, ?_⟩
    conv => whnf
    have hset : (eL (tab (ws.length + 1) (gP ws ps q))).set (0 + (1 : Int).toNat) [nrm (Value.int IntKind.i64 (gP ws ps q 1 + gP ws ps q 0 % den))] = eL (tab (ws.length + 1) fun k => if k = 1 then gP ws ps q 1 + gP ws ps q 0 % den else gP ws ps q k) := by
      rw [show [nrm (Value.int IntKind.i64 (gP ws ps q 1 + gP ws ps q 0 % den))] = eI (gP ws ps q 1 + gP ws ps q 0 % den) from rfl, eL_set, tab_set]; rfl
    rw [hset]
    have hQl : (eL (tab (ws.length + 1) fun k => if k = 1 then gP ws ps q 1 + gP ws ps q 0 % den else gP ws ps q k)).length = ws.length + 1 := by rw [eL_len, tab_len]
    refine ⟨by omega, ?_⟩
    conv => whnf
    refine ⟨rfl, ?_⟩
    conv => whnf
    have hstep : stepF ws den ps q = trimZ (tab ws.length (hP ws den ps q)) := rfl
    have hQt : ((tab (ws.length + 1) fun k => if k = 1 then gP ws ps q 1 + gP ws ps q 0 % den else gP ws ps q k).drop 1).take ws.length = tab ws.length (hP ws den ps q) := by
      rw [tab_tail]
      refine tab_ext fun k hk => ?_
      unfold hP
      by_cases hk0 : k = 0
      · subst hk0; rfl
      · rw [if_neg (by omega), if_neg hk0]; omega
    have hQl2 : (tab (ws.length + 1) fun k => if k = 1 then gP ws ps q 1 + gP ws ps q 0 % den else gP ws ps q k).length = ws.length + 1 := tab_len _ _
    rw [hstep, ← hQt] at hk
    generalize (tab (ws.length + 1) fun k => if k = 1 then gP ws ps q 1 + gP ws ps q 0 % den else gP ws ps q k) = Q at *
    have hQd : (Q.drop 1).length = ws.length := by rw [List.length_drop]; omega
    refine ⟨Nat, fun n => ([(6, .c (.ptr (.l 6 2) 0)), (9, .c (.view (.l 21 3) 1 n)), (12, I (gP ws ps q 0 / den))], ⟨[(.l 6 2, .blk [.sc (.slice none 0 0)]), (.l 21 3, .arr 3 1 (eL Q) false)], 4, []⟩),
      fun n => n ≤ ws.length ∧ trimZ ((Q.drop 1).take n) = trimZ ((Q.drop 1).take ws.length), fun n => n, ws.length, ⟨Nat.le_refl _, rfl⟩, Shift.reset ⟨rfl, rfl, rfl, trivial⟩ ⟨rfl, rfl, trivial⟩ rfl rfl, fun n hn => ?_⟩
    obtain ⟨hn1', hn2'⟩ := hn
    dsimp only
    have done_ : trimZ ((Q.drop 1).take n) = (Q.drop 1).take n → eL (trimZ ((Q.drop 1).take ws.length)) = List.take n (List.drop 1 (eL Q)) := fun h => by
      rw [eL_drop, eL_take, ← hn2', h]
    conv => whnf
    refine Fork.mk (fun h => ?_) (fun h => ?_)
    · have hn0 : 0 < n := by simpa using h
      conv => whnf
      have hw1 : IntKind.i64.wrap ((n : Int) - 1) = ((n - 1 : Nat) : Int) := by rw [wrap_in (by omega) (by omega)]; omega
      rw [hw1]
      have hnl : n - 1 < (Q.drop 1).length := by omega
      have hat : (eL Q)[1 + (n - 1)]? = some (eI (Q.drop 1)[n - 1]) := by
        rw [← List.getElem?_drop, eL_drop, List.getElem?_map, List.getElem?_eq_getElem hnl]; rfl
      have hsp : (Q.drop 1).take n = (Q.drop 1).take (n - 1) ++ [(Q.drop 1)[n - 1]] := by
        have := List.take_append_getElem hnl
        rw [show n - 1 + 1 = n by omega] at this
        exact this.symm
      generalize (Q.drop 1)[n - 1] = v at *
      refine ⟨by omega, rfl, ?_⟩
      conv => whnf
      refine ⟨_, hat, ?_⟩
      conv => whnf
      refine Fork.mk (fun h => ?_) (fun h => ?_)
      · have hv : v = 0 := by simpa using h
        subst hv
        conv => whnf
        rw [hw1]
        refine ⟨by omega, ?_⟩
        conv => whnf
        refine ⟨rfl, ?_⟩
        conv => whnf
        refine ⟨n - 1, ⟨by omega, ?_⟩, Shift.reset ⟨rfl, rfl, rfl, trivial⟩ ⟨rfl, rfl, trivial⟩ rfl rfl, ?_⟩
        · rw [← hn2', hsp, trim_zero]
        · show n - 1 < n
          omega
      · have hv : v ≠ 0 := by simpa using h
        have hd := done_ (by rw [hsp]; exact trim_snoc hv _)
        conv => whnf
        refine ⟨by rw [eL_len]; omega, ?_⟩
        conv => whnf
        rw [hd] at hk
        exact hk
    · have hn0 : n = 0 := by simpa using h
      subst hn0
      have hd := done_ rfl
      conv => whnf
      repeat (first | ((with_reducible refine fork_t ?_); conv => whnf) | ((with_reducible refine fork_f ?_); conv => whnf))
      refine ⟨by omega, ?_⟩
      conv => whnf
      rw [hd] at hk
      exact hk
theorem run_ok : FunR Tryz.prog 27 R_run := by
  intro args k h
  unfold R_run at h
  split at h
  case h_2 => exact h.elim
  rename_i den _ _
  obtain ⟨ws, ps, qs, rfl, rfl, rfl, hlw, hlp, hlq, hk⟩ := h
  have hmq := eL_len qs
  have hmp := eL_len ps
  refine does_ex (qc := qc1) (np := [(18, [(0, 3), (0, 4)])]) (CK := ckK [(44, cSc R_rk), (45, cSc R_fits), (25, cSc R_within), (46, cPu R_pass)]) mixed Tryz.func27 rfl rfl Tryz.ntmps27 Tryz.results27 τ_ok (by kernel_rfl) (ckK_ok ⟨cSc_ok rk_ok, cSc_ok rfit_ok, cSc_ok within_ok, cPu_ok pass_ok rfl, trivial⟩) (by simp) ?_
  conv => whnf
  refine ⟨ws, rfl, hlw, ?_⟩
  conv => whnf
  refine Fork.mk (fun h => ?_) (fun h => ?_)
  · have h1 : rkCheck ws den ≠ 0 := by simpa using h
    conv => whnf
    have e : rkRun ws den ps qs = ([], [], rkCheck ws den) := by unfold rkRun; rw [if_pos h1]
    rw [e] at hk
    exact hk
  have hr : rkCheck ws den = 0 := by simpa using h
  conv => whnf
  refine ⟨ws, ps, rfl, rfl, hlw, hlp, ?_⟩
  conv => whnf
  refine Fork.mk (fun h => ?_) (fun h => ?_)
  · have h1 : fitsB ws.length ps = false := by simpa using h
    conv => whnf
    have e : rkRun ws den ps qs = ([], [], 3) := by unfold rkRun; rw [if_neg (by rw [hr]; simp), if_pos h1]
    rw [e] at hk
    exact hk
  have hf : fitsB ws.length ps = true := by simpa using h
  conv => whnf
  refine Fork.mk (fun h => ?_) (fun h => ?_)
  · have h1 : 4096 < qs.length := by simp at h; omega
    conv => whnf
    have e : rkRun ws den ps qs = ([], [], 10) := by unfold rkRun; rw [if_neg (by rw [hr]; simp), if_neg (by rw [hf]; simp), if_pos h1]
    rw [e] at hk
    exact hk
  have hq : ¬ 4096 < qs.length := by simp at h; omega
  have e : rkRun ws den ps qs = match runGo ws den ps qs with
    | some (p, o) => (p, o, 0)
    | none => ([], [], 1) := by unfold rkRun; rw [if_neg (by rw [hr]; simp), if_neg (by rw [hf]; simp), if_neg hq]; rfl
  rw [e] at hk
  clear e
  obtain ⟨hn1, hn2, _⟩ := rk_facts hr
  obtain ⟨hpl, _⟩ := fits_facts hf
  conv => whnf
  refine ⟨eL_all _, ?_⟩
  conv => whnf
  refine ⟨by rw [hmp]; simp; omega, ?_⟩
  conv => whnf
  refine ⟨Nat × Ls × Ls, fun s => ([(3, .c (.ptr (.l 3 0) 0)), (6, .c (.ptr (.l 6 2) 0)), (10, .c (.ptr (.l 10 4) 0)), (11, .c (.view (.l 63 5) 0 s.2.2.length)), (38, .c (.lst (eL qs))), (39, I (eL qs).length), (40, I s.1)],
      ⟨[(.l 3 0, .blk (RcC ws den)), (.l 6 2, .blk [.sc (.slice none 0 0)]), (.l 10 4, .blk [.lst (eL s.2.1)]), (.l 63 5, .arr 3 1 (eL s.2.2) false)], 6, []⟩),
    fun s => s.1 ≤ qs.length ∧ fitsB ws.length s.2.1 = true ∧ s.2.2.length = s.1 ∧ runGo ws den ps qs = preO s.2.2 (runGo ws den s.2.1 (qs.drop s.1)), fun s => qs.length - s.1, (0, ps, []),
    ⟨Nat.zero_le _, hf, rfl, by cases h : runGo ws den ps qs <;> simp [preO, h]⟩,
    Shift.trans (Shift.rename [] ⟨rfl, rfl, rfl, rfl, rfl, rfl, rfl, trivial⟩ ⟨rfl, rfl, ?_, rfl, trivial⟩ rfl rfl rfl) (Shift.trans (Shift.nilArr (t := 11) rfl 63 3 1) (Shift.purCell (i := .l 10 4) (j := 0) rfl rfl (if_pos (by rw [Nat.zero_add]; exact Nat.le_refl _)))), fun s hs => ?_⟩
  · show some (MObj.blk [Cell.lst (List.take (eL ps).length (List.drop 0 (eL ps)))]) = _
    rw [List.drop_zero, List.take_length]; rfl
  obtain ⟨i, p, out⟩ := s
  obtain ⟨hi, hfp, hol, hgo⟩ := hs
  dsimp only at hi hfp hol hgo ⊢
  conv => whnf
  refine Fork.mk (fun h => ?_) (fun h => ?_)
  · have hi : i < qs.length := by simp at h; omega
    have hat := map_at eI qs hi
    have hd : qs.drop i = qs[i] :: qs.drop (i + 1) := List.drop_eq_getElem_cons hi
    rw [hd] at hgo
    generalize qs[i] = q at *
    conv => whnf
    refine ⟨by omega, eI q, hat, rfl, ?_⟩
    conv => whnf
    refine Fork.mk (fun h => ?_) (fun h => ?_)
    · have hqb : ¬ (0 ≤ q ∧ q ≤ 1073741824) := by simp at h; omega
      conv => whnf
      rw [hgo, runGo_bad (fun hh => hqb ⟨hh.1, hh.2.1⟩)] at hk
      exact hk
    · have hqb : 0 ≤ q ∧ q ≤ 1073741824 := by simpa using h
      conv => whnf
      refine ⟨ws, p, rfl, rfl, hr, hfp, hqb, fun hok => ?_, fun hbad => ?_⟩
      · rw [runGo_good ⟨hqb.1, hqb.2, hok⟩, preO_app] at hgo
        have hf2 := step_fits hr hfp hqb.1 hqb.2 hok
        generalize stepF ws den p q = p2 at *
        generalize outF ws den p q = o at *
        conv => whnf
        refine Fork.mk (fun h => (by cases h)) (fun h => ?_)
        conv => whnf
        refine ⟨by simp, ?_⟩
        conv => whnf
        refine ⟨rfl, ?_⟩
        conv => whnf
        refine ⟨⟨rfl, rfl, rfl, (eL_len out).symm, by rw [eL_len]; simp; omega⟩, ?_⟩
        conv => whnf
        have hw1 : IntKind.i64.wrap ((i : Int) + 1) = ((i + 1 : Nat) : Int) := by rw [wrap_in (by omega) (by omega)]; omega
        rw [hw1]
        refine ⟨(i + 1, p2, out ++ [o]), ⟨hi, hf2, by simp [hol], hgo⟩, Shift.rename [(.l 63 5, .l 63 7)] ⟨rfl, rfl, rfl, ?_, rfl, rfl, rfl, trivial⟩ ⟨rfl, rfl, rfl, ?_, trivial⟩ rfl rfl rfl, ?_⟩
        · dsimp only
          rw [snoc_len]; rfl
        · dsimp only
          rw [← eL_snoc]; rfl
        · show qs.length - (i + 1) < qs.length - i
          omega
      · conv => whnf
        refine Fork.mk (fun h => ?_) (fun h => (by cases h))
        conv => whnf
        rw [hgo, runGo_bad (fun hh => hbad hh.2.2)] at hk
        exact hk
  · have hie : i = qs.length := by simp at h; omega
    subst hie
    rw [List.drop_length, runGo] at hgo
    rw [hgo] at hk
    conv => whnf
    refine ⟨by rw [eL_len]; omega, ?_⟩
    conv => whnf
    have hl : List.take out.length (List.drop 0 (eL out)) = eL (out ++ []) := by rw [List.append_nil, List.drop_zero, List.take_of_length_le (by rw [eL_len]; exact Nat.le_refl _)]
    rw [hl]
    exact hk
theorem rwrong16_ok : FunR Tryz.prog 36 R_wrong := by
  intro args k h
  unfold R_wrong at h
  split at h
  case h_2 => exact h.elim
  rename_i den _
  obtain ⟨ws, ps, rfl, rfl, hlw, hlp, hk⟩ := h
  refine does_ex (qc := qc1) (np := []) (CK := ckK [(57, cSc R_rk), (58, cSc R_valid)]) mixed Tryz.func36 rfl rfl Tryz.ntmps36 Tryz.results36 τ_ok (by kernel_rfl) (ckK_ok ⟨cSc_ok rrk_ok, cSc_ok rvld_ok, trivial⟩) (by simp) ?_
  conv => whnf
  refine ⟨ws, rfl, hlw, ?_⟩
  conv => whnf
  refine Fork.mk (fun h => ?_) (fun h => ?_)
  · have h1 : rkCheck ws den ≠ 0 := by simpa using h
    conv => whnf
    rw [if_pos h1] at hk
    exact hk
  · have hr : rkCheck ws den = 0 := by simpa using h
    rw [if_neg (by rw [hr]; simp)] at hk
    conv => whnf
    refine ⟨ws, ps, rfl, rfl, hlw, hlp, ?_⟩
    conv => whnf
    refine Fork.mk (fun h => ?_) (fun h => ?_)
    · have h1 : fitsB ws.length ps = false := by simpa [hr] using h
      rw [if_pos h1] at hk
      conv => whnf
      exact hk
    · have h1 : fitsB ws.length ps = true := by simpa [hr] using h
      rw [if_neg (by rw [h1]; simp)] at hk
      conv => whnf
      exact hk
theorem rrun_ok : FunR Tryz.prog 19 R_run := by
  intro args k h
  unfold R_run at h
  split at h
  case h_2 => exact h.elim
  rename_i den _ _
  obtain ⟨ws, ps, qs, rfl, rfl, rfl, hlw, hlp, hlq, hk⟩ := h
  have hmq := eL_len qs
  have hmp := eL_len ps
  refine does_ex (qc := qc1) (np := [(14, [(0, 3), (0, 4)])]) (CK := ckK [(36, cSc R_wrong), (37, cPu R_step)]) mixed Tryz.func19 rfl rfl Tryz.ntmps19 Tryz.results19 τ_ok (by kernel_rfl) (ckK_ok ⟨cSc_ok rwrong16_ok, cPu_ok step_ok rfl, trivial⟩) (by simp) ?_
  conv => whnf
  refine ⟨ws, ps, rfl, rfl, hlw, hlp, ?_⟩
  by_cases hr' : rkCheck ws den ≠ 0
  · rw [if_pos hr']
    conv => whnf
    refine Fork.mk (fun h => ?_) (fun h => absurd (by simpa using h) hr')
    conv => whnf
    have e : rkRun ws den ps qs = ([], [], rkCheck ws den) := by unfold rkRun; rw [if_pos hr']
    rw [e] at hk
    exact hk
  have hr : rkCheck ws den = 0 := by simpa using hr'
  rw [if_neg hr']
  by_cases hf' : fitsB ws.length ps = false
  · rw [if_pos hf']
    conv => whnf
    refine Fork.mk (fun h => ?_) (fun h => (by simp at h))
    conv => whnf
    have e : rkRun ws den ps qs = ([], [], 3) := by unfold rkRun; rw [if_neg (by rw [hr]; simp), if_pos hf']
    rw [e] at hk
    exact hk
  have hf : fitsB ws.length ps = true := by simpa using hf'
  rw [if_neg hf']
  conv => whnf
  refine Fork.mk (fun h => (by simp at h)) (fun h => ?_)
  conv => whnf
  refine Fork.mk (fun h => ?_) (fun h => ?_)
  · have h1 : 4096 < qs.length := by simp at h; omega
    conv => whnf
    have e : rkRun ws den ps qs = ([], [], 10) := by unfold rkRun; rw [if_neg (by rw [hr]; simp), if_neg (by rw [hf]; simp), if_pos h1]
    rw [e] at hk
    exact hk
  have hq : ¬ 4096 < qs.length := by simp at h; omega
  have e : rkRun ws den ps qs = match runGo ws den ps qs with
    | some (p, o) => (p, o, 0)
    | none => ([], [], 1) := by unfold rkRun; rw [if_neg (by rw [hr]; simp), if_neg (by rw [hf]; simp), if_neg hq]; rfl
  rw [e] at hk
  clear e
  obtain ⟨hn1, hn2, _⟩ := rk_facts hr
  obtain ⟨hpl, _⟩ := fits_facts hf
  conv => whnf
  refine ⟨eL_all _, ?_⟩
  conv => whnf
  refine ⟨by rw [hmp]; simp; omega, ?_⟩
  conv => whnf
  refine ⟨Nat × Ls × Ls, fun s => ([(3, .c (.ptr (.l 3 0) 0)), (4, .c (.ptr (.l 4 1) 0)), (6, .c (.ptr (.l 6 2) 0)), (10, .c (.view (.l 53 4) 0 s.2.2.length)), (31, .c (.lst (eL qs))), (32, I (eL qs).length), (33, I s.1)],
      ⟨[(.l 3 0, .blk (RcC ws den)), (.l 4 1, .blk [.lst (eL s.2.1)]), (.l 6 2, .blk [.sc (.slice none 0 0)]), (.l 53 4, .arr 3 1 (eL s.2.2) false)], 5, []⟩),
    fun s => s.1 ≤ qs.length ∧ fitsB ws.length s.2.1 = true ∧ s.2.2.length = s.1 ∧ runGo ws den ps qs = preO s.2.2 (runGo ws den s.2.1 (qs.drop s.1)), fun s => qs.length - s.1, (0, ps, []),
    ⟨Nat.zero_le _, hf, rfl, by cases h : runGo ws den ps qs <;> simp [preO, h]⟩,
    Shift.trans (Shift.rename [] ⟨rfl, rfl, rfl, rfl, rfl, rfl, rfl, trivial⟩ ⟨rfl, ?_, rfl, rfl, trivial⟩ rfl rfl rfl) (Shift.trans (Shift.nilArr (t := 10) rfl 53 3 1) (Shift.purCell (i := .l 4 1) (j := 0) rfl rfl (if_pos (by rw [Nat.zero_add]; exact Nat.le_refl _)))), fun s hs => ?_⟩
  · show some (MObj.blk [Cell.lst (List.take (eL ps).length (List.drop 0 (eL ps)))]) = _
    rw [List.drop_zero, List.take_length]; rfl
  obtain ⟨i, p, out⟩ := s
  obtain ⟨hi, hfp, hol, hgo⟩ := hs
  dsimp only at hi hfp hol hgo ⊢
  conv => whnf
  refine Fork.mk (fun h => ?_) (fun h => ?_)
  · have hi : i < qs.length := by simp at h; omega
    have hat := map_at eI qs hi
    have hd : qs.drop i = qs[i] :: qs.drop (i + 1) := List.drop_eq_getElem_cons hi
    rw [hd] at hgo
    generalize qs[i] = q at *
    conv => whnf
    refine ⟨by omega, eI q, hat, rfl, ?_⟩
    conv => whnf
    refine ⟨ws, p, rfl, rfl, hr, hfp, fun hok => ?_, fun hbad => ?_⟩
    · rw [runGo_good hok, preO_app] at hgo
      have hf2 := step_fits hr hfp hok.1 hok.2.1 hok.2.2
      generalize stepF ws den p q = p2 at *
      generalize outF ws den p q = o at *
      conv => whnf
      refine Fork.mk (fun h => (by simp at h)) (fun h => ?_)
      conv => whnf
      refine ⟨by simp, ?_⟩
      conv => whnf
      refine ⟨rfl, ?_⟩
      conv => whnf
      refine ⟨⟨rfl, rfl, rfl, (eL_len out).symm, by rw [eL_len]; simp; omega⟩, ?_⟩
      conv => whnf
      have hw1 : IntKind.i64.wrap ((i : Int) + 1) = ((i + 1 : Nat) : Int) := by rw [wrap_in (by omega) (by omega)]; omega
      rw [hw1]
      refine ⟨(i + 1, p2, out ++ [o]), ⟨hi, hf2, by simp [hol], hgo⟩, Shift.rename [(.l 53 4, .l 53 6)] ⟨rfl, rfl, rfl, ?_, rfl, rfl, rfl, trivial⟩ ⟨rfl, rfl, rfl, ?_, trivial⟩ rfl rfl rfl, ?_⟩
      · dsimp only
        rw [snoc_len]; rfl
      · dsimp only
        rw [← eL_snoc]; rfl
      · show qs.length - (i + 1) < qs.length - i
        omega
    · conv => whnf
      refine Fork.mk (fun h => ?_) (fun h => (by simp at h))
      conv => whnf
      rw [hgo, runGo_bad hbad] at hk
      exact hk
  · have hie : i = qs.length := by simp at h; omega
    subst hie
    rw [List.drop_length, runGo] at hgo
    rw [hgo] at hk
    conv => whnf
    refine ⟨by rw [eL_len]; omega, ?_⟩
    conv => whnf
    have hl : List.take out.length (List.drop 0 (eL out)) = eL (out ++ []) := by rw [List.append_nil, List.drop_zero, List.take_of_length_le (by rw [eL_len]; exact Nat.le_refl _)]
    rw [hl]
    exact hk
theorem stepA_ok : FunR Tryz.prog 11 R_stepA := by
  intro args k h
  unfold R_stepA at h
  split at h
  case h_2 => exact h.elim
  rename_i den _ q
  obtain ⟨ws, ps, rfl, rfl, hlw, hlp, hk⟩ := h
  refine does_ex (qc := qc1) (np := [(4, [(2, 4), (3, 4)])]) (CK := ckK [(27, cPu R_run)]) mixed Tryz.func11 rfl rfl Tryz.ntmps11 Tryz.results11 τ_ok (by kernel_rfl) (ckK_ok ⟨cPu_ok run_ok rfl, trivial⟩) (by simp) ?_
  conv => whnf
  refine ⟨by simp, ?_⟩
  conv => whnf
  refine ⟨ws, ps, [q], rfl, rfl, rfl, hlw, hlp, by simp, ?_⟩
  conv => whnf
  have hlen := rkRun_len (ws := ws) (den := den) (ps := ps) (qs := [q])
  unfold rkStep at hk
  refine Fork.mk (fun h => ?_) (fun h => ?_)
  · have h1 : (rkRun ws den ps [q]).2.2 ≠ 0 := by simpa using h
    conv => whnf
    rw [if_pos h1] at hk
    exact hk
  · have h1 : (rkRun ws den ps [q]).2.2 = 0 := by simpa using h
    have h2 := hlen h1
    rw [if_neg (by rw [h1]; simp)] at hk
    conv => whnf
    cases ho : (rkRun ws den ps [q]).2.1 with
    | nil => rw [ho] at h2; simp at h2
    | cons o r =>
      rw [ho] at hk
      refine ⟨by omega, eI o, rfl, rfl, ?_⟩
      conv => whnf
      exact hk
theorem wave_ok : FunB Tryz.prog 7 R_wave := by
  intro cs args k h
  unfold R_wave at h
  split at h
  case h_2 => exact h.elim
  rename_i den
  obtain ⟨d, ws, rfl, rfl, hd, hr, hk⟩ := h
  obtain ⟨a1, a2, _, a4, a5, a6, _⟩ := rk_facts hr
  refine doesB_ex (qc := qc1) (np := [(1, [(0, 4), (0, 5), (0, 11), (4, 11), (5, 11), (6, 11)])]) (CK := ckK [(9, cB R_next), (20, cB R_flows), (19, cPu R_run)]) mixed Tryz.func7 rfl rfl Tryz.ntmps7 Tryz.results7 τ_ok (by kernel_rfl) (ckK_ok ⟨cB_ok next_ok rfl, cB_ok mflows_ok rfl, cPu_ok rrun_ok rfl, trivial⟩) (by simp) rfl rfl ?_
  conv => whnf
  refine ⟨d, rfl, hd, by omega, fun n d hd hn1 hn2 => ?_⟩
  conv => whnf
  obtain ⟨n, rfl⟩ := Int.eq_ofNat_of_zero_le hn1
  refine ⟨d, n, rfl, hd, rfl, by omega, by omega, fun qs d hd hl hq => ?_⟩
  obtain ⟨p, o, e1, f1, f2⟩ := wave_law hr hq (by omega)
  conv => whnf
  refine ⟨ws, [], qs, rfl, rfl, rfl, by omega, by simp, by omega, ?_⟩
  rw [e1]
  conv => whnf

  exact ⟨rfl, rfl, hk p d hd f1 f2⟩
end Go.Proofs
