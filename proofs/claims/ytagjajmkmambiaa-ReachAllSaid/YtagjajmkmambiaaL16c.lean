/- Proved here: what functions of the given program come to, for the statements of this chapter; no condition but those in the theorems. -/
import Derived.Test.YtagjajmkmambiaaL16b
namespace Go.Proofs
open Go.Abs
set_option linter.unusedSimpArgs false
set_option linter.unusedVariables false
set_option maxRecDepth 4000
def okP (p : Int) : Bool := decide (0 ≤ p) && decide (p ≤ 2251799813685248)
def fitsB (n : Nat) (ps : Ls) : Bool := decide (ps.length ≤ n) && (!decide (ps.getLast? = some 0) && ps.all okP)
theorem okP_in {w : Int} (h : okP w = true) : 0 ≤ w ∧ w ≤ 2251799813685248 := by simpa [okP] using h
def R_fits : RT := fun args k => match args with
  | [.agg [.lst es, .sc (.int .i64 den)], .agg [.lst es2]] => ∃ ws ps, es = eL ws ∧ es2 = eL ps ∧ ws.length ≤ 9223372036854775807 ∧ ps.length ≤ 9223372036854775807 ∧ k (Bo (fitsB ws.length ps))
  | _ => False
def R_valid : RT := fun args k => match args with
  | [.agg [.lst es, .sc (.int .i64 den)], .agg [.lst es2]] => ∃ ws ps, es = eL ws ∧ es2 = eL ps ∧ ws.length ≤ 9223372036854775807 ∧ ps.length ≤ 9223372036854775807 ∧ k (Bo (decide (rkCheck ws den = 0) && fitsB ws.length ps))
  | _ => False
theorem fits_ok : FunR Try.prog 34 R_fits := by
  intro args k h
  unfold R_fits at h
  split at h
  case h_2 => exact h.elim
  rename_i den _
  obtain ⟨ws, ps, rfl, rfl, hlw, hlp, hk⟩ := h
  have hml := eL_len ws
  have hmp := eL_len ps
  refine does_ex (qc := qc1) (np := []) (CK := ckK [(35, cSc R_within)]) mixed Try.func34 rfl rfl Try.ntmps34 Try.results34 τ_ok (by kernel_rfl) (ckK_ok ⟨cSc_ok within_ok, trivial⟩) (by simp) ?_
  conv => whnf
  refine Fork.mk (fun h => ?_) (fun h => ?_)
  · have h1 : ¬ ps.length ≤ ws.length := by simp at h; omega
    conv => whnf
    have e : fitsB ws.length ps = false := by unfold fitsB; rw [decide_eq_false h1]; rfl
    rw [e] at hk
    repeat (first | ((with_reducible refine fork_t ?_); conv => whnf) | ((with_reducible refine fork_f ?_); conv => whnf))
    exact hk
  · have h1 : ps.length ≤ ws.length := by simp at h; omega
    conv => whnf
    have e1 : fitsB ws.length ps = (!decide (ps.getLast? = some 0) && ps.all okP) := by unfold fitsB; rw [decide_eq_true h1]; rfl
    rw [e1] at hk
    refine Fork.mk (fun h => ?_) (fun h => ?_)
    · have h0 : ps.length ≠ 0 := by simp at h; omega
      have hw : IntKind.i64.wrap (((eL ps).length : Int) - 1) = ((ps.length - 1 : Nat) : Int) := by rw [hmp, wrap_in (by omega) (by omega)]; omega
      have hla := last_at h0
      have hlw' : ps.length - 1 < ps.length := by omega
      have hat0 := map_at eI ps hlw'
      generalize hlv : ps[ps.length - 1] = la at *
      conv => whnf
      rw [hw]
      refine ⟨by omega, eI la, hat0, rfl, ?_⟩
      conv => whnf
      refine Fork.mk (fun h => ?_) (fun h => ?_)
      · have h2 : la = 0 := by simpa using h
        conv => whnf
        rw [hla, h2] at hk
        exact hk
      · have h2 : la ≠ 0 := by simpa using h
        conv => whnf
        have e2 : (!decide (ps.getLast? = some 0)) = true := by rw [hla]; simpa using h2
        rw [e2, Bool.true_and] at hk
        refine ⟨Nat, fun i => ([(30, .c (.lst (eL ps))), (31, I (eL ps).length), (32, I i)], ⟨[], 0, []⟩), fun i => i ≤ ps.length ∧ (ps.take i).all okP = true, fun i => ps.length - i, 0,
          ⟨Nat.zero_le _, rfl⟩, Shift.reset ⟨rfl, rfl, rfl, trivial⟩ trivial rfl rfl, fun i hi => ?_⟩
        obtain ⟨hi1, hi2⟩ := hi
        dsimp only
        conv => whnf
        refine Fork.mk (fun h => ?_) (fun h => ?_)
        · have hi : i < ps.length := by simp at h; omega
          have hall := all_take (f := okP) hi
          have hat := map_at eI ps hi
          have hmem : ps[i] ∈ ps := List.getElem_mem _
          generalize hv : ps[i] = v at *
          conv => whnf
          refine ⟨by omega, eI v, hat, rfl, ?_⟩
          conv => whnf
          refine Fork.mk (fun h => ?_) (fun h => ?_)
          · have hb : okP v = false := by simp at h; simp [okP]; omega
            conv => whnf
            have hna : ps.all okP = false := by
              cases hh : ps.all okP with
              | false => rfl
              | true => have := all_in hh v hmem; rw [hb] at this; cases this
            rw [hna] at hk
            exact hk
          · have hb : okP v = true := by simpa [okP] using h
            conv => whnf
            have hw1 : IntKind.i64.wrap ((i : Int) + 1) = ((i + 1 : Nat) : Int) := by rw [wrap_in (by omega) (by omega)]; omega
            rw [hw1]
            refine ⟨i + 1, ⟨hi, by rw [hall, hi2, hb]; rfl⟩, Shift.reset ⟨rfl, rfl, rfl, trivial⟩ trivial rfl rfl, ?_⟩
            show ps.length - (i + 1) < ps.length - i
            omega
        · have hie : i = ps.length := by simp at h; omega
          subst hie
          rw [List.take_length] at hi2
          rw [hi2] at hk
          conv => whnf
          exact hk
    · have h0 : ps.length = 0 := by simp at h; simp [h]
      have hp0 : ps = [] := List.eq_nil_of_length_eq_zero h0
      conv => whnf
      repeat (first | ((with_reducible refine fork_t ?_); conv => whnf) | ((with_reducible refine fork_f ?_); conv => whnf))
      have e2 : (!decide (ps.getLast? = some 0)) = true := by rw [hp0]; rfl
      rw [e2, Bool.true_and] at hk
      refine ⟨Nat, fun i => ([(30, .c (.lst (eL ps))), (31, I (eL ps).length), (32, I i)], ⟨[], 0, []⟩), fun i => i ≤ ps.length ∧ (ps.take i).all okP = true, fun i => ps.length - i, 0,
        ⟨Nat.zero_le _, rfl⟩, Shift.reset ⟨rfl, rfl, rfl, trivial⟩ trivial rfl rfl, fun i hi => ?_⟩
      obtain ⟨hi1, hi2⟩ := hi
      dsimp only
      conv => whnf
      refine Fork.mk (fun h => ?_) (fun h => ?_)
      · have hi : i < ps.length := by simp at h; omega
        have hall := all_take (f := okP) hi
        have hat := map_at eI ps hi
        have hmem : ps[i] ∈ ps := List.getElem_mem _
        generalize hv : ps[i] = v at *
        conv => whnf
        refine ⟨by omega, eI v, hat, rfl, ?_⟩
        conv => whnf
        refine Fork.mk (fun h => ?_) (fun h => ?_)
        · have hb : okP v = false := by simp at h; simp [okP]; omega
          conv => whnf
          have hna : ps.all okP = false := by
            cases hh : ps.all okP with
            | false => rfl
            | true => have := all_in hh v hmem; rw [hb] at this; cases this
          rw [hna] at hk
          exact hk
        · have hb : okP v = true := by simpa [okP] using h
          conv => whnf
          have hw1 : IntKind.i64.wrap ((i : Int) + 1) = ((i + 1 : Nat) : Int) := by rw [wrap_in (by omega) (by omega)]; omega
          rw [hw1]
          refine ⟨i + 1, ⟨hi, by rw [hall, hi2, hb]; rfl⟩, Shift.reset ⟨rfl, rfl, rfl, trivial⟩ trivial rfl rfl, ?_⟩
          show ps.length - (i + 1) < ps.length - i
          omega
      · have hie : i = ps.length := by simp at h; omega
        subst hie
        rw [List.take_length] at hi2
        rw [hi2] at hk
        conv => whnf
        exact hk
theorem valid_ok : FunR Try.prog 29 R_valid := by
  intro args k h
  unfold R_valid at h
  split at h
  case h_2 => exact h.elim
  rename_i den _
  obtain ⟨ws, ps, rfl, rfl, hlw, hlp, hk⟩ := h
  have hml := eL_len ws
  have hmp := eL_len ps
  refine does_ex (qc := qc1) (np := []) (CK := ckK [(28, cSc R_rk), (37, cSc R_within)]) mixed Try.func29 rfl rfl Try.ntmps29 Try.results29 τ_ok (by kernel_rfl) (ckK_ok ⟨cSc_ok rrk_ok, cSc_ok rIn_ok, trivial⟩) (by simp) ?_
  conv => whnf
  refine ⟨ws, rfl, hlw, ?_⟩
  conv => whnf
  refine Fork.mk (fun h => ?_) (fun h => ?_)
  · have h1 : rkCheck ws den ≠ 0 := by simpa using h
    conv => whnf
    repeat (first | ((with_reducible refine fork_t ?_); conv => whnf) | ((with_reducible refine fork_f ?_); conv => whnf))
    rw [decide_eq_false h1] at hk
    exact hk
  have h00 : rkCheck ws den = 0 := by simpa using h
  rw [decide_eq_true h00, Bool.true_and] at hk
  conv => whnf
  refine Fork.mk (fun h => ?_) (fun h => ?_)
  · have h1 : ¬ ps.length ≤ ws.length := by simp at h; omega
    conv => whnf
    have e : fitsB ws.length ps = false := by unfold fitsB; rw [decide_eq_false h1]; rfl
    rw [e] at hk
    repeat (first | ((with_reducible refine fork_t ?_); conv => whnf) | ((with_reducible refine fork_f ?_); conv => whnf))
    exact hk
  · have h1 : ps.length ≤ ws.length := by simp at h; omega
    conv => whnf
    have e1 : fitsB ws.length ps = (!decide (ps.getLast? = some 0) && ps.all okP) := by unfold fitsB; rw [decide_eq_true h1]; rfl
    rw [e1] at hk
    refine Fork.mk (fun h => ?_) (fun h => ?_)
    · have h0 : ps.length ≠ 0 := by simp at h; omega
      have hw : IntKind.i64.wrap (((eL ps).length : Int) - 1) = ((ps.length - 1 : Nat) : Int) := by rw [hmp, wrap_in (by omega) (by omega)]; omega
      have hla := last_at h0
      have hlw' : ps.length - 1 < ps.length := by omega
      have hat0 := map_at eI ps hlw'
      generalize hlv : ps[ps.length - 1] = la at *
      conv => whnf
      rw [hw]
      refine ⟨by omega, eI la, hat0, rfl, ?_⟩
      conv => whnf
      refine Fork.mk (fun h => ?_) (fun h => ?_)
      · have h2 : la = 0 := by simpa using h
        conv => whnf
        rw [hla, h2] at hk
        exact hk
      · have h2 : la ≠ 0 := by simpa using h
        conv => whnf
        have e2 : (!decide (ps.getLast? = some 0)) = true := by rw [hla]; simpa using h2
        rw [e2, Bool.true_and] at hk
        refine ⟨Nat, fun i => ([(35, .c (.lst (eL ps))), (36, I (eL ps).length), (37, I i)], ⟨[], 0, []⟩), fun i => i ≤ ps.length ∧ (ps.take i).all okP = true, fun i => ps.length - i, 0,
          ⟨Nat.zero_le _, rfl⟩, Shift.reset ⟨rfl, rfl, rfl, trivial⟩ trivial rfl rfl, fun i hi => ?_⟩
        obtain ⟨hi1, hi2⟩ := hi
        dsimp only
        conv => whnf
        refine Fork.mk (fun h => ?_) (fun h => ?_)
        · have hi : i < ps.length := by simp at h; omega
          have hall := all_take (f := okP) hi
          have hat := map_at eI ps hi
          have hmem : ps[i] ∈ ps := List.getElem_mem _
          generalize hv : ps[i] = v at *
          conv => whnf
          refine ⟨by omega, eI v, hat, rfl, ?_⟩
          conv => whnf
          refine Fork.mk (fun h => ?_) (fun h => ?_)
          · have hb : okP v = false := by simp at h; simp [okP]; omega
            conv => whnf
            have hna : ps.all okP = false := by
              cases hh : ps.all okP with
              | false => rfl
              | true => have := all_in hh v hmem; rw [hb] at this; cases this
            rw [hna] at hk
            exact hk
          · have hb : okP v = true := by simpa [okP] using h
            conv => whnf
            have hw1 : IntKind.i64.wrap ((i : Int) + 1) = ((i + 1 : Nat) : Int) := by rw [wrap_in (by omega) (by omega)]; omega
            rw [hw1]
            refine ⟨i + 1, ⟨hi, by rw [hall, hi2, hb]; rfl⟩, Shift.reset ⟨rfl, rfl, rfl, trivial⟩ trivial rfl rfl, ?_⟩
            show ps.length - (i + 1) < ps.length - i
            omega
        · have hie : i = ps.length := by simp at h; omega
          subst hie
          rw [List.take_length] at hi2
          rw [hi2] at hk
          conv => whnf
          exact hk
    · have h0 : ps.length = 0 := by simp at h; simp [h]
      have hp0 : ps = [] := List.eq_nil_of_length_eq_zero h0
      conv => whnf
      repeat (first | ((with_reducible refine fork_t ?_); conv => whnf) | ((with_reducible refine fork_f ?_); conv => whnf))
      have e2 : (!decide (ps.getLast? = some 0)) = true := by rw [hp0]; rfl
      rw [e2, Bool.true_and] at hk
      refine ⟨Nat, fun i => ([(35, .c (.lst (eL ps))), (36, I (eL ps).length), (37, I i)], ⟨[], 0, []⟩), fun i => i ≤ ps.length ∧ (ps.take i).all okP = true, fun i => ps.length - i, 0,
        ⟨Nat.zero_le _, rfl⟩, Shift.reset ⟨rfl, rfl, rfl, trivial⟩ trivial rfl rfl, fun i hi => ?_⟩
      obtain ⟨hi1, hi2⟩ := hi
      dsimp only
      conv => whnf
      refine Fork.mk (fun h => ?_) (fun h => ?_)
      · have hi : i < ps.length := by simp at h; omega
        have hall := all_take (f := okP) hi
        have hat := map_at eI ps hi
        have hmem : ps[i] ∈ ps := List.getElem_mem _
        generalize hv : ps[i] = v at *
        conv => whnf
        refine ⟨by omega, eI v, hat, rfl, ?_⟩
        conv => whnf
        refine Fork.mk (fun h => ?_) (fun h => ?_)
        · have hb : okP v = false := by simp at h; simp [okP]; omega
          conv => whnf
          have hna : ps.all okP = false := by
            cases hh : ps.all okP with
            | false => rfl
            | true => have := all_in hh v hmem; rw [hb] at this; cases this
          rw [hna] at hk
          exact hk
        · have hb : okP v = true := by simpa [okP] using h
          conv => whnf
          have hw1 : IntKind.i64.wrap ((i : Int) + 1) = ((i + 1 : Nat) : Int) := by rw [wrap_in (by omega) (by omega)]; omega
          rw [hw1]
          refine ⟨i + 1, ⟨hi, by rw [hall, hi2, hb]; rfl⟩, Shift.reset ⟨rfl, rfl, rfl, trivial⟩ trivial rfl rfl, ?_⟩
          show ps.length - (i + 1) < ps.length - i
          omega
      · have hie : i = ps.length := by simp at h; omega
        subst hie
        rw [List.take_length] at hi2
        rw [hi2] at hk
        conv => whnf
        exact hk
end Go.Proofs
