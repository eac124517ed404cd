/- Proved here: what functions of the given program come to, for the statements of this chapter; no condition but those in the theorems. -/
import Derived.Test.YtagjajmkmambiaaL16a
namespace Go.Proofs
open Go.Abs
set_option linter.unusedSimpArgs false
set_option linter.unusedVariables false
set_option maxRecDepth 4000
abbrev Ls := List Int
abbrev eL (l : Ls) : List (List Cell) := l.map eI
abbrev RcC (ws : Ls) (den : Int) : List Cell := [.lst (eL ws), IC den]
abbrev WvC (ps : Ls) : List Cell := [.lst (eL ps)]
def okW (w : Int) : Bool := decide (0 ≤ w) && decide (w ≤ 10000)
def rkCheck (ws : Ls) (den : Int) : Int := if ws.length = 0 ∨ ws.getLast? = some 0 then 3 else if 24 < ws.length then 10 else if ws.all okW then (if ws.sum = den then 0 else 2) else 1
theorem eL_len (l : Ls) : (eL l).length = l.length := List.length_map _
theorem sum_take {l : Ls} {i : Nat} (h : i < l.length) : (l.take (i + 1)).sum = (l.take i).sum + l[i] := by
  rw [← List.take_append_getElem h, List.sum_append]; simp
theorem all_take {f : Int → Bool} {l : Ls} {i : Nat} (h : i < l.length) : (l.take (i + 1)).all f = ((l.take i).all f && f l[i]) := by
  rw [← List.take_append_getElem h, List.all_append]; simp
theorem sum_in {l : Ls} {a : Int} (ha : 0 ≤ a) (h : ∀ x ∈ l, 0 ≤ x ∧ x ≤ a) : 0 ≤ l.sum ∧ l.sum ≤ a * l.length := by
  induction l with
  | nil => simp
  | cons x r ih =>
    have := ih (fun y hy => h y (by simp [hy]))
    have := h x (by simp)
    rw [List.sum_cons, List.length_cons, Int.natCast_add, Int.mul_add]
    omega
theorem all_in {l : Ls} {f : Int → Bool} (h : l.all f = true) : ∀ x ∈ l, f x = true := fun x hx => List.all_eq_true.1 h x hx
theorem okW_in {w : Int} (h : okW w = true) : 0 ≤ w ∧ w ≤ 10000 := by simpa [okW] using h
theorem last_at {l : Ls} (h : l.length ≠ 0) : l.getLast? = some (l[l.length - 1]'(by omega)) := by
  rw [List.getLast?_eq_getElem?, List.getElem?_eq_getElem]
def R_rk : RT := fun args k => match args with
  | [.agg [.lst es, .sc (.int .i64 den)]] => ∃ ws, es = eL ws ∧ ws.length ≤ 9223372036854775807 ∧ k (I (rkCheck ws den))
  | _ => False
theorem rk_ok : FunR Try.prog 27 R_rk := by
  intro args k h
  unfold R_rk at h
  split at h
  case h_2 => exact h.elim
  rename_i den
  obtain ⟨ws, rfl, hlen, hk⟩ := h
  have hml := eL_len ws
  refine does_ex (qc := qc1) (np := []) (CK := ckK [(35, cSc R_within)]) mixed Try.func27 rfl rfl Try.ntmps27 Try.results27 τ_ok (by kernel_rfl) (ckK_ok ⟨cSc_ok within_ok, trivial⟩) (by simp) ?_
  conv => whnf
  refine Fork.mk (fun h => ?_) (fun h => ?_)
  · have h0 : ws.length = 0 := by simp at h; simp [h]
    conv => whnf
    refine Fork.mk (fun h => ?_) (fun h => (by simp [h0] at h))
    conv => whnf
    have e : rkCheck ws den = 3 := by unfold rkCheck; rw [if_pos (.inl h0)]
    rw [e] at hk
    exact hk
  · have h0 : ws.length ≠ 0 := by simp at h; simpa using h
    conv => whnf
    have hw : IntKind.i64.wrap (((eL ws).length : Int) - 1) = ((ws.length - 1 : Nat) : Int) := by rw [hml, wrap_in (by omega) (by omega)]; omega
    rw [hw]
    refine ⟨by omega, eI (ws[ws.length - 1]'(by omega)), map_at eI ws (by omega), rfl, ?_⟩
    have hla := last_at h0
    have hlw : ws.length - 1 < ws.length := by omega
    generalize hlv : ws[ws.length - 1] = la at *
    conv => whnf
    refine Fork.mk (fun h => ?_) (fun h => ?_)
    · have h1 : la = 0 := by simpa using h
      conv => whnf
      have e : rkCheck ws den = 3 := by unfold rkCheck; rw [if_pos (.inr (by rw [hla, h1]))]
      rw [e] at hk
      exact hk
    · have h1 : la ≠ 0 := by simpa using h
      conv => whnf
      have hne : ¬ (ws.length = 0 ∨ ws.getLast? = some 0) := by
        rintro (h | h)
        · exact h0 h
        · rw [hla] at h; simp at h; exact h1 h
      refine Fork.mk (fun h => ?_) (fun h => ?_)
      · have h2 : 24 < ws.length := by simp at h; omega
        conv => whnf
        have e : rkCheck ws den = 10 := by unfold rkCheck; rw [if_neg hne, if_pos h2]
        rw [e] at hk
        exact hk
      · have h2 : ¬ 24 < ws.length := by simp at h; omega
        have e : rkCheck ws den = if ws.all okW then (if ws.sum = den then 0 else 2) else 1 := by unfold rkCheck; rw [if_neg hne, if_neg h2]
        rw [e] at hk
        clear e h hlv hla
        conv => whnf
        refine ⟨Nat, fun i => ([(1, .c (.ptr (.l 1 0) 0)), (4, I (ws.take i).sum), (26, .c (.lst (eL ws))), (27, I (eL ws).length), (28, I i)], ⟨[(.l 1 0, .blk (RcC ws den))], 1, []⟩), fun i => i ≤ ws.length ∧ (ws.take i).all okW = true, fun i => ws.length - i, 0,
          ⟨Nat.zero_le _, rfl⟩, Shift.reset ⟨rfl, rfl, rfl, rfl, rfl, trivial⟩ ⟨rfl, trivial⟩ rfl rfl, fun i hi => ?_⟩
        obtain ⟨hi1, hi2⟩ := hi
        dsimp only
        have hsb := sum_in (l := ws.take i) (a := 10000) (by omega) (fun x hx => okW_in (all_in hi2 x hx))
        rw [List.length_take_of_le hi1] at hsb
        conv => whnf
        refine Fork.mk (fun h => ?_) (fun h => ?_)
        · have hi : i < ws.length := by simp at h; omega
          have hsum := sum_take hi
          have hall := all_take (f := okW) hi
          have hat := map_at eI ws hi
          have hmem : ws[i] ∈ ws := List.getElem_mem _
          generalize hv : ws[i] = v at *
          conv => whnf
          refine ⟨by omega, eI v, hat, rfl, ?_⟩
          conv => whnf
          refine Fork.mk (fun h => ?_) (fun h => ?_)
          · have hb : okW v = false := by simp at h; simp [okW]; omega
            conv => whnf
            rw [if_neg (fun hh => by have := all_in hh v hmem; rw [hb] at this; cases this)] at hk
            exact hk
          · have hb : okW v = true := by simpa [okW] using h
            have hvb := okW_in hb
            conv => whnf
            rw [wrap_in (z := (ws.take i).sum + v) (by omega) (by omega), ← hsum]
            have hw1 : IntKind.i64.wrap ((i : Int) + 1) = ((i + 1 : Nat) : Int) := by rw [wrap_in (by omega) (by omega)]; omega
            rw [hw1]
            refine ⟨i + 1, ⟨hi, by rw [hall, hi2, hb]; rfl⟩, Shift.reset ⟨rfl, rfl, rfl, rfl, rfl, trivial⟩ ⟨rfl, trivial⟩ rfl rfl, ?_⟩
            show ws.length - (i + 1) < ws.length - i
            omega
        · have hie : i = ws.length := by simp at h; omega
          subst hie
          rw [List.take_length] at hi2 hsb ⊢
          rw [if_pos hi2] at hk
          conv => whnf
          refine Fork.mk (fun h => ?_) (fun h => ?_)
          · have h3 : ¬ ws.sum = den := by simpa using h
            conv => whnf
            rw [if_neg h3] at hk
            exact hk
          · have h3 : ws.sum = den := by simpa using h
            conv => whnf
            rw [if_pos h3] at hk
            exact hk
theorem rrk_ok : FunR Try.prog 28 R_rk := by
  intro args k h
  unfold R_rk at h
  split at h
  case h_2 => exact h.elim
  rename_i den
  obtain ⟨ws, rfl, hlen, hk⟩ := h
  have hml := eL_len ws
  refine does_ex (qc := qc1) (np := []) (CK := ckK [(37, cSc R_within)]) mixed Try.func28 rfl rfl Try.ntmps28 Try.results28 τ_ok (by kernel_rfl) (ckK_ok ⟨cSc_ok rIn_ok, trivial⟩) (by simp) ?_
  conv => whnf
  refine Fork.mk (fun h => ?_) (fun h => ?_)
  · have h0 : ws.length = 0 := by simp at h; simp [h]
    conv => whnf
    refine Fork.mk (fun h => ?_) (fun h => (by simp [h0] at h))
    conv => whnf
    have e : rkCheck ws den = 3 := by unfold rkCheck; rw [if_pos (.inl h0)]
    rw [e] at hk
    exact hk
  · have h0 : ws.length ≠ 0 := by simp at h; simpa using h
    conv => whnf
    have hw : IntKind.i64.wrap (((eL ws).length : Int) - 1) = ((ws.length - 1 : Nat) : Int) := by rw [hml, wrap_in (by omega) (by omega)]; omega
    rw [hw]
    refine ⟨by omega, eI (ws[ws.length - 1]'(by omega)), map_at eI ws (by omega), rfl, ?_⟩
    have hla := last_at h0
    have hlw : ws.length - 1 < ws.length := by omega
    generalize hlv : ws[ws.length - 1] = la at *
    conv => whnf
    refine Fork.mk (fun h => ?_) (fun h => ?_)
    · have h1 : la = 0 := by simpa using h
      conv => whnf
      have e : rkCheck ws den = 3 := by unfold rkCheck; rw [if_pos (.inr (by rw [hla, h1]))]
      rw [e] at hk
      exact hk
    · have h1 : la ≠ 0 := by simpa using h
      conv => whnf
      have hne : ¬ (ws.length = 0 ∨ ws.getLast? = some 0) := by
        rintro (h | h)
        · exact h0 h
        · rw [hla] at h; simp at h; exact h1 h
      refine Fork.mk (fun h => ?_) (fun h => ?_)
      · have h2 : 24 < ws.length := by simp at h; omega
        conv => whnf
        have e : rkCheck ws den = 10 := by unfold rkCheck; rw [if_neg hne, if_pos h2]
        rw [e] at hk
        exact hk
      · have h2 : ¬ 24 < ws.length := by simp at h; omega
        have e : rkCheck ws den = if ws.all okW then (if ws.sum = den then 0 else 2) else 1 := by unfold rkCheck; rw [if_neg hne, if_neg h2]
        rw [e] at hk
        clear e h hlv hla
        conv => whnf
        refine ⟨Nat, fun i => ([(1, .c (.ptr (.l 1 0) 0)), (4, I (ws.take i).sum), (24, .c (.lst (eL ws))), (25, I (eL ws).length), (26, I i)], ⟨[(.l 1 0, .blk (RcC ws den))], 1, []⟩), fun i => i ≤ ws.length ∧ (ws.take i).all okW = true, fun i => ws.length - i, 0,
          ⟨Nat.zero_le _, rfl⟩, Shift.reset ⟨rfl, rfl, rfl, rfl, rfl, trivial⟩ ⟨rfl, trivial⟩ rfl rfl, fun i hi => ?_⟩
        obtain ⟨hi1, hi2⟩ := hi
        dsimp only
        have hsb := sum_in (l := ws.take i) (a := 10000) (by omega) (fun x hx => okW_in (all_in hi2 x hx))
        rw [List.length_take_of_le hi1] at hsb
        conv => whnf
        refine Fork.mk (fun h => ?_) (fun h => ?_)
        · have hi : i < ws.length := by simp at h; omega
          have hsum := sum_take hi
          have hall := all_take (f := okW) hi
          have hat := map_at eI ws hi
          have hmem : ws[i] ∈ ws := List.getElem_mem _
          generalize hv : ws[i] = v at *
          conv => whnf
          refine ⟨by omega, eI v, hat, rfl, ?_⟩
          conv => whnf
          refine Fork.mk (fun h => ?_) (fun h => ?_)
          · have hb : okW v = false := by simp at h; simp [okW]; omega
            conv => whnf
            rw [if_neg (fun hh => by have := all_in hh v hmem; rw [hb] at this; cases this)] at hk
            exact hk
          · have hb : okW v = true := by simpa [okW] using h
            have hvb := okW_in hb
            conv => whnf
            rw [wrap_in (z := (ws.take i).sum + v) (by omega) (by omega), ← hsum]
            have hw1 : IntKind.i64.wrap ((i : Int) + 1) = ((i + 1 : Nat) : Int) := by rw [wrap_in (by omega) (by omega)]; omega
            rw [hw1]
            refine ⟨i + 1, ⟨hi, by rw [hall, hi2, hb]; rfl⟩, Shift.reset ⟨rfl, rfl, rfl, rfl, rfl, trivial⟩ ⟨rfl, trivial⟩ rfl rfl, ?_⟩
            show ws.length - (i + 1) < ws.length - i
            omega
        · have hie : i = ws.length := by simp at h; omega
          subst hie
          rw [List.take_length] at hi2 hsb ⊢
          rw [if_pos hi2] at hk
          conv => whnf
          refine Fork.mk (fun h => ?_) (fun h => ?_)
          · have h3 : ¬ ws.sum = den := by simpa using h
            conv => whnf
            rw [if_neg h3] at hk
            exact hk
          · have h3 : ws.sum = den := by simpa using h
            conv => whnf
            rw [if_pos h3] at hk
            exact hk
end Go.Proofs
