/- Proved here: what functions of the given program come to, for the statements of this chapter; no condition but those in the theorems. -/
import Derived.Test.YtdibnpagbafadaaE07
import Derived.Test.YtdibnpagbafadaaPCurve2
namespace Go.Proofs
open Go Go.Abs
set_option linter.unusedSimpArgs false
set_option linter.unusedVariables false
set_option maxRecDepth 4000
theorem adds_ok : FunR Try.prog 4 (R_law1 1) := by
  intro args k h
  unfold R_law1 at h
  split at h
  case h_2 => exact h.elim
  obtain ⟨⟨l, rfl, hl⟩, ⟨xs, rfl, hx⟩, hk⟩ := h
  obtain ⟨vv, rfl⟩ : ∃ a, xs = [a] := by
    match xs, hx with
    | [a], _ => exact ⟨a, rfl⟩
  refine does_ex (qc := qc1) (np := []) (CK := ckK [(8, cN R_new), (7, cB R_rating), (9, cSc R_mod), (10, cSc R_flow1), (11, cSc R_true)]) mixed Try.func4 rfl rfl Try.ntmps4 Try.results4 τ_ok (by kernel_rfl) (ckK_ok ⟨cN_ok new_ok rfl, cB_ok mkrating_ok rfl, cSc_ok mod_ok, cSc_ok flow1_ok, cSc_ok awake_ok, trivial⟩) (by simp) ?_
  conv => whnf
  refine ⟨l, rfl, ?_⟩
  conv => whnf
  refine ⟨⟨l, 0⟩, rfl, ⟨Nat.zero_le _, hl⟩, fun p r ice d hd hp1 hp2 hr hch hi => ?_⟩
  obtain ⟨hc, hin⟩ := rating_ok' hp1 hp2 hr hch
  have hc2 := dbl_ck hp1 hp2 hr hch
  have hend := endP_at p r
  have hcr : (p :: r).length = r.length + 1 := rfl
  have hvend : ∀ x, (endP p r).1 ≤ x → valC (p :: r) x = (endP p r).2 := fun x hx => by
    rw [valC_eq]
    have h5 := (ckC_cons.1 hc).2.2
    split
    · rename_i hxp
      have := vGo_end h5 hx
      have h6 := vGo_ge (x := x) h5
      have h7 := end_in (by omega) (by omega) (by omega) hch
      rw [← vGo_end h5 (Int.le_refl (endP p r).1)]
      have : (endP p r).1 = p.1 := by omega
      rw [this]
      have hq : 1 ≤ r.length := hr.1
      cases r with
      | nil => simp at hq
      | cons q r =>
        obtain ⟨_, g2, _, _, g5⟩ := ckGo_cons.1 h5
        have h8 := end_in (by omega) (by omega) (by omega) hch.2.2
        have : (endP p (q :: r)).1 = (endP q r).1 := rfl
        omega
    · exact vGo_end h5 hx
  generalize endP p r = E at *
  have hE := hin E (List.mem_of_getElem? hend)
  generalize hcc : p :: r = c at *
  have hcl : c.length ≤ 5 := by rw [← hcc]; simp; omega
  have hrk := rkR_of hc hi.1 (show ice ≤ 16777216 by omega)
  have hrk2 := rkR_of hc2 hi.1 (show ice ≤ 16777216 by omega)
  have hm := eP_len c
  conv => whnf
  refine ⟨Nat, fun i => ([(1, I vv), (5, .c (.ptr (.l 5 1) 0)), (6, .c (.ptr (.l 6 2) 0)), (27, .c (.lst (eP c))), (28, I (eP c).length), (29, I i)],
      ⟨[(.l 5 1, .blk [.lst (eP c), IC ice]), (.l 6 2, .blk [.view (.l 42 3) 0 (dbl (c.take i)).length, IC ice]), (.l 42 3, .arr 38 2 (eP (dbl (c.take i))) false)], 4, []⟩),
    fun i => i ≤ c.length, fun i => c.length - i, 0, Nat.zero_le _,
    Shift.trans (Shift.rename [] ⟨rfl, rfl, rfl, rfl, rfl, rfl, trivial⟩ ⟨rfl, rfl, rfl, trivial⟩ rfl rfl rfl) (Shift.nilCell (i := .l 6 2) (cs := [.sc (.slice none 0 0), IC ice]) (j := 0) rfl rfl 42 38 2), fun i hi => ?_⟩
  dsimp only at hi ⊢
  conv => whnf
  refine Fork.mk (fun h => ?_) (fun h => ?_)
  · have hi : i < c.length := by simp at h; omega
    have hci := List.getElem?_eq_getElem hi
    have hq := hin _ (List.getElem_mem hi)
    have htk := dbl_take c hi
    generalize c[i] = q at *
    have hw1 := wr_succ (i := i) (by omega)
    have hlt : (dbl (c.take i)).length = i := by rw [dbl_len, List.length_take]; omega
    conv => whnf
    refine ⟨by omega, ePt q, by rw [Int.toNat_natCast]; exact eP_at c hci, rfl, ?_⟩
    conv => whnf
    rw [show IntKind.i64.wrap (2 * q.2) = 2 * q.2 from wrap_in (by omega) (by omega)]
    refine ⟨by simp, ?_⟩
    conv => whnf
    refine ⟨rfl, ?_⟩
    conv => whnf
    refine ⟨⟨rfl, rfl, rfl, (eP_len _).symm, by rw [eP_len]; simp; omega⟩, ?_⟩
    conv => whnf
    rw [hw1]
    refine ⟨i + 1, hi, Shift.rename [(.l 42 3, .l 42 6)] ⟨rfl, rfl, rfl, rfl, rfl, rfl, trivial⟩ ⟨rfl, ?_, ?_, trivial⟩ rfl rfl rfl, ?_⟩
    · dsimp only; rw [htk, List.length_append, ← eP_len (dbl (c.take i))]; rfl
    · dsimp only; rw [htk, ← eP_snoc]; rfl
    · show c.length - (i + 1) < c.length - i
      omega
  · have hie : i = c.length := by simp at h; omega
    subst hie
    rw [List.take_length]
    conv => whnf
    refine ⟨by decide, ?_⟩
    conv => whnf
    have hv1 : 0 ≤ vv % 300 ∧ vv % 300 < 300 := by omega
    generalize vv % 300 = v at *
    have hrd : ∀ v, 0 ≤ v → v ≤ 1073741824 → ckRd ⟨0, 0, v, 0⟩ = 0 := fun v h1 h2 => by
      unfold ckRd
      rw [if_neg (by simp [inB]), if_neg (by simp [inB]), if_neg (by simp [inB]; omega), if_neg (by simp [inB])]
    have hd2 := valC_dbl hc v
    have hva := valC_in hc v
    refine ⟨c, rfl, by omega, ?_⟩
    rw [flow1_good hrk (hrd v (by omega) (by omega)), show flowV c ice ⟨0, 0, v, 0⟩ = (tAt c v, true) from rfl]
    conv => whnf
    have hmd : (eP (dbl c)).length = (dbl c).length := eP_len _
    have hdl := dbl_len c
    refine ⟨by omega, ?_⟩
    conv => whnf
    rw [List.drop_zero, List.take_of_length_le (by omega)]
    refine ⟨dbl c, rfl, by omega, ?_⟩
    have et : ∀ c, tAt c v = valC c v := fun c => by unfold tAt; rw [if_neg (by omega)]
    rw [flow1_good hrk2 (hrd v (by omega) (by omega)), show flowV (dbl c) ice ⟨0, 0, v, 0⟩ = (tAt (dbl c) v, true) from rfl, et, et]
    conv => whnf
    have hw2 : IntKind.i64.wrap (((eP c).length : Int) - 1) = (r.length : Int) := by rw [hm, show c.length = r.length + 1 by rw [← hcc]; rfl, wrap_in (by omega) (by omega)]; omega
    rw [hw2]
    refine ⟨by omega, ePt E, by rw [Int.toNat_natCast]; exact eP_at c hend, rfl, ?_⟩
    conv => whnf
    refine ⟨by decide, ?_⟩
    conv => whnf
    have hu1 : 0 ≤ vv % 1000 ∧ vv % 1000 < 1000 := by omega
    generalize vv % 1000 = u at *
    rw [show IntKind.i64.wrap (E.1 + u) = E.1 + u from wrap_in (by omega) (by omega)]
    refine ⟨c, rfl, by omega, ?_⟩
    rw [flow1_good hrk (hrd (E.1 + u) (by omega) (by omega)), show flowV c ice ⟨0, 0, E.1 + u, 0⟩ = (tAt c (E.1 + u), true) from rfl, show tAt c (E.1 + u) = E.2 by unfold tAt; rw [if_neg (by omega)]; exact hvend _ (by omega)]
    conv => whnf
    refine Fork.mk (fun h => ?_) (fun h => (by simp [wr0] at h))
    conv => whnf
    rw [show IntKind.i64.wrap (2 * valC c v) = 2 * valC c v from wrap_in (by omega) (by omega)]
    refine Fork.mk (fun h => ?_) (fun h => (by simp at h; omega))
    conv => whnf
    rw [show IntKind.i64.wrap (2 * valC c v) = 2 * valC c v from wrap_in (by omega) (by omega), show IntKind.i64.wrap (2 * valC c v + 1) = 2 * valC c v + 1 from wrap_in (by omega) (by omega)]
    refine Fork.mk (fun h => ?_) (fun h => (by simp at h; omega))
    conv => whnf
    refine fork_t ?_
    conv => whnf
    refine Fork.mk (fun h => ?_) (fun h => (by simp at h))
    conv => whnf
    exact hk
end Go.Proofs
