/- Proved here: what functions of the given program come to, for the statements of this chapter; no condition but those in the theorems. -/
import Derived.Test.YtgehodhbcckcoaaJ20
namespace Go.Proofs
open Go Go.Abs
set_option linter.unusedSimpArgs false
set_option linter.unusedVariables false
set_option maxRecDepth 4000
theorem mkG_ok : FunB Try.prog 17 R_mkG := by
  intro cs args k h
  obtain ⟨d, rfl, rfl, hd, hk⟩ := h
  refine doesB_ex (qc := qc1) (np := [(6, [(1, 4), (1, 6)])]) (CK := ckK [(12, cB R_next), (40, cB R_curve)]) mixed Try.func17 rfl rfl Try.ntmps17 Try.results17 τ_ok (by kernel_rfl) (ckK_ok ⟨cB_ok next_ok rfl, cB_ok mkcurve_ok rfl, trivial⟩) (by simp) rfl rfl ?_
  conv => whnf
  refine ⟨d, rfl, hd, by omega, fun mo d hd ho1 ho2 => ?_⟩
  conv => whnf
  refine ⟨d, rfl, hd, by omega, fun mv d hd hv1 hv2 => ?_⟩
  conv => whnf
  refine ⟨d, rfl, hd, by omega, fun lv d hd hl1 hl2 => ?_⟩
  have e1 : IntKind.i64.wrap (90 + lv) = 90 + lv := wrap_in (by omega) (by omega)
  conv => whnf
  refine ⟨d, rfl, hd, by omega, fun k0 d hd hk1 hk2 => ?_⟩
  conv => whnf
  refine ⟨List Rt × Dk × Int × Int, fun s => ([(0, .c (.ptr (.x 0) 0)), (2, .c (.ptr (.l 2 0) 0)), (3, .c (.ptr (.l 3 1) 0)), (4, I s.2.2.1), (5, I s.2.2.2)], ⟨[(.x 0, .blk (dkC s.2.1)), (.l 2 0, .blk [.sc (.slice none 0 0), IC 0, IC 0]), (.l 3 1, .blk [.view (.l 40 2) 0 s.1.length, IC mo, IC mv]), (.l 40 2, .arr 58 2 (s.1.map rtC) false)], 3, []⟩),
    fun s => s.2.1.ok ∧ mkR s.1 s.2.2.1 ∧ (-1 ≤ s.2.2.2 ∧ 1 ≤ s.1.length + s.2.2.2 + 1 ∧ s.1.length + s.2.2.2 ≤ 2) ∧ (0 ≤ s.2.2.1 ∧ s.2.2.1 ≤ 1000 + 1000 * s.1.length), fun s => (s.2.2.2 + 1).toNat, ([], d, 90 + lv, k0),
    ⟨hd, ⟨by simp, .nil⟩, by dsimp only; simp; omega, by dsimp only; omega⟩,
    Shift.trans (Shift.rename [] ⟨rfl, rfl, rfl, by rw [e1]; rfl, rfl, trivial⟩ ⟨rfl, rfl, rfl, rfl, trivial⟩ rfl rfl rfl) (Shift.nilCell (i := .l 3 1) (cs := [.sc (.slice none 0 0), IC mo, IC mv]) (j := 0) rfl rfl 40 58 2), fun s hs => ?_⟩
  obtain ⟨l, d, lv, kk⟩ := s
  obtain ⟨hd, hr, ⟨hk3, hk4, hk5⟩, hk6⟩ := hs
  dsimp only at hd hr hk3 hk4 hk5 hk6 ⊢
  have hm : (l.map rtC).length = l.length := List.length_map _
  conv => whnf
  refine Fork.mk (fun h => ?_) (fun h => ?_)
  · have hkk : 0 ≤ kk := by simpa using h
    conv => whnf
    refine ⟨d, rfl, hd, by omega, by omega, by omega, by omega, fun r d hd hr1 hr2 hch => ?_⟩
    have hvc := vcv_mk hr1 hr2 hch
    conv => whnf
    refine ⟨by simp, ?_⟩
    conv => whnf
    refine ⟨rfl, ?_⟩
    conv => whnf
    refine ⟨⟨rfl, rfl, rfl, hm.symm, by rw [hm]; simp; omega⟩, ?_⟩
    conv => whnf
    refine ⟨d, rfl, hd, by omega, fun w d hd hw1 hw2 => ?_⟩
    have e2 : IntKind.i64.wrap (1 + w) = 1 + w := wrap_in (by omega) (by omega)
    have e3 : IntKind.i64.wrap (lv + (1 + w)) = lv + (1 + w) := wrap_in (by omega) (by omega)
    conv => whnf
    rw [e2, e3]
    rw [show IntKind.i64.wrap (kk - 1) = kk - 1 from wrap_in (by omega) (by omega)]
    refine ⟨(l ++ [(lv, (0, 0) :: r)], d, lv + (1 + w), kk - 1), ⟨hd, hr.snoc (by omega) (by dsimp only; omega) hvc, by dsimp only; simp; omega, by dsimp only; omega, by dsimp only; rw [List.length_append]; show _ ≤ 1000 + 1000 * ((l.length + 1 : Nat) : Int); omega⟩, Shift.rename [(.l 40 2, .l 27 3)] ⟨rfl, rfl, rfl, rfl, rfl, trivial⟩ ⟨rfl, rfl, ?_, ?_, trivial⟩ rfl rfl rfl, ?_⟩
    · dsimp only; rw [List.length_append, ← hm]; rfl
    · dsimp only; rw [List.map_append]; rfl
    · show (kk - 1 + 1).toNat < (kk + 1).toNat
      omega
  have hkk : kk = -1 := by simp at h; omega
  subst hkk
  conv => whnf
  refine ⟨by rw [hm]; omega, ?_⟩
  conv => whnf
  rw [List.drop_zero, List.take_of_length_le (by rw [hm]; exact Nat.le_refl _)]
  exact ⟨rfl, rfl, hk ⟨l, mo, mv⟩ d hd (hr.gate (by omega) (by omega) (by omega) (by omega) (by omega))⟩
theorem mkGs_ok : FunB Try.prog 11 R_mkGs := by
  intro cs args k h
  obtain ⟨d, n, rfl, rfl, hd, hn, hk⟩ := h
  have e0 : IntKind.i64.wrap (n + 1) = n + 1 := wrap_in (by omega) (by omega)
  refine doesB_ex (qc := qc1) (np := [(7, [(2, 7), (3, 7)])]) (CK := ckK [(12, cB R_next), (17, cB R_mkG)]) mixed Try.func11 rfl rfl Try.ntmps11 Try.results11 τ_ok (by kernel_rfl) (ckK_ok ⟨cB_ok next_ok rfl, cB_ok mkG_ok rfl, trivial⟩) (by simp) rfl rfl ?_
  conv => whnf
  rw [e0]
  refine ⟨d, rfl, hd, by omega, fun k0 d hd hk1 hk2 => ?_⟩
  conv => whnf
  refine ⟨List Gt × List Gs × Dk × Int, fun s => ([(0, .c (.ptr (.x 0) 0)), (6, .c (.view (.l 23 0) 0 s.1.length)), (7, .c (.view (.l 35 1) 0 s.2.1.length)), (8, I s.2.2.2)], ⟨[(.x 0, .blk (dkC s.2.2.1)), (.l 23 0, .arr 24 3 (eG s.1) false), (.l 35 1, .arr 35 2 (eS s.2.1) false)], 2, []⟩),
    fun s => s.2.2.1.ok ∧ mkGs s.1 s.2.1 ∧ 0 ≤ s.2.2.2 ∧ s.1.length + s.2.2.2 ≤ n, fun s => s.2.2.2.toNat, ([], [], d, k0),
    ⟨hd, ⟨rfl, by simp, rfl⟩, by dsimp only; omega, by dsimp only; simp; omega⟩,
    Shift.trans (Shift.rename [] ⟨rfl, rfl, rfl, rfl, trivial⟩ ⟨rfl, rfl, rfl, trivial⟩ rfl rfl rfl) (Shift.trans (Shift.nilArr (t := 7) rfl 35 35 2) (Shift.nilArr (t := 6) rfl 23 24 3)), fun s hs => ?_⟩
  obtain ⟨gs, ss, d, kk⟩ := s
  obtain ⟨hd, hg, hk3, hk4⟩ := hs
  dsimp only at hd hg hk3 hk4 ⊢
  have hm := eG_len gs
  have hm2 := eS_len ss
  have hgl := hg.l
  conv => whnf
  refine Fork.mk (fun h => ?_) (fun h => ?_)
  · have hkk : 0 < kk := by simpa using h
    conv => whnf
    refine ⟨d, rfl, rfl, hd, fun g d hd hmg => ?_⟩
    have hmo := hmg.ok.o
    have hmm := hmg.m
    have e1 : IntKind.i64.wrap (g.mo + 1) = g.mo + 1 := wrap_in (by omega) (by omega)
    conv => whnf
    refine ⟨by simp, ?_⟩
    conv => whnf
    refine ⟨rfl, ?_⟩
    conv => whnf
    refine ⟨⟨rfl, rfl, rfl, hm.symm, by rw [hm]; simp; omega⟩, ?_⟩
    conv => whnf
    rw [e1]
    refine ⟨d, rfl, hd, by omega, fun o d hd ho1 ho2 => ?_⟩
    conv => whnf
    refine ⟨d, rfl, hd, by omega, fun j d hd hj1 hj2 => ?_⟩
    conv => whnf
    refine ⟨by simp, ?_⟩
    conv => whnf
    refine ⟨rfl, ?_⟩
    conv => whnf
    refine ⟨⟨rfl, rfl, rfl, hm2.symm, by rw [hm2]; simp; omega⟩, ?_⟩
    conv => whnf
    rw [show IntKind.i64.wrap (kk - 1) = kk - 1 from wrap_in (by omega) (by omega)]
    refine ⟨(gs ++ [g], ss ++ [⟨o, decide (j = 6)⟩], d, kk - 1), ⟨hd, hg.snoc hmg (by simp [okS, inB]; omega), by dsimp only; omega, by dsimp only; simp; omega⟩, Shift.rename [(.l 23 0, .l 23 3), (.l 35 1, .l 35 3)] ⟨rfl, ?_, ?_, rfl, trivial⟩ ⟨rfl, ?_, ?_, trivial⟩ rfl rfl rfl, ?_⟩
    · dsimp only; rw [List.length_append, ← hm]; rfl
    · dsimp only; rw [List.length_append, ← hm2]; rfl
    · dsimp only; rw [show eG (gs ++ [g]) = eG gs ++ [gtC g] from List.map_append]; rfl
    · dsimp only; rw [show eS (ss ++ [⟨o, decide (j = 6)⟩]) = eS ss ++ [gsC ⟨o, decide (j = 6)⟩] from List.map_append]; rfl
    · show (kk - 1).toNat < kk.toNat
      omega
  have hkk : ¬ 0 < kk := by simpa using h
  have htl1 : List.take gs.length (List.drop 0 (eG gs)) = eG gs := by rw [List.drop_zero, List.take_of_length_le (by omega)]
  have htl2 : List.take ss.length (List.drop 0 (eS ss)) = eS ss := by rw [List.drop_zero, List.take_of_length_le (by omega)]
  conv => whnf
  refine ⟨by omega, ?_⟩
  conv => whnf
  refine ⟨by omega, ?_⟩
  conv => whnf
  rw [htl1, htl2]
  exact ⟨rfl, rfl, hk gs ss d hd (by omega) hg⟩
end Go.Proofs
