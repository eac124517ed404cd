/- Proved here: what functions of the given program come to, for the statements of this chapter; no condition but those in the theorems. -/
import Derived.Test.YtgehodhbcckcoaaL20
import Derived.Test.YtgehodhbcckcoaaPGate4
import Derived.Test.YtgehodhbcckcoaaAbsBA
namespace Go.Proofs
open Go Go.Abs
set_option linter.unusedSimpArgs false
set_option linter.unusedVariables false
set_option maxRecDepth 4000
def R_mkGs2 : RBA := fun cs args k => ∃ (d : Dk) (n : Int), args = [I n] ∧ cs = dkC d ∧ d.ok ∧ (0 ≤ n ∧ n ≤ 10) ∧ ∀ (gs : List Gt) (ss : List Gs) d', Dk.ok d' → gs.length ≤ n → mkGs gs ss → k (.tup [.c (.view (.x 1) 0 gs.length), .c (.view (.x 2) 0 ss.length)]) (dkC d') (.arr 24 3 (eG gs) false) (.arr 35 2 (eS ss) false)
theorem mkGs2_ok : FunBA Try.prog 11 R_mkGs2 := by
  intro cs args k h
  obtain ⟨d, n, rfl, rfl, hd, hn, hk⟩ := h
  have e0 : IntKind.i64.wrap (n + 1) = n + 1 := wrap_in (by omega) (by omega)
  refine doesBA_ex (qc := qc1) (np := [(7, [(2, 7), (3, 7)])]) (CK := ckK [(12, cB R_next), (17, cB R_mkG)]) mixed Try.func11 rfl rfl Try.ntmps11 Try.results11 τ_ok (by kernel_rfl) (ckK_ok ⟨cB_ok next_ok rfl, cB_ok mkG_ok rfl, trivial⟩) (by simp) rfl rfl ?_
  conv => whnf
  rw [e0]
  refine ⟨d, rfl, hd, by omega, fun k0 d hd hk1 hk2 => ?_⟩
  conv => whnf
  refine ⟨List Gt × List Gs × Dk × Int, fun s => ([(0, .c (.ptr (.x 0) 0)), (6, .c (.view (.l 23 0) 0 s.1.length)), (7, .c (.view (.l 35 1) 0 s.2.1.length)), (8, I s.2.2.2)], ⟨[(.x 0, .blk (dkC s.2.2.1)), (.l 23 0, .arr 24 3 (eG s.1) false), (.l 35 1, .arr 35 2 (eS s.2.1) false)], 2, []⟩),
    fun s => s.2.2.1.ok ∧ mkGs s.1 s.2.1 ∧ 0 ≤ s.2.2.2 ∧ s.1.length + s.2.2.2 ≤ n, fun s => s.2.2.2.toNat, ([], [], d, k0),
    ⟨hd, ⟨rfl, by simp, rfl⟩, by dsimp only; omega, by dsimp only; simp; omega⟩,
    Shift.trans (Shift.rename [] ⟨rfl, rfl, rfl, rfl, trivial⟩ ⟨rfl, rfl, rfl, trivial⟩ rfl rfl rfl) (Shift.trans (Shift.nilArr (t := 7) rfl 35 35 2) (Shift.nilArr (t := 6) rfl 23 24 3)), fun s hs => ?_⟩
  obtain ⟨gs, ss, d, kk⟩ := s
  obtain ⟨hd, hg, hk3, hk4⟩ := hs
  dsimp only at hd hg hk3 hk4 ⊢
  have hm := eG_len gs
  have hm2 := eS_len ss
  have hgl := hg.l
  conv => whnf
  refine Fork.mk (fun h => ?_) (fun h => ?_)
  · have hkk : 0 < kk := by simpa using h
    conv => whnf
    refine ⟨d, rfl, rfl, hd, fun g d hd hmg => ?_⟩
    have hmo := hmg.ok.o
    have hmm := hmg.m
    have e1 : IntKind.i64.wrap (g.mo + 1) = g.mo + 1 := wrap_in (by omega) (by omega)
    conv => whnf
    refine ⟨by simp, ?_⟩
    conv => whnf
    refine ⟨rfl, ?_⟩
    conv => whnf
    refine ⟨⟨rfl, rfl, rfl, hm.symm, by rw [hm]; simp; omega⟩, ?_⟩
    conv => whnf
    rw [e1]
    refine ⟨d, rfl, hd, by omega, fun o d hd ho1 ho2 => ?_⟩
    conv => whnf
    refine ⟨d, rfl, hd, by omega, fun j d hd hj1 hj2 => ?_⟩
    conv => whnf
    refine ⟨by simp, ?_⟩
    conv => whnf
    refine ⟨rfl, ?_⟩
    conv => whnf
    refine ⟨⟨rfl, rfl, rfl, hm2.symm, by rw [hm2]; simp; omega⟩, ?_⟩
    conv => whnf
    rw [show IntKind.i64.wrap (kk - 1) = kk - 1 from wrap_in (by omega) (by omega)]
    refine ⟨(gs ++ [g], ss ++ [⟨o, decide (j = 6)⟩], d, kk - 1), ⟨hd, hg.snoc hmg (by simp [okS, inB]; omega), by dsimp only; omega, by dsimp only; simp; omega⟩, Shift.rename [(.l 23 0, .l 23 3), (.l 35 1, .l 35 3)] ⟨rfl, ?_, ?_, rfl, trivial⟩ ⟨rfl, ?_, ?_, trivial⟩ rfl rfl rfl, ?_⟩
    · dsimp only; rw [List.length_append, ← hm]; rfl
    · dsimp only; rw [List.length_append, ← hm2]; rfl
    · dsimp only; rw [show eG (gs ++ [g]) = eG gs ++ [gtC g] from List.map_append]; rfl
    · dsimp only; rw [show eS (ss ++ [⟨o, decide (j = 6)⟩]) = eS ss ++ [gsC ⟨o, decide (j = 6)⟩] from List.map_append]; rfl
    · show (kk - 1).toNat < kk.toNat
      omega
  have hkk : ¬ 0 < kk := by simpa using h
  have htl1 : List.take gs.length (List.drop 0 (eG gs)) = eG gs := by rw [List.drop_zero, List.take_of_length_le (by omega)]
  have htl2 : List.take ss.length (List.drop 0 (eS ss)) = eS ss := by rw [List.drop_zero, List.take_of_length_le (by omega)]
  refine ⟨.l 23 0, .l 35 1, rfl, ?_⟩
  conv => whnf
  refine ⟨rfl, ?_⟩
  conv => whnf
  exact ⟨rfl, rfl, rfl, rfl, hk gs ss d hd (by omega) hg⟩
end Go.Proofs
