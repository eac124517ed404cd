/- Proved here: what functions of the given program come to, for the statements of this chapter; no condition but those in the theorems. -/
import Derived.Test.YtagjajmkmambiaaX6a
namespace Go.Proofs
open Go Go.Abs
set_option linter.unusedSimpArgs false
set_option linter.unusedVariables false
set_option maxRecDepth 4000
def R_odd16 : RB := fun cs args k => ∃ (d : Dk) (ws : Ls) (den : Int), args = [.agg [.lst (eL ws), IC den]] ∧ cs = dkC d ∧ d.ok ∧ (1 ≤ ws.length ∧ ws.length ≤ 100) ∧ ∀ (ws' : Ls) (den' : Int) d', Dk.ok d' → ws'.length ≤ 101 → k (.agg [.lst (eL ws'), IC den']) (dkC d')
theorem at3 (a b c : Int) {i : Nat} (h : i < 3) : ∃ y, ([[IC a], [IC b], [IC c]] : List (List Cell))[0 + i]? = some [IC y] := by
  rcases (by omega : i = 0 ∨ i = 1 ∨ i = 2) with rfl | rfl | rfl
  · exact ⟨_, rfl⟩
  · exact ⟨_, rfl⟩
  · exact ⟨_, rfl⟩
theorem odd_ok : FunB Try.prog 25 R_odd16 := by
  intro cs args k h
  obtain ⟨d, ws, den, rfl, rfl, hd, ⟨hb1, hb2⟩, hk⟩ := h
  have hm := eL_len ws
  refine doesB_ex (qc := qc1) (np := [(4, [(1, 3)]), (6, [(1, 6), (1, 7), (1, 9), (4, 7), (6, 7), (7, 9)])]) (CK := ckK [(20, cB R_next)]) mixed Try.func25 rfl rfl Try.ntmps25 Try.results25 τ_ok (by kernel_rfl) (ckK_ok ⟨cB_ok next_ok rfl, trivial⟩) (by simp) rfl rfl ?_
  conv => whnf
  refine ⟨eL_all ws, by rw [hm]; dsimp only; omega, ?_⟩
  conv => whnf
  refine ⟨d, rfl, hd, by omega, fun v d hd hv1 hv2 => ?_⟩
  conv => whnf
  have leaf : ∀ (l : Ls) (n : Nat) (den' : Int) (d' : Dk), d'.ok → l.length ≤ 101 → noA (AV.agg [.lst (List.take n (List.drop 0 (eL l))), IC den']) = true ∧ noCs (dkC d') = true ∧ k (AV.agg [.lst (List.take n (List.drop 0 (eL l))), IC den']) (dkC d') := fun l n den' d' hd' h1 => by
    refine ⟨rfl, rfl, ?_⟩
    rw [List.drop_zero, show List.take n (eL l) = eL (l.take n) from List.map_take.symm]
    exact hk (l.take n) den' d' hd' (by rw [List.length_take]; omega)
  refine Fork.mk (fun h => ?_) (fun h => ?_)
  · conv => whnf
    refine ⟨d, rfl, hd, by omega, fun x d hd hx1 hx2 => ?_⟩
    conv => whnf
    refine ⟨by omega, ?_⟩
    conv => whnf
    exact leaf ws _ _ d hd (by omega)
  clear h
  conv => whnf
  refine Fork.mk (fun h => ?_) (fun h => ?_)
  · conv => whnf
    refine ⟨d, rfl, hd, by omega, fun i d hd hi1 hi2 => ?_⟩
    conv => whnf
    refine ⟨d, rfl, hd, by omega, fun x d hd hx1 hx2 => ?_⟩
    obtain ⟨i, rfl⟩ : ∃ j : Nat, i = j := ⟨i.toNat, by omega⟩
    have hi : i < ws.length := by omega
    obtain ⟨j, rfl⟩ : ∃ j : Nat, x = j := ⟨x.toNat, by omega⟩
    obtain ⟨y, hy⟩ := at3 (-1) 10000 10001 (show j < 3 by omega)
    conv => whnf
    refine ⟨by omega, rfl, ?_⟩
    conv => whnf
    refine ⟨[IC y], by rw [Int.toNat_natCast]; exact hy, ?_⟩
    conv => whnf
    refine ⟨by omega, rfl, ?_⟩
    conv => whnf
    refine ⟨eI ws[i], map_at0 eI ws hi, Nat.le_refl 1, ?_⟩
    conv => whnf
    rw [Int.toNat_natCast, show (eL ws).set (0 + i) [nrm (.int .i64 y)] = eL (ws.set i y) by rw [Nat.zero_add]; exact eL_set ws i y]
    refine ⟨by simp, ?_⟩
    conv => whnf
    exact leaf (ws.set i y) _ _ d hd (by rw [List.length_set]; omega)
  clear h
  conv => whnf
  refine Fork.mk (fun h => ?_) (fun h => ?_)
  · conv => whnf
    refine ⟨by simp, ?_⟩
    conv => whnf
    refine ⟨rfl, ?_⟩
    conv => whnf
    refine ⟨⟨rfl, rfl, rfl, by simp, by rw [hm]; simp; omega⟩, ?_⟩
    conv => whnf
    refine ⟨by simp, ?_⟩
    conv => whnf
    have := leaf (ws ++ [0]) (ws.length + 1) den d hd (by simp; omega)
    rw [← eL_snoc, ← hm] at this
    exact this
  clear h
  conv => whnf
  refine Fork.mk (fun h => ?_) (fun h => ?_)
  · conv => whnf
    refine ⟨d, rfl, hd, by omega, fun x d hd hx1 hx2 => ?_⟩
    conv => whnf
    have hw : IntKind.i64.wrap (24 + x) = ((24 + x.toNat : Nat) : Int) := by rw [wrap_in (by omega) (by omega)]; omega
    rw [hw]
    have hn : x.toNat ≤ 2 := by omega
    generalize x.toNat = n at hn hw ⊢
    refine ⟨⟨rfl, by omega, by show ((24 + n : Nat) : Int) * 8 ≤ _; omega⟩, ?_⟩
    rw [Int.toNat_natCast]
    conv => whnf
    rw [show IntKind.i64.wrap (((24 + n : Nat) : Int) - 1) = ((23 + n : Nat) : Int) by rw [wrap_in (by omega) (by omega)]; omega]
    refine ⟨by omega, rfl, ?_⟩
    conv => whnf
    refine ⟨[IC 0], by rw [List.getElem?_replicate, if_pos (by omega)], Nat.le_refl 1, ?_⟩
    conv => whnf
    rw [Int.toNat_natCast, show (List.replicate (24 + n) [Cell.sc (Value.int IntKind.i64 0)]).set (0 + (23 + n)) [nrm (.int .i64 1)] = eL ((List.replicate (24 + n) 0).set (0 + (23 + n)) 1) by rw [show List.replicate (24 + n) [Cell.sc (Value.int IntKind.i64 0)] = eL (List.replicate (24 + n) 0) by simp [eL, eI]]; exact eL_set _ _ _]
    refine ⟨by simp, ?_⟩
    conv => whnf
    exact leaf _ _ _ d hd (by simp; omega)
  conv => whnf
  refine ⟨by omega, ?_⟩
  conv => whnf
  exact leaf ws _ _ d hd (by omega)
end Go.Proofs
