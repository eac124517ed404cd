/- Proved here: what functions of the given program come to, for the statements of this chapter; no condition but those in the theorems. -/
import Derived.Test.YtnaggkcpagbolaaL18
namespace Go.Proofs
open Go Go.Abs
set_option linter.unusedSimpArgs false
set_option linter.unusedVariables false
set_option maxRecDepth 4000
def R_odd18 : RB := fun cs args k => ∃ (d : Dk) (u : Un), args = [.agg (unC u)] ∧ cs = dkC d ∧ d.ok ∧ (u.tb.length ≤ 1000 ∧ u.rg.length ≤ 1000) ∧ ∀ (u' : Un) d', Dk.ok d' → u'.fin → k (.agg (unC u')) (dkC d')
theorem eP_nil0 (n : Nat) : List.replicate n [nrm (Value.int IntKind.i64 0), nrm (Value.int IntKind.i64 0)] = eP (List.replicate n (0, 0)) := by rw [eP, List.map_replicate]; rfl
theorem at3 (a b c : Int) {i : Nat} (h : i < 3) : ∃ y, ([[IC a], [IC b], [IC c]] : List (List Cell))[0 + i]? = some [IC y] := by
  rcases (by omega : i = 0 ∨ i = 1 ∨ i = 2) with rfl | rfl | rfl
  · exact ⟨_, rfl⟩
  · exact ⟨_, rfl⟩
  · exact ⟨_, rfl⟩
theorem at4 (a b c d : Int) {i : Nat} (h : i < 4) : ∃ y, ([[IC a], [IC b], [IC c], [IC d]] : List (List Cell))[0 + i]? = some [IC y] := by
  rcases (by omega : i = 0 ∨ i = 1 ∨ i = 2 ∨ i = 3) with rfl | rfl | rfl | rfl
  · exact ⟨_, rfl⟩
  · exact ⟨_, rfl⟩
  · exact ⟨_, rfl⟩
  · exact ⟨_, rfl⟩
theorem odd_ok : FunB Try.prog 13 R_odd18 := by
  intro cs args k h
  obtain ⟨d, u, rfl, rfl, hd, ⟨hb1, hb2⟩, hk⟩ := h
  have hm := eP_len u.rg
  refine doesB_ex (qc := qc1) (np := [(8, [(1, 3), (1, 6)])]) (CK := ckK [(12, cB R_next)]) mixed Try.func13 rfl rfl Try.ntmps13 Try.results13 τ_ok (by kernel_rfl) (ckK_ok ⟨cB_ok next_ok rfl, trivial⟩) (by simp) rfl rfl ?_
  conv => whnf
  refine ⟨eP_all u.rg, by rw [hm]; dsimp only; omega, ?_⟩
  conv => whnf
  refine ⟨d, rfl, hd, by omega, fun v d hd hv1 hv2 => ?_⟩
  conv => whnf
  have leaf : ∀ (tb : List Pt) (lo mo : Int) (rg : List Pt) (n : Nat) (up dn : Int) (d' : Dk), d'.ok → tb.length ≤ 2000 → rg.length ≤ 2000 → noA (AV.agg [.lst (eP tb), IC lo, IC mo, .lst (List.take n (List.drop 0 (eP rg))), IC up, IC dn]) = true ∧ noCs (dkC d') = true ∧ k (AV.agg [.lst (eP tb), IC lo, IC mo, .lst (List.take n (List.drop 0 (eP rg))), IC up, IC dn]) (dkC d') := fun tb lo mo rg n up dn d' hd' h1 h2 => by
    refine ⟨rfl, rfl, ?_⟩
    rw [List.drop_zero, show List.take n (eP rg) = eP (rg.take n) from List.map_take.symm]
    exact hk ⟨tb, lo, mo, rg.take n, up, dn⟩ d' hd' ⟨by dsimp only; omega, by dsimp only; rw [List.length_take]; omega⟩
  refine Fork.mk (fun h => ?_) (fun h => ?_)
  · conv => whnf
    refine ⟨d, rfl, hd, by omega, fun x d hd hx1 hx2 => ?_⟩
    conv => whnf
    refine ⟨by omega, ?_⟩
    conv => whnf
    exact leaf u.tb _ _ u.rg _ _ _ d hd (by omega) (by omega)
  clear h
  conv => whnf
  refine Fork.mk (fun h => ?_) (fun h => ?_)
  · conv => whnf
    refine ⟨d, rfl, hd, by omega, fun x d hd hx1 hx2 => ?_⟩
    obtain ⟨j, rfl⟩ : ∃ j : Nat, x = j := ⟨x.toNat, by omega⟩
    obtain ⟨y, hy⟩ := at3 0 1073741824 1073741825 (show j < 3 by omega)
    conv => whnf
    refine ⟨by omega, rfl, ?_⟩
    conv => whnf
    refine ⟨[IC y], by rw [Int.toNat_natCast]; exact hy, ?_⟩
    conv => whnf
    refine ⟨by omega, ?_⟩
    conv => whnf
    exact leaf u.tb _ _ u.rg _ _ _ d hd (by omega) (by omega)
  clear h
  conv => whnf
  refine Fork.mk (fun h => ?_) (fun h => ?_)
  · conv => whnf
    refine ⟨d, rfl, hd, by omega, fun x d hd hx1 hx2 => ?_⟩
    conv => whnf
    refine ⟨by simp, ?_⟩
    conv => whnf
    refine ⟨rfl, ?_⟩
    conv => whnf
    refine ⟨⟨rfl, rfl, rfl, by simp, by rw [hm]; simp; omega⟩, ?_⟩
    conv => whnf
    refine ⟨by simp, ?_⟩
    conv => whnf
    have := leaf u.tb u.lo u.mo (u.rg ++ [(5, IntKind.i64.wrap (5 + x))]) (u.rg.length + 1) u.up u.dn d hd (by omega) (by simp; omega)
    rw [← eP_snoc, ← hm] at this
    exact this
  clear h
  conv => whnf
  refine Fork.mk (fun h => ?_) (fun h => ?_)
  · conv => whnf
    refine ⟨d, rfl, hd, by omega, fun x d hd hx1 hx2 => ?_⟩
    obtain ⟨j, rfl⟩ : ∃ j : Nat, x = j := ⟨x.toNat, by omega⟩
    obtain ⟨y, hy⟩ := at3 (-1) 1000 1001 (show j < 3 by omega)
    conv => whnf
    refine ⟨by omega, rfl, ?_⟩
    conv => whnf
    refine ⟨[IC y], by rw [Int.toNat_natCast]; exact hy, ?_⟩
    conv => whnf
    refine ⟨by omega, ?_⟩
    conv => whnf
    exact leaf u.tb _ _ u.rg _ _ _ d hd (by omega) (by omega)
  clear h
  conv => whnf
  refine Fork.mk (fun h => ?_) (fun h => ?_)
  · conv => whnf
    refine ⟨d, rfl, hd, by omega, fun x d hd hx1 hx2 => ?_⟩
    obtain ⟨j, rfl⟩ : ∃ j : Nat, x = j := ⟨x.toNat, by omega⟩
    obtain ⟨y, hy⟩ := at3 (-1) 1000 1001 (show j < 3 by omega)
    conv => whnf
    refine ⟨by omega, rfl, ?_⟩
    conv => whnf
    refine ⟨[IC y], by rw [Int.toNat_natCast]; exact hy, ?_⟩
    conv => whnf
    refine ⟨by omega, ?_⟩
    conv => whnf
    exact leaf u.tb _ _ u.rg _ _ _ d hd (by omega) (by omega)
  clear h
  conv => whnf
  refine Fork.mk (fun h => ?_) (fun h => ?_)
  · conv => whnf
    refine ⟨d, rfl, hd, by omega, fun x d hd hx1 hx2 => ?_⟩
    conv => whnf
    refine ⟨by simp, ?_⟩
    conv => whnf
    refine ⟨by omega, ?_⟩
    conv => whnf
    exact leaf [(0, 0), (10, IntKind.i64.wrap (1073741824 + x))] _ _ u.rg _ _ _ d hd (by simp) (by omega)
  clear h
  conv => whnf
  refine Fork.mk (fun h => ?_) (fun h => ?_)
  · conv => whnf
    refine ⟨⟨rfl, by omega, by decide⟩, ?_⟩
    conv => whnf
    refine ⟨by simp, ?_⟩
    conv => whnf
    exact leaf u.tb u.lo u.mo (List.replicate 11 (0, 0)) 11 u.up u.dn d hd (by omega) (by simp)
  conv => whnf
  refine ⟨by omega, ?_⟩
  conv => whnf
  exact leaf u.tb _ _ u.rg _ _ _ d hd (by omega) (by omega)
end Go.Proofs
