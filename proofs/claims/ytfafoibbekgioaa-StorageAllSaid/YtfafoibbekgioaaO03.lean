/- Proved here: what functions of the given program come to, for the statements of this chapter; no condition but those in the theorems. -/
import Derived.Test.YtfafoibbekgioaaN03
namespace Go.Proofs
open Go Go.Abs
set_option linter.unusedSimpArgs false
set_option linter.unusedVariables false
set_option maxRecDepth 4000
theorem eP_setY (c : List Pt) (i : Nat) (p : Pt) (v : Int) : (eP c).set i [IC p.1, IC v] = eP (c.set i (p.1, v)) := by rw [show eP (c.set i _) = (eP c).set i _ from List.map_set]; rfl
theorem eP_setX (c : List Pt) (i : Nat) (p : Pt) (v : Int) : (eP c).set i [IC v, IC p.2] = eP (c.set i (v, p.2)) := by rw [show eP (c.set i _) = (eP c).set i _ from List.map_set]; rfl
def R_odd : RB := fun cs args k => match args with
  | [.agg [.lst es, .sc (.int .i64 a), .sc (.int .i64 b), .sc (.int .i64 c), .sc (.int .i64 d), .sc (.int .i64 e)]] => ∃ (dk : Dk) (st : List Pt), es = eP st ∧ cs = dkC dk ∧ dk.ok ∧ (1 ≤ st.length ∧ st.length ≤ 1000) ∧ ∀ (r : Rs) d', Dk.ok d' → r.st.length ≤ 1000 → k (.agg (rsC r)) (dkC d')
  | _ => False
theorem odd_ok : FunB Try.prog 17 R_odd := by
  intro cs args k h
  unfold R_odd at h
  split at h
  case h_2 => exact h.elim
  rename_i a b cc dd e
  obtain ⟨d, c, rfl, rfl, hd, ⟨hl1, hl2⟩, hk⟩ := h
  have hm := eP_len c
  refine doesB_ex (qc := qc1) (np := [(15, [(1, 7), (3, 7)])]) (CK := ckK [(20, cB R_next)]) mixed Try.func17 rfl rfl Try.ntmps17 Try.results17 τ_ok (by kernel_rfl) (ckK_ok ⟨cB_ok next_ok rfl, trivial⟩) (by simp) rfl rfl ?_
  conv => whnf
  refine ⟨eP_all c, by rw [hm]; dsimp only; omega, ?_⟩
  conv => whnf
  refine ⟨d, rfl, hd, by omega, fun v d hd hv1 hv2 => ?_⟩
  have leaf : ∀ (c' : List Pt) (n : Nat) (a b cc dd e : Int) (d' : Dk), d'.ok → c'.length ≤ 1000 → noA (AV.agg [.lst (List.take n (List.drop 0 (eP c'))), IC a, IC b, IC cc, IC dd, IC e]) = true ∧ noCs (dkC d') = true ∧ k (AV.agg [.lst (List.take n (List.drop 0 (eP c'))), IC a, IC b, IC cc, IC dd, IC e]) (dkC d') := fun c' n a b cc dd e d' hd' hc' => by
    refine ⟨rfl, rfl, ?_⟩
    rw [List.drop_zero, show List.take n (eP c') = eP (c'.take n) from List.map_take.symm]
    exact hk ⟨c'.take n, a, b, cc, dd, e⟩ d' hd' (by show (c'.take n).length ≤ 1000; rw [List.length_take]; omega)
  conv => whnf
  refine Fork.mk (fun h => ?_) (fun h => ?_)
  · conv => whnf
    refine ⟨d, rfl, hd, by omega, fun u d hd hu1 hu2 => ?_⟩
    conv => whnf
    refine ⟨by omega, ?_⟩
    conv => whnf
    exact leaf c _ _ _ _ _ _ d hd hl2
  clear h
  conv => whnf
  refine Fork.mk (fun h => ?_) (fun h => ?_)
  · conv => whnf
    refine ⟨d, rfl, hd, by omega, fun u d hd hu1 hu2 => ?_⟩
    conv => whnf
    refine ⟨by omega, ?_⟩
    conv => whnf
    exact leaf c _ _ _ _ _ _ d hd hl2
  clear h
  conv => whnf
  refine Fork.mk (fun h => ?_) (fun h => ?_)
  · conv => whnf
    refine ⟨d, rfl, hd, by omega, fun u d hd hu1 hu2 => ?_⟩
    conv => whnf
    refine ⟨by omega, ?_⟩
    conv => whnf
    exact leaf c _ _ _ _ _ _ d hd hl2
  clear h
  conv => whnf
  refine Fork.mk (fun h => ?_) (fun h => ?_)
  · conv => whnf
    refine ⟨by omega, rfl, ?_⟩
    conv => whnf
    refine ⟨by simp; omega, ?_⟩
    conv => whnf
    exact leaf c _ _ _ _ _ _ d hd hl2
  clear h
  conv => whnf
  refine Fork.mk (fun h => ?_) (fun h => ?_)
  · conv => whnf
    refine ⟨d, rfl, hd, by omega, fun u d hd hu1 hu2 => ?_⟩
    obtain ⟨i, rfl, hi⟩ : ∃ i : Nat, u = i ∧ i < c.length := ⟨u.toNat, by omega, by omega⟩
    have hci := List.getElem?_eq_getElem hi
    have hh := head_at (show c ≠ [] from fun e => by subst e; simp at hl1)
    generalize c[i] = p at hci
    generalize c.headD (0, 0) = q at hh
    conv => whnf
    refine ⟨by omega, rfl, ?_⟩
    conv => whnf
    refine ⟨ePt q, eP_at c hh, ?_⟩
    conv => whnf
    refine ⟨by omega, rfl, ?_⟩
    conv => whnf
    refine ⟨ePt p, by rw [Nat.zero_add, Int.toNat_natCast]; exact eP_at c hci, Nat.le_refl 2, ?_⟩
    conv => whnf
    rw [Int.toNat_natCast, show (eP c).set (0 + i) [IC p.1, nrm (.int .i64 q.2)] = eP (c.set i (p.1, q.2)) by rw [Nat.zero_add]; exact eP_setY c i p q.2]
    refine ⟨by simp, ?_⟩
    conv => whnf
    exact leaf (c.set i (p.1, q.2)) _ _ _ _ _ _ d hd (by rw [List.length_set]; exact hl2)
  clear h
  conv => whnf
  refine Fork.mk (fun h => ?_) (fun h => ?_)
  · have hlp : c[c.length - 1]? = some (lastP c) := lastP_at (show c ≠ [] from fun e => by subst e; simp at hl1)
    generalize lastP c = p at hlp
    have hw2 : IntKind.i64.wrap (((eP c).length : Int) - 1) = ((c.length - 1 : Nat) : Int) := by rw [eP_len, wrap_in (by omega) (by omega)]; omega
    conv => whnf
    rw [hw2]
    refine ⟨d, rfl, hd, by omega, fun u d hd hu1 hu2 => ?_⟩
    conv => whnf
    rw [show IntKind.i64.wrap (16777216 + u) = 16777216 + u from wrap_in (by omega) (by omega)]
    refine ⟨by omega, rfl, ?_⟩
    conv => whnf
    refine ⟨ePt p, by rw [Nat.zero_add, Int.toNat_natCast]; exact eP_at c hlp, (show 1 ≤ 2 by omega), ?_⟩
    conv => whnf
    rw [Int.toNat_natCast, show (eP c).set (0 + (c.length - 1)) [nrm (.int .i64 (16777216 + u)), IC p.2] = eP (c.set (c.length - 1) (16777216 + u, p.2)) by rw [Nat.zero_add]; exact eP_setX c (c.length - 1) p (16777216 + u)]
    refine ⟨by simp, ?_⟩
    conv => whnf
    exact leaf (c.set (c.length - 1) (16777216 + u, p.2)) _ _ _ _ _ _ d hd (by rw [List.length_set]; exact hl2)
  conv => whnf
  refine ⟨by omega, ?_⟩
  conv => whnf
  exact leaf c _ _ _ _ _ _ d hd hl2
end Go.Proofs
