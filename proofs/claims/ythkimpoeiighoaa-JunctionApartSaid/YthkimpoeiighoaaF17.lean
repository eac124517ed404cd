/- Proved here: what functions of the given program come to, for the statements of this chapter; no condition but those in the theorems. -/
import Derived.Test.YthkimpoeiighoaaE17
import Derived.Test.YthkimpoeiighoaaPRiver2
namespace Go.Proofs
open Go Go.Abs
set_option linter.unusedSimpArgs false
set_option linter.unusedVariables false
set_option maxRecDepth 4000
theorem vis_ok : FunG Try.prog 56 (R_vis 3 41) := by
  intro args os k h
  obtain ⟨r, loc, arr, w, k, rfl, rfl, hP, h1, h2, h3⟩ := h
  have hml := eL_len loc
  have hma := eL_len arr
  have hmk := eK_len r.ls
  have hmw := eV_len w
  have hk := hP.hk
  have hl := hP.hl
  have hn := hP.hn
  have hn40 := hP.hr.n
  have hwl := hP.hw.l
  have hll := hP.hr.len
  have hck := gN_get (a := loc) (j := k) (by omega)
  have hak := gN_get (a := arr) (j := k) hk
  have hbk := hP.hb k hk
  refine doesG_ex (qc := qc1) (np := [(7, [(1, 19), (3, 19), (5, 19), (6, 19), (8, 19), (9, 19), (10, 19), (12, 19), (13, 19), (14, 19)])]) (CK := ckK [(57, cSc R_within), (58, cSc R_lnk), (59, cPu R_stepA)]) mixed Try.func56 rfl rfl Try.ntmps56 Try.results56 τ_ok (by kernel_rfl) (ckK_ok ⟨cSc_ok within_ok, cSc_ok link_ok, cPu_ok stepA_ok rfl, trivial⟩) (by simp) rfl rfl ?_
  conv => whnf
  refine ⟨by omega, eI (gN loc k), by rw [Int.toNat_natCast, List.getElem?_map, hck]; rfl, rfl, ?_⟩
  conv => whnf
  refine Fork.mk (fun h => ?_) (fun h => ?_)
  · conv => whnf
    exact ⟨rfl, rfl, h1 (by unfold inQ; simpa only [Bool.not_eq_true'] using h)⟩
  have hq : inQ (gN loc k) = true := by unfold inQ; simpa only [Bool.not_eq_false'] using h
  have hqb := inQ_in hq
  have h2 := h2 hq
  have h3 := h3 hq
  clear h h1
  have e1 : IntKind.i64.wrap (gN arr k + gN loc k) = gN arr k + gN loc k := wrap_in (by omega) (by omega)
  conv => whnf
  refine ⟨by omega, rfl, ?_⟩
  conv => whnf
  refine ⟨eI (gN arr k), by rw [Int.toNat_natCast, Nat.zero_add, List.getElem?_map, hak]; rfl, ?_⟩
  conv => whnf
  refine ⟨by omega, eI (gN loc k), by rw [Int.toNat_natCast, List.getElem?_map, hck]; rfl, rfl, ?_⟩
  conv => whnf
  rw [e1]
  refine ⟨by omega, rfl, ?_⟩
  conv => whnf
  refine ⟨eI (gN arr k), by rw [Int.toNat_natCast, Nat.zero_add, List.getElem?_map, hak]; rfl, by show 0 + 1 ≤ 1; omega, ?_⟩
  conv => whnf
  have hset : ∀ (a : Ls) (j : Nat) (v : Int), (eL a).set (0 + (j : Int).toNat) [nrm (Value.int IntKind.i64 v)] = eL (a.set j v) := fun a j v => by
    rw [Nat.zero_add, Int.toNat_natCast, show [nrm (Value.int IntKind.i64 v)] = eI v from rfl, eL_set]
  refine ⟨r, k, rfl, by omega, ?_⟩
  rcases lnk_spec r.ls k with ⟨e0, _⟩ | ⟨m, l, hlm, hlf, e0⟩
  · rw [e0]
    conv => whnf
    (repeat ((first | refine fork_t ?_ | refine fork_f ?_); (conv => whnf)))
    refine ⟨rfl, rfl, ?_⟩
    rw [hset]
    exact h2 e0
  rw [e0]
  conv => whnf
  refine Fork.mk (fun h => ?_) (fun h => ?_)
  · exfalso; simp at h; omega
  clear h
  have hml2 := (List.getElem?_eq_some_iff.1 hlm).1
  have hcw := List.getElem?_eq_getElem (show m < w.length by omega)
  have hpw := hP.hv.2 _ (List.getElem_mem (show m < w.length by omega))
  generalize w[m] = p at hcw hpw
  have hlw := hP.hf.2 l (List.mem_of_getElem? hlm)
  have hlo := hP.hr.l l (List.mem_of_getElem? hlm)
  have hfit := hP.hw.f m l p hlm hcw
  obtain ⟨h4, h5⟩ := h3 m l p e0 hlf hlm hcw
  have ho := hlo.o
  have ht := hlo.t
  have hto : 0 ≤ l.to ∧ l.to.toNat < arr.length := by omega
  conv => whnf
  refine ⟨by omega, lkC l, by rw [Int.toNat_natCast, List.getElem?_map, hlm]; rfl, rfl, ?_⟩
  conv => whnf
  refine ⟨by omega, rfl, ?_⟩
  conv => whnf
  refine ⟨wvC p, by rw [Int.toNat_natCast, Nat.zero_add, List.getElem?_map, hcw]; rfl, ?_⟩
  conv => whnf
  refine ⟨by omega, rfl, ?_⟩
  conv => whnf
  rw [hset]
  generalize hq2 : gN arr k + gN loc k = q at *
  have hk1 : (arr.set k q)[k]? = some q := by rw [List.getElem?_set, if_pos rfl, if_pos hk]
  refine ⟨eI q, by rw [Int.toNat_natCast, Nat.zero_add, List.getElem?_map, hk1]; rfl, ?_⟩
  conv => whnf
  refine ⟨l.ws, p, rfl, rfl, hlw, hpw, ?_⟩
  rw [step_eq hlo.r hfit]
  by_cases hst : stG l p q = true
  rotate_left
  · have hst : stG l p q = false := by simpa using hst
    rw [show (inQ q && stepB l.ws p q) = false from hst]
    conv => whnf
    (repeat ((first | refine fork_t ?_ | refine fork_f ?_); (conv => whnf)))
    exact ⟨rfl, rfl, h4 hst⟩
  rw [if_pos (show (inQ q && stepB l.ws p q) = true from hst)]
  have hout := out_in hlo.r hfit hst
  have h5 := h5 hst
  generalize hO : outF l.ws l.den p q = o at hout h5 ⊢
  generalize hS : stepF l.ws l.den p q = p' at h5 ⊢
  dsimp only
  conv => whnf
  (repeat ((first | refine fork_t ?_ | refine fork_f ?_); (conv => whnf)))
  refine ⟨by omega, rfl, ?_⟩
  conv => whnf
  refine ⟨wvC p, by rw [Int.toNat_natCast, Nat.zero_add, List.getElem?_map, hcw]; rfl, by show 0 + 1 ≤ 1; omega, ?_⟩
  conv => whnf
  refine ⟨by omega, lkC l, by rw [Int.toNat_natCast, List.getElem?_map, hlm]; rfl, rfl, ?_⟩
  conv => whnf
  refine ⟨by omega, rfl, ?_⟩
  conv => whnf
  obtain ⟨tn, htn⟩ : ∃ tn : Nat, l.to = tn := ⟨l.to.toNat, by omega⟩
  rw [htn, Int.toNat_natCast] at h5
  rw [htn] at hto ⊢
  rw [Int.toNat_natCast] at hto
  have hta : (arr.set k q)[tn]? = some (gN (arr.set k q) tn) := gN_get (by rw [List.length_set]; exact hto.2)
  have hbt := hP.hb tn hto.2
  have hqt : gN (arr.set k q) tn = gN arr tn := by rw [gN_set hk, if_neg (by omega)]
  have e2 : IntKind.i64.wrap (gN (arr.set k q) tn + o) = gN (arr.set k q) tn + o := wrap_in (by omega) (by omega)
  refine ⟨eI (gN (arr.set k q) tn), by rw [Int.toNat_natCast, Nat.zero_add, List.getElem?_map, hta]; rfl, ?_⟩
  conv => whnf
  rw [e2]
  refine ⟨by omega, rfl, ?_⟩
  conv => whnf
  refine ⟨eI (gN (arr.set k q) tn), by rw [Int.toNat_natCast, Nat.zero_add, List.getElem?_map, hta]; rfl, by show 0 + 1 ≤ 1; omega, ?_⟩
  conv => whnf
  refine ⟨rfl, rfl, ?_⟩
  rw [hset]
  have hsw : (eV w).set (0 + (m : Int).toNat) [Cell.lst (eL p')] = eV (w.set m p') := by
    rw [Nat.zero_add, Int.toNat_natCast]
    exact (List.map_set ..).symm
  rw [hsw]
  exact h5
end Go.Proofs
