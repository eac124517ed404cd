/- Proved here: what functions of the given program come to, for the statements of this chapter; no condition but those in the theorems. -/
import Derived.Test.YthkimpoeiighoaaL17
import Derived.Test.YthkimpoeiighoaaPRiver6
namespace Go.Proofs
open Go Go.Abs
set_option linter.unusedSimpArgs false
set_option linter.unusedVariables false
set_option maxRecDepth 4000
def R_way : RT := fun args k => ∃ (r : Rv) (x : Int), args = [.agg (rvC r), I x] ∧ RvOk r ∧ (0 ≤ x ∧ x < r.n) ∧ k (.c (.lst (eL ((wayR r x).map Int.ofNat))))
theorem way_ok : FunR Try.prog 51 R_way := by
  intro args k h
  obtain ⟨r, x, rfl, hr, hx, hk⟩ := h
  have hm := eK_len r.ls
  have hrl := hr.len
  have hpl := path_len hr hx
  refine does_ex (qc := qc1) (np := [(5, [(2, 5), (2, 7), (2, 9), (3, 5), (3, 7), (3, 9)])]) (CK := ckK [(58, cSc R_lnk)]) mixed Try.func51 rfl rfl Try.ntmps51 Try.results51 τ_ok (by kernel_rfl) (ckK_ok ⟨cSc_ok link_ok, trivial⟩) (by simp) ?_
  conv => whnf
  refine ⟨r, x, rfl, by omega, ?_⟩
  conv => whnf
  refine ⟨List Nat × Int, fun s => ([(2, .c (.ptr (.l 2 0) 0)), (5, .c (.view (.l 18 1) 0 s.1.length)), (6, I (lnk r.ls s.2))], ⟨[(.l 2 0, .blk (rvC r)), (.l 18 1, .arr 3 1 (eL (s.1.map Int.ofNat)) false)], 2, []⟩),
    fun s => (0 ≤ s.2 ∧ s.2 < r.n) ∧ wayR r x = s.1 ++ wayR r s.2, fun s => (r.n - s.2).toNat, ([], x), ⟨hx, rfl⟩,
    Shift.trans (Shift.rename [] ⟨rfl, rfl, rfl, trivial⟩ ⟨rfl, rfl, trivial⟩ rfl rfl rfl) (Shift.nilArr (t := 5) rfl 18 3 1), fun s hs => ?_⟩
  obtain ⟨o, y⟩ := s
  obtain ⟨hy, hw⟩ := hs
  dsimp only at hy hw ⊢
  have hmo : (eL (o.map Int.ofNat)).length = o.length := by rw [eL_len, List.length_map]
  have hol : o.length ≤ 40 := by have := congrArg List.length hw; rw [List.length_append] at this; omega
  rcases lnk_spec r.ls y with ⟨e, _⟩ | ⟨i, l, e1, e2, e3⟩
  · rw [wayR_end (k := y) (by omega), List.append_nil] at hw
    rw [e]
    conv => whnf
    (repeat ((first | refine fork_t ?_ | refine fork_f ?_); (conv => whnf)))
    refine ⟨by rw [hmo]; omega, ?_⟩
    conv => whnf
    have ht : List.take o.length (List.drop 0 (eL (o.map Int.ofNat))) = eL (o.map Int.ofNat) := by rw [List.drop_zero, List.take_of_length_le (by rw [hmo]; exact Nat.le_refl _)]
    show k (.c (.lst (List.take o.length (List.drop 0 (eL (o.map Int.ofNat))))))
    rw [ht, ← hw]
    exact hk
  rw [e3]
  rw [wayR_step hr hy.1 e3 e1 e2] at hw
  have hil := (List.getElem?_eq_some_iff.1 e1).1
  have hlo := hr.l l (List.mem_of_getElem? e1)
  have h1 := hlo.o
  have h2 := hlo.t
  conv => whnf
  refine Fork.mk (fun h => ?_) (fun h => ?_)
  rotate_left
  · exfalso; simp at h
  clear h
  conv => whnf
  refine ⟨by first | exact Nat.le_refl _ | (simp; done), ?_⟩
  conv => whnf
  refine ⟨rfl, ?_⟩
  conv => whnf
  refine ⟨⟨rfl, rfl, rfl, hmo.symm, by rw [hmo]; simp; omega⟩, ?_⟩
  conv => whnf
  refine ⟨by omega, lkC l, by rw [Int.toNat_natCast, List.getElem?_map, e1]; rfl, rfl, ?_⟩
  conv => whnf
  refine ⟨r, l.to, rfl, by omega, ?_⟩
  conv => whnf
  refine ⟨(o ++ [i], l.to), ⟨by dsimp only; omega, by dsimp only; rw [hw]; simp⟩, Shift.rename [(.l 18 1, .l 18 2)] ⟨rfl, ?_, rfl, trivial⟩ ⟨rfl, ?_, trivial⟩ rfl rfl rfl, by dsimp only; omega⟩
  · dsimp only; rw [List.length_append, ← hmo]; rfl
  · dsimp only; rw [List.map_append, show eL (o.map Int.ofNat ++ List.map Int.ofNat [i]) = eL (o.map Int.ofNat) ++ [eI (i : Int)] from List.map_append]; rfl
def R_pth : RT := fun args k => ∃ (r : Rv) (x : Int), args = [.agg (rvC r), I x] ∧ r.fin ∧ k (.tup [.c (.lst (eL (pthS r x).1)), I (pthS r x).2])
theorem kPth {k : AV → Prop} {x y : Ls × Int} (h : k (.tup [.c (.lst (eL x.1)), I x.2])) (e : x = y) : k (.tup [.c (.lst (eL y.1)), I y.2]) := by subst e; exact h
theorem pth_ok : FunR Try.prog 35 R_pth := by
  intro args k h
  obtain ⟨r, x, rfl, hf, hk⟩ := h
  have hm := eK_len r.ls
  refine does_ex (qc := qc1) (np := []) (CK := ckK [(27, cSc R_rvE), (45, cSc R_node), (51, cPu R_way)]) mixed Try.func35 rfl rfl Try.ntmps35 Try.results35 τ_ok (by kernel_rfl) (ckK_ok ⟨cSc_ok rvE_ok', cSc_ok node_ok, cPu_ok way_ok rfl, trivial⟩) (by simp) ?_
  conv => whnf
  refine ⟨r, rfl, hf, ?_⟩
  conv => whnf
  refine Fork.mk (fun h => ?_) (fun h => ?_)
  · have h1 : rvE r ≠ 0 := by simpa using h
    conv => whnf
    exact kPth (y := ([], rvE r)) hk (by rw [pthS, if_pos h1])
  have h1 : rvE r = 0 := by simpa using h
  have hr := rvE_ok h1
  have hrl := hr.len
  clear h
  conv => whnf
  refine ⟨r, x, rfl, hr.n, ?_⟩
  conv => whnf
  refine Fork.mk (fun h => ?_) (fun h => ?_)
  · have h2 : inN r.n x = false := by simpa only [Bool.not_eq_true'] using h
    conv => whnf
    exact kPth (y := ([], 11)) hk (by rw [pthS, if_neg (by simp [h1]), if_pos h2])
  have h2 : inN r.n x = true := by simpa only [Bool.not_eq_false'] using h
  have hx : 0 ≤ x ∧ x < r.n := by simp [inN] at h2; omega
  have e0 : pthS r x = (pathR r x, 0) := by rw [pthS, if_neg (by simp [h1]), if_neg (by simp [h2])]
  clear h h2
  have hwi := way_in hr (r.n - x).toNat x (Nat.le_refl _) hx.1
  have hwl := path_len hr hx
  rw [pathR] at e0
  conv => whnf
  refine ⟨r, x, rfl, hr, hx, ?_⟩
  generalize wayR r x = ws at e0 hwi hwl
  have hmw : (eL (ws.map Int.ofNat)).length = ws.length := by rw [eL_len, List.length_map]
  conv => whnf
  refine ⟨Nat, fun i => ([(2, .c (.ptr (.l 2 0) 0)), (7, .c (.view (.l 37 9) 0 (i + 1))), (23, .c (.lst (eL (ws.map Int.ofNat)))), (24, I (eL (ws.map Int.ofNat)).length), (25, I i)], ⟨[(.l 2 0, .blk (rvC r)), (.l 37 9, .arr 3 1 (eL (x :: (ws.take i).map (toOf r.ls))) false)], 10, []⟩),
    fun i => i ≤ ws.length, fun i => ws.length - i, 0, Nat.zero_le _, Shift.rename [(.l 37 9, .l 20 1)] ⟨rfl, rfl, rfl, rfl, rfl, trivial⟩ ⟨rfl, rfl, trivial⟩ rfl rfl rfl, fun i hi => ?_⟩
  dsimp only
  have hmi : (eL (x :: (ws.take i).map (toOf r.ls))).length = i + 1 := by rw [eL_len, List.length_cons, List.length_map, List.length_take]; omega
  conv => whnf
  refine Fork.mk (fun h => ?_) (fun h => ?_)
  rotate_left
  · have hie : i = ws.length := by simp at h; omega
    subst hie
    rw [List.take_length] at hmi ⊢
    conv => whnf
    refine ⟨by rw [hmi]; omega, ?_⟩
    conv => whnf
    have ht : List.take (ws.length + 1) (List.drop 0 (eL (x :: ws.map (toOf r.ls)))) = eL (x :: ws.map (toOf r.ls)) := by rw [List.drop_zero, List.take_of_length_le (by rw [hmi]; exact Nat.le_refl _)]
    show k (.tup [.c (.lst (List.take (ws.length + 1) (List.drop 0 (eL (x :: ws.map (toOf r.ls)))))), I 0])
    rw [ht]
    exact kPth (y := (x :: ws.map (toOf r.ls), 0)) hk e0
  have hil : i < ws.length := by simp at h; omega
  clear h
  have hci := List.getElem?_eq_getElem hil
  have hin := hwi _ (List.getElem_mem hil)
  generalize ws[i] = c at hci hin
  have hcl := List.getElem?_eq_getElem hin
  have hto : toOf r.ls c = (r.ls[c]'hin).to := by unfold toOf; rw [hcl]
  generalize r.ls[c] = l at hcl hto
  have hw1 := wr_succ (i := i) (by omega)
  conv => whnf
  refine ⟨by omega, eI (c : Int), by rw [Int.toNat_natCast, List.getElem?_map, List.getElem?_map, hci]; rfl, rfl, ?_⟩
  conv => whnf
  refine ⟨by omega, lkC l, by rw [Int.toNat_natCast, List.getElem?_map, hcl]; rfl, rfl, ?_⟩
  conv => whnf
  refine ⟨by first | exact Nat.le_refl _ | (simp; done), ?_⟩
  conv => whnf
  refine ⟨rfl, ?_⟩
  conv => whnf
  refine ⟨⟨rfl, rfl, rfl, hmi.symm, by rw [hmi]; simp; omega⟩, ?_⟩
  conv => whnf
  rw [hw1]
  refine ⟨i + 1, hil, Shift.rename [(.l 37 9, .l 37 11)] ⟨rfl, ?_, rfl, rfl, rfl, trivial⟩ ⟨rfl, ?_, trivial⟩ rfl rfl rfl, by omega⟩
  · dsimp only; rw [hmi]; rfl
  · dsimp only; rw [take_snoc hci, List.map_append, ← List.cons_append, show eL ((x :: (ws.take i).map (toOf r.ls)) ++ List.map (toOf r.ls) [c]) = eL (x :: (ws.take i).map (toOf r.ls)) ++ [eI (toOf r.ls c)] from List.map_append, hto]; rfl
end Go.Proofs
