/- Proved here: what functions of the given program come to, for the statements of this chapter; no condition but those in the theorems. -/
import Derived.Test.YthkimpoeiighoaaG17
namespace Go.Proofs
open Go Go.Abs
set_option linter.unusedSimpArgs false
set_option linter.unusedVariables false
set_option maxRecDepth 4000
theorem take_snoc {α : Type} {l : List α} {i : Nat} {v : α} (h : l[i]? = some v) : l.take (i + 1) = l.take i ++ [v] := by
  rw [List.take_add_one, h]; rfl
theorem runJ_ok : FunR Try.prog 20 R_runJ := by
  intro args k h
  obtain ⟨r, w, ls, rfl, hf, hv, hvl, hk⟩ := h
  have hmw := eV_len w
  have hml := eV_len ls
  refine does_ex (qc := qc1) (np := []) (CK := ckK [(40, cSc R_wvE), (41, cPu R_clone), (42, cG (R_psJ 41))]) mixed Try.func20 rfl rfl Try.ntmps20 Try.results20 τ_ok (by kernel_rfl) (ckK_ok ⟨cSc_ok wvE_ok', cPu_ok clone_ok rfl, cG_ok psJ_ok rfl, trivial⟩) (by simp) ?_
  conv => whnf
  refine ⟨r, w, rfl, hf, hv, ?_⟩
  conv => whnf
  refine Fork.mk (fun h => ?_) (fun h => ?_)
  · have h1 : wvE r w ≠ 0 := by simpa using h
    conv => whnf
    exact kRun hk (by rw [runJ, if_pos h1])
  have h1 : wvE r w = 0 := by simpa using h
  obtain ⟨hr, hw⟩ := wvE_ok h1
  obtain ⟨_, hw40, hw24⟩ := hw.fin hr
  have hwl := hw.l
  clear h
  conv => whnf
  refine Fork.mk (fun h => ?_) (fun h => ?_)
  · have h2 : 4096 < ls.length := by simp at h; omega
    conv => whnf
    exact kRun hk (by rw [runJ, if_neg (by simp [h1]), if_pos h2])
  have h2 : ¬ 4096 < ls.length := by simp at h; omega
  have e0 : runJ r w ls = runX r w ls := by rw [runJ, if_neg (by simp [h1]), if_neg h2]
  rw [e0] at hk
  clear h
  conv => whnf
  refine ⟨Nat, fun i => ([(2, .c (.lst (eV ls))), (3, .c (.ptr (.l 3 0) 0)), (10, .c (.view (.l 39 1) 0 i)), (27, .c (.lst (eV w))), (28, I (eV w).length), (29, I i)], ⟨[(.l 3 0, .blk (rvC r)), (.l 39 1, .arr 41 1 (eV (w.take i)) false)], 2, []⟩),
    fun i => i ≤ w.length, fun i => w.length - i, 0, Nat.zero_le _, Shift.trans (Shift.rename [] ⟨rfl, rfl, rfl, rfl, rfl, rfl, trivial⟩ ⟨rfl, rfl, trivial⟩ rfl rfl rfl) (Shift.nilArr (t := 10) rfl 39 41 1), fun i hi => ?_⟩
  dsimp only
  conv => whnf
  refine Fork.mk (fun h => ?_) (fun h => ?_)
  · have hil : i < w.length := by simp at h; omega
    clear h
    have hci := List.getElem?_eq_getElem hil
    have hp24 := hw24 _ (List.getElem_mem hil)
    generalize w[i] = p at hci hp24
    have hw1 := wr_succ (i := i) (by omega)
    have hti : (eV (w.take i)).length = i := by rw [eV_len, List.length_take]; omega
    conv => whnf
    refine ⟨by omega, wvC p, by rw [Int.toNat_natCast, List.getElem?_map, hci]; rfl, rfl, ?_⟩
    conv => whnf
    refine ⟨p, rfl, by omega, ?_⟩
    conv => whnf
    refine ⟨by simp, ?_⟩
    conv => whnf
    refine ⟨rfl, ?_⟩
    conv => whnf
    refine ⟨⟨rfl, rfl, rfl, hti.symm, by rw [hti]; simp; omega⟩, ?_⟩
    conv => whnf
    rw [hw1]
    refine ⟨i + 1, hil, Shift.rename [(.l 39 1, .l 39 4)] ⟨rfl, rfl, ?_, rfl, rfl, rfl, trivial⟩ ⟨rfl, ?_, trivial⟩ rfl rfl rfl, by omega⟩
    · dsimp only; rw [hti]; rfl
    · dsimp only; rw [take_snoc hci, show eV (w.take i ++ [p]) = eV (w.take i) ++ [wvC p] from List.map_append]; rfl
  have hie : i = w.length := by simp at h; omega
  subst hie
  clear h
  conv => whnf
  refine ⟨List Ls × List Ls × Nat, fun s => ([(3, .c (.ptr (.l 3 0) 0)), (10, .c (.view (.l 39 1) 0 w.length)), (13, .c (.view (.l 60 2) 0 s.2.1.length)), (41, .c (.lst (eV ls))), (42, I (eV ls).length), (43, I s.2.2)], ⟨[(.l 3 0, .blk (rvC r)), (.l 39 1, .arr 41 1 (eV s.1) false), (.l 60 2, .arr 22 1 (eV s.2.1) false)], 3, []⟩),
    fun s => s.2.2 ≤ ls.length ∧ runX r w ls = preX s.2.1 (runX r s.1 (ls.drop s.2.2)) ∧ WvOk r s.1 ∧ s.2.1.length = s.2.2, fun s => ls.length - s.2.2, (w, [], 0), ⟨Nat.zero_le _, by rw [preX_nil]; rfl, hw, rfl⟩, Shift.trans (Shift.rename [] ⟨rfl, rfl, rfl, rfl, rfl, rfl, trivial⟩ ⟨rfl, ?_, rfl, trivial⟩ rfl rfl rfl) (Shift.nilArr (t := 13) rfl 60 22 1), fun s hs => ?_⟩
  · dsimp only; rw [List.take_length]; rfl
  obtain ⟨w', o, j⟩ := s
  obtain ⟨hj, hrun, hw', hol⟩ := hs
  dsimp only at hj hrun hw' hol ⊢
  obtain ⟨hv', _, _⟩ := hw'.fin hr
  have hwl' := hw'.l
  have hmo := eV_len o
  conv => whnf
  refine Fork.mk (fun h => ?_) (fun h => ?_)
  rotate_left
  · have hje : j = ls.length := by simp at h; omega
    rw [hje, List.drop_length] at hrun
    conv => whnf
    refine ⟨by rw [eV_len]; omega, ?_⟩
    conv => whnf
    refine ⟨by rw [eV_len]; omega, ?_⟩
    conv => whnf
    have t1 : List.take w.length (List.drop 0 (eV w')) = eV w' := by rw [List.drop_zero, List.take_of_length_le (by rw [eV_len]; omega)]
    have t2 : List.take o.length (List.drop 0 (eV o)) = eV o := by rw [List.drop_zero, List.take_of_length_le (by rw [eV_len]; omega)]
    show k (.tup [.c (.lst (List.take w.length (List.drop 0 (eV w')))), .c (.lst (List.take o.length (List.drop 0 (eV o)))), I 0])
    rw [t1, t2]
    exact kRun (y := .ok (w', o)) hk (by rw [hrun]; simp [preX, runX])
  have hjl : j < ls.length := by simp at h; omega
  clear h
  have hcj := List.getElem?_eq_getElem hjl
  have hll := hvl.2 _ (List.getElem_mem hjl)
  generalize ls[j] = l at hcj hll
  rw [dropC hcj] at hrun
  have hw1 := wr_succ (i := j) (by omega)
  conv => whnf
  refine ⟨by omega, wvC l, by rw [Int.toNat_natCast, List.getElem?_map, hcj]; rfl, rfl, ?_⟩
  conv => whnf
  refine ⟨[.l 39 1], rfl, ?_⟩
  conv => whnf
  refine ⟨rfl, ?_⟩
  conv => whnf
  refine ⟨rfl, ?_⟩
  conv => whnf
  refine ⟨r, l, w', ?_, rfl, hr, hw', hf, hv', hll, fun x hx => ?_, fun e hx he w2 hw2 => ?_⟩
  · rw [show w'.length = w.length by omega]; rfl
  · obtain ⟨f1, f2, f3, _⟩ := passX_fit hr hw' hx
    have hn40 := hr.n
    rw [runX_ok hx, preX_app] at hrun
    obtain ⟨xw, xa⟩ := x
    dsimp only at f1 f2 hrun
    conv => whnf
    (repeat ((first | refine fork_t ?_ | refine fork_f ?_); (conv => whnf)))
    refine ⟨by simp, ?_⟩
    conv => whnf
    refine ⟨rfl, ?_⟩
    conv => whnf
    refine ⟨⟨rfl, rfl, rfl, hmo.symm, by rw [hmo]; simp; omega⟩, ?_⟩
    conv => whnf
    rw [hw1]
    refine ⟨(xw, o ++ [xa], j + 1), ⟨hjl, hrun, f1, by simp [hol]⟩, Shift.rename [(.l 60 2, .l 60 4)] ⟨rfl, rfl, ?_, rfl, rfl, rfl, trivial⟩ ⟨rfl, rfl, ?_, trivial⟩ rfl rfl rfl, by dsimp only; omega⟩
    · dsimp only; rw [List.length_append, ← hmo]; rfl
    · dsimp only; rw [show eV (o ++ [xa]) = eV o ++ [wvC xa] from List.map_append]; rfl
  · rw [runX_err hx] at hrun
    have he := passX_err hx
    have hk2 : k (runA (.error e)) := kRun hk hrun
    conv => whnf
    rcases he with rfl | rfl
    · (repeat ((first | refine fork_t ?_ | refine fork_f ?_); (conv => whnf)))
      exact hk2
    · (repeat ((first | refine fork_t ?_ | refine fork_f ?_); (conv => whnf)))
      exact hk2
end Go.Proofs
