/- Proved here: what functions of the given program come to, for the statements of this chapter; no condition but those in the theorems. -/
import Derived.Test.YthkimpoeiighoaaI17
import Derived.Test.YthkimpoeiighoaaAbsBA
namespace Go.Proofs
open Go Go.Abs
set_option linter.unusedSimpArgs false
set_option linter.unusedVariables false
set_option maxRecDepth 4000
theorem rrunJ_ok : FunR Try.prog 30 R_runJ := by
  intro args k h
  obtain ⟨r, w, ls, rfl, hf, hv, hvl, hk⟩ := h
  have hmw := eV_len w
  have hml := eV_len ls
  refine does_ex (qc := qc1) (np := []) (CK := ckK [(28, cSc R_rvE), (47, cSc R_wvB), (29, cPu R_stpJ)]) mixed Try.func30 rfl rfl Try.ntmps30 Try.results30 τ_ok (by kernel_rfl) (ckK_ok ⟨cSc_ok rrvE_ok, cSc_ok wvB_ok, cPu_ok rstpJ_ok rfl, trivial⟩) (by simp) ?_
  conv => whnf
  refine ⟨r, rfl, hf, ?_⟩
  conv => whnf
  refine Fork.mk (fun h => ?_) (fun h => ?_)
  · have h1 : rvE r ≠ 0 := by simpa using h
    conv => whnf
    exact kRun hk (by rw [runJ, wvE, if_pos h1, if_pos h1])
  have h1 : rvE r = 0 := by simpa using h
  have hr := rvE_ok h1
  clear h
  conv => whnf
  refine ⟨r, w, rfl, hf, hv, ?_⟩
  conv => whnf
  refine Fork.mk (fun h => ?_) (fun h => ?_)
  · have hb : (decide (w.length = r.ls.length) && wvOk r.ls w) = false := by simpa only [Bool.not_eq_true'] using h
    have e : wvE r w = 3 := by
      rw [wvE, if_neg (by simp [h1])]
      by_cases hx : w.length = r.ls.length
      · simp [hx] at hb
        rw [if_neg (by omega), if_pos hb]
      · rw [if_pos hx]
    conv => whnf
    exact kRun (y := .error 3) hk (by rw [runJ, if_pos (by omega), e])
  have hb : (decide (w.length = r.ls.length) && wvOk r.ls w) = true := by simpa only [Bool.not_eq_false'] using h
  simp only [Bool.and_eq_true, decide_eq_true_eq] at hb
  have h2 : wvE r w = 0 := by rw [wvE, if_neg (by simp [h1]), if_neg (by simp [hb.1]), if_neg (by simp [hb.2])]
  obtain ⟨_, hw⟩ := wvE_ok h2
  obtain ⟨_, hw40, hw24⟩ := hw.fin hr
  have hwl := hw.l
  clear h hb
  conv => whnf
  refine Fork.mk (fun h => ?_) (fun h => ?_)
  · have h3 : 4096 < ls.length := by simp at h; omega
    conv => whnf
    exact kRun hk (by rw [runJ, if_neg (by simp [h2]), if_pos h3])
  have h3 : ¬ 4096 < ls.length := by simp at h; omega
  have e0 : runJ r w ls = runX r w ls := by rw [runJ, if_neg (by simp [h2]), if_neg h3]
  rw [e0] at hk
  clear h
  conv => whnf
  refine ⟨⟨rfl, by omega, by show (((eV w).length : Nat) : Int) * 24 ≤ _; omega⟩, ?_⟩
  conv => whnf
  refine ⟨Nat, fun i => ([(1, .c (.lst (eV w))), (2, .c (.lst (eV ls))), (3, .c (.ptr (.l 3 0) 0)), (10, .c (.view (.l 32 1) 0 w.length)), (34, I (eV w).length), (35, I i)], ⟨[(.l 3 0, .blk (rvC r)), (.l 32 1, .arr 41 1 (eV (w.take i ++ List.replicate (w.length - i) [])) false)], 9, []⟩),
    fun i => i ≤ w.length, fun i => w.length - i, 0, Nat.zero_le _, Shift.reset ⟨rfl, rfl, rfl, ?_, rfl, rfl, trivial⟩ ⟨rfl, ?_, trivial⟩ rfl rfl, fun i hi => ?_⟩
  · show some (AV.c (.view (.l 32 1) 0 (Int.toNat ((eV w).length : Int)))) = _
    rw [Int.toNat_natCast, hmw]
  · show some (MObj.arr 41 1 (List.replicate (Int.toNat ((eV w).length : Int)) (wvC [])) false) = some (MObj.arr 41 1 (eV (List.replicate w.length [])) false)
    rw [Int.toNat_natCast, hmw, show eV (List.replicate w.length []) = List.replicate w.length (wvC []) from List.map_replicate]
  dsimp only
  conv => whnf
  refine Fork.mk (fun h => ?_) (fun h => ?_)
  · have hil : i < w.length := by simp at h; omega
    clear h
    have hci := List.getElem?_eq_getElem hil
    have hp24 := hw24 _ (List.getElem_mem hil)
    generalize w[i] = p at hci hp24
    have hw1 := wr_succ (i := i) (by omega)
    have hmp := eL_len p
    have htl : (w.take i).length = i := by rw [List.length_take]; omega
    have hrep : w.take i ++ List.replicate (w.length - i) [] = w.take i ++ ([] :: List.replicate (w.length - (i + 1)) []) := by rw [show w.length - i = (w.length - (i + 1)) + 1 by omega]; rfl
    have hgm : (eV (w.take i ++ List.replicate (w.length - i) []))[0 + (i : Int).toNat]? = some (wvC []) := by
      rw [Nat.zero_add, Int.toNat_natCast, List.getElem?_map, hrep, List.getElem?_append_right (by omega), show i - (w.take i).length = 0 by omega]; rfl
    have hsm : (eV (w.take i ++ List.replicate (w.length - i) [])).set (0 + (i : Int).toNat) [Cell.lst (eL p)] = eV (w.take (i + 1) ++ List.replicate (w.length - (i + 1)) []) := by
      rw [Nat.zero_add, Int.toNat_natCast, show [Cell.lst (eL p)] = wvC p from rfl, ← List.map_set, hrep, List.set_append_right _ _ (by omega), show i - (w.take i).length = 0 by omega, take_snoc hci, List.append_assoc]; rfl
    conv => whnf
    refine ⟨by omega, wvC p, by rw [Int.toNat_natCast, List.getElem?_map, hci]; rfl, rfl, ?_⟩
    conv => whnf
    refine ⟨eL_all _, ?_⟩
    conv => whnf
    refine ⟨by show (eL p).length * 8 ≤ _; omega, ?_⟩
    conv => whnf
    refine ⟨by omega, rfl, ?_⟩
    conv => whnf
    refine ⟨by simp, ?_⟩
    conv => whnf
    refine ⟨wvC [], hgm, by show 0 + 1 ≤ 1; omega, ?_⟩
    conv => whnf
    rw [hw1]
    have htk : List.take (eL p).length (List.drop 0 (eL p)) = eL p := by rw [List.drop_zero, List.take_length]
    refine ⟨i + 1, hil, Shift.reset ⟨rfl, rfl, rfl, rfl, rfl, rfl, trivial⟩ ⟨rfl, ?_, trivial⟩ rfl rfl, by omega⟩
    dsimp only
    rw [htk, hsm]
    rfl
  have hie : i = w.length := by simp at h; omega
  subst hie
  clear h
  conv => whnf
  refine ⟨List Ls × List Ls × Nat, fun s => ([(3, .c (.ptr (.l 3 0) 0)), (10, .c (.lst (eV s.1))), (12, .c (.view (.l 70 9) 0 s.2.1.length)), (49, .c (.lst (eV ls))), (50, I (eV ls).length), (51, I s.2.2)], ⟨[(.l 3 0, .blk (rvC r)), (.l 70 9, .arr 22 1 (eV s.2.1) false)], 10, []⟩),
    fun s => s.2.2 ≤ ls.length ∧ runX r w ls = preX s.2.1 (runX r s.1 (ls.drop s.2.2)) ∧ WvOk r s.1 ∧ s.2.1.length = s.2.2, fun s => ls.length - s.2.2, (w, [], 0), ⟨Nat.zero_le _, by rw [preX_nil]; rfl, hw, rfl⟩,
    Shift.trans (Shift.rename [] ⟨rfl, ?_, rfl, rfl, rfl, rfl, trivial⟩ ⟨rfl, rfl, trivial⟩ rfl rfl rfl) (Shift.trans (Shift.purV (t := 10) (i := .l 32 1) (n := w.length) (es := eV (w.take w.length ++ List.replicate (w.length - w.length) [])) rfl rfl (by rw [eV_len, List.take_length, Nat.sub_self, List.replicate_zero, List.append_nil])) (Shift.nilArr (t := 12) rfl 70 22 1)), fun s hs => ?_⟩
  · dsimp only; rw [List.take_length, Nat.sub_self, List.replicate_zero, List.append_nil]; rfl
  obtain ⟨w', o, j⟩ := s
  obtain ⟨hj, hrun, hw', hol⟩ := hs
  dsimp only at hj hrun hw' hol ⊢
  obtain ⟨hv', _, _⟩ := hw'.fin hr
  have hwl' := hw'.l
  have hmo := eV_len o
  have hmw' := eV_len w'
  conv => whnf
  refine Fork.mk (fun h => ?_) (fun h => ?_)
  rotate_left
  · have hje : j = ls.length := by simp at h; omega
    rw [hje, List.drop_length] at hrun
    conv => whnf
    refine ⟨by rw [eV_len]; omega, ?_⟩
    conv => whnf
    have t2 : List.take o.length (List.drop 0 (eV o)) = eV o := by rw [List.drop_zero, List.take_of_length_le (by rw [eV_len]; omega)]
    show k (.tup [.c (.lst (eV w')), .c (.lst (List.take o.length (List.drop 0 (eV o)))), I 0])
    rw [t2]
    exact kRun (y := .ok (w', o)) hk (by rw [hrun]; simp [preX, runX])
  have hjl : j < ls.length := by simp at h; omega
  clear h
  have hcj := List.getElem?_eq_getElem hjl
  have hll := hvl.2 _ (List.getElem_mem hjl)
  generalize ls[j] = l at hcj hll
  rw [dropC hcj] at hrun
  have hw1 := wr_succ (i := j) (by omega)
  conv => whnf
  refine ⟨by omega, wvC l, by rw [Int.toNat_natCast, List.getElem?_map, hcj]; rfl, rfl, ?_⟩
  conv => whnf
  refine ⟨r, w', l, rfl, hf, hv', hll, ?_⟩
  have es : stepJ r w' l = passX r w' l := by rw [stepJ, if_neg (by simp [wvE_of hr hw'])]
  rw [es]
  cases hx : passX r w' l with
  | error e =>
    rw [runX_err hx] at hrun
    have he := passX_err hx
    have hk2 : k (runA (.error e)) := kRun hk hrun
    conv => whnf
    rcases he with rfl | rfl
    · (repeat ((first | refine fork_t ?_ | refine fork_f ?_); (conv => whnf)))
      exact hk2
    · (repeat ((first | refine fork_t ?_ | refine fork_f ?_); (conv => whnf)))
      exact hk2
  | ok x =>
    obtain ⟨f1, f2, f3, _⟩ := passX_fit hr hw' hx
    have hn40 := hr.n
    rw [runX_ok hx, preX_app] at hrun
    obtain ⟨xw, xa⟩ := x
    dsimp only at f1 f2 hrun
    conv => whnf
    (repeat ((first | refine fork_t ?_ | refine fork_f ?_); (conv => whnf)))
    refine ⟨by simp, ?_⟩
    conv => whnf
    refine ⟨rfl, ?_⟩
    conv => whnf
    refine ⟨⟨rfl, rfl, rfl, hmo.symm, by rw [hmo]; simp; omega⟩, ?_⟩
    conv => whnf
    rw [hw1]
    refine ⟨(xw, o ++ [xa], j + 1), ⟨hjl, hrun, f1, by simp [hol]⟩, Shift.rename [(.l 70 9, .l 70 11)] ⟨rfl, rfl, ?_, rfl, rfl, rfl, trivial⟩ ⟨rfl, ?_, trivial⟩ rfl rfl rfl, by dsimp only; omega⟩
    · dsimp only; rw [List.length_append, ← hmo]; rfl
    · dsimp only; rw [show eV (o ++ [xa]) = eV o ++ [wvC xa] from List.map_append]; rfl
def empS (r : Rv) : List Ls × Int := if rvE r ≠ 0 then ([], rvE r) else (List.replicate r.ls.length [], 0)
def R_empS : RT := fun args k => ∃ r : Rv, args = [.agg (rvC r)] ∧ r.fin ∧ k (.tup [.c (.lst (eV (empS r).1)), I (empS r).2])
theorem kEmp {k : AV → Prop} {x y : List Ls × Int} (h : k (.tup [.c (.lst (eV x.1)), I x.2])) (e : x = y) : k (.tup [.c (.lst (eV y.1)), I y.2]) := by subst e; exact h
theorem empS_ok : FunR Try.prog 19 R_empS := by
  intro args k h
  obtain ⟨r, rfl, hf, hk⟩ := h
  have hmk := eK_len r.ls
  refine does_ex (qc := qc1) (np := []) (CK := ckK [(27, cSc R_rvE)]) mixed Try.func19 rfl rfl Try.ntmps19 Try.results19 τ_ok (by kernel_rfl) (ckK_ok ⟨cSc_ok rvE_ok', trivial⟩) (by simp) ?_
  conv => whnf
  refine ⟨r, rfl, hf, ?_⟩
  conv => whnf
  refine Fork.mk (fun h => ?_) (fun h => ?_)
  · have h1 : rvE r ≠ 0 := by simpa using h
    conv => whnf
    exact kEmp (y := ([], rvE r)) hk (by rw [empS, if_pos h1])
  have h1 : rvE r = 0 := by simpa using h
  have hr := rvE_ok h1
  have hrl := hr.len
  clear h
  conv => whnf
  refine ⟨⟨rfl, by omega, by show (((eK r.ls).length : Nat) : Int) * 24 ≤ _; omega⟩, ?_⟩
  conv => whnf
  refine ⟨by simp, ?_⟩
  conv => whnf
  have e : List.take (Int.toNat ((eK r.ls).length : Int)) (List.drop 0 (List.replicate (Int.toNat ((eK r.ls).length : Int)) (wvC []))) = eV (List.replicate r.ls.length []) := by
    rw [Int.toNat_natCast, hmk, List.drop_zero, List.take_of_length_le (by simp), show eV (List.replicate r.ls.length []) = List.replicate r.ls.length (wvC []) from List.map_replicate]
  show k (.tup [.c (.lst (List.take (Int.toNat ((eK r.ls).length : Int)) (List.drop 0 (List.replicate (Int.toNat ((eK r.ls).length : Int)) (wvC []))))), I 0])
  rw [e]
  exact kEmp (y := (List.replicate r.ls.length [], 0)) hk (by rw [empS, if_neg (by simp [h1])])
theorem rempS_ok : FunR Try.prog 25 R_empS := by
  intro args k h
  obtain ⟨r, rfl, hf, hk⟩ := h
  have hmk := eK_len r.ls
  refine does_ex (qc := qc1) (np := []) (CK := ckK [(28, cSc R_rvE)]) mixed Try.func25 rfl rfl Try.ntmps25 Try.results25 τ_ok (by kernel_rfl) (ckK_ok ⟨cSc_ok rrvE_ok, trivial⟩) (by simp) ?_
  conv => whnf
  refine ⟨r, rfl, hf, ?_⟩
  conv => whnf
  refine Fork.mk (fun h => ?_) (fun h => ?_)
  · have h1 : rvE r ≠ 0 := by simpa using h
    conv => whnf
    exact kEmp (y := ([], rvE r)) hk (by rw [empS, if_pos h1])
  have h1 : rvE r = 0 := by simpa using h
  have hr := rvE_ok h1
  have hrl := hr.len
  clear h
  conv => whnf
  refine ⟨⟨rfl, by omega, by show (((eK r.ls).length : Nat) : Int) * 24 ≤ _; omega⟩, ?_⟩
  conv => whnf
  refine ⟨by simp, ?_⟩
  conv => whnf
  have e : List.take (Int.toNat ((eK r.ls).length : Int)) (List.drop 0 (List.replicate (Int.toNat ((eK r.ls).length : Int)) (wvC []))) = eV (List.replicate r.ls.length []) := by
    rw [Int.toNat_natCast, hmk, List.drop_zero, List.take_of_length_le (by simp), show eV (List.replicate r.ls.length []) = List.replicate r.ls.length (wvC []) from List.map_replicate]
  show k (.tup [.c (.lst (List.take (Int.toNat ((eK r.ls).length : Int)) (List.drop 0 (List.replicate (Int.toNat ((eK r.ls).length : Int)) (wvC []))))), I 0])
  rw [e]
  exact kEmp (y := (List.replicate r.ls.length [], 0)) hk (by rw [empS, if_neg (by simp [h1])])
def R_sameV : RT := fun args k => ∃ a b : List Ls, args = [.c (.lst (eV a)), .c (.lst (eV b))] ∧ vfin a ∧ k (Bo (decide (a = b)))
theorem sameV_ok : FunR Try.prog 26 R_sameV := by
  intro args k h
  obtain ⟨a, b, rfl, hv, hk⟩ := h
  have hma := eV_len a
  have hmb := eV_len b
  have hv1 := hv.1
  refine does_ex (qc := qc1) (np := []) (CK := ckK [(22, cSc R_wsame)]) mixed Try.func26 rfl rfl Try.ntmps26 Try.results26 τ_ok (by kernel_rfl) (ckK_ok ⟨cSc_ok wsame_ok, trivial⟩) (by simp) ?_
  conv => whnf
  refine Fork.mk (fun h => ?_) (fun h => ?_)
  · have h1 : a.length ≠ b.length := by simp at h; omega
    conv => whnf
    exact kBo hk (by simp; exact fun e => h1 (by rw [e]))
  have h1 : a.length = b.length := by simp at h; omega
  clear h
  conv => whnf
  refine ⟨Nat, fun i => ([(0, .c (.lst (eV a))), (1, .c (.lst (eV b))), (12, I (eV a).length), (13, I i)], ⟨[], 9, []⟩),
    fun i => i ≤ a.length ∧ a.take i = b.take i, fun i => a.length - i, 0, ⟨Nat.zero_le _, rfl⟩, Shift.reset ⟨rfl, rfl, rfl, rfl, trivial⟩ trivial rfl rfl, fun i hi => ?_⟩
  obtain ⟨hi, he⟩ := hi
  dsimp only
  conv => whnf
  refine Fork.mk (fun h => ?_) (fun h => ?_)
  rotate_left
  · have hie : i = a.length := by simp at h; omega
    rw [hie, List.take_length, h1, List.take_length] at he
    conv => whnf
    exact kBo hk (by simp [he])
  have hil : i < a.length := by simp at h; omega
  clear h
  have hca := List.getElem?_eq_getElem hil
  have hpl := hv.2 _ (List.getElem_mem hil)
  generalize a[i] = p at hca hpl
  have hcb := List.getElem?_eq_getElem (show i < b.length by omega)
  generalize b[i] = q at hcb
  have hw1 := wr_succ (i := i) (by omega)
  conv => whnf
  refine ⟨by omega, wvC p, by rw [Int.toNat_natCast, List.getElem?_map, hca]; rfl, rfl, ?_⟩
  conv => whnf
  refine ⟨by omega, wvC q, by rw [Int.toNat_natCast, List.getElem?_map, hcb]; rfl, rfl, ?_⟩
  conv => whnf
  refine ⟨p, q, rfl, rfl, hpl, ?_⟩
  conv => whnf
  refine Fork.mk (fun h => ?_) (fun h => ?_)
  · have hpq : p ≠ q := by simpa using h
    conv => whnf
    exact kBo hk (by simp; exact fun e => hpq (by rw [e, hcb] at hca; cases hca; rfl))
  have hpq : p = q := by simpa using h
  clear h
  conv => whnf
  rw [hw1]
  exact ⟨i + 1, ⟨hil, by rw [take_snoc hca, take_snoc hcb, he, hpq]⟩, Shift.reset ⟨rfl, rfl, rfl, rfl, trivial⟩ trivial rfl rfl, by omega⟩
theorem sameAll_ok : FunR Try.prog 33 R_sameV := by
  intro args k h
  obtain ⟨a, b, rfl, hv, hk⟩ := h
  have hma := eV_len a
  have hmb := eV_len b
  have hv1 := hv.1
  refine does_ex (qc := qc1) (np := []) (CK := ckK [(16, cSc R_sameR)]) mixed Try.func33 rfl rfl Try.ntmps33 Try.results33 τ_ok (by kernel_rfl) (ckK_ok ⟨cSc_ok same_ok, trivial⟩) (by simp) ?_
  conv => whnf
  refine Fork.mk (fun h => ?_) (fun h => ?_)
  · have h1 : a.length ≠ b.length := by simp at h; omega
    conv => whnf
    exact kBo hk (by simp; exact fun e => h1 (by rw [e]))
  have h1 : a.length = b.length := by simp at h; omega
  clear h
  conv => whnf
  refine ⟨Nat, fun i => ([(0, .c (.lst (eV a))), (1, .c (.lst (eV b))), (12, I (eV a).length), (13, I i)], ⟨[], 9, []⟩),
    fun i => i ≤ a.length ∧ a.take i = b.take i, fun i => a.length - i, 0, ⟨Nat.zero_le _, rfl⟩, Shift.reset ⟨rfl, rfl, rfl, rfl, trivial⟩ trivial rfl rfl, fun i hi => ?_⟩
  obtain ⟨hi, he⟩ := hi
  dsimp only
  conv => whnf
  refine Fork.mk (fun h => ?_) (fun h => ?_)
  rotate_left
  · have hie : i = a.length := by simp at h; omega
    rw [hie, List.take_length, h1, List.take_length] at he
    conv => whnf
    exact kBo hk (by simp [he])
  have hil : i < a.length := by simp at h; omega
  clear h
  have hca := List.getElem?_eq_getElem hil
  have hpl := hv.2 _ (List.getElem_mem hil)
  generalize a[i] = p at hca hpl
  have hcb := List.getElem?_eq_getElem (show i < b.length by omega)
  generalize b[i] = q at hcb
  have hw1 := wr_succ (i := i) (by omega)
  conv => whnf
  refine ⟨by omega, wvC p, by rw [Int.toNat_natCast, List.getElem?_map, hca]; rfl, rfl, ?_⟩
  conv => whnf
  refine ⟨by omega, wvC q, by rw [Int.toNat_natCast, List.getElem?_map, hcb]; rfl, rfl, ?_⟩
  conv => whnf
  refine ⟨p, q, rfl, rfl, hpl, ?_⟩
  conv => whnf
  refine Fork.mk (fun h => ?_) (fun h => ?_)
  · have hpq : p ≠ q := by simpa using h
    conv => whnf
    exact kBo hk (by simp; exact fun e => hpq (by rw [e, hcb] at hca; cases hca; rfl))
  have hpq : p = q := by simpa using h
  clear h
  conv => whnf
  rw [hw1]
  exact ⟨i + 1, ⟨hil, by rw [take_snoc hca, take_snoc hcb, he, hpq]⟩, Shift.reset ⟨rfl, rfl, rfl, rfl, trivial⟩ trivial rfl rfl, by omega⟩
end Go.Proofs
