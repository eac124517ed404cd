/- Proved here: what functions of the given program come to, and the plain laws of it; no condition but those in the theorems. -/
import Derived.Test.YthkimpoeiighoaaPRiver3
namespace Go.Proofs
open Go Go.Abs
set_option linter.unusedSimpArgs false
set_option linter.unusedVariables false
set_option maxRecDepth 4000
theorem psJ_ok : FunG Try.prog 42 (R_psJ 41) := by
  intro args os k h
  obtain ⟨r, loc, w, rfl, rfl, hr, hw, hf, hv, hll, h1, h2⟩ := h
  have hml := eL_len loc
  have hmk := eK_len r.ls
  have hmw := eV_len w
  have hwl := hw.l
  have hrl := hr.len
  refine doesG_ex (qc := qc1) (np := []) (CK := ckK [(56, cG (R_vis 3 41))]) mixed Try.func42 rfl rfl Try.ntmps42 Try.results42 τ_ok (by kernel_rfl) (ckK_ok ⟨cG_ok vis_ok rfl, trivial⟩) (by simp) rfl rfl ?_
  conv => whnf
  refine Fork.mk (fun h => ?_) (fun h => ?_)
  · have e : passX r w loc = .error 3 := by rw [passX, if_pos (by simp at h; omega)]
    conv => whnf
    exact ⟨rfl, rfl, h2 3 e (by omega) w rfl⟩
  have hln : (loc.length : Int) = r.n := by simp at h; omega
  clear h
  have hn40 := hr.n
  obtain ⟨n, ls⟩ := r
  dsimp only at hln hn40 hmk hrl hwl
  subst hln
  conv => whnf
  refine ⟨⟨rfl, by show (0 : Int) ≤ (loc.length : Int); omega, by show ((loc.length : Nat) : Int) * 8 ≤ _; omega⟩, ?_⟩
  conv => whnf
  refine ⟨Ls × List Ls × Nat × Nat, fun s => ([(8, .c (.ptr (.l 8 4) 0)), (9, .c (.fn 56 [.ptr (.l 5 2) 0, .ptr (.l 8 4) 0, .ptr (.l 3 0) 0, .ptr (.l 4 1) 0])), (22, I loc.length), (23, I s.2.2.1)], ⟨[(.x 0, .arr 41 1 (eV s.2.1) false), (.l 3 0, .blk (rvC ⟨loc.length, ls⟩)), (.l 4 1, .blk [.view (.x 0) 0 w.length]), (.l 5 2, .blk [.lst (eL loc)]), (.l 19 3, .arr 3 1 (eL s.1) false), (.l 8 4, .blk [.view (.l 19 3) 0 loc.length])], 9, []⟩),
    fun s => passI ⟨loc.length, ls⟩ w loc s.1 s.2.1 s.2.2.1 s.2.2.2 ∧ s.2.2.1 ≤ loc.length ∧ vfin s.2.1, fun s => loc.length - s.2.2.1, (List.replicate loc.length 0, w, 0, 0), ⟨passI.zero hr hw rfl, Nat.zero_le _, hv⟩, Shift.reset ⟨rfl, rfl, rfl, rfl, trivial⟩ ⟨rfl, rfl, rfl, rfl, ?_, rfl, trivial⟩ rfl rfl, fun s hs => ?_⟩
  · show some (MObj.arr 3 1 (List.replicate (Int.toNat (loc.length : Int)) (eI 0)) false) = some (MObj.arr 3 1 (eL (List.replicate loc.length 0)) false)
    rw [Int.toNat_natCast, show eL (List.replicate loc.length 0) = List.replicate loc.length (eI 0) from List.map_replicate]
  obtain ⟨arr, w', k, i⟩ := s
  obtain ⟨hI, hk, hv'⟩ := hs
  dsimp only at hI hk hv' ⊢
  have hal := hI.len
  have hwl' := hI.wl
  conv => whnf
  refine Fork.mk (fun h => ?_) (fun h => ?_)
  rotate_left
  · have hke : k = loc.length := by simp at h; omega
    obtain ⟨d1, d2⟩ := hI.done hr hw (by show (arr.length : Int) = loc.length; omega) (by omega)
    have e := passX_ok (r := ⟨loc.length, ls⟩) rfl d2 d1
    conv => whnf
    have ht : List.take loc.length (List.drop 0 (eL arr)) = eL arr := by rw [List.drop_zero, List.take_of_length_le (by rw [eL_len]; omega)]
    refine ⟨by rw [eL_len]; omega, ?_⟩
    conv => whnf
    rw [ht]
    exact ⟨rfl, rfl, h1 _ e⟩
  have hkl : k < loc.length := by simp at h; omega
  clear h
  have hw1 := wr_succ (i := k) (by omega)
  conv => whnf
  refine ⟨[.l 5 2, .l 8 4, .l 3 0, .l 4 1, .l 19 3, .x 0], rfl, ?_⟩
  conv => whnf
  refine ⟨rfl, ?_⟩
  conv => whnf
  refine ⟨rfl, ?_⟩
  have ho : ∀ x y, visO 3 41 arr.length w'.length x loc arr y = visO 3 41 loc.length w.length x loc arr y := fun x y => by rw [hal, hwl']
  refine ⟨⟨loc.length, ls⟩, loc, arr, w', k, rfl, (ho _ _).symm, ⟨hr, hI.fit, hf, hv', by omega, hal.symm, by show (arr.length : Int) = loc.length; omega, hI.bound hr⟩, fun e => ?_, fun e1 e2 => ?_, fun e1 m l p e2 e3 e4 e5 => ?_⟩
  · have e := passX_bad (r := ⟨loc.length, ls⟩) (w := w) rfl (.inl (all_false hkl e))
    rw [hal, hwl']
    conv => whnf
    (repeat ((first | refine fork_t ?_ | refine fork_f ?_); (conv => whnf)))
    exact ⟨rfl, rfl, h2 1 e (by omega) w' hwl'⟩
  · have hI' := hI.nol (by omega) e1 e2
    rw [hal, hwl']
    conv => whnf
    (repeat ((first | refine fork_t ?_ | refine fork_f ?_); (conv => whnf)))
    rw [hw1]
    exact ⟨(_, w', k + 1, i), ⟨hI', hkl, hv'⟩, Shift.reset ⟨rfl, rfl, rfl, rfl, trivial⟩ ⟨rfl, rfl, rfl, rfl, rfl, rfl, trivial⟩ rfl rfl, by dsimp only; omega⟩
  · obtain ⟨q1, q2⟩ := passI.link hr hI (by show (arr.length : Int) = loc.length; omega) (by omega) e1 e4 e3 e5
    refine ⟨fun e => ?_, fun e => ?_⟩
    · have e := passX_bad (r := ⟨loc.length, ls⟩) (w := w) rfl (.inr (q1 e))
      rw [hal, hwl']
      conv => whnf
      (repeat ((first | refine fork_t ?_ | refine fork_f ?_); (conv => whnf)))
      exact ⟨rfl, rfl, h2 1 e (by omega) w' hwl'⟩
    · obtain ⟨_, hI'⟩ := q2 e
      have hv2 : vfin (w'.set m (stepF l.ws l.den p (gN arr k + gN loc k))) := by
        refine ⟨by rw [List.length_set]; exact hv'.1, fun x hx => ?_⟩
        rcases List.mem_or_eq_of_mem_set hx with hx | rfl
        · exact hv'.2 x hx
        · have := stepF_len l.ws l.den p (gN arr k + gN loc k)
          have := hf.2 l (List.mem_of_getElem? e4)
          omega
      rw [hal, hwl']
      conv => whnf
      (repeat ((first | refine fork_t ?_ | refine fork_f ?_); (conv => whnf)))
      rw [hw1]
      exact ⟨(_, _, k + 1, i + 1), ⟨hI', hkl, hv2⟩, Shift.reset ⟨rfl, rfl, rfl, rfl, trivial⟩ ⟨rfl, rfl, rfl, rfl, rfl, rfl, trivial⟩ rfl rfl, by dsimp only; omega⟩
end Go.Proofs

namespace Go.Proofs
open Go Go.Abs
set_option linter.unusedSimpArgs false
set_option linter.unusedVariables false
set_option maxRecDepth 4000
theorem take_snoc {α : Type} {l : List α} {i : Nat} {v : α} (h : l[i]? = some v) : l.take (i + 1) = l.take i ++ [v] := by
  rw [List.take_add_one, h]; rfl
theorem runJ_ok : FunR Try.prog 20 R_runJ := by
  intro args k h
  obtain ⟨r, w, ls, rfl, hf, hv, hvl, hk⟩ := h
  have hmw := eV_len w
  have hml := eV_len ls
  refine does_ex (qc := qc1) (np := []) (CK := ckK [(40, cSc R_wvE), (41, cPu R_clone), (42, cG (R_psJ 41))]) mixed Try.func20 rfl rfl Try.ntmps20 Try.results20 τ_ok (by kernel_rfl) (ckK_ok ⟨cSc_ok wvE_ok', cPu_ok clone_ok rfl, cG_ok psJ_ok rfl, trivial⟩) (by simp) ?_
  conv => whnf
  refine ⟨r, w, rfl, hf, hv, ?_⟩
  conv => whnf
  refine Fork.mk (fun h => ?_) (fun h => ?_)
  · have h1 : wvE r w ≠ 0 := by simpa using h
    conv => whnf
    exact kRun hk (by rw [runJ, if_pos h1])
  have h1 : wvE r w = 0 := by simpa using h
  obtain ⟨hr, hw⟩ := wvE_ok h1
  obtain ⟨_, hw40, hw24⟩ := hw.fin hr
  have hwl := hw.l
  clear h
  conv => whnf
  refine Fork.mk (fun h => ?_) (fun h => ?_)
  · have h2 : 4096 < ls.length := by simp at h; omega
    conv => whnf
    exact kRun hk (by rw [runJ, if_neg (by simp [h1]), if_pos h2])
  have h2 : ¬ 4096 < ls.length := by simp at h; omega
  have e0 : runJ r w ls = runX r w ls := by rw [runJ, if_neg (by simp [h1]), if_neg h2]
  rw [e0] at hk
  clear h
  conv => whnf
  refine ⟨Nat, fun i => ([(2, .c (.lst (eV ls))), (3, .c (.ptr (.l 3 0) 0)), (10, .c (.view (.l 39 1) 0 i)), (27, .c (.lst (eV w))), (28, I (eV w).length), (29, I i)], ⟨[(.l 3 0, .blk (rvC r)), (.l 39 1, .arr 41 1 (eV (w.take i)) false)], 2, []⟩),
    fun i => i ≤ w.length, fun i => w.length - i, 0, Nat.zero_le _, Shift.trans (Shift.rename [] ⟨rfl, rfl, rfl, rfl, rfl, rfl, trivial⟩ ⟨rfl, rfl, trivial⟩ rfl rfl rfl) (Shift.nilArr (t := 10) rfl 39 41 1), fun i hi => ?_⟩
  dsimp only
  conv => whnf
  refine Fork.mk (fun h => ?_) (fun h => ?_)
  · have hil : i < w.length := by simp at h; omega
    clear h
    have hci := List.getElem?_eq_getElem hil
    have hp24 := hw24 _ (List.getElem_mem hil)
    generalize w[i] = p at hci hp24
    have hw1 := wr_succ (i := i) (by omega)
    have hti : (eV (w.take i)).length = i := by rw [eV_len, List.length_take]; omega
    conv => whnf
    refine ⟨by omega, wvC p, by rw [Int.toNat_natCast, List.getElem?_map, hci]; rfl, rfl, ?_⟩
    conv => whnf
    refine ⟨p, rfl, by omega, ?_⟩
    conv => whnf
    refine ⟨by simp, ?_⟩
    conv => whnf
    refine ⟨rfl, ?_⟩
    conv => whnf
    refine ⟨⟨rfl, rfl, rfl, hti.symm, by rw [hti]; simp; omega⟩, ?_⟩
    conv => whnf
    rw [hw1]
    refine ⟨i + 1, hil, Shift.rename [(.l 39 1, .l 39 4)] ⟨rfl, rfl, ?_, rfl, rfl, rfl, trivial⟩ ⟨rfl, ?_, trivial⟩ rfl rfl rfl, by omega⟩
    · dsimp only; rw [hti]; rfl
    · dsimp only; rw [take_snoc hci, show eV (w.take i ++ [p]) = eV (w.take i) ++ [wvC p] from List.map_append]; rfl
  have hie : i = w.length := by simp at h; omega
  subst hie
  clear h
  conv => whnf
  refine ⟨List Ls × List Ls × Nat, fun s => ([(3, .c (.ptr (.l 3 0) 0)), (10, .c (.view (.l 39 1) 0 w.length)), (13, .c (.view (.l 60 2) 0 s.2.1.length)), (41, .c (.lst (eV ls))), (42, I (eV ls).length), (43, I s.2.2)], ⟨[(.l 3 0, .blk (rvC r)), (.l 39 1, .arr 41 1 (eV s.1) false), (.l 60 2, .arr 22 1 (eV s.2.1) false)], 3, []⟩),
    fun s => s.2.2 ≤ ls.length ∧ runX r w ls = preX s.2.1 (runX r s.1 (ls.drop s.2.2)) ∧ WvOk r s.1 ∧ s.2.1.length = s.2.2, fun s => ls.length - s.2.2, (w, [], 0), ⟨Nat.zero_le _, by rw [preX_nil]; rfl, hw, rfl⟩, Shift.trans (Shift.rename [] ⟨rfl, rfl, rfl, rfl, rfl, rfl, trivial⟩ ⟨rfl, ?_, rfl, trivial⟩ rfl rfl rfl) (Shift.nilArr (t := 13) rfl 60 22 1), fun s hs => ?_⟩
  · dsimp only; rw [List.take_length]; rfl
  obtain ⟨w', o, j⟩ := s
  obtain ⟨hj, hrun, hw', hol⟩ := hs
  dsimp only at hj hrun hw' hol ⊢
  obtain ⟨hv', _, _⟩ := hw'.fin hr
  have hwl' := hw'.l
  have hmo := eV_len o
  conv => whnf
  refine Fork.mk (fun h => ?_) (fun h => ?_)
  rotate_left
  · have hje : j = ls.length := by simp at h; omega
    rw [hje, List.drop_length] at hrun
    conv => whnf
    refine ⟨by rw [eV_len]; omega, ?_⟩
    conv => whnf
    refine ⟨by rw [eV_len]; omega, ?_⟩
    conv => whnf
    have t1 : List.take w.length (List.drop 0 (eV w')) = eV w' := by rw [List.drop_zero, List.take_of_length_le (by rw [eV_len]; omega)]
    have t2 : List.take o.length (List.drop 0 (eV o)) = eV o := by rw [List.drop_zero, List.take_of_length_le (by rw [eV_len]; omega)]
    show k (.tup [.c (.lst (List.take w.length (List.drop 0 (eV w')))), .c (.lst (List.take o.length (List.drop 0 (eV o)))), I 0])
    rw [t1, t2]
    exact kRun (y := .ok (w', o)) hk (by rw [hrun]; simp [preX, runX])
  have hjl : j < ls.length := by simp at h; omega
  clear h
  have hcj := List.getElem?_eq_getElem hjl
  have hll := hvl.2 _ (List.getElem_mem hjl)
  generalize ls[j] = l at hcj hll
  rw [dropC hcj] at hrun
  have hw1 := wr_succ (i := j) (by omega)
  conv => whnf
  refine ⟨by omega, wvC l, by rw [Int.toNat_natCast, List.getElem?_map, hcj]; rfl, rfl, ?_⟩
  conv => whnf
  refine ⟨[.l 39 1], rfl, ?_⟩
  conv => whnf
  refine ⟨rfl, ?_⟩
  conv => whnf
  refine ⟨rfl, ?_⟩
  conv => whnf
  refine ⟨r, l, w', ?_, rfl, hr, hw', hf, hv', hll, fun x hx => ?_, fun e hx he w2 hw2 => ?_⟩
  · rw [show w'.length = w.length by omega]; rfl
  · obtain ⟨f1, f2, f3, _⟩ := passX_fit hr hw' hx
    have hn40 := hr.n
    rw [runX_ok hx, preX_app] at hrun
    obtain ⟨xw, xa⟩ := x
    dsimp only at f1 f2 hrun
    conv => whnf
    (repeat ((first | refine fork_t ?_ | refine fork_f ?_); (conv => whnf)))
    refine ⟨by simp, ?_⟩
    conv => whnf
    refine ⟨rfl, ?_⟩
    conv => whnf
    refine ⟨⟨rfl, rfl, rfl, hmo.symm, by rw [hmo]; simp; omega⟩, ?_⟩
    conv => whnf
    rw [hw1]
    refine ⟨(xw, o ++ [xa], j + 1), ⟨hjl, hrun, f1, by simp [hol]⟩, Shift.rename [(.l 60 2, .l 60 4)] ⟨rfl, rfl, ?_, rfl, rfl, rfl, trivial⟩ ⟨rfl, rfl, ?_, trivial⟩ rfl rfl rfl, by dsimp only; omega⟩
    · dsimp only; rw [List.length_append, ← hmo]; rfl
    · dsimp only; rw [show eV (o ++ [xa]) = eV o ++ [wvC xa] from List.map_append]; rfl
  · rw [runX_err hx] at hrun
    have he := passX_err hx
    have hk2 : k (runA (.error e)) := kRun hk hrun
    conv => whnf
    rcases he with rfl | rfl
    · (repeat ((first | refine fork_t ?_ | refine fork_f ?_); (conv => whnf)))
      exact hk2
    · (repeat ((first | refine fork_t ?_ | refine fork_f ?_); (conv => whnf)))
      exact hk2
end Go.Proofs

namespace Go.Proofs
open Go Go.Abs
set_option linter.unusedSimpArgs false
set_option linter.unusedVariables false
set_option maxRecDepth 4000
theorem stpJ_ok : FunR Try.prog 13 R_stpJ := by
  intro args k h
  obtain ⟨r, w, l, rfl, hf, hv, hl, hk⟩ := h
  refine does_ex (qc := qc1) (np := []) (CK := ckK [(20, cPu R_runJ)]) mixed Try.func13 rfl rfl Try.ntmps13 Try.results13 τ_ok (by kernel_rfl) (ckK_ok ⟨cPu_ok runJ_ok rfl, trivial⟩) (by simp) ?_
  conv => whnf
  refine ⟨by simp, ?_⟩
  conv => whnf
  refine ⟨r, w, [l], rfl, hf, hv, ⟨by simp, fun p hp => by simp at hp; subst hp; exact hl⟩, ?_⟩
  rw [runJ_one]
  cases hs : stepJ r w l with
  | error e =>
    have he := stepJ_err hs
    conv => whnf
    refine Fork.mk (fun h => ?_) (fun h => ?_)
    · conv => whnf
      exact kStp hk hs
    · exfalso; simp at h; omega
  | ok x =>
    conv => whnf
    (repeat ((first | refine fork_t ?_ | refine fork_f ?_); (conv => whnf)))
    refine ⟨by simp, wvC x.2, rfl, rfl, ?_⟩
    conv => whnf
    exact kStp hk hs
theorem rstpJ_ok : FunR Try.prog 29 R_stpJ := by
  intro args k h
  obtain ⟨r, w, loc, rfl, hf, hv, hl, hk⟩ := h
  have hmw := eV_len w
  have hml := eL_len loc
  refine does_ex (qc := qc1) (np := [(19, [(1, 19), (3, 19), (5, 19), (8, 19), (9, 19), (12, 19), (13, 19), (14, 19)])]) (CK := ckK [(28, cSc R_rvE), (47, cSc R_wvB), (39, cSc R_within), (48, cSc R_lnk), (49, cPu R_stepA)]) mixed Try.func29 rfl rfl Try.ntmps29 Try.results29 τ_ok (by kernel_rfl) (ckK_ok ⟨cSc_ok rrvE_ok, cSc_ok wvB_ok, cSc_ok rIn_ok, cSc_ok leav_ok, cPu_ok rstepA_ok rfl, trivial⟩) (by simp) ?_
  conv => whnf
  refine ⟨r, rfl, hf, ?_⟩
  conv => whnf
  refine Fork.mk (fun h => ?_) (fun h => ?_)
  · have h1 : rvE r ≠ 0 := by simpa using h
    conv => whnf
    exact kStp hk (by rw [stepJ, wvE, if_pos h1, if_pos h1])
  have h1 : rvE r = 0 := by simpa using h
  have hr := rvE_ok h1
  clear h
  conv => whnf
  refine ⟨r, w, rfl, hf, hv, ?_⟩
  conv => whnf
  have bad : ∀ e, stepJ r w loc = .error e → k (.tup [.c (.lst []), .c (.lst []), I e]) := fun e h => kStp (y := .error e) hk h
  refine Fork.mk (fun h => ?_) (fun h => ?_)
  · have hb : (decide (w.length = r.ls.length) && wvOk r.ls w) = false := by simpa only [Bool.not_eq_true'] using h
    have e : wvE r w = 3 := by
      rw [wvE, if_neg (by simp [h1])]
      by_cases hx : w.length = r.ls.length
      · simp [hx] at hb
        rw [if_neg (by omega), if_pos hb]
      · rw [if_pos hx]
    conv => whnf
    (repeat ((first | refine fork_t ?_ | refine fork_f ?_); (conv => whnf)))
    exact bad 3 (by rw [stepJ, if_pos (by omega), e])
  have hb : (decide (w.length = r.ls.length) && wvOk r.ls w) = true := by simpa only [Bool.not_eq_false'] using h
  simp only [Bool.and_eq_true, decide_eq_true_eq] at hb
  have h2 : wvE r w = 0 := by rw [wvE, if_neg (by simp [h1]), if_neg (by simp [hb.1]), if_neg (by simp [hb.2])]
  obtain ⟨_, hw⟩ := wvE_ok h2
  have hwl := hw.l
  have e0 : stepJ r w loc = passX r w loc := by rw [stepJ, if_neg (by simp [h2])]
  rw [e0] at bad hk
  clear h hb
  conv => whnf
  refine Fork.mk (fun h => ?_) (fun h => ?_)
  · conv => whnf
    exact bad 3 (by rw [passX, if_pos (by simp at h; omega)])
  have hln : (loc.length : Int) = r.n := by simp at h; omega
  clear h
  have hn40 := hr.n
  have hrl := hr.len
  conv => whnf
  refine ⟨Nat, fun i => ([(1, .c (.lst (eV w))), (2, .c (.lst (eL loc))), (3, .c (.ptr (.l 3 0) 0)), (35, .c (.lst (eL loc))), (36, I (eL loc).length), (37, I i)], ⟨[(.l 3 0, .blk (rvC r))], 1, []⟩),
    fun i => i ≤ loc.length ∧ (loc.take i).all inQ = true, fun i => loc.length - i, 0, ⟨Nat.zero_le _, rfl⟩, Shift.rename [] ⟨rfl, rfl, rfl, rfl, rfl, rfl, trivial⟩ ⟨rfl, trivial⟩ rfl rfl rfl, fun i hi => ?_⟩
  obtain ⟨hi, hia⟩ := hi
  dsimp only
  conv => whnf
  refine Fork.mk (fun h => ?_) (fun h => ?_)
  · have hil : i < loc.length := by simp at h; omega
    clear h
    have hci := List.getElem?_eq_getElem hil
    generalize loc[i] = q at hci
    have hw1 := wr_succ (i := i) (by omega)
    conv => whnf
    refine ⟨by omega, eI q, by rw [Int.toNat_natCast, List.getElem?_map, hci]; rfl, rfl, ?_⟩
    conv => whnf
    refine Fork.mk (fun h => ?_) (fun h => ?_)
    · have hq : inQ q = false := by unfold inQ; simpa only [Bool.not_eq_true'] using h
      conv => whnf
      exact bad 1 (passX_bad hln (.inl (all_false hil (by rw [gN_at hci]; exact hq))))
    have hq : inQ q = true := by unfold inQ; simpa only [Bool.not_eq_false'] using h
    conv => whnf
    rw [hw1]
    exact ⟨i + 1, ⟨hil, by rw [take_snoc hci, List.all_append, hia]; simp [hq]⟩, Shift.rename [] ⟨rfl, rfl, rfl, rfl, rfl, rfl, trivial⟩ ⟨rfl, trivial⟩ rfl rfl rfl, by omega⟩
  have hie : i = loc.length := by simp at h; omega
  rw [hie, List.take_length] at hia
  clear h
  conv => whnf
  refine ⟨eL_all _, ?_⟩
  conv => whnf
  refine ⟨by show (eL loc).length * 8 ≤ _; omega, ?_⟩
  conv => whnf
  refine ⟨⟨rfl, by omega, by show (((eV w).length : Nat) : Int) * 24 ≤ _; omega⟩, ?_⟩
  conv => whnf
  refine ⟨Ls × List Ls × Nat × Nat, fun s => ([(1, .c (.lst (eV w))), (3, .c (.ptr (.l 3 0) 0)), (12, .c (.view (.l 46 1) 0 loc.length)), (13, .c (.view (.l 49 2) 0 w.length)), (51, I r.n), (52, I s.2.2.1)], ⟨[(.l 3 0, .blk (rvC r)), (.l 46 1, .arr 3 1 (eL s.1) false), (.l 49 2, .arr 41 1 (eV (s.2.1 ++ List.replicate (w.length - s.2.2.2) [])) false)], 9, []⟩),
    fun s => refI r w loc s.1 s.2.1 s.2.2.1 s.2.2.2 ∧ s.2.2.1 ≤ loc.length, fun s => loc.length - s.2.2.1, (loc, [], 0, 0), ⟨refI.zero hr hia, Nat.zero_le _⟩, Shift.reset ⟨rfl, rfl, ?_, ?_, rfl, rfl, trivial⟩ ⟨rfl, rfl, ?_, trivial⟩ rfl rfl, fun s hs => ?_⟩
  · show some (AV.c (.view (.l 46 1) 0 (eL loc).length)) = _
    rw [hml]
  · show some (AV.c (.view (.l 49 2) 0 (Int.toNat ((eV w).length : Int)))) = _
    rw [Int.toNat_natCast, hmw]
  · show some (MObj.arr 41 1 (List.replicate (Int.toNat ((eV w).length : Int)) (wvC [])) false) = some (MObj.arr 41 1 (eV (List.replicate w.length [])) false)
    rw [Int.toNat_natCast, hmw, show eV (List.replicate w.length []) = List.replicate w.length (wvC []) from List.map_replicate]
  obtain ⟨a, d, k', i⟩ := s
  obtain ⟨hI, hkk⟩ := hs
  dsimp only at hI hkk ⊢
  have hal := hI.len
  have hdl := hI.dl
  have hin := hI.cut.n
  conv => whnf
  refine Fork.mk (fun h => ?_) (fun h => ?_)
  rotate_left
  · have hke : loc.length ≤ k' := by simp at h; omega
    obtain ⟨d1, d2⟩ := hI.done hr (by omega) (by omega)
    have e := passX_ok hln hia d1
    have d3 := d2
    rw [hdl] at d3
    conv => whnf
    refine ⟨by rw [eV_len, List.length_append, List.length_replicate]; omega, ?_⟩
    conv => whnf
    refine ⟨by rw [eL_len]; omega, ?_⟩
    conv => whnf
    have t1 : List.take w.length (List.drop 0 (eV (d ++ List.replicate (w.length - i) []))) = eV d := by rw [List.drop_zero, show w.length - i = 0 by omega, List.replicate_zero, List.append_nil, List.take_of_length_le (by rw [eV_len]; omega)]
    have t2 : List.take loc.length (List.drop 0 (eL a)) = eL a := by rw [List.drop_zero, List.take_of_length_le (by rw [eL_len]; omega)]
    show k (.tup [.c (.lst (List.take w.length (List.drop 0 (eV (d ++ List.replicate (w.length - i) []))))), .c (.lst (List.take loc.length (List.drop 0 (eL a)))), I 0])
    rw [t1, t2]
    exact kStp (y := .ok (d, a)) hk e
  have hkl : k' < loc.length := by simp at h; omega
  clear h
  have hw1 := wr_succ (i := k') (by omega)
  conv => whnf
  refine ⟨r, k', rfl, by omega, ?_⟩
  rcases lnk_spec r.ls k' with ⟨e0, _⟩ | ⟨m, l, hlm, hlf, e0⟩
  · rw [e0]
    conv => whnf
    (repeat ((first | refine fork_t ?_ | refine fork_f ?_); (conv => whnf)))
    rw [hw1]
    exact ⟨(a, d, k' + 1, i), ⟨hI.nol e0, hkl⟩, Shift.reset ⟨rfl, rfl, rfl, rfl, rfl, rfl, trivial⟩ ⟨rfl, rfl, rfl, trivial⟩ rfl rfl, by dsimp only; omega⟩
  rw [e0]
  conv => whnf
  refine Fork.mk (fun h => ?_) (fun h => ?_)
  · exfalso; simp at h; omega
  clear h
  have hml2 := (List.getElem?_eq_some_iff.1 hlm).1
  have hcw := List.getElem?_eq_getElem (show m < w.length by omega)
  have hpw := hv.2 _ (List.getElem_mem (show m < w.length by omega))
  generalize w[m] = p at hcw hpw
  have hlw := hf.2 l (List.mem_of_getElem? hlm)
  have hlo := hr.l l (List.mem_of_getElem? hlm)
  have hfit := hw.f m l p hlm hcw
  obtain ⟨hmi, q1, q2⟩ := hI.link hr hw (by omega) (by omega) hlm hlf hcw
  subst hmi
  have hgk := gN_get (a := a) (j := k') (by omega)
  have hqb := hI.bound hr k' (by omega)
  conv => whnf
  refine ⟨by omega, lkC l, by rw [Int.toNat_natCast, List.getElem?_map, hlm]; rfl, rfl, ?_⟩
  conv => whnf
  refine ⟨by omega, wvC p, by rw [Int.toNat_natCast, List.getElem?_map, hcw]; rfl, rfl, ?_⟩
  conv => whnf
  refine ⟨by omega, rfl, ?_⟩
  conv => whnf
  refine ⟨eI (gN a k'), by rw [Int.toNat_natCast, Nat.zero_add, List.getElem?_map, hgk]; rfl, ?_⟩
  conv => whnf
  refine ⟨l.ws, p, rfl, rfl, hlw, hpw, ?_⟩
  rw [step_eq hlo.r hfit]
  by_cases hst : stG l p (gN a k') = true
  rotate_left
  · have hst : stG l p (gN a k') = false := by simpa using hst
    rw [if_neg (show ¬ (inQ (gN a k') && stepB l.ws p (gN a k')) = true by rw [show (inQ (gN a k') && stepB l.ws p (gN a k')) = false from hst]; simp)]
    conv => whnf
    (repeat ((first | refine fork_t ?_ | refine fork_f ?_); (conv => whnf)))
    exact bad 1 (passX_bad hln (.inr (q1 hst)))
  rw [if_pos (show (inQ (gN a k') && stepB l.ws p (gN a k')) = true from hst)]
  have hout := out_in hlo.r hfit hst
  obtain ⟨hto, hI'⟩ := q2 hst
  generalize outF l.ws l.den p (gN a k') = o at hout hI' ⊢
  generalize stepF l.ws l.den p (gN a k') = p' at hI' ⊢
  dsimp only
  conv => whnf
  (repeat ((first | refine fork_t ?_ | refine fork_f ?_); (conv => whnf)))
  have hrep : d ++ List.replicate (w.length - m) [] = d ++ ([] :: List.replicate (w.length - (m + 1)) []) := by rw [show w.length - m = (w.length - (m + 1)) + 1 by omega]; rfl
  have hgm : (eV (d ++ List.replicate (w.length - m) []))[0 + (m : Int).toNat]? = some (wvC []) := by
    rw [Nat.zero_add, Int.toNat_natCast, List.getElem?_map, hrep, List.getElem?_append_right (by omega), show m - d.length = 0 by omega]; rfl
  have hsm : (eV (d ++ List.replicate (w.length - m) [])).set (0 + (m : Int).toNat) [Cell.lst (eL p')] = eV (d ++ [p'] ++ List.replicate (w.length - (m + 1)) []) := by
    rw [Nat.zero_add, Int.toNat_natCast, show [Cell.lst (eL p')] = wvC p' from rfl, ← List.map_set, hrep, List.set_append_right _ _ (by omega), show m - d.length = 0 by omega, List.append_assoc]; rfl
  refine ⟨by omega, rfl, ?_⟩
  conv => whnf
  refine ⟨wvC [], hgm, by show 0 + 1 ≤ 1; omega, ?_⟩
  conv => whnf
  refine ⟨by omega, lkC l, by rw [Int.toNat_natCast, List.getElem?_map, hlm]; rfl, rfl, ?_⟩
  conv => whnf
  refine ⟨by omega, rfl, ?_⟩
  conv => whnf
  obtain ⟨tn, htn⟩ : ∃ tn : Nat, l.to = tn := ⟨l.to.toNat, by omega⟩
  rw [htn, Int.toNat_natCast] at hI'
  rw [htn, Int.toNat_natCast] at hto
  rw [htn]
  have hta := gN_get (a := a) (j := tn) (by omega)
  have hbt := hI.bound hr tn (by omega)
  have e2 : IntKind.i64.wrap (gN a tn + o) = gN a tn + o := wrap_in (by omega) (by omega)
  have hset : (eL a).set (0 + (tn : Int).toNat) [nrm (Value.int IntKind.i64 (gN a tn + o))] = eL (a.set tn (gN a tn + o)) := by
    rw [Nat.zero_add, Int.toNat_natCast, show [nrm (Value.int IntKind.i64 (gN a tn + o))] = eI (gN a tn + o) from rfl, eL_set]
  refine ⟨eI (gN a tn), by rw [Int.toNat_natCast, Nat.zero_add, List.getElem?_map, hta]; rfl, ?_⟩
  conv => whnf
  rw [e2]
  refine ⟨by omega, rfl, ?_⟩
  conv => whnf
  refine ⟨eI (gN a tn), by rw [Int.toNat_natCast, Nat.zero_add, List.getElem?_map, hta]; rfl, by show 0 + 1 ≤ 1; omega, ?_⟩
  conv => whnf
  rw [hw1]
  refine ⟨(_, _, k' + 1, m + 1), ⟨hI', hkl⟩, Shift.reset ⟨rfl, rfl, rfl, rfl, rfl, rfl, trivial⟩ ⟨rfl, ?_, ?_, trivial⟩ rfl rfl, by dsimp only; omega⟩
  · dsimp only; rw [← hset]; rfl
  · dsimp only; rw [← hsm]; rfl
end Go.Proofs
