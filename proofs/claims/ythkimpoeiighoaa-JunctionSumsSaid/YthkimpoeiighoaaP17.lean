/- Proved here: what functions of the given program come to, for the statements of this chapter; no condition but those in the theorems. -/
import Derived.Test.YthkimpoeiighoaaM17
import Derived.Test.YthkimpoeiighoaaL17
import Derived.Test.YthkimpoeiighoaaPRiver5
namespace Go.Proofs
open Go Go.Abs
set_option linter.unusedSimpArgs false
set_option linter.unusedVariables false
set_option maxRecDepth 4000
theorem purCellV {b : St} {i : Abs.Id} {cs : List Cell} {j : Nat} {o : Abs.Id} {n e sz : Nat} {es : List (List Cell)} {f : Bool} (hm : mget b.m.o i = some (.blk cs)) (hc : cs[j]? = some (.view o 0 n)) (ho : mget b.m.o o = some (.arr e sz es f)) (hn : n = es.length) :
    Shift ⟨b.t, { b.m with o := mset (mset b.m.o o (.arr e sz es true)) i (.blk (cs.set j (.lst es))) }⟩ b := Shift.purCell (c' := .lst es) (m' := { b.m with o := mset b.m.o o (.arr e sz es true) }) hm hc (by simp [pur, ho, hn])
structure sumLs (N : Int) (ls : List Lk) : Prop where
  l : ∀ l ∈ ls, LkOk N l ∧ unitL l
  f : ∀ (j : Nat) l, ls[j]? = some l → l.fr = (j : Int)
theorem sumLs.snoc {N : Int} {ls : List Lk} {x : Lk} (h : sumLs N ls) (h1 : LkOk N x) (h2 : unitL x) (h3 : x.fr = ls.length) : sumLs N (ls ++ [x]) := by
  refine ⟨fun y hy => ?_, fun j y hy => ?_⟩
  · rcases List.mem_append.1 hy with hy | hy
    · exact h.l y hy
    · simp at hy; subst hy; exact ⟨h1, h2⟩
  · rcases Nat.lt_or_ge j ls.length with e | e
    · rw [List.getElem?_append_left e] at hy
      exact h.f j y hy
    · rw [List.getElem?_append_right e] at hy
      rcases Nat.eq_zero_or_pos (j - ls.length) with e2 | e2
      · rw [e2] at hy
        simp at hy
        subst hy
        omega
      · rw [List.getElem?_eq_none (by simp; omega)] at hy
        cases hy
theorem who_zero : ∀ (ls : List Lk), whoL ls (List.replicate ls.length []) = List.replicate ls.length 0
  | [] => rfl
  | l :: ls => by
    rw [List.length_cons, List.replicate_succ, List.replicate_succ, whoL, who_zero ls]
    simp
theorem sums17_ok : FunR Try.prog 6 R_l17 := by
  intro args k h
  obtain ⟨l, rfl, hl, hk⟩ := h
  refine does_ex (qc := qc1) (np := [(7, [(1, 11), (1, 14), (1, 18), (7, 14), (11, 14)])]) (CK := ckK [(9, cN R_new), (23, cB R_next), (19, cPu R_empS), (12, cB R_flows), (20, cPu R_runJ), (31, cPu R_whoS), (17, cSc R_tt)]) mixed Try.func6 rfl rfl Try.ntmps6 Try.results6 τ_ok (by kernel_rfl) (ckK_ok ⟨cN_ok new_ok rfl, cB_ok next_ok rfl, cPu_ok empS_ok rfl, cB_ok flows_ok rfl, cPu_ok runJ_ok rfl, cPu_ok whoS_ok rfl, cSc_ok awake_ok, trivial⟩) (by simp) ?_
  conv => whnf
  refine ⟨l, rfl, ?_⟩
  conv => whnf
  refine ⟨⟨l, 0⟩, rfl, ⟨Nat.zero_le _, hl⟩, by omega, fun v d hd hv1 hv2 => ?_⟩
  have e1 : IntKind.i64.wrap (1 + v) = 1 + v := wrap_in (by omega) (by omega)
  conv => whnf
  rw [e1]
  have hN : 1 ≤ 1 + v ∧ 1 + v ≤ 7 := by omega
  generalize 1 + v = N at hN
  clear hv1 hv2 e1
  refine ⟨List Lk × Dk, fun s => ([(3, .c (.ptr (.l 22 0) 0)), (4, .c (.ptr (.l 4 1) 0)), (5, I s.1.length)], ⟨[(.l 22 0, .blk (dkC s.2)), (.l 4 1, .blk [IC N, .view (.l 56 2) 0 s.1.length]), (.l 56 2, .arr 38 4 (eK s.1) false)], 3, []⟩),
    fun s => s.2.ok ∧ sumLs N s.1 ∧ (s.1.length : Int) + 1 ≤ N, fun s => (N - s.1.length).toNat, ([], d), ⟨hd, ⟨fun l h => by simp at h, fun j l h => by simp at h⟩, by dsimp only; simp; omega⟩,
    Shift.trans (Shift.rename [] ⟨rfl, rfl, rfl, trivial⟩ ⟨rfl, rfl, rfl, trivial⟩ rfl rfl rfl) (Shift.nilCell (i := .l 4 1) (cs := [IC N, .sc (.slice none 0 0)]) (j := 1) rfl rfl 56 38 4), fun s hs => ?_⟩
  obtain ⟨ls, d⟩ := s
  obtain ⟨hd, hls, hln⟩ := hs
  dsimp only at hd hls hln ⊢
  have hm := eK_len ls
  have hw1 := wr_succ (i := ls.length) (by omega)
  conv => whnf
  rw [hw1]
  refine Fork.mk (fun h => ?_) (fun h => ?_)
  · have hnN : (ls.length : Int) + 1 < N := by simp at h; omega
    clear h
    conv => whnf
    refine ⟨d, rfl, hd, by omega, fun u d hd hu1 hu2 => ?_⟩
    have e1 : IntKind.i64.wrap (1 + u) = 1 + u := wrap_in (by omega) (by omega)
    have e2 : IntKind.i64.wrap (N - ls.length) = N - ls.length := wrap_in (by omega) (by omega)
    have e3 : IntKind.i64.wrap (N - ls.length - 1) = N - ls.length - 1 := wrap_in (by omega) (by omega)
    conv => whnf
    rw [e1, e2, e3]
    refine ⟨d, rfl, hd, by omega, fun x d hd hx1 hx2 => ?_⟩
    have e4 : IntKind.i64.wrap (((ls.length + 1 : Nat) : Int) + x) = ((ls.length + 1 : Nat) : Int) + x := wrap_in (by omega) (by omega)
    have hu : 1 ≤ 1 + u ∧ 1 + u ≤ 3 := by omega
    generalize 1 + u = c at hu
    conv => whnf
    rw [hw1, e4]
    refine ⟨by first | exact Nat.le_refl _ | (simp; done), ?_⟩
    conv => whnf
    refine ⟨by first | exact Nat.le_refl _ | (simp; done), ?_⟩
    conv => whnf
    refine ⟨rfl, ?_⟩
    conv => whnf
    refine ⟨⟨rfl, rfl, rfl, hm.symm, by rw [hm]; simp; omega⟩, ?_⟩
    conv => whnf
    rw [hw1]
    refine ⟨(ls ++ [⟨ls.length, ((ls.length + 1 : Nat) : Int) + x, [c], c⟩], d), ⟨hd, hls.snoc ⟨by dsimp only; omega, by dsimp only; omega, by dsimp only; omega, unit_rk (l := ⟨ls.length, ((ls.length + 1 : Nat) : Int) + x, [c], c⟩) ⟨rfl, hu⟩⟩ ⟨rfl, hu⟩ rfl, by dsimp only; simp; omega⟩, Shift.rename [(.l 56 2, .l 56 3)] ⟨rfl, rfl, ?_, trivial⟩ ⟨rfl, ?_, ?_, trivial⟩ rfl rfl rfl, by dsimp only; simp; omega⟩
    · dsimp only; rw [List.length_append]; rfl
    · dsimp only; rw [List.length_append, ← hm]; rfl
    · dsimp only; rw [show eK (ls ++ [⟨ls.length, ((ls.length + 1 : Nat) : Int) + x, [c], c⟩]) = eK ls ++ [lkC ⟨ls.length, ((ls.length + 1 : Nat) : Int) + x, [c], c⟩] from List.map_append]; rfl
  have hlen : (ls.length : Int) + 1 = N := by simp at h; omega
  clear h
  have hr : sumR ⟨N, ls⟩ := ⟨hN, hls.l, hls.f, hlen⟩
  have hok := hr.ok
  have hfin := hok.fin
  have hemp : empS ⟨N, ls⟩ = (List.replicate ls.length [], 0) := by rw [empS, if_neg (by simp [rvE_of hok])]
  have hta : List.take ls.length (List.drop 0 (eK ls)) = eK ls := by rw [List.drop_zero, List.take_of_length_le (by rw [hm]; exact Nat.le_refl _)]
  conv => whnf
  refine ⟨by rw [hm]; omega, ?_⟩
  conv => whnf
  rw [hta]
  refine ⟨⟨N, ls⟩, rfl, hfin, ?_⟩
  rw [hemp]
  conv => whnf
  refine ⟨List Ls × Dk × Nat, fun s => ([(3, .c (.ptr (.l 22 0) 0)), (4, .c (.ptr (.l 4 1) 0)), (7, .c (.lst (eV (List.replicate ls.length [])))), (8, I 0), (9, .c (.view (.l 71 3) 0 s.2.2)), (63, I s.2.2)], ⟨[(.l 22 0, .blk (dkC s.2.1)), (.l 4 1, .blk (rvC ⟨N, ls⟩)), (.l 71 3, .arr 22 1 (eV s.1) false)], 4, []⟩),
    fun s => s.2.1.ok ∧ s.1.length = s.2.2 ∧ s.2.2 ≤ 4 ∧ ∀ o ∈ s.1, (o.length : Int) = N ∧ ∀ q ∈ o, 0 ≤ q ∧ q ≤ 50, fun s => 4 - s.2.2, ([], d, 0), ⟨hd, rfl, by dsimp only; omega, fun o h => by simp at h⟩,
    Shift.trans (Shift.rename [] ⟨rfl, rfl, rfl, rfl, rfl, rfl, trivial⟩ ⟨rfl, rfl, rfl, trivial⟩ rfl rfl rfl) (Shift.trans (purCellV (i := .l 4 1) (cs := [IC N, .view (.l 56 2) 0 ls.length]) (j := 1) (o := .l 56 2) (es := eK ls) rfl rfl rfl hm.symm) (Shift.nilArr (t := 9) rfl 71 22 1)), fun s hs => ?_⟩
  obtain ⟨os, d, i⟩ := s
  obtain ⟨hd, hol, hi4, hos⟩ := hs
  dsimp only at hd hol hi4 hos ⊢
  have hmo := eV_len os
  conv => whnf
  refine Fork.mk (fun h => ?_) (fun h => ?_)
  · have hi : i < 4 := by simp at h; omega
    clear h
    have hw1 := wr_succ (i := i) (by omega)
    conv => whnf
    refine ⟨d, N.toNat, rfl, hd, by show N = (N.toNat : Int); omega, by omega, by omega, fun q d hd hq1 hq2 => ?_⟩
    conv => whnf
    refine ⟨by first | exact Nat.le_refl _ | (simp; done), ?_⟩
    conv => whnf
    refine ⟨rfl, ?_⟩
    conv => whnf
    refine ⟨⟨rfl, rfl, rfl, by omega, by rw [hmo]; simp; omega⟩, ?_⟩
    conv => whnf
    rw [hw1]
    refine ⟨(os ++ [q], d, i + 1), ⟨hd, by dsimp only; simp; omega, hi, fun o ho => ?_⟩, Shift.rename [(.l 71 3, .l 71 5)] ⟨rfl, rfl, rfl, rfl, ?_, rfl, trivial⟩ ⟨rfl, rfl, ?_, trivial⟩ rfl rfl rfl, by dsimp only; omega⟩
    · rcases List.mem_append.1 ho with ho | ho
      · exact hos o ho
      · simp at ho; subst ho; exact ⟨by omega, fun x hx => by have := hq2 x hx; omega⟩
    · dsimp only; rw [← hol, ← hmo]; rfl
    · dsimp only; rw [show eV (os ++ [q]) = eV os ++ [wvC q] from List.map_append]; rfl
  have hi : i = 4 := by simp at h; omega
  subst hi
  clear h
  have hto : List.take 4 (List.drop 0 (eV os)) = eV os := by rw [List.drop_zero, List.take_of_length_le (by omega)]
  have hsm : ∀ o ∈ os, o.sum ≤ 1000000 ∧ 0 ≤ o.sum := fun o ho => by
    obtain ⟨h1, h2⟩ := hos o ho
    have := sum_in (l := o) (a := 50) (by omega) h2
    omega
  obtain ⟨out, r1, r2, r3⟩ := sum_run hr (ls := os) (fun o ho => ⟨(hos o ho).1, fun q hq => by have := (hos o ho).2 q hq; omega, (hsm o ho).1⟩)
  have hwv := wvE_of hok hr.w
  have hrun : runJ ⟨N, ls⟩ (List.replicate ls.length []) os = .ok (List.replicate ls.length [], out) := by rw [runJ, if_neg (by simp [hwv]), if_neg (by omega)]; exact r1
  have hwho : whoS ⟨N, ls⟩ (List.replicate ls.length []) = (List.replicate ls.length 0, 0) := by rw [whoS, if_neg (by simp [hwv])]; exact congrArg (·, 0) (who_zero ls)
  have hvr : vfin (List.replicate ls.length []) := (hr.w.fin hok).1
  have hmu := eV_len out
  have hmr : (eL (List.replicate ls.length 0)).length = ls.length := by rw [eL_len, List.length_replicate]
  conv => whnf
  refine ⟨by omega, ?_⟩
  conv => whnf
  rw [hto]
  refine ⟨⟨N, ls⟩, List.replicate ls.length [], os, rfl, hfin, hvr, ⟨by omega, fun o ho => by have := (hos o ho).1; omega⟩, ?_⟩
  rw [hrun]
  conv => whnf
  refine ⟨⟨N, ls⟩, List.replicate ls.length [], rfl, hfin, hvr, ?_⟩
  rw [hwho]
  conv => whnf
  (repeat ((first | refine fork_t ?_ | refine fork_f ?_); (conv => whnf)))
  refine Fork.mk (fun h => ?_) (fun h => ?_)
  · exfalso; simp at h; omega
  clear h
  conv => whnf
  refine Fork.mk (fun h => ?_) (fun h => ?_)
  · exfalso; simp at h
  clear h
  conv => whnf
  refine ⟨Nat, fun i => ([(4, .c (.ptr (.l 4 1) 0)), (9, .c (.lst (eV os))), (11, .c (.lst (eV out))), (13, .c (.lst (eL (List.replicate ls.length 0)))), (109, I 4), (110, I i)], ⟨[(.l 4 1, .blk (rvC ⟨N, ls⟩))], 4, []⟩),
    fun i => i ≤ 4, fun i => 4 - i, 0, by omega, Shift.trans (Shift.rename [] ⟨rfl, rfl, rfl, rfl, rfl, rfl, trivial⟩ ⟨rfl, trivial⟩ rfl rfl rfl) (Shift.purV (t := 9) (i := .l 71 3) (n := 4) (es := eV os) rfl rfl (by omega)), fun i hi => ?_⟩
  dsimp only
  conv => whnf
  refine Fork.mk (fun h => ?_) (fun h => ?_)
  rotate_left
  · conv => whnf
    refine ⟨Nat, fun j => ([(148, .c (.lst (eL (List.replicate ls.length 0)))), (149, I (eL (List.replicate ls.length 0)).length), (150, I j)], ⟨[], 4, []⟩),
      fun j => j ≤ ls.length, fun j => ls.length - j, 0, Nat.zero_le _, Shift.rename [] ⟨rfl, rfl, rfl, trivial⟩ trivial rfl rfl rfl, fun j hj => ?_⟩
    dsimp only
    conv => whnf
    refine Fork.mk (fun h => ?_) (fun h => ?_)
    rotate_left
    · conv => whnf
      refine ⟨rfl, ?_⟩
      conv => whnf
      exact hk
    have hjl : j < ls.length := by simp at h; omega
    have hc0 : (List.replicate ls.length (0 : Int))[j]? = some 0 := by rw [List.getElem?_replicate, if_pos hjl]
    have hwj := wr_succ (i := j) (by omega)
    clear h
    conv => whnf
    refine ⟨by omega, eI 0, by rw [Int.toNat_natCast, List.getElem?_map, hc0]; rfl, rfl, ?_⟩
    conv => whnf
    (repeat ((first | refine fork_t ?_ | refine fork_f ?_); (conv => whnf)))
    rw [hwj]
    exact ⟨j + 1, hjl, Shift.rename [] ⟨rfl, rfl, rfl, trivial⟩ trivial rfl rfl rfl, by omega⟩
  have hi4 : i < 4 := by simp at h; omega
  clear h
  have hci := List.getElem?_eq_getElem (show i < os.length by omega)
  have ho := hos _ (List.getElem_mem (show i < os.length by omega))
  have hos2 := hsm _ (List.getElem_mem (show i < os.length by omega))
  generalize os[i] = o at hci ho hos2
  have hcu := List.getElem?_eq_getElem (show i < out.length by omega)
  generalize out[i] = x at hcu
  obtain ⟨hx1, hx2⟩ := r3 i o x hci hcu
  dsimp only at hx1 hx2
  have hw1 := wr_succ (i := i) (by omega)
  have hml := eL_len o
  have hmx := eL_len x
  conv => whnf
  refine ⟨by omega, wvC o, by rw [Int.toNat_natCast, List.getElem?_map, hci]; rfl, rfl, ?_⟩
  conv => whnf
  refine ⟨Nat, fun j => ([(4, .c (.ptr (.l 4 1) 0)), (9, .c (.lst (eV os))), (11, .c (.lst (eV out))), (13, .c (.lst (eL (List.replicate ls.length 0)))), (15, I i), (16, I (o.take j).sum), (109, I 4), (110, I i), (116, .c (.lst (eL o))), (117, I (eL o).length), (118, I j)], ⟨[(.l 4 1, .blk (rvC ⟨N, ls⟩))], 4, []⟩),
    fun j => j ≤ o.length, fun j => o.length - j, 0, Nat.zero_le _, Shift.rename [] ⟨rfl, rfl, rfl, rfl, rfl, rfl, rfl, rfl, rfl, rfl, rfl, trivial⟩ ⟨rfl, trivial⟩ rfl rfl rfl, fun j hj => ?_⟩
  dsimp only
  conv => whnf
  refine Fork.mk (fun h => ?_) (fun h => ?_)
  · have hjl : j < o.length := by simp at h; omega
    clear h
    have hcj := List.getElem?_eq_getElem hjl
    have hq := ho.2 _ (List.getElem_mem hjl)
    have hst := sum_take hjl
    generalize o[j] = q at hcj hq hst
    have hsb := sum_in (l := o.take j) (a := 50) (by omega) (fun x hx => ho.2 x (List.mem_of_mem_take hx))
    rw [List.length_take_of_le (by omega)] at hsb
    have hwj := wr_succ (i := j) (by omega)
    have e1 : IntKind.i64.wrap ((o.take j).sum + q) = (o.take (j + 1)).sum := by rw [← hst]; exact wrap_in (by omega) (by omega)
    conv => whnf
    refine ⟨by omega, eI q, by rw [Int.toNat_natCast, List.getElem?_map, hcj]; rfl, rfl, ?_⟩
    conv => whnf
    rw [e1, hwj]
    exact ⟨j + 1, hjl, Shift.rename [] ⟨rfl, rfl, rfl, rfl, rfl, rfl, rfl, rfl, rfl, rfl, rfl, trivial⟩ ⟨rfl, trivial⟩ rfl rfl rfl, by omega⟩
  have hje : j = o.length := by simp at h; omega
  subst hje
  clear h
  have hgx : x[N.toNat - 1]? = some o.sum := by
    have := gN_get (a := x) (j := N.toNat - 1) (by omega)
    rw [hx2] at this
    exact this
  have e5 : IntKind.i64.wrap (N - 1) = ((N.toNat - 1 : Nat) : Int) := by rw [wrap_in (by omega) (by omega)]; omega
  conv => whnf
  rw [List.take_length]
  refine ⟨by omega, wvC x, by rw [Int.toNat_natCast, List.getElem?_map, hcu]; rfl, rfl, ?_⟩
  conv => whnf
  refine Fork.mk (fun h => ?_) (fun h => ?_)
  · exfalso; simp at h; omega
  clear h
  conv => whnf
  refine ⟨by omega, wvC x, by rw [Int.toNat_natCast, List.getElem?_map, hcu]; rfl, rfl, ?_⟩
  conv => whnf
  rw [e5]
  refine ⟨by omega, eI o.sum, by rw [Int.toNat_natCast, List.getElem?_map, hgx]; rfl, rfl, ?_⟩
  conv => whnf
  repeat' ((first | refine fork_t ?_ | refine fork_f ?_ | (refine Fork.mk (fun h => ?_) (fun h => ?_); focus (simp at h; done)) | fail) <;> (conv => whnf))
  rw [hw1]
  exact ⟨i + 1, hi4, Shift.rename [] ⟨rfl, rfl, rfl, rfl, rfl, rfl, trivial⟩ ⟨rfl, trivial⟩ rfl rfl rfl, by omega⟩
end Go.Proofs
