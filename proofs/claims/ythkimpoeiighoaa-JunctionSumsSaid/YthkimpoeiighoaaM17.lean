/- Proved here: what functions of the given program come to, for the statements of this chapter; no condition but those in the theorems. -/
import Derived.Test.YthkimpoeiighoaaK17
namespace Go.Proofs
open Go Go.Abs
set_option linter.unusedSimpArgs false
set_option linter.unusedVariables false
set_option maxRecDepth 4000
def whoL : List Lk → List Ls → Ls
  | l :: r, w :: ws => w.sum / l.den :: whoL r ws
  | _, _ => []
def whoS (r : Rv) (w : List Ls) : Ls × Int := if wvE r w ≠ 0 then ([], wvE r w) else (whoL r.ls w, 0)
def R_whoS : RT := fun args k => ∃ (r : Rv) (w : List Ls), args = [.agg (rvC r), .c (.lst (eV w))] ∧ r.fin ∧ vfin w ∧ k (.tup [.c (.lst (eL (whoS r w).1)), I (whoS r w).2])
theorem kWho {k : AV → Prop} {x y : Ls × Int} (h : k (.tup [.c (.lst (eL x.1)), I x.2])) (e : x = y) : k (.tup [.c (.lst (eL y.1)), I y.2]) := by subst e; exact h
theorem whoL_len : ∀ {l : List Lk} {w : List Ls}, (whoL l w).length ≤ l.length
  | [], w => by simp [whoL]
  | a :: l, [] => by simp [whoL]
  | a :: l, p :: w => by rw [whoL, List.length_cons, List.length_cons]; have := whoL_len (l := l) (w := w); omega
theorem whoS_ok : FunR Try.prog 31 R_whoS := by
  intro args k h
  obtain ⟨r, w, rfl, hf, hv, hk⟩ := h
  have hmk := eK_len r.ls
  have hmw := eV_len w
  refine does_ex (qc := qc1) (np := []) (CK := ckK [(40, cSc R_wvE), (50, cSc R_held)]) mixed Try.func31 rfl rfl Try.ntmps31 Try.results31 τ_ok (by kernel_rfl) (ckK_ok ⟨cSc_ok wvE_ok', cSc_ok held_ok, trivial⟩) (by simp) ?_
  conv => whnf
  refine ⟨r, w, rfl, hf, hv, ?_⟩
  conv => whnf
  refine Fork.mk (fun h => ?_) (fun h => ?_)
  · have h1 : wvE r w ≠ 0 := by simpa using h
    conv => whnf
    exact kWho (y := ([], wvE r w)) hk (by rw [whoS, if_pos h1])
  have h1 : wvE r w = 0 := by simpa using h
  clear h
  obtain ⟨hr, hw⟩ := wvE_ok h1
  have e0 : whoS r w = (whoL r.ls w, 0) := by rw [whoS, if_neg (by simp [h1])]
  have hrl := hr.len
  have hwl := hw.l
  obtain ⟨_, hw40, hw24⟩ := hw.fin hr
  conv => whnf
  refine ⟨Ls, fun o => ([(1, .c (.lst (eV w))), (7, .c (.view (.l 35 1) 0 o.length)), (17, .c (.lst (eK r.ls))), (18, I (eK r.ls).length), (19, I o.length)], ⟨[(.l 35 1, .arr 3 1 (eL o) false)], 2, []⟩),
    fun o => o.length ≤ r.ls.length ∧ whoL r.ls w = o ++ whoL (r.ls.drop o.length) (w.drop o.length), fun o => r.ls.length - o.length, [], ⟨Nat.zero_le _, rfl⟩,
    Shift.trans (Shift.rename [] ⟨rfl, rfl, rfl, rfl, rfl, trivial⟩ ⟨rfl, trivial⟩ rfl rfl rfl) (Shift.nilArr (t := 7) rfl 35 3 1), fun o ho => ?_⟩
  obtain ⟨ho, heq⟩ := ho
  dsimp only
  have hmo := eL_len o
  conv => whnf
  refine Fork.mk (fun h => ?_) (fun h => ?_)
  rotate_left
  · have hie : o.length = r.ls.length := by simp at h; omega
    rw [hie, List.drop_length] at heq
    conv => whnf
    refine ⟨by rw [hmo]; omega, ?_⟩
    conv => whnf
    have t2 : List.take o.length (List.drop 0 (eL o)) = eL o := by rw [List.drop_zero, List.take_of_length_le (by rw [hmo]; exact Nat.le_refl _)]
    show k (.tup [.c (.lst (List.take o.length (List.drop 0 (eL o)))), I 0])
    rw [t2]
    exact kWho (y := (o, 0)) hk (by rw [e0, heq]; simp [whoL])
  have hil : o.length < r.ls.length := by simp at h; omega
  clear h
  have hci := List.getElem?_eq_getElem hil
  have hlo := hr.l _ (List.getElem_mem hil)
  generalize r.ls[o.length] = l at hci hlo
  have hcw := List.getElem?_eq_getElem (show o.length < w.length by omega)
  have hpl := hw24 _ (List.getElem_mem (show o.length < w.length by omega))
  generalize w[o.length] = p at hcw hpl
  rw [dropC hci, dropC hcw, whoL] at heq
  have hfit := hw.f _ l p hci hcw
  obtain ⟨_, _, c3, _⟩ := fits_facts hfit
  obtain ⟨_, _, _, a4, _⟩ := rk_facts hlo.r
  have z1 := fits_sum hfit
  have hpb : p.sum ≤ 2251799813685248 * 24 := by
    have := sum_in (l := p) (a := 2251799813685248) (by omega) (fun x hx => c3 x hx)
    have : 2251799813685248 * (p.length : Int) ≤ 2251799813685248 * 24 := by omega
    omega
  have e5 : p.sum.tdiv l.den = p.sum / l.den := Int.tdiv_eq_ediv_of_nonneg z1
  have hq0 : 0 ≤ p.sum / l.den := Int.ediv_nonneg z1 (by omega)
  have hq1 := Int.ediv_le_self l.den z1
  have e6 : IntKind.i64.wrap (p.sum / l.den) = p.sum / l.den := wrap_in (by omega) (by omega)
  have hw1 := wr_succ (i := o.length) (by omega)
  conv => whnf
  refine ⟨by omega, lkC l, by rw [Int.toNat_natCast, List.getElem?_map, hci]; rfl, rfl, ?_⟩
  conv => whnf
  refine ⟨by omega, wvC p, by rw [Int.toNat_natCast, List.getElem?_map, hcw]; rfl, rfl, ?_⟩
  conv => whnf
  refine ⟨p, rfl, by omega, fun x hx => by have := c3 x hx; unfold inH; omega, ?_⟩
  conv => whnf
  refine ⟨by omega, ?_⟩
  conv => whnf
  rw [e5, e6]
  refine ⟨by simp, ?_⟩
  conv => whnf
  refine ⟨rfl, ?_⟩
  conv => whnf
  refine ⟨⟨rfl, rfl, rfl, hmo.symm, by rw [hmo]; simp; omega⟩, ?_⟩
  conv => whnf
  rw [hw1]
  refine ⟨o ++ [p.sum / l.den], ⟨by simp; omega, by rw [heq]; simp⟩, Shift.rename [(.l 35 1, .l 35 3)] ⟨rfl, ?_, rfl, rfl, ?_, trivial⟩ ⟨?_, trivial⟩ rfl rfl rfl, ?_⟩
  · dsimp only; rw [List.length_append, ← hmo]; rfl
  · dsimp only; rw [List.length_append]; rfl
  · dsimp only; rw [← eL_snoc]; rfl
  · show r.ls.length - (o ++ [p.sum / l.den]).length < r.ls.length - o.length
    rw [List.length_append]; simp; omega
theorem rwhoS_ok : FunR Try.prog 32 R_whoS := by
  intro args k h
  obtain ⟨r, w, rfl, hf, hv, hk⟩ := h
  have hmk := eK_len r.ls
  have hmw := eV_len w
  refine does_ex (qc := qc1) (np := []) (CK := ckK [(28, cSc R_rvE), (47, cSc R_wvB), (14, cSc R_held)]) mixed Try.func32 rfl rfl Try.ntmps32 Try.results32 τ_ok (by kernel_rfl) (ckK_ok ⟨cSc_ok rrvE_ok, cSc_ok wvB_ok, cSc_ok rheld_ok, trivial⟩) (by simp) ?_
  conv => whnf
  refine ⟨r, rfl, hf, ?_⟩
  conv => whnf
  refine Fork.mk (fun h => ?_) (fun h => ?_)
  · have h1 : rvE r ≠ 0 := by simpa using h
    have h2 : wvE r w = rvE r := by rw [wvE, if_pos h1]
    conv => whnf
    exact kWho (y := ([], rvE r)) hk (by rw [whoS, if_pos (by omega), h2])
  have h0 : rvE r = 0 := by simpa using h
  clear h
  conv => whnf
  refine ⟨r, w, rfl, hf, hv, ?_⟩
  conv => whnf
  refine Fork.mk (fun h => ?_) (fun h => ?_)
  · have hb : (decide (w.length = r.ls.length) && wvOk r.ls w) = false := by simpa only [Bool.not_eq_true'] using h
    have e : wvE r w = 3 := by
      rw [wvE, if_neg (by simp [h0])]
      by_cases hx : w.length = r.ls.length
      · simp [hx] at hb
        rw [if_neg (by omega), if_pos hb]
      · rw [if_pos hx]
    conv => whnf
    exact kWho (y := ([], 3)) hk (by rw [whoS, if_pos (by omega), e])
  have hb : (decide (w.length = r.ls.length) && wvOk r.ls w) = true := by simpa only [Bool.not_eq_false'] using h
  simp only [Bool.and_eq_true, decide_eq_true_eq] at hb
  have h1 : wvE r w = 0 := by rw [wvE, if_neg (by simp [h0]), if_neg (by simp [hb.1]), if_neg (by simp [hb.2])]
  clear h hb h0
  obtain ⟨hr, hw⟩ := wvE_ok h1
  have e0 : whoS r w = (whoL r.ls w, 0) := by rw [whoS, if_neg (by simp [h1])]
  have hrl := hr.len
  have hwl := hw.l
  obtain ⟨_, hw40, hw24⟩ := hw.fin hr
  conv => whnf
  refine ⟨Ls, fun o => ([(1, .c (.lst (eV w))), (7, .c (.view (.l 38 1) 0 o.length)), (20, .c (.lst (eK r.ls))), (21, I (eK r.ls).length), (22, I o.length)], ⟨[(.l 38 1, .arr 3 1 (eL o) false)], 2, []⟩),
    fun o => o.length ≤ r.ls.length ∧ whoL r.ls w = o ++ whoL (r.ls.drop o.length) (w.drop o.length), fun o => r.ls.length - o.length, [], ⟨Nat.zero_le _, rfl⟩,
    Shift.trans (Shift.rename [] ⟨rfl, rfl, rfl, rfl, rfl, trivial⟩ ⟨rfl, trivial⟩ rfl rfl rfl) (Shift.nilArr (t := 7) rfl 38 3 1), fun o ho => ?_⟩
  obtain ⟨ho, heq⟩ := ho
  dsimp only
  have hmo := eL_len o
  conv => whnf
  refine Fork.mk (fun h => ?_) (fun h => ?_)
  rotate_left
  · have hie : o.length = r.ls.length := by simp at h; omega
    rw [hie, List.drop_length] at heq
    conv => whnf
    refine ⟨by rw [hmo]; omega, ?_⟩
    conv => whnf
    have t2 : List.take o.length (List.drop 0 (eL o)) = eL o := by rw [List.drop_zero, List.take_of_length_le (by rw [hmo]; exact Nat.le_refl _)]
    show k (.tup [.c (.lst (List.take o.length (List.drop 0 (eL o)))), I 0])
    rw [t2]
    exact kWho (y := (o, 0)) hk (by rw [e0, heq]; simp [whoL])
  have hil : o.length < r.ls.length := by simp at h; omega
  clear h
  have hci := List.getElem?_eq_getElem hil
  have hlo := hr.l _ (List.getElem_mem hil)
  generalize r.ls[o.length] = l at hci hlo
  have hcw := List.getElem?_eq_getElem (show o.length < w.length by omega)
  have hpl := hw24 _ (List.getElem_mem (show o.length < w.length by omega))
  generalize w[o.length] = p at hcw hpl
  rw [dropC hci, dropC hcw, whoL] at heq
  have hfit := hw.f _ l p hci hcw
  obtain ⟨_, _, c3, _⟩ := fits_facts hfit
  obtain ⟨_, _, _, a4, _⟩ := rk_facts hlo.r
  have z1 := fits_sum hfit
  have hpb : p.sum ≤ 2251799813685248 * 24 := by
    have := sum_in (l := p) (a := 2251799813685248) (by omega) (fun x hx => c3 x hx)
    have : 2251799813685248 * (p.length : Int) ≤ 2251799813685248 * 24 := by omega
    omega
  have e5 : p.sum.tdiv l.den = p.sum / l.den := Int.tdiv_eq_ediv_of_nonneg z1
  have hq0 : 0 ≤ p.sum / l.den := Int.ediv_nonneg z1 (by omega)
  have hq1 := Int.ediv_le_self l.den z1
  have e6 : IntKind.i64.wrap (p.sum / l.den) = p.sum / l.den := wrap_in (by omega) (by omega)
  have hw1 := wr_succ (i := o.length) (by omega)
  conv => whnf
  refine ⟨by omega, lkC l, by rw [Int.toNat_natCast, List.getElem?_map, hci]; rfl, rfl, ?_⟩
  conv => whnf
  refine ⟨by omega, wvC p, by rw [Int.toNat_natCast, List.getElem?_map, hcw]; rfl, rfl, ?_⟩
  conv => whnf
  refine ⟨p, rfl, by omega, fun x hx => by have := c3 x hx; unfold inH; omega, ?_⟩
  conv => whnf
  refine ⟨by omega, ?_⟩
  conv => whnf
  rw [e5, e6]
  refine ⟨by simp, ?_⟩
  conv => whnf
  refine ⟨rfl, ?_⟩
  conv => whnf
  refine ⟨⟨rfl, rfl, rfl, hmo.symm, by rw [hmo]; simp; omega⟩, ?_⟩
  conv => whnf
  rw [hw1]
  refine ⟨o ++ [p.sum / l.den], ⟨by simp; omega, by rw [heq]; simp⟩, Shift.rename [(.l 38 1, .l 38 3)] ⟨rfl, ?_, rfl, rfl, ?_, trivial⟩ ⟨?_, trivial⟩ rfl rfl rfl, ?_⟩
  · dsimp only; rw [List.length_append, ← hmo]; rfl
  · dsimp only; rw [List.length_append]; rfl
  · dsimp only; rw [← eL_snoc]; rfl
  · show r.ls.length - (o ++ [p.sum / l.den]).length < r.ls.length - o.length
    rw [List.length_append]; simp; omega
theorem leafR {k : AV → List Cell → Prop} {n : Int} {l : List Lk} {es : List (List Cell)} {m : Nat} {cs : List Cell} (he : es = eK l) (hm : m = l.length) (hc : noCs cs = true) (hk : k (.agg (rvC ⟨n, l⟩)) cs) :
    noA (.agg [IC n, .lst (List.take m (List.drop 0 es))]) = true ∧ noCs cs = true ∧ k (.agg [IC n, .lst (List.take m (List.drop 0 es))]) cs := by
  subst he
  subst hm
  rw [List.drop_zero, List.take_of_length_le (by rw [eK_len]; exact Nat.le_refl _)]
  exact ⟨rfl, hc, hk⟩
theorem at4R (a b c e : Int) {j : Nat} (h : j < 4) : ∃ y, [[IC a], [IC b], [IC c], [IC e]][0 + j]? = some [IC y] := by
  rcases (by omega : j = 0 ∨ j = 1 ∨ j = 2 ∨ j = 3) with rfl | rfl | rfl | rfl
  · exact ⟨a, rfl⟩
  · exact ⟨b, rfl⟩
  · exact ⟨c, rfl⟩
  · exact ⟨e, rfl⟩
theorem eK_all (l : List Lk) : (eK l).all (fun e => e.length == 4) = true := by simp [List.all_eq_true, lkC]
theorem fin_setL {n m : Int} {ls : List Lk} {i : Nat} {x : Lk} (h : Rv.fin ⟨n, ls⟩) (hx : x.ws.length ≤ 9223372036854775807) : Rv.fin ⟨m, ls.set i x⟩ := by
  refine ⟨by dsimp only; rw [List.length_set]; exact h.1, fun y hy => ?_⟩
  rcases List.mem_or_eq_of_mem_set hy with hy | rfl
  · exact h.2 y hy
  · exact hx
def R_odd17 : RB := fun cs args k => ∃ (d : Dk) (r : Rv), args = [.agg (rvC r)] ∧ cs = dkC d ∧ d.ok ∧ r.fin ∧ r.ls.length ≤ 1000 ∧ ∀ (r' : Rv) d', Dk.ok d' → r'.fin → k (.agg (rvC r')) (dkC d')
theorem odd_ok : FunB Try.prog 24 R_odd17 := by
  intro cs args k h
  obtain ⟨d, r, rfl, rfl, hd, hf, hn, hk⟩ := h
  have hm := eK_len r.ls
  refine doesB_ex (qc := qc1) (np := [(9, [(1, 4)]), (11, [(1, 4)]), (15, [(1, 7)])]) (CK := ckK [(23, cB R_next)]) mixed Try.func24 rfl rfl Try.ntmps24 Try.results24 τ_ok (by kernel_rfl) (ckK_ok ⟨cB_ok next_ok rfl, trivial⟩) (by simp) rfl rfl ?_
  conv => whnf
  refine ⟨eK_all _, ?_⟩
  conv => whnf
  refine ⟨by show (eK r.ls).length * 48 ≤ _; omega, ?_⟩
  conv => whnf
  refine Fork.mk (fun h => ?_) (fun h => ?_)
  · conv => whnf
    (repeat ((first | refine fork_t ?_ | refine fork_f ?_); (conv => whnf)))
    refine ⟨d, rfl, hd, by omega, fun v d hd hv1 hv2 => ?_⟩
    obtain ⟨j, rfl⟩ : ∃ j : Nat, v = j := ⟨v.toNat, by omega⟩
    obtain ⟨y, hy⟩ := at4R 0 40 41 (-1) (show j < 4 by omega)
    conv => whnf
    refine ⟨by omega, rfl, ?_⟩
    conv => whnf
    refine ⟨[IC y], by rw [Int.toNat_natCast]; exact hy, ?_⟩
    conv => whnf
    refine ⟨by rw [hm]; omega, ?_⟩
    conv => whnf
    exact leafR rfl hm rfl (hk ⟨y, r.ls⟩ d hd hf)
  have hn1 : 1 ≤ r.ls.length := by simp at h; cases hls : r.ls with | nil => exact absurd hls h | cons a b => simp
  clear h
  conv => whnf
  refine ⟨d, rfl, hd, by omega, fun v d hd hv1 hv2 => ?_⟩
  conv => whnf
  refine Fork.mk (fun h => ?_) (fun h => ?_)
  · conv => whnf
    refine ⟨d, rfl, hd, by omega, fun v d hd hv1 hv2 => ?_⟩
    obtain ⟨j, rfl⟩ : ∃ j : Nat, v = j := ⟨v.toNat, by omega⟩
    obtain ⟨y, hy⟩ := at4R 0 40 41 (-1) (show j < 4 by omega)
    conv => whnf
    refine ⟨by omega, rfl, ?_⟩
    conv => whnf
    refine ⟨[IC y], by rw [Int.toNat_natCast]; exact hy, ?_⟩
    conv => whnf
    refine ⟨by rw [hm]; omega, ?_⟩
    conv => whnf
    exact leafR rfl hm rfl (hk ⟨y, r.ls⟩ d hd hf)
  clear h hv1 hv2
  conv => whnf
  refine ⟨d, rfl, hd, by omega, fun v d hd hv1 hv2 => ?_⟩
  obtain ⟨i, rfl⟩ : ∃ i : Nat, v = i := ⟨v.toNat, by omega⟩
  have hi : i < r.ls.length := by rw [hm] at hv2; omega
  have hci := List.getElem?_eq_getElem hi
  have hcl := hf.2 _ (List.getElem_mem hi)
  generalize r.ls[i] = l at hci hcl
  have hgt : (eK r.ls)[0 + (i : Int).toNat]? = some (lkC l) := by rw [Nat.zero_add, Int.toNat_natCast, List.getElem?_map, hci]; rfl
  have hset : ∀ x : Lk, (eK r.ls).set (0 + (i : Int).toNat) (lkC x) = eK (r.ls.set i x) := fun x => by rw [Nat.zero_add, Int.toNat_natCast]; exact (List.map_set ..).symm
  conv => whnf
  refine ⟨d, rfl, hd, by omega, fun j d hd hj1 hj2 => ?_⟩
  conv => whnf
  refine Fork.mk (fun h => ?_) (fun h => ?_)
  · conv => whnf
    refine ⟨d, rfl, hd, by omega, fun v d hd hv1 hv2 => ?_⟩
    conv => whnf
    rw [show IntKind.i64.wrap (v - 1) = v - 1 from wrap_in (by omega) (by omega)]
    refine ⟨by rw [hm]; omega, rfl, ?_⟩
    conv => whnf
    refine ⟨lkC l, hgt, by simp [lkC], ?_⟩
    conv => whnf
    refine ⟨by simp, ?_⟩
    conv => whnf
    exact leafR (l := r.ls.set i ⟨l.fr, v - 1, l.ws, l.den⟩) (hset ⟨l.fr, v - 1, l.ws, l.den⟩) (by simp) rfl (hk ⟨r.n, r.ls.set i ⟨l.fr, v - 1, l.ws, l.den⟩⟩ d hd (fin_setL hf hcl))
  conv => whnf
  refine Fork.mk (fun h => ?_) (fun h => ?_)
  · conv => whnf
    refine ⟨d, rfl, hd, by omega, fun v d hd hv1 hv2 => ?_⟩
    conv => whnf
    rw [show IntKind.i64.wrap (v - 1) = v - 1 from wrap_in (by omega) (by omega)]
    refine ⟨by rw [hm]; omega, rfl, ?_⟩
    conv => whnf
    refine ⟨lkC l, hgt, by simp [lkC], ?_⟩
    conv => whnf
    refine ⟨by simp, ?_⟩
    conv => whnf
    exact leafR (l := r.ls.set i ⟨v - 1, l.to, l.ws, l.den⟩) (hset ⟨v - 1, l.to, l.ws, l.den⟩) (by simp) rfl (hk ⟨r.n, r.ls.set i ⟨v - 1, l.to, l.ws, l.den⟩⟩ d hd (fin_setL hf hcl))
  conv => whnf
  refine Fork.mk (fun h => ?_) (fun h => ?_)
  · conv => whnf
    refine ⟨by rw [hm]; omega, rfl, ?_⟩
    conv => whnf
    refine ⟨lkC l, hgt, ?_⟩
    conv => whnf
    refine ⟨by rw [hm]; omega, rfl, ?_⟩
    conv => whnf
    refine ⟨lkC l, hgt, by simp [lkC], ?_⟩
    conv => whnf
    refine ⟨by simp, ?_⟩
    conv => whnf
    exact leafR (l := r.ls.set i ⟨l.fr, l.to, l.ws, IntKind.i64.wrap (l.den + 1)⟩) (hset ⟨l.fr, l.to, l.ws, IntKind.i64.wrap (l.den + 1)⟩) (by simp) rfl (hk ⟨r.n, r.ls.set i ⟨l.fr, l.to, l.ws, IntKind.i64.wrap (l.den + 1)⟩⟩ d hd (fin_setL hf hcl))
  conv => whnf
  refine Fork.mk (fun h => ?_) (fun h => ?_)
  · conv => whnf
    refine ⟨by rw [hm]; omega, rfl, ?_⟩
    conv => whnf
    refine ⟨lkC l, hgt, ?_⟩
    conv => whnf
    refine ⟨by simp, ?_⟩
    conv => whnf
    refine ⟨rfl, ?_⟩
    conv => whnf
    refine ⟨⟨rfl, rfl, rfl, rfl, by rw [hm]; simp; omega⟩, ?_⟩
    conv => whnf
    refine ⟨by simp, ?_⟩
    conv => whnf
    exact leafR (l := r.ls ++ [l]) (by rw [show eK (r.ls ++ [l]) = eK r.ls ++ [lkC l] from List.map_append]; rfl) (by rw [hm]; simp) rfl (hk ⟨r.n, r.ls ++ [l]⟩ d hd ⟨by dsimp only; simp; omega, fun y hy => by
      rcases List.mem_append.1 hy with hy | hy
      · exact hf.2 y hy
      · simp at hy; subst hy; exact hcl⟩)
  conv => whnf
  refine ⟨by simp, ?_⟩
  conv => whnf
  exact leafR rfl hm rfl (hk ⟨r.n, r.ls⟩ d hd hf)
end Go.Proofs
