/- Proved here: what functions of the given program come to, and the plain laws of it; no condition but those in the theorems. -/
import Derived.Test.YthkimpoeiighoaaPRiver2
namespace Go.Proofs
open Go Go.Abs
set_option linter.unusedSimpArgs false
set_option linter.unusedVariables false
set_option maxRecDepth 4000
theorem vis_ok : FunG Try.prog 56 (R_vis 3 41) := by
  intro args os k h
  obtain ⟨r, loc, arr, w, k, rfl, rfl, hP, h1, h2, h3⟩ := h
  have hml := eL_len loc
  have hma := eL_len arr
  have hmk := eK_len r.ls
  have hmw := eV_len w
  have hk := hP.hk
  have hl := hP.hl
  have hn := hP.hn
  have hn40 := hP.hr.n
  have hwl := hP.hw.l
  have hll := hP.hr.len
  have hck := gN_get (a := loc) (j := k) (by omega)
  have hak := gN_get (a := arr) (j := k) hk
  have hbk := hP.hb k hk
  refine doesG_ex (qc := qc1) (np := [(7, [(1, 19), (3, 19), (5, 19), (6, 19), (8, 19), (9, 19), (10, 19), (12, 19), (13, 19), (14, 19)])]) (CK := ckK [(57, cSc R_within), (58, cSc R_lnk), (59, cPu R_stepA)]) mixed Try.func56 rfl rfl Try.ntmps56 Try.results56 τ_ok (by kernel_rfl) (ckK_ok ⟨cSc_ok within_ok, cSc_ok link_ok, cPu_ok stepA_ok rfl, trivial⟩) (by simp) rfl rfl ?_
  conv => whnf
  refine ⟨by omega, eI (gN loc k), by rw [Int.toNat_natCast, List.getElem?_map, hck]; rfl, rfl, ?_⟩
  conv => whnf
  refine Fork.mk (fun h => ?_) (fun h => ?_)
  · conv => whnf
    exact ⟨rfl, rfl, h1 (by unfold inQ; simpa only [Bool.not_eq_true'] using h)⟩
  have hq : inQ (gN loc k) = true := by unfold inQ; simpa only [Bool.not_eq_false'] using h
  have hqb := inQ_in hq
  have h2 := h2 hq
  have h3 := h3 hq
  clear h h1
  have e1 : IntKind.i64.wrap (gN arr k + gN loc k) = gN arr k + gN loc k := wrap_in (by omega) (by omega)
  conv => whnf
  refine ⟨by omega, rfl, ?_⟩
  conv => whnf
  refine ⟨eI (gN arr k), by rw [Int.toNat_natCast, Nat.zero_add, List.getElem?_map, hak]; rfl, ?_⟩
  conv => whnf
  refine ⟨by omega, eI (gN loc k), by rw [Int.toNat_natCast, List.getElem?_map, hck]; rfl, rfl, ?_⟩
  conv => whnf
  rw [e1]
  refine ⟨by omega, rfl, ?_⟩
  conv => whnf
  refine ⟨eI (gN arr k), by rw [Int.toNat_natCast, Nat.zero_add, List.getElem?_map, hak]; rfl, by show 0 + 1 ≤ 1; omega, ?_⟩
  conv => whnf
  have hset : ∀ (a : Ls) (j : Nat) (v : Int), (eL a).set (0 + (j : Int).toNat) [nrm (Value.int IntKind.i64 v)] = eL (a.set j v) := fun a j v => by
    rw [Nat.zero_add, Int.toNat_natCast, show [nrm (Value.int IntKind.i64 v)] = eI v from rfl, eL_set]
  refine ⟨r, k, rfl, by omega, ?_⟩
  rcases lnk_spec r.ls k with ⟨e0, _⟩ | ⟨m, l, hlm, hlf, e0⟩
  · rw [e0]
    conv => whnf
    (repeat ((first | refine fork_t ?_ | refine fork_f ?_); (conv => whnf)))
    refine ⟨rfl, rfl, ?_⟩
    rw [hset]
    exact h2 e0
  rw [e0]
  conv => whnf
  refine Fork.mk (fun h => ?_) (fun h => ?_)
  · exfalso; simp at h; omega
  clear h
  have hml2 := (List.getElem?_eq_some_iff.1 hlm).1
  have hcw := List.getElem?_eq_getElem (show m < w.length by omega)
  have hpw := hP.hv.2 _ (List.getElem_mem (show m < w.length by omega))
  generalize w[m] = p at hcw hpw
  have hlw := hP.hf.2 l (List.mem_of_getElem? hlm)
  have hlo := hP.hr.l l (List.mem_of_getElem? hlm)
  have hfit := hP.hw.f m l p hlm hcw
  obtain ⟨h4, h5⟩ := h3 m l p e0 hlf hlm hcw
  have ho := hlo.o
  have ht := hlo.t
  have hto : 0 ≤ l.to ∧ l.to.toNat < arr.length := by omega
  conv => whnf
  refine ⟨by omega, lkC l, by rw [Int.toNat_natCast, List.getElem?_map, hlm]; rfl, rfl, ?_⟩
  conv => whnf
  refine ⟨by omega, rfl, ?_⟩
  conv => whnf
  refine ⟨wvC p, by rw [Int.toNat_natCast, Nat.zero_add, List.getElem?_map, hcw]; rfl, ?_⟩
  conv => whnf
  refine ⟨by omega, rfl, ?_⟩
  conv => whnf
  rw [hset]
  generalize hq2 : gN arr k + gN loc k = q at *
  have hk1 : (arr.set k q)[k]? = some q := by rw [List.getElem?_set, if_pos rfl, if_pos hk]
  refine ⟨eI q, by rw [Int.toNat_natCast, Nat.zero_add, List.getElem?_map, hk1]; rfl, ?_⟩
  conv => whnf
  refine ⟨l.ws, p, rfl, rfl, hlw, hpw, ?_⟩
  rw [step_eq hlo.r hfit]
  by_cases hst : stG l p q = true
  rotate_left
  · have hst : stG l p q = false := by simpa using hst
    rw [show (inQ q && stepB l.ws p q) = false from hst]
    conv => whnf
    (repeat ((first | refine fork_t ?_ | refine fork_f ?_); (conv => whnf)))
    exact ⟨rfl, rfl, h4 hst⟩
  rw [if_pos (show (inQ q && stepB l.ws p q) = true from hst)]
  have hout := out_in hlo.r hfit hst
  have h5 := h5 hst
  generalize hO : outF l.ws l.den p q = o at hout h5 ⊢
  generalize hS : stepF l.ws l.den p q = p' at h5 ⊢
  dsimp only
  conv => whnf
  (repeat ((first | refine fork_t ?_ | refine fork_f ?_); (conv => whnf)))
  refine ⟨by omega, rfl, ?_⟩
  conv => whnf
  refine ⟨wvC p, by rw [Int.toNat_natCast, Nat.zero_add, List.getElem?_map, hcw]; rfl, by show 0 + 1 ≤ 1; omega, ?_⟩
  conv => whnf
  refine ⟨by omega, lkC l, by rw [Int.toNat_natCast, List.getElem?_map, hlm]; rfl, rfl, ?_⟩
  conv => whnf
  refine ⟨by omega, rfl, ?_⟩
  conv => whnf
  obtain ⟨tn, htn⟩ : ∃ tn : Nat, l.to = tn := ⟨l.to.toNat, by omega⟩
  rw [htn, Int.toNat_natCast] at h5
  rw [htn] at hto ⊢
  rw [Int.toNat_natCast] at hto
  have hta : (arr.set k q)[tn]? = some (gN (arr.set k q) tn) := gN_get (by rw [List.length_set]; exact hto.2)
  have hbt := hP.hb tn hto.2
  have hqt : gN (arr.set k q) tn = gN arr tn := by rw [gN_set hk, if_neg (by omega)]
  have e2 : IntKind.i64.wrap (gN (arr.set k q) tn + o) = gN (arr.set k q) tn + o := wrap_in (by omega) (by omega)
  refine ⟨eI (gN (arr.set k q) tn), by rw [Int.toNat_natCast, Nat.zero_add, List.getElem?_map, hta]; rfl, ?_⟩
  conv => whnf
  rw [e2]
  refine ⟨by omega, rfl, ?_⟩
  conv => whnf
  refine ⟨eI (gN (arr.set k q) tn), by rw [Int.toNat_natCast, Nat.zero_add, List.getElem?_map, hta]; rfl, by show 0 + 1 ≤ 1; omega, ?_⟩
  conv => whnf
  refine ⟨rfl, rfl, ?_⟩
  rw [hset]
  have hsw : (eV w).set (0 + (m : Int).toNat) [Cell.lst (eL p')] = eV (w.set m p') := by
    rw [Nat.zero_add, Int.toNat_natCast]
    exact (List.map_set ..).symm
  rw [hsw]
  exact h5
end Go.Proofs

/- Rivers: runs. No program. -/
namespace Go.Proofs
open Go Go.Abs
set_option linter.unusedSimpArgs false
set_option linter.unusedVariables false
theorem stepF_len (ws : Ls) (den : Int) (ps : Ls) (q : Int) : (stepF ws den ps q).length ≤ ws.length := by
  unfold stepF
  exact Nat.le_trans (trim_len _) (by rw [tab_len]; exact Nat.le_refl _)
theorem lkGo_fit : ∀ {ls : List Lk} {ws : List Ls} {a : Ls} {x : List Ls × Ls}, (∀ l ∈ ls, rkCheck l.ws l.den = 0) → ws.length = ls.length → (∀ (i : Nat) l p, ls[i]? = some l → ws[i]? = some p → fitsB l.ws.length p = true) → lkGo ls ws a = some x →
    x.1.length = ls.length ∧ (∀ (i : Nat) l p, ls[i]? = some l → x.1[i]? = some p → fitsB l.ws.length p = true) ∧ x.2.length = a.length
  | [], ws, a, x, _, _, _, h => by
    have h : some ([], a) = some x := by cases ws <;> exact h
    cases h
    exact ⟨rfl, fun i l p h => by simp at h, rfl⟩
  | l :: ls, [], a, x, _, hl, _, _ => by simp at hl
  | l :: ls, w :: ws, a, x, hr, hl, hf, h => by
    rw [lkGo_cons] at h
    split at h
    rotate_left
    · cases h
    rename_i hst
    obtain ⟨y, h1, rfl⟩ := Option.map_eq_some_iff.1 h
    obtain ⟨i1, i2, i3⟩ := lkGo_fit (fun l hl => hr l (by simp [hl])) (by simpa using hl) (fun i l p e1 e2 => hf (i + 1) l p (by simpa using e1) (by simpa using e2)) h1
    refine ⟨by simp [i1], fun i b p e1 e2 => ?_, by rw [i3, List.length_set]⟩
    cases i with
    | zero =>
      simp at e1 e2
      subst e1; subst e2
      obtain ⟨s0, s1, s2⟩ := stG_ok hst
      exact step_fits (hr l (by simp)) (hf 0 l w rfl rfl) s0 s1 s2
    | succ i => exact i2 i b p (by simpa using e1) (by simpa using e2)
theorem passX_err {r : Rv} {w : List Ls} {loc : Ls} {e : Int} (h : passX r w loc = .error e) : e = 3 ∨ e = 1 := by
  unfold passX at h
  split at h
  · simp at h; omega
  split at h
  · simp at h; omega
  split at h
  · simp at h; omega
  · cases h
theorem passX_fit {r : Rv} {w : List Ls} {loc : Ls} {x : List Ls × Ls} (hr : RvOk r) (hw : WvOk r w) (h : passX r w loc = .ok x) : WvOk r x.1 ∧ x.2.length = loc.length ∧ (loc.length : Int) = r.n ∧ loc.all inQ = true ∧ lkGo r.ls w loc = some x := by
  unfold passX at h
  split at h
  · cases h
  rename_i h1
  split at h
  · cases h
  rename_i h2
  split at h
  · cases h
  rename_i y h3
  simp at h
  subst h
  obtain ⟨a, b, c⟩ := lkGo_fit (fun l hl => (hr.l l hl).r) hw.l hw.f h3
  exact ⟨⟨a, b⟩, c, by omega, by simpa using h2, h3⟩
theorem WvOk.fin {r : Rv} {w : List Ls} (hr : RvOk r) (hw : WvOk r w) : vfin w ∧ w.length ≤ 40 ∧ ∀ p ∈ w, p.length ≤ 24 := by
  have h1 := hr.len
  have h2 := hw.l
  have h3 : ∀ p ∈ w, p.length ≤ 24 := fun p hp => by
    obtain ⟨i, hi⟩ := List.getElem?_of_mem hp
    have hl := (List.getElem?_eq_some_iff.1 hi).1
    have c := List.getElem?_eq_getElem (show i < r.ls.length by omega)
    obtain ⟨a1, _⟩ := fits_facts (hw.f i _ p c hi)
    have := (rk_facts (hr.l _ (List.mem_of_getElem? c)).r).2.1
    exact Nat.le_trans a1 this
  exact ⟨⟨by omega, fun p hp => by have := h3 p hp; omega⟩, by omega, h3⟩
theorem RvOk.fin {r : Rv} (h : RvOk r) : r.fin := ⟨by have := h.len; omega, fun l hl => by have := (rk_facts (h.l l hl).r).2.1; omega⟩
def runA : Except Int (List Ls × List Ls) → AV
  | .ok x => .tup [.c (.lst (eV x.1)), .c (.lst (eV x.2)), I 0]
  | .error e => .tup [.c (.lst []), .c (.lst []), I e]
def stpA : Except Int (List Ls × Ls) → AV
  | .ok x => .tup [.c (.lst (eV x.1)), .c (.lst (eL x.2)), I 0]
  | .error e => .tup [.c (.lst []), .c (.lst []), I e]
def R_runJ : RT := fun args k => ∃ (r : Rv) (w ls : List Ls), args = [.agg (rvC r), .c (.lst (eV w)), .c (.lst (eV ls))] ∧ r.fin ∧ vfin w ∧ vfin ls ∧ k (runA (runJ r w ls))
def R_stpJ : RT := fun args k => ∃ (r : Rv) (w : List Ls) (l : Ls), args = [.agg (rvC r), .c (.lst (eV w)), .c (.lst (eL l))] ∧ r.fin ∧ vfin w ∧ l.length ≤ 9223372036854775807 ∧ k (stpA (stepJ r w l))
theorem kRun {k : AV → Prop} {x y : Except Int (List Ls × List Ls)} (h : k (runA x)) (e : x = y) : k (runA y) := by subst e; exact h
theorem kStp {k : AV → Prop} {x y : Except Int (List Ls × Ls)} (h : k (stpA x)) (e : x = y) : k (stpA y) := by subst e; exact h
theorem runJ_one (r : Rv) (w : List Ls) (l : Ls) : runJ r w [l] = match stepJ r w l with | .error e => .error e | .ok x => .ok (x.1, [x.2]) := by
  unfold runJ stepJ
  split
  · rfl
  rw [if_neg (by simp)]
  cases h : passX r w l with
  | error e => rw [runX_err h]
  | ok x => rw [runX_ok h]; rfl
theorem stepJ_err {r : Rv} {w : List Ls} {l : Ls} {e : Int} (h : stepJ r w l = .error e) : e ≠ 0 := by
  unfold stepJ at h
  split at h
  · rename_i h1; simp at h; omega
  · have := passX_err h; omega
/-- The references go through the links in another way. -/
structure refI (r : Rv) (W : List Ls) (loc a : Ls) (d : List Ls) (k i : Nat) : Prop where
  cut : cutK r.ls k i
  len : a.length = loc.length
  dl : d.length = i
  eq : lkGo r.ls W loc = (lkGo (r.ls.drop i) (W.drop i) a).map fun x => (d ++ x.1, x.2)
  b : ∀ j, j < a.length → 0 ≤ gN a j ∧ gN a j ≤ 1073741824 + 1125899906842624 * (i : Int)
theorem refI.zero {r : Rv} {W : List Ls} {loc : Ls} (hr : RvOk r) (hq : loc.all inQ = true) : refI r W loc loc [] 0 0 := by
  refine ⟨⟨Nat.zero_le _, fun j x h => by omega, fun j x _ e => (hr.l x (List.mem_of_getElem? e)).f⟩, rfl, rfl, ?_, fun j h => ?_⟩
  · rw [List.drop_zero, List.drop_zero]
    cases lkGo r.ls W loc <;> simp
  · have := inQ_in (List.all_eq_true.1 hq _ (List.mem_of_getElem? (gN_get h)))
    omega
theorem refI.bound {r : Rv} {W : List Ls} {loc a : Ls} {d : List Ls} {k i : Nat} (h : refI r W loc a d k i) (hr : RvOk r) : ∀ j, j < a.length → 0 ≤ gN a j ∧ gN a j ≤ 72057594037927936 := fun j hj => by
  have hb := h.b j hj
  have := h.cut.n
  have := hr.len
  omega
theorem refI.nol {r : Rv} {W : List Ls} {loc a : Ls} {d : List Ls} {k i : Nat} (h : refI r W loc a d k i) (hl : lnk r.ls k = -1) : refI r W loc a d (k + 1) i :=
  ⟨by have := h.cut.none hl; exact_mod_cast this, h.len, h.dl, h.eq, h.b⟩
theorem refI.link {r : Rv} {W : List Ls} {loc a : Ls} {d : List Ls} {k i m : Nat} {l : Lk} {p : Ls} (hr : RvOk r) (hW : WvOk r W) (h : refI r W loc a d k i) (hN : (a.length : Int) = r.n) (hk : k < a.length) (hl : r.ls[m]? = some l) (hf : l.fr = k) (hp : W[m]? = some p) :
    m = i ∧ (stG l p (gN a k) = false → lkGo r.ls W loc = none) ∧
    (stG l p (gN a k) = true → (0 ≤ l.to ∧ l.to.toNat < a.length) ∧ refI r W loc (a.set l.to.toNat (gN a l.to.toNat + outF l.ws l.den p (gN a k))) (d ++ [stepF l.ws l.den p (gN a k)]) (k + 1) (i + 1)) := by
  obtain ⟨hm, hcut⟩ := h.cut.some hr.p hl hf
  subst hm
  have hlo := hr.l l (List.mem_of_getElem? hl)
  have ht0 := hlo.t
  have ho := hlo.o
  have hto : 0 ≤ l.to ∧ l.to.toNat < a.length := by have := hlo.f; omega
  have hfit := hW.f m l p hl hp
  have eq := h.eq
  have hgk : gA a l.fr = gN a k := by rw [hf, gA_nat]
  rw [dropC hl, dropC hp, lkGo_cons, hgk] at eq
  refine ⟨rfl, fun e => by rw [eq, if_neg (by rw [e]; simp)]; rfl, fun e => ?_⟩
  rw [if_pos e] at eq
  refine ⟨hto, by exact_mod_cast hcut, by rw [List.length_set]; exact h.len, by simp [h.dl], ?_, fun j hj => ?_⟩
  · rw [eq, show gA a l.to = gN a l.to.toNat from rfl]
    cases lkGo (r.ls.drop (m + 1)) (W.drop (m + 1)) (a.set l.to.toNat (gN a l.to.toNat + outF l.ws l.den p (gN a k))) <;> simp
  · rw [List.length_set] at hj
    have hout := out_in hlo.r hfit e
    have hb := h.b j hj
    have hbt := h.b l.to.toNat hto.2
    have e3 : ((m + 1 : Nat) : Int) = (m : Int) + 1 := by omega
    rw [gN_set hto.2]
    split <;> omega
theorem refI.done {r : Rv} {W : List Ls} {loc a : Ls} {d : List Ls} {k i : Nat} (h : refI r W loc a d k i) (hr : RvOk r) (hN : (a.length : Int) = r.n) (hk : a.length ≤ k) : lkGo r.ls W loc = some (d, a) ∧ d.length = r.ls.length := by
  have hi := h.cut.end_ (n := r.n) (fun x hx => by have h1 := (hr.l x hx).o; have h2 := (hr.l x hx).t; omega) (by omega)
  have eq := h.eq
  rw [hi, List.drop_length] at eq
  refine ⟨?_, by rw [h.dl, hi]⟩
  rw [eq]
  cases W.drop r.ls.length <;> simp [lkGo]
end Go.Proofs
