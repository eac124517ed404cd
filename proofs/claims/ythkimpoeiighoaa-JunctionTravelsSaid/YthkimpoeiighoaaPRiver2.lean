/- Proved here: what functions of the given program come to, and the plain laws of it; no condition but those in the theorems. -/
import Derived.Test.YthkimpoeiighoaaD17
import Derived.Test.YthkimpoeiighoaaPRiver
import Derived.Test.YthkimpoeiighoaaAbsS
namespace Go.Proofs
open Go Go.Abs
set_option linter.unusedSimpArgs false
set_option linter.unusedVariables false
set_option maxRecDepth 4000
abbrev kO (k : Int) : List MObj := [.blk [IC k]]
def R_link1 : RG := fun args os k => ∃ (l : Lk) (x : Int), args = [.agg (lkC l), .c (.ptr (.x 0) 0)] ∧ os = kO x ∧ k (Bo (decide (l.fr = x))) (kO x)
theorem link1_ok : FunG Try.prog 62 R_link1 := by
  intro args os k h
  obtain ⟨l, x, rfl, rfl, hk⟩ := h
  refine doesG_ex (qc := qc1) (np := []) (CK := ckK []) mixed Try.func62 rfl rfl Try.ntmps62 Try.results62 τ_ok (by kernel_rfl) (ckK_ok trivial) (by simp) rfl rfl ?_
  conv => whnf
  exact ⟨rfl, rfl, hk⟩
def R_idxL : RG := fun args os k => ∃ (ls : List Lk) (x : Int), args = [.c (.lst (eK ls)), .c (.fn 62 [.ptr (.x 0) 0])] ∧ os = kO x ∧ ls.length ≤ 9223372036854775807 ∧ k (I (lnk ls x)) (kO x)
theorem kI1 {k : AV → List MObj → Prop} {a b : Int} {o : List MObj} (h : k (I a) o) (e : a = b) : k (I b) o := e ▸ h
theorem idxL_ok : FunG Try.prog 61 R_idxL := by
  intro args os k h
  obtain ⟨ls, x, rfl, rfl, hl, hk⟩ := h
  have hm := eK_len ls
  refine doesG_ex (qc := qc1) (np := []) (CK := ckK [(62, cGr R_link1)]) mixed Try.func61 rfl rfl Try.ntmps61 Try.results61 τ_ok (by kernel_rfl) (ckK_ok ⟨cGr_ok link1_ok, trivial⟩) (by simp) rfl rfl ?_
  conv => whnf
  refine ⟨Nat, fun i => ([(0, .c (.lst (eK ls))), (1, .c (.fn 62 [.ptr (.x 0) 0])), (7, I (eK ls).length), (8, I i)], ⟨[(.x 0, .blk [IC x])], 9, []⟩),
    fun i => i ≤ ls.length ∧ lnk ls x = lnGo x i (ls.drop i), fun i => ls.length - i, 0, ⟨Nat.zero_le _, rfl⟩, Shift.reset ⟨rfl, rfl, rfl, rfl, trivial⟩ ⟨rfl, trivial⟩ rfl rfl, fun i hi => ?_⟩
  obtain ⟨hi1, hi2⟩ := hi
  dsimp only
  conv => whnf
  refine Fork.mk (fun h => ?_) (fun h => ?_)
  rotate_left
  · have hie : i = ls.length := by simp at h; omega
    rw [hie, List.drop_length] at hi2
    conv => whnf
    exact ⟨rfl, rfl, kI1 hk (by rw [hi2]; rfl)⟩
  have hi : i < ls.length := by simp at h; omega
  clear h
  have hci := List.getElem?_eq_getElem hi
  generalize ls[i] = l at hci
  rw [dropC hci, lnGo] at hi2
  have hw1 := wr_succ (i := i) (by omega)
  conv => whnf
  refine ⟨by omega, lkC l, by rw [Int.toNat_natCast, List.getElem?_map, hci]; rfl, rfl, ?_⟩
  conv => whnf
  refine ⟨[.x 0], rfl, rfl, ?_⟩
  conv => whnf
  refine ⟨rfl, ?_⟩
  conv => whnf
  refine ⟨l, x, rfl, rfl, ?_⟩
  conv => whnf
  refine ⟨rfl, ?_⟩
  conv => whnf
  refine Fork.mk (fun h => ?_) (fun h => ?_)
  · rw [if_pos (by simpa using h)] at hi2
    conv => whnf
    exact ⟨rfl, rfl, kI1 hk hi2⟩
  rw [if_neg (by simpa using h)] at hi2
  clear h
  conv => whnf
  rw [hw1]
  exact ⟨i + 1, ⟨hi, hi2⟩, Shift.reset ⟨rfl, rfl, rfl, rfl, trivial⟩ ⟨rfl, trivial⟩ rfl rfl, by omega⟩
def R_lnk : RT := fun args k => ∃ (r : Rv) (x : Int), args = [.agg (rvC r), I x] ∧ r.ls.length ≤ 9223372036854775807 ∧ k (I (lnk r.ls x))
theorem link_ok : FunR Try.prog 58 R_lnk := by
  intro args k h
  obtain ⟨r, x, rfl, hl, hk⟩ := h
  refine does_ex (qc := qc1) (np := []) (CK := ckK [(61, cGr R_idxL)]) mixed Try.func58 rfl rfl Try.ntmps58 Try.results58 τ_ok (by kernel_rfl) (ckK_ok ⟨cGr_ok idxL_ok, trivial⟩) (by simp) ?_
  conv => whnf
  refine ⟨[.l 3 1], rfl, rfl, ?_⟩
  conv => whnf
  refine ⟨rfl, ?_⟩
  conv => whnf
  refine ⟨r.ls, x, rfl, rfl, hl, ?_⟩
  conv => whnf
  refine ⟨rfl, ?_⟩
  conv => whnf
  exact hk
theorem leav_ok : FunR Try.prog 48 R_lnk := by
  intro args k h
  obtain ⟨r, x, rfl, hl, hk⟩ := h
  have hm := eK_len r.ls
  refine does_ex (qc := qc1) (np := []) (CK := ckK []) mixed Try.func48 rfl rfl Try.ntmps48 Try.results48 τ_ok (by kernel_rfl) (ckK_ok trivial) (by simp) ?_
  conv => whnf
  refine ⟨Nat, fun i => ([(1, I x), (8, .c (.lst (eK r.ls))), (9, I (eK r.ls).length), (10, I i)], ⟨[], 9, []⟩),
    fun i => i ≤ r.ls.length ∧ lnk r.ls x = lnGo x i (r.ls.drop i), fun i => r.ls.length - i, 0, ⟨Nat.zero_le _, rfl⟩, Shift.reset ⟨rfl, rfl, rfl, rfl, trivial⟩ trivial rfl rfl, fun i hi => ?_⟩
  obtain ⟨hi1, hi2⟩ := hi
  dsimp only
  conv => whnf
  refine Fork.mk (fun h => ?_) (fun h => ?_)
  rotate_left
  · have hie : i = r.ls.length := by simp at h; omega
    rw [hie, List.drop_length] at hi2
    conv => whnf
    exact kI hk (by rw [hi2]; rfl)
  have hi : i < r.ls.length := by simp at h; omega
  clear h
  have hci := List.getElem?_eq_getElem hi
  generalize r.ls[i] = l at hci
  rw [dropC hci, lnGo] at hi2
  have hw1 := wr_succ (i := i) (by omega)
  conv => whnf
  refine ⟨by omega, lkC l, by rw [Int.toNat_natCast, List.getElem?_map, hci]; rfl, rfl, ?_⟩
  conv => whnf
  refine Fork.mk (fun h => ?_) (fun h => ?_)
  · rw [if_pos (by simpa using h)] at hi2
    conv => whnf
    exact kI hk hi2
  rw [if_neg (by simpa using h)] at hi2
  clear h
  conv => whnf
  rw [hw1]
  exact ⟨i + 1, ⟨hi, hi2⟩, Shift.reset ⟨rfl, rfl, rfl, rfl, trivial⟩ trivial rfl rfl, by omega⟩
def R_clone : RT := fun args k => ∃ l : Ls, args = [.c (.lst (eL l))] ∧ l.length ≤ 1000000 ∧ k (.c (.lst (eL l)))
theorem clone_ok : FunR Try.prog 41 R_clone := by
  intro args k h
  obtain ⟨l, rfl, hl, hk⟩ := h
  rcases l with _ | ⟨x, l⟩
  · refine ⟨.c (.lst []), ?_, hk⟩
    refine does_nilcmp (qc := qc1) (np := []) (CK := ckK []) mixed Try.func41 rfl rfl Try.ntmps41 (by omega) Try.results41 τ_ok (e := 3) (by kernel_rfl) (by kernel_rfl) (by kernel_rfl) (ckK_ok trivial) ?_
    conv => whnf
    refine ⟨rfl, rfl, ?_, ?_⟩
    · conv => whnf
      (repeat ((first | refine fork_t ?_ | refine fork_f ?_); (conv => whnf)))
      rfl
    · conv => whnf
      (repeat ((first | refine fork_t ?_ | refine fork_f ?_); (conv => whnf)))
      refine ⟨rfl, ?_⟩
      conv => whnf
      refine ⟨⟨rfl, rfl, rfl, rfl, by simp⟩, ?_⟩
      conv => whnf
      refine ⟨by simp, ?_⟩
      rfl
  have hm := eL_len (x :: l)
  refine does_ex (qc := qc1) (np := []) (CK := ckK []) mixed Try.func41 rfl rfl Try.ntmps41 Try.results41 τ_ok (by kernel_rfl) (ckK_ok trivial) (by simp) ?_
  conv => whnf
  (repeat ((first | refine fork_t ?_ | refine fork_f ?_); (conv => whnf)))
  refine ⟨eL_all _, ?_⟩
  conv => whnf
  refine ⟨⟨rfl, rfl, rfl, rfl, by show (0 + (eL (x :: l)).length) * 8 ≤ _; omega⟩, ?_⟩
  conv => whnf
  refine ⟨by simp, ?_⟩
  have e : List.take (([] : List (List Cell)).length + (eL (x :: l)).length) (List.drop 0 ([] ++ eL (x :: l))) = eL (x :: l) := by rw [List.drop_zero, List.nil_append, List.length_nil, Nat.zero_add, List.take_length]
  show k (.c (.lst (List.take (([] : List (List Cell)).length + (eL (x :: l)).length) (List.drop 0 ([] ++ eL (x :: l))))))
  rw [e]
  exact hk
end Go.Proofs

/- Rivers: a step node by node. No program. -/
namespace Go.Proofs
open Go Go.Abs
set_option linter.unusedSimpArgs false
set_option linter.unusedVariables false
def gN (a : Ls) (j : Nat) : Int := a.getD j 0
theorem gN_at {a : Ls} {j : Nat} {v : Int} (h : a[j]? = some v) : gN a j = v := by rw [gN, List.getD_eq_getElem?_getD, h]; rfl
theorem gN_get {a : Ls} {j : Nat} (h : j < a.length) : a[j]? = some (gN a j) := by
  have c := List.getElem?_eq_getElem h
  rw [gN_at c]; exact c
theorem gA_nat (a : Ls) (j : Nat) : gA a (j : Int) = gN a j := by rw [gA, Int.toNat_natCast]; rfl
theorem gN_set {a : Ls} {i j : Nat} {v : Int} (h : i < a.length) : gN (a.set i v) j = if j = i then v else gN a j := by
  unfold gN
  rw [List.getD_eq_getElem?_getD, List.getD_eq_getElem?_getD, List.getElem?_set]
  by_cases e : i = j
  · subst e; rw [if_pos rfl, if_pos h, if_pos rfl]; rfl
  · rw [if_neg e, if_neg (Ne.symm e)]
/-- What is at the nodes, with what is still to be added. -/
def atS (loc arr : Ls) (k : Nat) : Ls := tab arr.length fun j => gN arr j + if j < k then 0 else gN loc j
theorem atS_len (loc arr : Ls) (k : Nat) : (atS loc arr k).length = arr.length := tab_len _ _
theorem atS_get {loc arr : Ls} {k j : Nat} (h : j < arr.length) : gN (atS loc arr k) j = gN arr j + if j < k then 0 else gN loc j := gN_at (tab_get h)
theorem atS_none {loc arr : Ls} {k : Nat} (h : k < arr.length) : atS loc (arr.set k (gN arr k + gN loc k)) (k + 1) = atS loc arr k := by
  unfold atS
  rw [List.length_set]
  refine tab_ext fun j hj => ?_
  rw [gN_set h]
  by_cases e : j = k
  · subst e; rw [if_pos rfl, if_pos (by omega), if_neg (by omega)]; omega
  · rw [if_neg e]
    by_cases e2 : j < k
    · rw [if_pos (by omega), if_pos e2]
    · rw [if_neg (by omega), if_neg e2]
theorem atS_set {loc arr : Ls} {k t : Nat} {v : Int} (h : t < arr.length) (hk : k ≤ t) : atS loc (arr.set t (gN arr t + v)) k = (atS loc arr k).set t (gN (atS loc arr k) t + v) := by
  rw [atS_get h, if_neg (by omega)]
  unfold atS
  rw [tab_set, List.length_set]
  refine tab_ext fun j hj => ?_
  rw [gN_set h]
  by_cases e : j = t
  · subst e; rw [if_pos rfl, if_pos rfl, if_neg (by omega)]; omega
  · rw [if_neg e, if_neg e]
theorem atS_end {loc arr : Ls} {k : Nat} (h : arr.length ≤ k) : atS loc arr k = arr := by
  apply List.ext_getElem?
  intro j
  by_cases hj : j < arr.length
  · unfold atS
    rw [tab_get hj, if_pos (by omega), Int.add_zero, gN_get hj]
  · rw [List.getElem?_eq_none (by rw [atS_len]; omega), List.getElem?_eq_none (by omega)]
theorem atS_zero {loc : Ls} {n : Nat} (h : loc.length = n) : atS loc (List.replicate n 0) 0 = loc := by
  apply List.ext_getElem?
  intro j
  by_cases hj : j < n
  · unfold atS
    rw [List.length_replicate, tab_get hj, if_neg (by omega), gN_at (a := List.replicate n 0) (v := 0) (by simp [hj]), Int.zero_add, gN_get (by omega)]
  · rw [List.getElem?_eq_none (by rw [atS_len, List.length_replicate]; omega), List.getElem?_eq_none (by omega)]
structure passI (r : Rv) (W : List Ls) (loc arr : Ls) (w : List Ls) (k i : Nat) : Prop where
  cut : cutK r.ls k i
  len : arr.length = loc.length
  wl : w.length = W.length
  wd : ∀ j, i ≤ j → w[j]? = W[j]?
  eq : lkGo r.ls W loc = (lkGo (r.ls.drop i) (W.drop i) (atS loc arr k)).map fun x => (w.take i ++ x.1, x.2)
  inq : ∀ j, j < k → inQ (gN loc j) = true
  b : ∀ j, j < arr.length → 0 ≤ gN arr j ∧ gN arr j + (if j < k then 0 else 1073741824) ≤ 1073741824 + 1125899906842624 * (i : Int)
  fit : WvOk r w
theorem passI.zero {r : Rv} {W : List Ls} {loc : Ls} {n : Nat} (hr : RvOk r) (hw : WvOk r W) (hl : loc.length = n) : passI r W loc (List.replicate n 0) W 0 0 := by
  refine ⟨⟨Nat.zero_le _, fun j x h => by omega, fun j x _ e => (hr.l x (List.mem_of_getElem? e)).f⟩, by simp [hl], rfl, fun _ _ => rfl, ?_, fun j h => by omega, fun j h => ?_, hw⟩
  · rw [atS_zero hl, List.drop_zero, List.drop_zero]
    cases lkGo r.ls W loc <;> simp
  · rw [List.length_replicate] at h
    rw [gN_at (v := 0) (by simp [h]), if_neg (by omega)]
    omega
theorem passI.bound {r : Rv} {W : List Ls} {loc arr : Ls} {w : List Ls} {k i : Nat} (h : passI r W loc arr w k i) (hr : RvOk r) : ∀ j, j < arr.length → 0 ≤ gN arr j ∧ gN arr j ≤ 72057594037927936 := fun j hj => by
  have hb := h.b j hj
  have := h.cut.n
  have := hr.len
  split at hb <;> omega
theorem inQ_in {x : Int} (h : inQ x = true) : 0 ≤ x ∧ x ≤ 1073741824 := by simpa [inQ] using h
theorem passI.nol {r : Rv} {W : List Ls} {loc arr : Ls} {w : List Ls} {k i : Nat} (h : passI r W loc arr w k i) (hk : k < arr.length) (hq : inQ (gN loc k) = true) (hl : lnk r.ls k = -1) : passI r W loc (arr.set k (gN arr k + gN loc k)) w (k + 1) i := by
  refine ⟨by have := h.cut.none hl; exact_mod_cast this, by rw [List.length_set]; exact h.len, h.wl, h.wd, by rw [atS_none hk]; exact h.eq, fun j hj => ?_, fun j hj => ?_, h.fit⟩
  · rcases Nat.lt_or_ge j k with e | e
    · exact h.inq j e
    · rw [show j = k by omega]; exact hq
  · rw [List.length_set] at hj
    have hb := h.b j hj
    have := inQ_in hq
    rw [gN_set hk]
    by_cases e : j = k
    · subst e
      rw [if_pos rfl, if_pos (by omega)]
      rw [if_neg (by omega)] at hb
      omega
    · rw [if_neg e]
      by_cases e2 : j < k
      · rw [if_pos (by omega)]; rw [if_pos e2] at hb; exact hb
      · rw [if_neg (by omega)]; rw [if_neg e2] at hb; exact hb
theorem lkGo_cons (l : Lk) (r : List Lk) (w : Ls) (ws : List Ls) (a : Ls) : lkGo (l :: r) (w :: ws) a = if stG l w (gA a l.fr) = true then
      (lkGo r ws (a.set l.to.toNat (gA a l.to + outF l.ws l.den w (gA a l.fr)))).map fun x => (stepF l.ws l.den w (gA a l.fr) :: x.1, x.2)
    else none := rfl
/-- A link's step. -/
theorem passI.link {r : Rv} {W : List Ls} {loc arr : Ls} {w : List Ls} {k i m : Nat} {l : Lk} {p : Ls} (hr : RvOk r) (h : passI r W loc arr w k i) (hN : (arr.length : Int) = r.n) (hk : k < arr.length) (hq : inQ (gN loc k) = true) (hl : r.ls[m]? = some l) (hf : l.fr = k) (hp : w[m]? = some p) :
    (stG l p (gN arr k + gN loc k) = false → lkGo r.ls W loc = none) ∧
    (stG l p (gN arr k + gN loc k) = true → (0 ≤ l.to ∧ l.to.toNat < arr.length) ∧ passI r W loc ((arr.set k (gN arr k + gN loc k)).set l.to.toNat (gN (arr.set k (gN arr k + gN loc k)) l.to.toNat + outF l.ws l.den p (gN arr k + gN loc k))) (w.set m (stepF l.ws l.den p (gN arr k + gN loc k))) (k + 1) (i + 1)) := by
  have h0 := h
  obtain ⟨hm, hcut⟩ := h.cut.some hr.p hl hf
  subst hm
  have hlo := hr.l l (List.mem_of_getElem? hl)
  have ht0 := hlo.t
  have ho := hlo.o
  have hto : 0 ≤ l.to ∧ l.to.toNat < arr.length := by have := hlo.f; omega
  have hWp : W[m]? = some p := by rw [← h.wd m (Nat.le_refl _)]; exact hp
  have hmW : m < w.length := (List.getElem?_eq_some_iff.1 hp).1
  have hfit := h.fit.f m l p hl hp
  have eq := h.eq
  have hgk : gA (atS loc arr k) l.fr = gN arr k + gN loc k := by
    rw [hf, gA_nat, atS_get hk, if_neg (by omega)]
  rw [dropC hl, dropC hWp, lkGo_cons, hgk] at eq
  refine ⟨fun e => by rw [eq, if_neg (by rw [e]; simp)]; rfl, fun e => ?_⟩
  rw [if_pos e] at eq
  refine ⟨hto, ?_⟩
  have hout := out_in hlo.r hfit e
  generalize hq2 : gN arr k + gN loc k = q at *
  generalize hO : outF l.ws l.den p q = o at *
  generalize hS : stepF l.ws l.den p q = p' at *
  have hkt : k + 1 ≤ l.to.toNat := by omega
  have hA : (atS loc arr k).set l.to.toNat (gA (atS loc arr k) l.to + o) = atS loc ((arr.set k q).set l.to.toNat (gN (arr.set k q) l.to.toNat + o)) (k + 1) := by
    rw [atS_set (by rw [List.length_set]; exact hto.2) hkt, ← hq2, atS_none hk]
    rfl
  refine ⟨by exact_mod_cast hcut, by rw [List.length_set, List.length_set]; exact h.len, by rw [List.length_set]; exact h.wl, fun j hj => ?_, ?_, fun j hj => ?_, fun j hj => ?_, ⟨by rw [List.length_set]; exact h.fit.l, fun j a v ha hv => ?_⟩⟩
  · rw [List.getElem?_set, if_neg (by omega)]
    exact h.wd j (by omega)
  · rw [eq, hA]
    have ht : (w.set m p').take (m + 1) = w.take m ++ [p'] := by
      rw [List.take_add_one, List.getElem?_set, if_pos rfl, if_pos hmW]
      simp [List.take_set_of_le]
    rw [ht]
    cases lkGo (r.ls.drop (m + 1)) (W.drop (m + 1)) (atS loc ((arr.set k q).set l.to.toNat (gN (arr.set k q) l.to.toNat + o)) (k + 1)) <;> simp
  · rcases Nat.lt_or_ge j k with e' | e'
    · exact h.inq j e'
    · rw [show j = k by omega]; exact hq
  · rw [List.length_set, List.length_set] at hj
    have hb := h.b j hj
    have hbk := h.b k hk
    have hbt := h.b l.to.toNat hto.2
    rw [if_neg (by omega)] at hbk hbt
    have := inQ_in hq
    have e3 : ((m + 1 : Nat) : Int) = (m : Int) + 1 := by omega
    rw [gN_set (by rw [List.length_set]; exact hto.2), gN_set hk, gN_set hk, if_neg (by omega : ¬ l.to.toNat = k)]
    by_cases e1 : j = l.to.toNat
    · subst e1
      rw [if_pos rfl, if_neg (by omega)]
      omega
    · rw [if_neg e1]
      by_cases e2 : j = k
      · subst e2
        rw [if_pos rfl, if_pos (by omega)]
        omega
      · rw [if_neg e2]
        by_cases e3 : j < k
        · rw [if_pos (by omega)]; rw [if_pos e3] at hb; omega
        · rw [if_neg (by omega)]; rw [if_neg e3] at hb; omega
  · rw [List.getElem?_set] at hv
    by_cases e1 : m = j
    · subst e1
      rw [if_pos rfl, if_pos hmW] at hv
      simp at hv
      subst hv
      rw [hl] at ha
      cases ha
      obtain ⟨s0, s1, s2⟩ := stG_ok e
      rw [← hS]
      have hz := step_fits hlo.r hfit s0 s1 s2
      exact hz
    · rw [if_neg e1] at hv
      exact h.fit.f j a v ha hv
theorem passI.done {r : Rv} {W : List Ls} {loc arr : Ls} {w : List Ls} {k i : Nat} (h : passI r W loc arr w k i) (hr : RvOk r) (hW : WvOk r W) (hN : (arr.length : Int) = r.n) (hk : arr.length ≤ k) : lkGo r.ls W loc = some (w, arr) ∧ loc.all inQ = true := by
  have hi := h.cut.end_ (n := r.n) (fun x hx => by have h1 := (hr.l x hx).o; have h2 := (hr.l x hx).t; omega) (by omega)
  have eq := h.eq
  rw [hi, List.drop_length, atS_end hk] at eq
  refine ⟨?_, List.all_eq_true.2 fun x hx => ?_⟩
  · rw [eq, show w.take r.ls.length = w from List.take_of_length_le (by rw [h.fit.l]; exact Nat.le_refl _)]
    cases W.drop r.ls.length <;> simp [lkGo]
  · obtain ⟨j, hj⟩ := List.getElem?_of_mem hx
    have := (List.getElem?_eq_some_iff.1 hj).1
    have h2 := h.inq j (by have := h.len; omega)
    rw [gN_at hj] at h2
    exact h2
theorem passX_bad {r : Rv} {w : List Ls} {loc : Ls} (hl : (loc.length : Int) = r.n) (h : loc.all inQ = false ∨ lkGo r.ls w loc = none) : passX r w loc = .error 1 := by
  rw [passX, if_neg (by omega)]
  by_cases e : loc.all inQ = false
  · rw [if_pos e]
  · rw [if_neg e]
    rcases h with h | h
    · exact absurd h e
    · rw [h]
theorem passX_ok {r : Rv} {w : List Ls} {loc : Ls} {x : List Ls × Ls} (hl : (loc.length : Int) = r.n) (h : loc.all inQ = true) (h2 : lkGo r.ls w loc = some x) : passX r w loc = .ok x := by
  rw [passX, if_neg (by omega), if_neg (by rw [h]; simp), h2]
theorem all_false {loc : Ls} {k : Nat} (hk : k < loc.length) (h : inQ (gN loc k) = false) : loc.all inQ = false := by
  cases e : loc.all inQ with
  | false => rfl
  | true =>
    have := List.all_eq_true.1 e _ (List.mem_of_getElem? (gN_get hk))
    rw [h] at this; cases this
/-! Contracts of a step. -/
abbrev visO (ti tw N M : Nat) (r : Rv) (loc arr : Ls) (w : List Ls) : List MObj := [.blk [.lst (eL loc)], .blk [.view (.x 4) 0 N], .blk (rvC r), .blk [.view (.x 5) 0 M], .arr ti 1 (eL arr) false, .arr tw 1 (eV w) false]
structure visP (r : Rv) (loc arr : Ls) (w : List Ls) (k : Nat) : Prop where
  hr : RvOk r
  hw : WvOk r w
  hf : r.fin
  hv : vfin w
  hk : k < arr.length
  hl : loc.length = arr.length
  hn : (arr.length : Int) = r.n
  hb : ∀ j, j < arr.length → 0 ≤ gN arr j ∧ gN arr j ≤ 72057594037927936
def R_vis (ti tw : Nat) : RG := fun args os K => ∃ (r : Rv) (loc arr : Ls) (w : List Ls) (k : Nat), args = [I k, .c (.ptr (.x 0) 0), .c (.ptr (.x 1) 0), .c (.ptr (.x 2) 0), .c (.ptr (.x 3) 0)] ∧ os = visO ti tw arr.length w.length r loc arr w ∧ visP r loc arr w k ∧
  (inQ (gN loc k) = false → K (I 1) (visO ti tw arr.length w.length r loc arr w)) ∧
  (inQ (gN loc k) = true → lnk r.ls k = -1 → K (I 0) (visO ti tw arr.length w.length r loc (arr.set k (gN arr k + gN loc k)) w)) ∧
  (inQ (gN loc k) = true → ∀ (i : Nat) l p, lnk r.ls k = i → l.fr = (k : Int) → r.ls[i]? = some l → w[i]? = some p →
    (stG l p (gN arr k + gN loc k) = false → K (I 1) (visO ti tw arr.length w.length r loc (arr.set k (gN arr k + gN loc k)) w)) ∧
    (stG l p (gN arr k + gN loc k) = true → K (I 0) (visO ti tw arr.length w.length r loc ((arr.set k (gN arr k + gN loc k)).set l.to.toNat (gN (arr.set k (gN arr k + gN loc k)) l.to.toNat + outF l.ws l.den p (gN arr k + gN loc k))) (w.set i (stepF l.ws l.den p (gN arr k + gN loc k))))))
def R_psJ (tw : Nat) : RG := fun args os K => ∃ (r : Rv) (loc : Ls) (w : List Ls), args = [.agg (rvC r), .c (.view (.x 0) 0 w.length), .c (.lst (eL loc))] ∧ os = [.arr tw 1 (eV w) false] ∧ RvOk r ∧ WvOk r w ∧ r.fin ∧ vfin w ∧ loc.length ≤ 9223372036854775807 ∧
  (∀ x, passX r w loc = .ok x → K (.tup [.c (.lst (eL x.2)), I 0]) [.arr tw 1 (eV x.1) false]) ∧
  (∀ e, passX r w loc = .error e → e ≠ 0 → ∀ w' : List Ls, w'.length = w.length → K (.tup [.c (.lst []), I e]) [.arr tw 1 (eV w') false])
end Go.Proofs
