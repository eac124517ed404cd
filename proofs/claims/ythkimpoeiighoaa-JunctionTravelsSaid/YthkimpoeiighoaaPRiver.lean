/- Rivers: links, waves, what passes in a step. No program. -/
import Derived.Test.YthkimpoeiighoaaPReach
namespace Go.Proofs
open Go Go.Abs
set_option linter.unusedSimpArgs false
set_option linter.unusedVariables false
structure Lk where
  fr : Int
  to : Int
  ws : Ls
  den : Int
structure Rv where
  n : Int
  ls : List Lk
def lkC (l : Lk) : List Cell := [IC l.fr, IC l.to, .lst (eL l.ws), IC l.den]
abbrev eK (l : List Lk) : List (List Cell) := l.map lkC
theorem eK_len (l : List Lk) : (eK l).length = l.length := List.length_map _
def rvC (r : Rv) : List Cell := [IC r.n, .lst (eK r.ls)]
def wvC (p : Ls) : List Cell := [.lst (eL p)]
abbrev eV (l : List Ls) : List (List Cell) := l.map wvC
theorem eV_len (l : List Ls) : (eV l).length = l.length := List.length_map _
def Rv.fin (r : Rv) : Prop := r.ls.length ≤ 9223372036854775807 ∧ ∀ l ∈ r.ls, l.ws.length ≤ 9223372036854775807
def vfin (w : List Ls) : Prop := w.length ≤ 9223372036854775807 ∧ ∀ p ∈ w, p.length ≤ 9223372036854775807
theorem dropC {α : Type} {l : List α} {i : Nat} {v : α} (h : l[i]? = some v) : l.drop i = v :: l.drop (i + 1) := by
  obtain ⟨hi, rfl⟩ := List.getElem?_eq_some_iff.1 h
  exact List.drop_eq_getElem_cons hi
/-! What is valid. -/
def inN (n x : Int) : Bool := decide (0 ≤ x) && decide (x ≤ n - 1)
def qleR : Option Int → Int → Bool
  | none, _ => false
  | some q, x => decide (x ≤ q)
def lkE (n : Int) : Option Int → List Lk → Int
  | _, [] => 0
  | q, l :: r => if (inN n l.fr && inN n l.to) = false then 11 else if l.to ≤ l.fr then 12 else if qleR q l.fr = true then 4 else if rkCheck l.ws l.den ≠ 0 then rkCheck l.ws l.den else lkE n (some l.fr) r
theorem lkE_cons (n : Int) (q : Option Int) (l : Lk) (r : List Lk) : lkE n q (l :: r) = if (inN n l.fr && inN n l.to) = false then 11 else if l.to ≤ l.fr then 12 else if qleR q l.fr = true then 4 else if rkCheck l.ws l.den ≠ 0 then rkCheck l.ws l.den else lkE n (some l.fr) r := rfl
def rvE (r : Rv) : Int := if r.n < 1 ∨ 40 < r.n then 3 else lkE r.n none r.ls
structure LkOk (n : Int) (l : Lk) : Prop where
  f : 0 ≤ l.fr
  o : l.fr < l.to
  t : l.to < n
  r : rkCheck l.ws l.den = 0
theorem lkE_ok {n : Int} : ∀ {l : List Lk} {q : Option Int}, lkE n q l = 0 → (∀ x ∈ l, LkOk n x) ∧ (∀ p, q = some p → ∀ x ∈ l, p < x.fr) ∧ l.Pairwise (fun a b => a.fr < b.fr)
  | [], q, _ => ⟨fun x h => by simp at h, fun p _ x h => by simp at h, .nil⟩
  | a :: l, q, h => by
    rw [lkE_cons] at h
    split at h
    · omega
    rename_i h1
    split at h
    · omega
    rename_i h2
    split at h
    · omega
    rename_i h3
    split at h
    · rename_i e; exact absurd h e
    rename_i h4
    obtain ⟨i1, i2, i3⟩ := lkE_ok h
    simp [inN] at h1
    refine ⟨fun x hx => ?_, fun p e x hx => ?_, List.pairwise_cons.2 ⟨fun b hb => i2 _ rfl b hb, i3⟩⟩
    · rcases List.mem_cons.1 hx with rfl | hx
      · exact ⟨by omega, by omega, by omega, by omega⟩
      · exact i1 x hx
    · subst e
      have hp : p < a.fr := by simp [qleR] at h3; omega
      rcases List.mem_cons.1 hx with rfl | hx
      · exact hp
      · have := i2 _ rfl x hx; omega
structure RvOk (r : Rv) : Prop where
  n : 1 ≤ r.n ∧ r.n ≤ 40
  l : ∀ x ∈ r.ls, LkOk r.n x
  p : r.ls.Pairwise (fun a b => a.fr < b.fr)
theorem rvE_ok {r : Rv} (h : rvE r = 0) : RvOk r := by
  unfold rvE at h
  split at h
  · omega
  rename_i h1
  obtain ⟨h2, _, h3⟩ := lkE_ok h
  exact ⟨by omega, h2, h3⟩
theorem lkE_of {n : Int} : ∀ {l : List Lk} {q : Option Int}, (∀ x ∈ l, LkOk n x) → (∀ p, q = some p → ∀ x ∈ l, p < x.fr) → l.Pairwise (fun a b => a.fr < b.fr) → lkE n q l = 0
  | [], q, _, _, _ => rfl
  | a :: l, q, h1, h2, h3 => by
    obtain ⟨p1, p2⟩ := List.pairwise_cons.1 h3
    have ha := h1 a (by simp)
    have := ha.f
    have := ha.o
    have := ha.t
    rw [lkE_cons, if_neg (by simp [inN]; omega), if_neg (by omega), if_neg, if_neg (by simp [ha.r])]
    · exact lkE_of (fun x hx => h1 x (by simp [hx])) (fun p e x hx => by simp at e; subst e; exact p1 x hx) p2
    · cases q with
      | none => simp [qleR]
      | some p => have := h2 p rfl a (by simp); simp [qleR]; omega
theorem rvE_of {r : Rv} (h : RvOk r) : rvE r = 0 := by
  have := h.n
  rw [rvE, if_neg (by omega)]
  exact lkE_of h.l (fun p e => by cases e) h.p
theorem pw_len {n : Int} : ∀ {l : List Lk} {a : Int}, (∀ x ∈ l, a ≤ x.fr ∧ x.fr < n) → l.Pairwise (fun a b => a.fr < b.fr) → a ≤ n → (l.length : Int) ≤ n - a
  | [], a, _, _, h => by simp; omega
  | x :: l, a, h1, h2, h => by
    obtain ⟨p1, p2⟩ := List.pairwise_cons.1 h2
    have hx := h1 x (by simp)
    have := pw_len (n := n) (l := l) (a := x.fr + 1) (fun y hy => ⟨by have := p1 y hy; omega, (h1 y (by simp [hy])).2⟩) p2 (by omega)
    rw [List.length_cons]; omega
theorem RvOk.len {r : Rv} (h : RvOk r) : (r.ls.length : Int) ≤ 40 := by
  have := pw_len (n := r.n) (a := 0) (l := r.ls) (fun x hx => ⟨(h.l x hx).f, by have := (h.l x hx).o; have := (h.l x hx).t; omega⟩) h.p (by have := h.n; omega)
  have := h.n; omega
def wvOk : List Lk → List Ls → Bool
  | l :: r, w :: ws => (decide (rkCheck l.ws l.den = 0) && fitsB l.ws.length w) && wvOk r ws
  | _, _ => true
def wvE (r : Rv) (w : List Ls) : Int := if rvE r ≠ 0 then rvE r else if w.length ≠ r.ls.length then 3 else if wvOk r.ls w = false then 3 else 0
theorem wvOk_at : ∀ {l : List Lk} {w : List Ls}, wvOk l w = true ↔ ∀ (i : Nat) a p, l[i]? = some a → w[i]? = some p → (rkCheck a.ws a.den = 0 ∧ fitsB a.ws.length p = true)
  | [], w => by simp [wvOk]
  | a :: l, [] => by simp [wvOk]
  | a :: l, p :: w => by
    rw [wvOk, Bool.and_eq_true, wvOk_at]
    constructor
    · rintro ⟨h1, h2⟩ i b q hb hq
      cases i with
      | zero => simp at hb hq; subst hb; subst hq; simpa using h1
      | succ i => exact h2 i b q (by simpa using hb) (by simpa using hq)
    · intro h
      exact ⟨by simpa using h 0 a p rfl rfl, fun i b q hb hq => h (i + 1) b q (by simpa using hb) (by simpa using hq)⟩
structure WvOk (r : Rv) (w : List Ls) : Prop where
  l : w.length = r.ls.length
  f : ∀ (i : Nat) a p, r.ls[i]? = some a → w[i]? = some p → fitsB a.ws.length p = true
theorem wvE_ok {r : Rv} {w : List Ls} (h : wvE r w = 0) : RvOk r ∧ WvOk r w := by
  unfold wvE at h
  split at h
  · rename_i e; exact absurd h e
  rename_i h1
  split at h
  · omega
  rename_i h2
  split at h
  · omega
  rename_i h3
  exact ⟨rvE_ok (by omega), ⟨by omega, fun i a p ha hp => (wvOk_at.1 (by simpa using h3) i a p ha hp).2⟩⟩
theorem wvE_of {r : Rv} {w : List Ls} (h : RvOk r) (h2 : WvOk r w) : wvE r w = 0 := by
  have e : wvOk r.ls w = true := wvOk_at.2 fun i a p ha hp => ⟨(h.l a (List.mem_of_getElem? ha)).r, h2.f i a p ha hp⟩
  rw [wvE, if_neg (by simp [rvE_of h]), if_neg (by simp [h2.l]), if_neg (by simp [e])]
/-! The link that leaves a node. -/
def lnGo (k : Int) : Nat → List Lk → Int
  | _, [] => -1
  | i, l :: r => if l.fr = k then i else lnGo k (i + 1) r
def lnk (ls : List Lk) (k : Int) : Int := lnGo k 0 ls
theorem lnGo_none {k : Int} : ∀ {l : List Lk} {i : Nat}, (∀ x ∈ l, x.fr ≠ k) → lnGo k i l = -1
  | [], _, _ => rfl
  | a :: l, i, h => by rw [lnGo, if_neg (h a (by simp)), lnGo_none fun x hx => h x (by simp [hx])]
theorem lnGo_at {k : Int} {a : Lk} (ha : a.fr = k) : ∀ {l : List Lk} {i j : Nat}, l[j]? = some a → (∀ (m : Nat) x, m < j → l[m]? = some x → x.fr ≠ k) → lnGo k i l = ((i + j : Nat) : Int)
  | [], i, j, h, _ => by simp at h
  | b :: l, i, 0, h, _ => by simp at h; subst h; rw [lnGo, if_pos ha]; rfl
  | b :: l, i, j + 1, h, hm => by
    rw [lnGo, if_neg (hm 0 b (by omega) rfl), lnGo_at ha (j := j) (by simpa using h) (fun m x hx e => hm (m + 1) x (by omega) (by simpa using e))]
    congr 1; omega
theorem lnGo_spec {k : Int} : ∀ {l : List Lk} {i : Nat}, (lnGo k i l = -1 ∧ ∀ x ∈ l, x.fr ≠ k) ∨ ∃ (j : Nat) (a : Lk), l[j]? = some a ∧ a.fr = k ∧ lnGo k i l = ((i + j : Nat) : Int)
  | [], i => .inl ⟨rfl, fun x h => by simp at h⟩
  | b :: l, i => by
    rw [lnGo]
    split
    · rename_i h; exact .inr ⟨0, b, rfl, h, rfl⟩
    · rename_i h
      rcases lnGo_spec (k := k) (l := l) (i := i + 1) with ⟨e, h2⟩ | ⟨j, a, e1, e2, e3⟩
      · exact .inl ⟨e, fun x hx => by
          rcases List.mem_cons.1 hx with rfl | hx
          · exact h
          · exact h2 x hx⟩
      · exact .inr ⟨j + 1, a, by simpa using e1, e2, by rw [e3]; congr 1; omega⟩
theorem lnk_spec (l : List Lk) (k : Int) : (lnk l k = -1 ∧ ∀ x ∈ l, x.fr ≠ k) ∨ ∃ (j : Nat) (a : Lk), l[j]? = some a ∧ a.fr = k ∧ lnk l k = j := by
  rcases lnGo_spec (k := k) (l := l) (i := 0) with h | ⟨j, a, h1, h2, h3⟩
  · exact .inl h
  · exact .inr ⟨j, a, h1, h2, by rw [lnk, h3, Nat.zero_add]⟩
/-- Links are cut at a node. -/
structure cutK (ls : List Lk) (k : Int) (i : Nat) : Prop where
  n : i ≤ ls.length
  a : ∀ (j : Nat) x, j < i → ls[j]? = some x → x.fr < k
  b : ∀ (j : Nat) x, i ≤ j → ls[j]? = some x → k ≤ x.fr
theorem cutK.none {ls : List Lk} {k : Int} {i : Nat} (h : cutK ls k i) (hl : lnk ls k = -1) : cutK ls (k + 1) i := by
  refine ⟨h.n, fun j x hj e => by have := h.a j x hj e; omega, fun j x hj e => ?_⟩
  have h1 := h.b j x hj e
  rcases lnk_spec ls k with ⟨_, h2⟩ | ⟨m, a, _, _, e3⟩
  · have := h2 x (List.mem_of_getElem? e); omega
  · omega
theorem pwK_lt {ls : List Lk} (h : ls.Pairwise (fun a b => a.fr < b.fr)) {i j : Nat} {x y : Lk} (hij : i < j) (hx : ls[i]? = some x) (hy : ls[j]? = some y) : x.fr < y.fr := by
  obtain ⟨hi, rfl⟩ := List.getElem?_eq_some_iff.1 hx
  obtain ⟨hj, rfl⟩ := List.getElem?_eq_some_iff.1 hy
  exact List.pairwise_iff_getElem.1 h i j hi hj hij
theorem cutK.some {ls : List Lk} {k : Int} {i m : Nat} {x : Lk} (h : cutK ls k i) (hp : ls.Pairwise (fun a b => a.fr < b.fr)) (hx : ls[m]? = some x) (hk : x.fr = k) : m = i ∧ cutK ls (k + 1) (i + 1) := by
  have hm := (List.getElem?_eq_some_iff.1 hx).1
  have e : m = i := by
    rcases Nat.lt_trichotomy m i with e | e | e
    · have := h.a m x e hx; omega
    · exact e
    · have hi : i < ls.length := by omega
      have c := List.getElem?_eq_getElem hi
      have h1 := h.b i _ (Nat.le_refl _) c
      have h2 := pwK_lt hp e c hx
      omega
  subst e
  refine ⟨rfl, by omega, fun j y hj e => ?_, fun j y hj e => ?_⟩
  · rcases Nat.lt_or_ge j m with hj' | hj'
    · have := h.a j y hj' e; omega
    · have : j = m := by omega
      subst this
      rw [hx] at e; cases e; omega
  · have := pwK_lt hp (show m < j by omega) hx e; omega
theorem cutK.end_ {ls : List Lk} {n k : Int} {i : Nat} (h : cutK ls k i) (hl : ∀ x ∈ ls, x.fr < n) (hk : n ≤ k) : i = ls.length := by
  rcases Nat.lt_or_ge i ls.length with e | e
  · have c := List.getElem?_eq_getElem e
    have := h.b i _ (Nat.le_refl _) c
    have := hl _ (List.getElem_mem e)
    omega
  · have := h.n; omega
/-! What passes in a step. -/
def inQ (q : Int) : Bool := decide (0 ≤ q) && decide (q ≤ 1073741824)
def stG (l : Lk) (w : Ls) (q : Int) : Bool := inQ q && stepB l.ws w q
def gA (a : Ls) (j : Int) : Int := a.getD j.toNat 0
def lkGo : List Lk → List Ls → Ls → Option (List Ls × Ls)
  | l :: r, w :: ws, a => if stG l w (gA a l.fr) = true then
      (lkGo r ws (a.set l.to.toNat (gA a l.to + outF l.ws l.den w (gA a l.fr)))).map fun x => (stepF l.ws l.den w (gA a l.fr) :: x.1, x.2)
    else none
  | _, _, a => some ([], a)
def passX (r : Rv) (w : List Ls) (loc : Ls) : Except Int (List Ls × Ls) :=
  if (loc.length : Int) ≠ r.n then .error 3 else if loc.all inQ = false then .error 1 else match lkGo r.ls w loc with
    | none => .error 1
    | some x => .ok x
def runX (r : Rv) : List Ls → List Ls → Except Int (List Ls × List Ls)
  | w, [] => .ok (w, [])
  | w, l :: ls => match passX r w l with
    | .error e => .error e
    | .ok x => match runX r x.1 ls with
      | .error e => .error e
      | .ok y => .ok (y.1, x.2 :: y.2)
def preX (o : List Ls) : Except Int (List Ls × List Ls) → Except Int (List Ls × List Ls)
  | .error e => .error e
  | .ok y => .ok (y.1, o ++ y.2)
theorem runX_ok {r : Rv} {w : List Ls} {l : Ls} {ls : List Ls} {x : List Ls × Ls} (h : passX r w l = .ok x) : runX r w (l :: ls) = preX [x.2] (runX r x.1 ls) := by
  rw [runX, h]
  show (match runX r x.1 ls with | .error e => Except.error e | .ok y => .ok (y.1, x.2 :: y.2)) = _
  cases runX r x.1 ls <;> rfl
theorem runX_err {r : Rv} {w : List Ls} {l : Ls} {ls : List Ls} {e : Int} (h : passX r w l = .error e) : runX r w (l :: ls) = .error e := by rw [runX, h]
theorem preX_app (a b : List Ls) (x : Except Int (List Ls × List Ls)) : preX a (preX b x) = preX (a ++ b) x := by cases x <;> simp [preX]
theorem preX_nil (x : Except Int (List Ls × List Ls)) : preX [] x = x := by cases x <;> simp [preX]
def runJ (r : Rv) (w ls : List Ls) : Except Int (List Ls × List Ls) := if wvE r w ≠ 0 then .error (wvE r w) else if 4096 < ls.length then .error 10 else runX r w ls
def stepJ (r : Rv) (w : List Ls) (l : Ls) : Except Int (List Ls × Ls) := if wvE r w ≠ 0 then .error (wvE r w) else passX r w l
theorem step_eq {ws : Ls} {den : Int} {ps : Ls} {q : Int} (hr : rkCheck ws den = 0) (hf : fitsB ws.length ps = true) : rkStep ws den ps q = if (inQ q && stepB ws ps q) = true then (stepF ws den ps q, outF ws den ps q, 0) else ([], 0, 1) := by
  have e : rkRun ws den ps [q] = match runGo ws den ps [q] with
    | some (p, o) => (p, o, 0)
    | none => ([], [], 1) := by unfold rkRun; rw [if_neg (by rw [hr]; simp), if_neg (by rw [hf]; simp), if_neg (by simp)]; rfl
  by_cases h : (inQ q && stepB ws ps q) = true
  · have h1 : 0 ≤ q ∧ q ≤ 1073741824 ∧ stepOk ws ps q := by
      simp [inQ] at h
      exact ⟨h.1.1, h.1.2, stepB_iff.1 h.2⟩
    rw [runGo_good h1] at e
    have e : rkRun ws den ps [q] = (stepF ws den ps q, [outF ws den ps q], 0) := e
    rw [if_pos h, rkStep, e]
    rfl
  · have h1 : ¬ (0 ≤ q ∧ q ≤ 1073741824 ∧ stepOk ws ps q) := fun ⟨a, b, c⟩ => h (by simp [inQ, a, b, stepB_iff.2 c])
    rw [runGo_bad h1] at e
    have e : rkRun ws den ps [q] = ([], [], 1) := e
    rw [if_neg h, rkStep, e]
    rfl
theorem stG_ok {l : Lk} {w : Ls} {q : Int} (h : stG l w q = true) : 0 ≤ q ∧ q ≤ 1073741824 ∧ stepOk l.ws w q := by
  simp [stG, inQ] at h
  exact ⟨h.1.1, h.1.2, stepB_iff.1 h.2⟩
theorem out_in {l : Lk} {w : Ls} {q : Int} (hr : rkCheck l.ws l.den = 0) (hf : fitsB l.ws.length w = true) (h : stG l w q = true) : 0 ≤ outF l.ws l.den w q ∧ outF l.ws l.den w q ≤ 1125899906842624 := by
  obtain ⟨h0, h1, h2⟩ := stG_ok h
  obtain ⟨a1, a2, a3, a4, a5, a6, a7⟩ := rk_facts hr
  obtain ⟨b1, b2, b3, b4⟩ := fits_facts hf
  have g0 : 0 ≤ gP l.ws w q 0 := by
    unfold gP
    have := Int.mul_nonneg h0 (a3 0).1
    have := (b4 0).1
    omega
  have g1 := h2 0 (by omega)
  unfold outF
  refine ⟨Int.ediv_nonneg g0 (by omega), ?_⟩
  have := Int.ediv_le_self l.den g0
  omega
end Go.Proofs
