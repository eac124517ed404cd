/- Proved here: what functions of the given program come to, and the plain laws of it; no condition but those in the theorems. -/
import Derived.Test.YtknjncmgohjpkaaPStorage2
import Derived.Test.YtknjncmgohjpkaaPUnit
import Derived.Test.YtknjncmgohjpkaaAbsS
import Derived.Test.YtknjncmgohjpkaaPCurve
/- Flood tables and flood rules: what the functions answer. No program. -/
namespace Go.Proofs
open Go Go.Abs
set_option linter.unusedSimpArgs false
set_option linter.unusedVariables false
structure Ft where
  lv : Ls
  inf : Ls
  rel : List Ls
def rwC (r : Ls) : List Cell := [.lst (eL r)]
abbrev eW (l : List Ls) : List (List Cell) := l.map rwC
theorem eW_len (l : List Ls) : (eW l).length = l.length := List.length_map _
def ftC (t : Ft) : List Cell := [.lst (eL t.lv), .lst (eL t.inf), .lst (eW t.rel)]
structure Fr where
  t : Ft
  bg : Int
  en : Int
  cm : Int
def frC (f : Fr) : List Cell := [.lst (eL f.t.lv), .lst (eL f.t.inf), .lst (eW f.t.rel), IC f.bg, IC f.en, IC f.cm]
structure Fs where
  on : Bool
  cm : Int
  deriving DecidableEq
def fsC (s : Fs) : List Cell := [BC s.on, IC s.cm]
structure Ft.fin (t : Ft) : Prop where
  l : t.lv.length ≤ 9223372036854775807
  i : t.inf.length ≤ 9223372036854775807
  r : t.rel.length ≤ 9223372036854775807
  w : ∀ r ∈ t.rel, r.length ≤ 9223372036854775807
def qleF : Option Int → Int → Bool
  | none, _ => false
  | some q, x => decide (x ≤ q)
def qltF : Option Int → Int → Bool
  | none, _ => false
  | some q, x => decide (x < q)
def axE (most : Int) : Option Int → Ls → Int
  | _, [] => 0
  | q, x :: l => if inB 0 most x = false then 1 else if qleF q x = true then 4 else axE most (some x) l
theorem axE_cons (most : Int) (q : Option Int) (x : Int) (l : Ls) : axE most q (x :: l) = if inB 0 most x = false then 1 else if qleF q x = true then 4 else axE most (some x) l := rfl
def abF : Option Ls → Int → Bool
  | some (y :: _), x => decide (x < y)
  | _, _ => false
def rwE : Option Int → Option Ls → Ls → Int
  | _, _, [] => 0
  | q, ab, x :: l => if inB 0 1073741824 x = false then 1 else if (qltF q x || abF ab x) = true then 4 else rwE (some x) (ab.map List.tail) l
theorem rwE_cons (q : Option Int) (ab : Option Ls) (x : Int) (l : Ls) : rwE q ab (x :: l) = if inB 0 1073741824 x = false then 1 else if (qltF q x || abF ab x) = true then 4 else rwE (some x) (ab.map List.tail) l := rfl
def rowE (l : Ls) (ab : Option Ls) (n : Int) : Int := if (l.length : Int) ≠ n then 3 else rwE none ab l
def rlE (n : Int) : Option Ls → List Ls → Int
  | _, [] => 0
  | ab, r :: rs => if rowE r ab n ≠ 0 then rowE r ab n else rlE n (some r) rs
def ckT (t : Ft) : Int := if inB 1 20 t.lv.length = false then 42 else if inB 1 20 t.inf.length = false then 42 else if axE 16777216 none t.lv ≠ 0 then axE 16777216 none t.lv else if axE 1073741824 none t.inf ≠ 0 then axE 1073741824 none t.inf else if t.rel.length ≠ t.lv.length then 3 else rlE t.inf.length none t.rel
def nextF (f : Fr) (s : Fs) (x : Int) : Fs := if f.bg ≤ x then ⟨true, 0⟩ else if s.on = false then ⟨false, 0⟩ else if f.en ≤ x then ⟨true, 0⟩ else if f.cm ≤ s.cm + 1 then ⟨false, 0⟩ else ⟨true, s.cm + 1⟩
def R_axE : RT := fun args k => ∃ (l : Ls) (m : Int), args = [.c (.lst (eL l)), I m] ∧ l.length ≤ 9223372036854775807 ∧ k (I (axE m none l))
/-- The list before, if there is one. -/
def abA : Option Ls → AV
  | none => .c (.sc (.slice none 0 0))
  | some a => .c (.lst (eL a))
def R_rowE : RG := fun args os k => ∃ (l : Ls) (ab : Option Ls) (n : Int), args = [.c (.lst (eL l)), abA ab, I n] ∧ os = [] ∧ l.length ≤ 9223372036854775807 ∧ (∀ a, ab = some a → 1 ≤ a.length ∧ (a.length : Int) = n) ∧ k (I (rowE l ab n)) []
def R_ckT : RT := fun args k => ∃ t : Ft, args = [.agg (ftC t)] ∧ t.fin ∧ k (I (ckT t))
def R_nextF : RT := fun args k => ∃ (f : Fr) (s : Fs) (x : Int), args = [.agg (frC f), .agg (fsC s), I x] ∧ (0 ≤ s.cm ∧ s.cm ≤ 4611686018427387904) ∧ k (.agg (fsC (nextF f s x)))
theorem kFs {k : AV → Prop} {s : Fs} {a : Bool} {b : Int} (h : k (.agg (fsC s))) (e : s = ⟨a, b⟩) : k (.agg [BC a, IC b]) := by subst e; exact h
/-! The last number up to another one. -/
def lgo (x : Int) : Nat → Nat → Ls → Nat
  | _, a, [] => a
  | i, a, n :: r => lgo x (i + 1) (if n ≤ x then i else a) r
def lstI (l : Ls) (x : Int) : Nat := lgo x 0 0 l
theorem lgo_big {x : Int} : ∀ {l : Ls} {i a : Nat}, (∀ y ∈ l, x < y) → lgo x i a l = a
  | [], _, _, _ => rfl
  | n :: r, i, a, h => by
    have := h n (by simp)
    rw [lgo, if_neg (by omega)]
    exact lgo_big fun y hy => h y (by simp [hy])
theorem lgo_cut {x : Int} : ∀ {l : Ls} {i a j : Nat}, j ≤ l.length → (∀ (k : Nat) y, k < j → l[k]? = some y → y ≤ x) → (∀ (k : Nat) y, j ≤ k → l[k]? = some y → x < y) → lgo x i a l = if j = 0 then a else i + j - 1
  | [], i, a, j, hj, _, _ => by simp at hj; subst hj; rfl
  | n :: r, i, a, 0, _, _, h => by
    rw [if_pos rfl]
    exact lgo_big fun y hy => by
      obtain ⟨k, hk⟩ := List.getElem?_of_mem hy
      exact h k y (Nat.zero_le _) hk
  | n :: r, i, a, j + 1, hj, h1, h2 => by
    have h0 := h1 0 n (by omega) rfl
    rw [lgo, if_pos h0, lgo_cut (j := j) (by simpa using hj) (fun k y hk e => h1 (k + 1) y (by omega) (by simpa using e)) (fun k y hk e => h2 (k + 1) y (by omega) (by simpa using e))]
    rw [if_neg (Nat.succ_ne_zero j)]
    split <;> omega
theorem lstI_lt {l : Ls} {x : Int} (h : 1 ≤ l.length) : lstI l x < l.length := by
  have key : ∀ (l : Ls) (i a : Nat), a ≤ i → lgo x i a l ≤ i + l.length ∧ (lgo x i a l = a ∨ lgo x i a l < i + l.length) := by
    intro l
    induction l with
    | nil => intro i a ha; simp [lgo, ha]
    | cons n r ih =>
      intro i a ha
      rw [lgo]
      split
      · have := ih (i + 1) i (by omega)
        simp only [List.length_cons]
        omega
      · have := ih (i + 1) a (by omega)
        simp only [List.length_cons]
        omega
  have := key l 0 0 (Nat.le_refl _)
  unfold lstI
  omega
abbrev pO (l : Ls) (x : Int) : List MObj := [.blk [.lst (eL l)], .blk [IC x]]
def R_plc1 : RG := fun args os k => ∃ (l : Ls) (x : Int) (i : Nat) (y : Int), args = [I i, .c (.ptr (.x 0) 0), .c (.ptr (.x 1) 0)] ∧ os = pO l x ∧ l.length ≤ 9223372036854775807 ∧ l[i]? = some y ∧ k (Bo (decide (x < y))) (pO l x)
structure isCut (l : Ls) (x : Int) (j : Nat) : Prop where
  n : j ≤ l.length
  a : ∀ (k : Nat) y, k < j → l[k]? = some y → y ≤ x
  b : ∀ (k : Nat) y, j ≤ k → l[k]? = some y → x < y
def R_srch (f : Nat) : RG := fun args os k => ∃ (l : Ls) (x : Int), args = [I (l.length : Int), .c (.fn f [.ptr (.x 0) 0, .ptr (.x 1) 0])] ∧ os = pO l x ∧ l.length ≤ 4611686018427387904 ∧ l.Pairwise (· < ·) ∧ ∀ j : Nat, isCut l x j → k (I j) (pO l x)
def R_place : RT := fun args k => ∃ (l : Ls) (x : Int), args = [.c (.lst (eL l)), I x] ∧ l.length ≤ 4611686018427387904 ∧ l.Pairwise (· < ·) ∧ k (I (lstI l x))
theorem pw_le {l : Ls} (h : l.Pairwise (· < ·)) {a b : Nat} {p q : Int} (hab : a ≤ b) (ha : l[a]? = some p) (hb : l[b]? = some q) : p ≤ q := by
  obtain ⟨ha', rfl⟩ := List.getElem?_eq_some_iff.1 ha
  obtain ⟨hb', rfl⟩ := List.getElem?_eq_some_iff.1 hb
  rcases Nat.eq_or_lt_of_le hab with e | e
  · subst e; exact Int.le_refl _
  · exact Int.le_of_lt (List.pairwise_iff_getElem.1 h a b ha' hb' e)
theorem axE_ok {m : Int} : ∀ {l : Ls} {q : Option Int}, axE m q l = 0 → (∀ x ∈ l, 0 ≤ x ∧ x ≤ m) ∧ (∀ x, q = some x → ∀ y ∈ l, x < y) ∧ l.Pairwise (· < ·)
  | [], q, _ => ⟨fun r h => (by simp at h), fun _ _ r h => (by simp at h), .nil⟩
  | a :: l, q, h => by
    rw [axE_cons] at h
    split at h
    · omega
    rename_i h1
    split at h
    · omega
    rename_i h2
    obtain ⟨i1, i2, i3⟩ := axE_ok h
    simp [inB] at h1
    have hq : ∀ x, q = some x → x < a := fun x e => by
      subst e
      simp [qleF] at h2
      omega
    refine ⟨fun r hr => ?_, fun x e r hr => ?_, List.pairwise_cons.2 ⟨fun b hb => i2 a rfl b hb, i3⟩⟩
    · rcases List.mem_cons.1 hr with rfl | hr
      · omega
      · exact i1 r hr
    · rcases List.mem_cons.1 hr with rfl | hr
      · exact hq x e
      · have := i2 a rfl r hr; have := hq x e; omega
theorem rlE_ok {n : Int} : ∀ {l : List Ls} {ab : Option Ls}, rlE n ab l = 0 → ∀ r ∈ l, (r.length : Int) = n
  | [], _, _, r, h => by simp at h
  | a :: l, ab, h, r, hr => by
    rw [rlE] at h
    split at h
    · rename_i e; exact absurd h e
    rename_i e
    rcases List.mem_cons.1 hr with rfl | hr
    · have e : rowE r ab n = 0 := by omega
      unfold rowE at e
      split at e
      · cases e
      · omega
    · exact rlE_ok h r hr
structure TOk (t : Ft) : Prop where
  l : 1 ≤ t.lv.length ∧ t.lv.length ≤ 20
  i : 1 ≤ t.inf.length ∧ t.inf.length ≤ 20
  lp : t.lv.Pairwise (· < ·)
  ip : t.inf.Pairwise (· < ·)
  ib : ∀ x ∈ t.inf, 0 ≤ x ∧ x ≤ 1073741824
  r : t.rel.length = t.lv.length
  w : ∀ r ∈ t.rel, r.length = t.inf.length
theorem ckT_ok' {t : Ft} (h : ckT t = 0) : TOk t := by
  unfold ckT at h
  split at h
  · omega
  split at h
  · omega
  split at h
  · rename_i e; exact absurd h e
  split at h
  · rename_i e; exact absurd h e
  split at h
  · omega
  rename_i h1 h2 h3 h4 h5
  simp [inB] at h1 h2
  have q1 := axE_ok (show axE 16777216 none t.lv = 0 by omega)
  have q2 := axE_ok (show axE 1073741824 none t.inf = 0 by omega)
  exact ⟨by omega, by omega, q1.2.2, q2.2.2, q2.1, by omega, fun r hr => by have := rlE_ok h r hr; omega⟩
def atT (t : Ft) (x y : Int) : Int := (t.rel.getD (lstI t.lv x) []).getD (lstI t.inf y) 0
def relT (t : Ft) (x y : Int) : Int × Int := if ckT t ≠ 0 then (0, ckT t) else if (inB 0 16777216 x && inB 0 1073741824 y) = false then (0, 1) else (atT t x y, 0)
theorem atT_at {t : Ft} (h : TOk t) (x y : Int) : ∃ r, t.rel[lstI t.lv x]? = some r ∧ r[lstI t.inf y]? = some (atT t x y) := by
  have h1 := lstI_lt (x := x) h.l.1
  have h2 := lstI_lt (x := y) h.i.1
  have hr := h.r
  have c1 := List.getElem?_eq_getElem (show lstI t.lv x < t.rel.length by omega)
  have hw := h.w _ (List.mem_of_getElem? c1)
  refine ⟨_, c1, ?_⟩
  have c2 := List.getElem?_eq_getElem (show lstI t.inf y < (t.rel[lstI t.lv x]'(by omega)).length by omega)
  rw [c2, atT, List.getD_eq_getElem?_getD, List.getD_eq_getElem?_getD, c1]
  show _ = some ((t.rel[lstI t.lv x]'(by omega))[lstI t.inf y]?.getD 0)
  rw [c2]; rfl
def R_relT : RT := fun args k => ∃ (t : Ft) (x y : Int), args = [.agg (ftC t), I x, I y] ∧ t.fin ∧ k (.tup [I (relT t x y).1, I (relT t x y).2])
def R_atT : RT := fun args k => ∃ (t : Ft) (x y : Int), args = [.agg (ftC t), I x, I y] ∧ TOk t ∧ k (I (atT t x y))
def relF (f : Fr) (s : Fs) (x y : Int) : Int × Bool := if s.on = false then (0, false) else ((relT f.t x y).1, true)
def R_relF : RT := fun args k => ∃ (f : Fr) (s : Fs) (x y : Int), args = [.agg (frC f), .agg (fsC s), I x, I y] ∧ f.t.fin ∧ k (.tup [I (relF f s x y).1, Bo (relF f s x y).2])
theorem kIB {k : AV → Prop} {r : Int × Bool} {a : Int} {b : Bool} (h : k (.tup [I r.1, Bo r.2])) (e : r = (a, b)) : k (.tup [I a, Bo b]) := by subst e; exact h
/-! From which level on everything is released. -/
def grt (inf : Ls) (most : Int) (k : Nat) : Int := match inf[k + 1]? with
  | none => most
  | some y => if y - 1 < most then y - 1 else most
def onK (inf : Ls) (most : Int) (k : Nat) : Bool := match k with
  | 0 => true
  | k + 1 => match inf[k + 1]? with
    | none => true
    | some y => decide (y ≤ most)
def whGo (inf : Ls) (most : Int) : Nat → Ls → Bool
  | _, [] => true
  | k, x :: r => (!(onK inf most k) || decide (grt inf most k ≤ x)) && whGo inf most (k + 1) r
/-- Beyond the greatest inflow nothing is asked. -/
theorem whGo_off {inf : Ls} {most : Int} (hp : inf.Pairwise (· < ·)) : ∀ {r : Ls} {k : Nat}, k + r.length ≤ inf.length → (∀ y, inf[k]? = some y → most < y) → 1 ≤ k → whGo inf most k r = true
  | [], _, _, _, _ => rfl
  | x :: r, k, hl, h, hk => by
    have h2 : whGo inf most (k + 1) r = true := by
      refine whGo_off hp (by simp at hl; omega) (fun y e => ?_) (by omega)
      have c := List.getElem?_eq_getElem (show k < inf.length by simp at hl; omega)
      have := h _ c
      have := pw_le hp (Nat.le_succ k) c e
      omega
    have h1 : onK inf most k = false := by
      obtain ⟨k, rfl⟩ : ∃ j, k = j + 1 := ⟨k - 1, by omega⟩
      have c := List.getElem?_eq_getElem (show k + 1 < inf.length by simp at hl; omega)
      have := h _ c
      rw [onK, c]
      simpa using this
    rw [whGo, h1, h2]; rfl
def tuGo (inf : Ls) (most : Int) : Ls → List Ls → Int × Bool
  | v :: lv, r :: rs => if whGo inf most 0 r = true then (v, true) else tuGo inf most lv rs
  | _, _ => (0, false)
def turnT (t : Ft) (most : Int) : Int × Bool := if inB 0 1073741824 most = false then (0, false) else if ckT t ≠ 0 then (0, false) else tuGo t.inf most t.lv t.rel
def R_turnT : RT := fun args k => ∃ (f : Fr) (m : Int), args = [.agg (frC f), I m] ∧ f.t.fin ∧ k (.tup [I (turnT f.t m).1, Bo (turnT f.t m).2])
/-! Axes that decks make. -/
structure mkX (l : Ls) (a x : Int) : Prop where
  r : ∀ y ∈ l, a ≤ y ∧ y < x
  p : l.Pairwise (· < ·)
theorem mkX.snoc {l : Ls} {a x y : Int} (h : mkX l a x) (ha : a ≤ x) (hy : x < y) : mkX (l ++ [x]) a y := by
  refine ⟨fun r hr => ?_, List.pairwise_append.2 ⟨h.p, by simp, fun u hu b hb => ?_⟩⟩
  · rcases List.mem_append.1 hr with hr | hr
    · have := h.r r hr; omega
    · simp at hr; omega
  · simp at hb; subst hb; exact (h.r u hu).2
def R_axis : RB := fun cs args k => ∃ (d : Dk) (a b : Int), args = [I a, I b] ∧ cs = dkC d ∧ d.ok ∧ (0 ≤ a ∧ a ≤ 1000) ∧ (1 ≤ b ∧ b ≤ 1000) ∧ ∀ (l : Ls) d', Dk.ok d' → 1 ≤ l.length → l.length ≤ 4 → mkX l a (a + 1001 * 5) → k (.c (.lst (eL l))) (dkC d')
end Go.Proofs

namespace Go.Proofs
open Go Go.Abs
set_option linter.unusedSimpArgs false
set_option linter.unusedVariables false
set_option maxRecDepth 4000
theorem next_okF : FunR Try.prog 14 R_nextF := by
  intro args k h
  obtain ⟨f, s, x, rfl, hs, hk⟩ := h
  have hw : IntKind.i64.wrap (s.cm + 1) = s.cm + 1 := wrap_in (by omega) (by omega)
  refine does_ex (qc := qc1) (np := []) (CK := ckK []) mixed Try.func14 rfl rfl Try.ntmps14 Try.results14 τ_ok (by kernel_rfl) (ckK_ok trivial) (by simp) ?_
  conv => whnf
  refine Fork.mk (fun h => ?_) (fun h => ?_)
  · have h1 : f.bg ≤ x := by simpa using h
    conv => whnf
    exact kFs hk (by rw [nextF, if_pos h1])
  have h1 : ¬ f.bg ≤ x := by simpa using h
  clear h
  conv => whnf
  refine Fork.mk (fun h => ?_) (fun h => ?_)
  · have h2 : s.on = false := by simpa using h
    conv => whnf
    exact kFs hk (by rw [nextF, if_neg h1, if_pos h2])
  have h2 : ¬ s.on = false := by simpa using h
  clear h
  conv => whnf
  refine Fork.mk (fun h => ?_) (fun h => ?_)
  · have h3 : f.en ≤ x := by simpa using h
    conv => whnf
    exact kFs hk (by rw [nextF, if_neg h1, if_neg h2, if_pos h3])
  have h3 : ¬ f.en ≤ x := by simpa using h
  clear h
  conv => whnf
  rw [hw]
  refine Fork.mk (fun h => ?_) (fun h => ?_)
  · have h4 : f.cm ≤ s.cm + 1 := by simpa using h
    conv => whnf
    exact kFs hk (by rw [nextF, if_neg h1, if_neg h2, if_neg h3, if_pos h4])
  have h4 : ¬ f.cm ≤ s.cm + 1 := by simpa using h
  clear h
  conv => whnf
  exact kFs hk (by rw [nextF, if_neg h1, if_neg h2, if_neg h3, if_neg h4, hw])
theorem rnext_okF : FunR Try.prog 18 R_nextF := by
  intro args k h
  obtain ⟨f, s, x, rfl, hs, hk⟩ := h
  have hw : IntKind.i64.wrap (s.cm + 1) = s.cm + 1 := wrap_in (by omega) (by omega)
  refine does_ex (qc := qc1) (np := []) (CK := ckK []) mixed Try.func18 rfl rfl Try.ntmps18 Try.results18 τ_ok (by kernel_rfl) (ckK_ok trivial) (by simp) ?_
  conv => whnf
  refine Fork.mk (fun h => ?_) (fun h => ?_)
  · have h1 : f.bg ≤ x := by simpa using h
    conv => whnf
    exact kFs hk (by rw [nextF, if_pos h1])
  have h1 : ¬ f.bg ≤ x := by simpa using h
  clear h
  conv => whnf
  refine Fork.mk (fun h => ?_) (fun h => ?_)
  · have h2 : s.on = false := by simpa using h
    conv => whnf
    exact kFs hk (by rw [nextF, if_neg h1, if_pos h2])
  have h2 : ¬ s.on = false := by simpa using h
  clear h
  conv => whnf
  refine Fork.mk (fun h => ?_) (fun h => ?_)
  · have h3 : f.en ≤ x := by simpa using h
    conv => whnf
    exact kFs hk (by rw [nextF, if_neg h1, if_neg h2, if_pos h3])
  have h3 : ¬ f.en ≤ x := by simpa using h
  clear h
  conv => whnf
  rw [hw]
  refine Fork.mk (fun h => ?_) (fun h => ?_)
  · have h4 : f.cm ≤ s.cm + 1 := by simpa using h
    conv => whnf
    exact kFs hk (by rw [nextF, if_neg h1, if_neg h2, if_neg h3, if_pos h4])
  have h4 : ¬ f.cm ≤ s.cm + 1 := by simpa using h
  clear h
  conv => whnf
  exact kFs hk (by rw [nextF, if_neg h1, if_neg h2, if_neg h3, if_neg h4, hw])
theorem rising_ok : FunR Try.prog 52 R_axE := by
  intro args k h
  obtain ⟨l, m, rfl, hl, hk⟩ := h
  have hm := eL_len l
  refine does_ex (qc := qc1) (np := []) (CK := ckK []) mixed Try.func52 rfl rfl Try.ntmps52 Try.results52 τ_ok (by kernel_rfl) (ckK_ok trivial) (by simp) ?_
  conv => whnf
  refine ⟨Nat, fun i => ([(0, .c (.lst (eL l))), (1, I m), (7, .c (.lst (eL l))), (8, I (eL l).length), (9, I i)], ⟨[], 40, []⟩),
    fun i => i ≤ l.length ∧ axE m none l = axE m (if i = 0 then none else l[i - 1]?) (l.drop i), fun i => l.length - i, 0, ⟨Nat.zero_le _, rfl⟩, Shift.reset ⟨rfl, rfl, rfl, rfl, rfl, trivial⟩ trivial rfl rfl, fun i hi => ?_⟩
  obtain ⟨hi1, hi2⟩ := hi
  dsimp only
  conv => whnf
  refine Fork.mk (fun h => ?_) (fun h => ?_)
  · have hi : i < l.length := by simp at h; omega
    clear h
    have hci := List.getElem?_eq_getElem hi
    generalize l[i] = x at hci
    rw [drop_of hci, axE_cons] at hi2
    have hw1 := wr_succ (i := i) (by omega)
    conv => whnf
    refine ⟨by omega, eI x, by rw [Int.toNat_natCast, List.getElem?_map, hci]; rfl, rfl, ?_⟩
    conv => whnf
    have bad : inB 0 m x = false → k (I 1) := fun e => by rw [if_pos e] at hi2; exact kI hk hi2
    refine Fork.mk (fun h => ?_) (fun h => ?_)
    · conv => whnf
      (repeat (refine fork_t ?_; (conv => whnf)))
      exact bad (by simp [inB] at h ⊢; omega)
    conv => whnf
    refine Fork.mk (fun h' => ?_) (fun h' => ?_)
    · conv => whnf
      exact bad (by simp [inB] at h h' ⊢; omega)
    conv => whnf
    have hok : inB 0 m x = true := by simp [inB] at *; omega
    rw [if_neg (by simp [hok])] at hi2
    rcases Nat.eq_zero_or_pos i with hi0 | hi0
    · subst hi0
      rw [if_neg (by simp [qleF])] at hi2
      refine Fork.mk (fun h => ?_) (fun h => ?_)
      · exfalso; simp at h
      clear h
      conv => whnf
      repeat (refine fork_f ?_; (conv => whnf))
      rw [hw1]
      exact ⟨_, ⟨hi, by rw [hi2, if_neg (Nat.succ_ne_zero _), show Nat.succ 0 - 1 = 0 from rfl, hci]⟩, Shift.reset ⟨rfl, rfl, rfl, rfl, rfl, trivial⟩ trivial rfl rfl, by omega⟩
    have hcj := List.getElem?_eq_getElem (show i - 1 < l.length by omega)
    generalize l[i - 1] = q at hcj
    rw [if_neg (by omega : ¬ i = 0), hcj] at hi2
    refine Fork.mk (fun h => ?_) (fun h => ?_)
    rotate_left
    · exfalso; simp at h; omega
    clear h
    have hw3 : IntKind.i64.wrap ((i : Int) - 1) = ((i - 1 : Nat) : Int) := by rw [wrap_in (by omega) (by omega)]; omega
    conv => whnf
    rw [hw3]
    refine ⟨by omega, eI q, by rw [Int.toNat_natCast, List.getElem?_map, hcj]; rfl, rfl, ?_⟩
    conv => whnf
    refine Fork.mk (fun h => ?_) (fun h => ?_)
    · rw [if_pos (by simpa [qleF] using h)] at hi2
      conv => whnf
      exact kI hk hi2
    rw [if_neg (by simpa [qleF] using h)] at hi2
    clear h
    conv => whnf
    rw [hw1]
    exact ⟨_, ⟨hi, by rw [hi2, if_neg (Nat.succ_ne_zero _), show ∀ n, Nat.succ n - 1 = n from fun _ => rfl, hci]⟩, Shift.reset ⟨rfl, rfl, rfl, rfl, rfl, trivial⟩ trivial rfl rfl, by omega⟩
  have hie : i = l.length := by simp at h; omega
  subst hie
  rw [List.drop_length] at hi2
  conv => whnf
  exact kI hk (by rw [hi2]; rfl)
theorem fin_ok : FunR Try.prog 56 R_within := by
  intro args k h
  unfold R_within at h
  split at h
  case h_2 => exact h.elim
  rename_i x most
  refine does_ex (qc := qc1) (np := []) (CK := ckK []) mixed Try.func56 rfl rfl Try.ntmps56 Try.results56 τ_ok (by kernel_rfl) (ckK_ok trivial) (by simp) ?_
  conv => whnf
  repeat' (refine Fork.mk (fun h => ?_) (fun h => ?_) <;> first | (cases h; done) | (conv => whnf))
  all_goals simp_all [oneOf, nrm]
theorem raxis_ok : FunR Try.prog 55 R_axE := by
  intro args k h
  obtain ⟨l, m, rfl, hl, hk⟩ := h
  have hm := eL_len l
  refine does_ex (qc := qc1) (np := []) (CK := ckK [(56, cSc R_within)]) mixed Try.func55 rfl rfl Try.ntmps55 Try.results55 τ_ok (by kernel_rfl) (ckK_ok ⟨cSc_ok fin_ok, trivial⟩) (by simp) ?_
  conv => whnf
  refine ⟨Nat, fun i => ([(0, .c (.lst (eL l))), (1, I m), (7, .c (.lst (eL l))), (8, I (eL l).length), (9, I i)], ⟨[], 40, []⟩),
    fun i => i ≤ l.length ∧ axE m none l = axE m (if i = 0 then none else l[i - 1]?) (l.drop i), fun i => l.length - i, 0, ⟨Nat.zero_le _, rfl⟩, Shift.reset ⟨rfl, rfl, rfl, rfl, rfl, trivial⟩ trivial rfl rfl, fun i hi => ?_⟩
  obtain ⟨hi1, hi2⟩ := hi
  dsimp only
  conv => whnf
  refine Fork.mk (fun h => ?_) (fun h => ?_)
  · have hi : i < l.length := by simp at h; omega
    clear h
    have hci := List.getElem?_eq_getElem hi
    generalize l[i] = x at hci
    rw [drop_of hci, axE_cons] at hi2
    have hw1 := wr_succ (i := i) (by omega)
    conv => whnf
    refine ⟨by omega, eI x, by rw [Int.toNat_natCast, List.getElem?_map, hci]; rfl, rfl, ?_⟩
    conv => whnf
    have bad : inB 0 m x = false → k (I 1) := fun e => by rw [if_pos e] at hi2; exact kI hk hi2
    refine Fork.mk (fun h => ?_) (fun h => ?_)
    · conv => whnf
      exact bad (by simp [inB] at h ⊢; omega)
    conv => whnf
    have hok : inB 0 m x = true := by simp [inB] at *; omega
    rw [if_neg (by simp [hok])] at hi2
    rcases Nat.eq_zero_or_pos i with hi0 | hi0
    · subst hi0
      rw [if_neg (by simp [qleF])] at hi2
      refine Fork.mk (fun h => ?_) (fun h => ?_)
      · exfalso; simp at h
      clear h
      conv => whnf
      repeat (refine fork_f ?_; (conv => whnf))
      rw [hw1]
      exact ⟨_, ⟨hi, by rw [hi2, if_neg (Nat.succ_ne_zero _), show Nat.succ 0 - 1 = 0 from rfl, hci]⟩, Shift.reset ⟨rfl, rfl, rfl, rfl, rfl, trivial⟩ trivial rfl rfl, by omega⟩
    have hcj := List.getElem?_eq_getElem (show i - 1 < l.length by omega)
    generalize l[i - 1] = q at hcj
    rw [if_neg (by omega : ¬ i = 0), hcj] at hi2
    refine Fork.mk (fun h => ?_) (fun h => ?_)
    rotate_left
    · exfalso; simp at h; omega
    clear h
    have hw3 : IntKind.i64.wrap ((i : Int) - 1) = ((i - 1 : Nat) : Int) := by rw [wrap_in (by omega) (by omega)]; omega
    conv => whnf
    rw [hw3]
    refine ⟨by omega, eI q, by rw [Int.toNat_natCast, List.getElem?_map, hcj]; rfl, rfl, ?_⟩
    conv => whnf
    refine Fork.mk (fun h => ?_) (fun h => ?_)
    · rw [if_pos (by simpa [qleF] using h)] at hi2
      conv => whnf
      exact kI hk hi2
    rw [if_neg (by simpa [qleF] using h)] at hi2
    clear h
    conv => whnf
    rw [hw1]
    exact ⟨_, ⟨hi, by rw [hi2, if_neg (Nat.succ_ne_zero _), show ∀ n, Nat.succ n - 1 = n from fun _ => rfl, hci]⟩, Shift.reset ⟨rfl, rfl, rfl, rfl, rfl, trivial⟩ trivial rfl rfl, by omega⟩
  have hie : i = l.length := by simp at h; omega
  subst hie
  rw [List.drop_length] at hi2
  conv => whnf
  exact kI hk (by rw [hi2]; rfl)
end Go.Proofs
