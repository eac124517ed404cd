/- Proved here: what functions of the given program come to, and the plain laws of it; no condition but those in the theorems. -/
import Derived.Test.YtknjncmgohjpkaaAbsR
import Derived.KernelRfl
/- From what is proved of a function to the call itself: arguments that come in. -/
namespace Go.Abs
open Go.RowKit

/-- Integers that came in as a slice. -/
def RowIn (k : IntKind) (w : World) (a : Option Addr) (len cap : Nat) (zs : List Int) : Prop :=
  (a = none ∧ len = 0 ∧ cap = 0 ∧ zs = []) ∨
  ∃ x, a = some x ∧ x.spot = none ∧ len ≤ cap ∧ cap ≤ maxLen ∧ zs.length = cap ∧ (∀ i, i < zs.length → w.cell? (x.add i) = some (.int k (zs.getD i 0)))

abbrev FIn (w : World) : Nat → Nat → Prop := fun b _ => b < w.heap.size

theorem cell_lt {w : World} {a : Addr} {v : Value} (h : w.cell? a = some v) : a.block < w.heap.size := by
  unfold World.cell? at h
  split at h
  · rename_i hb; exact (Array.getElem?_eq_some_iff.1 hb).1
  · cases h

theorem addr_add {x : Addr} (h : x.spot = none) (n : Nat) : x.add n = ⟨x.block, x.off + n, none⟩ := by
  unfold Addr.add
  split
  · rename_i hn; subst hn; cases x; simp only at h; subst h; rfl
  · rfl

theorem rep_rowP {k : IntKind} {w : World} {a : Option Addr} {len cap : Nat} {zs : List Int} (h : RowIn k w a len cap zs) :
    RepP (FIn w) w (.lst ((zs.take len).map fun x => [.sc (.int k x)])) (.slice a len cap) := by
  rcases h with ⟨rfl, rfl, rfl, rfl⟩ | ⟨x, rfl, hx, hl, hc, hz, hcell⟩
  · exact .nil
  · have hlen : ((zs.take len).map fun x => [Cell.sc (.int k x)]).length = len := by rw [List.length_map, List.length_take]; omega
    have key := RepP.lst (F := FIn w) (w := w) (es := (zs.take len).map fun x => [Cell.sc (.int k x)]) (b := x.block) (off := x.off) (cap := cap) (sz := 1) (fun i _ => .int k (zs.getD i 0))
      (fun i e he => by
        rw [List.getElem?_map] at he
        cases h' : (zs.take len)[i]? with
        | none => rw [h'] at he; cases he
        | some y => rw [h'] at he; simp at he; subst he; rfl)
      (fun i e he j c hj => by
        have hi : i < len := by rw [← hlen]; exact (List.getElem?_eq_some_iff.1 he).1
        rw [List.getElem?_map] at he
        cases h' : (zs.take len)[i]? with
        | none => rw [h'] at he; cases he
        | some y =>
          rw [h'] at he; simp at he; subst he
          have hj0 : j = 0 := by
            cases j with
            | zero => rfl
            | succ j => simp at hj
          subst hj0
          have := hcell i (by omega)
          rw [addr_add hx] at this
          rw [Nat.mul_one, Nat.add_zero]
          exact ⟨cell_lt (a := ⟨x.block, x.off + i, none⟩) this, this⟩)
      (fun i e he j c hj => by
        rw [List.getElem?_map] at he
        cases h' : (zs.take len)[i]? with
        | none => rw [h'] at he; cases he
        | some y =>
          rw [h'] at he; simp at he; subst he
          have hj0 : j = 0 := by
            cases j with
            | zero => rfl
            | succ j => simp at hj
          subst hj0
          simp at hj
          subst hj
          rw [List.getElem?_take] at h'
          split at h'
          · rw [List.getD_eq_getElem?_getD, h']; exact .sc rfl
          · cases h') (by omega) hc
    rw [hlen] at key
    have hxe : x = ⟨x.block, x.off, none⟩ := by cases x; simp only at hx; subst hx; rfl
    rw [hxe]
    exact key

theorem rep_row {k : IntKind} {w : World} {a : Option Addr} {len cap : Nat} {zs : List Int} (h : RowIn k w a len cap zs) :
    RepA (g0 (FIn w)) w (.c (.lst ((zs.take len).map fun x => [.sc (.int k x)]))) (.slice a len cap) := .c (.pure (rep_rowP h))
theorem rep_int {k : IntKind} {w : World} {n : Int} : RepA (g0 (FIn w)) w (.c (.sc (.int k n))) (.int k n) := .c (.pure (.sc rfl))

theorem row_len {k : IntKind} {w : World} {a : Option Addr} {len cap : Nat} {zs : List Int} (h : RowIn k w a len cap zs) : (zs.take len).length ≤ maxLen := by
  rw [List.length_take]
  rcases h with ⟨rfl, rfl, rfl, rfl⟩ | ⟨x, rfl, hx, hl, hc, hz, _⟩
  · exact Nat.zero_le _
  · omega

/-- The arguments, one by one. -/
def RepL (w : World) : List AV → List Value → Prop
  | [], [] => True
  | a :: r, v :: s => RepA (g0 (FIn w)) w a v ∧ RepL w r s
  | _, _ => False
theorem RepL.spec {w : World} : ∀ {l : List AV} {vs : List Value}, RepL w l vs → vs.length = l.length ∧ ∀ (j : Nat) a v, l[j]? = some a → vs[j]? = some v → RepA (g0 (FIn w)) w a v
  | [], [], _ => ⟨rfl, fun j a v h => by simp at h⟩
  | a :: r, v :: s, h => by
    obtain ⟨h1, h2⟩ := RepL.spec h.2
    refine ⟨by simp [h1], fun j x y hx hy => ?_⟩
    cases j with
    | zero => simp at hx hy; subst hx; subst hy; exact h.1
    | succ j => simp at hx hy; exact h2 j x y hx hy
  | [], _ :: _, h => h.elim
  | _ :: _, [], h => h.elim

theorem calls_true {P : Program} {f : Nat} {R : RT} (h : FunR P f R) {args : List AV} {vals : List Value} {w : World} (hrep : RepL w args vals) (hR : R args (fun r => r = .c (.sc (.bool true)))) :
    Calls P f vals.toArray w fun e w' => e = .returned (.bool true) ∧ Below w.heap.size w w' := by
  obtain ⟨r, hd, rfl⟩ := h _ _ hR
  obtain ⟨h1, h2⟩ := hrep.spec
  refine (hd.2 (FIn w) w vals (fun _ _ h => h) h1 h2).mono fun e w' ⟨v, F', he, _, _, _, hr, hb⟩ => ?_
  obtain ⟨rfl, _⟩ := isSc hr
  exact ⟨he, hb⟩
theorem okWide_spot {P : Program} {w : World} {r : Reach} {base : Nat} {t e : TypeId} {x : Addr} {len cap : Nat} (ht : P.underlying t = some (.slice e)) (h : Value.okWide P w r base t (.slice (some x) len cap)) : x.spot = none := by
  simp only [Value.okWide, ht, Cell.okWide, Cell.ok] at h
  exact h.2.2.2.1
end Go.Abs

/- Numbers, lists of numbers, decks: what they look like and what is asked of the functions that all chapters use. No program. -/
namespace Go.Proofs
open Go Go.Abs
set_option linter.unusedSimpArgs false
set_option linter.unusedVariables false
abbrev IC (n : Int) : Cell := .sc (.int .i64 n)
/-- A number as a slice's element. -/
def eI (x : Int) : List Cell := [IC x]
abbrev I (n : Int) : AV := .c (.sc (.int .i64 n))
abbrev Bo (b : Bool) : AV := .c (.sc (.bool b))
abbrev BC (b : Bool) : Cell := .sc (.bool b)
abbrev Ls := List Int
abbrev eL (l : Ls) : List (List Cell) := l.map eI
theorem eL_len (l : Ls) : (eL l).length = l.length := List.length_map _
theorem map_at {α β : Type} (e : α → β) (l : List α) {j : Nat} (h : j < l.length) : (l.map e)[(j : Int).toNat]? = some (e l[j]) := by
  rw [Int.toNat_natCast, List.getElem?_map, List.getElem?_eq_getElem h]; rfl
theorem map_at0 {α β : Type} (e : α → β) (l : List α) {j : Nat} (h : j < l.length) : (l.map e)[0 + j]? = some (e l[j]) := by
  rw [Nat.zero_add, List.getElem?_map, List.getElem?_eq_getElem h]; rfl
theorem wr0 : IntKind.i64.wrap 0 = 0 := by rw [wrap_in (by omega) (by omega)]
theorem wr00 : IntKind.i64.wrap (0 + 0) = 0 := wr0
theorem wr_succ {i : Nat} (h : i < 9223372036854775807) : IntKind.i64.wrap ((i : Int) + 1) = ((i + 1 : Nat) : Int) := by rw [wrap_in (by omega) (by omega)]; omega
def R_within : RT := fun args k => match args with
  | [.c (.sc (.int .i64 x)), .c (.sc (.int .i64 most))] => k (Bo (decide (0 ≤ x) && decide (x ≤ most)))
  | _ => False
theorem tmod_lo (x : Int) {n : Int} (h : 0 < n) : -n < x.tmod n := by
  rcases Int.le_total 0 x with hx | hx
  · have := Int.tmod_nonneg n hx; omega
  · have h1 := Int.neg_tmod (a := -x) (b := n)
    have h2 := Int.tmod_lt_of_pos (-x) h
    rw [Int.neg_neg] at h1
    omega
theorem mod_val (x : Int) {n : Int} (h : 0 < n) (h2 : n ≤ 4611686018427387904) : (IntKind.i64.wrap (x.tmod n + n)).tmod n = x % n := by
  have a := tmod_lo x h
  have b := Int.tmod_lt_of_pos x h
  rw [Go.Abs.wrap_in (by omega) (by omega), Int.tmod_eq_emod_of_nonneg (by omega), Int.tmod_def, show x - n * x.tdiv n + n = x + n * (1 - x.tdiv n) by rw [Int.mul_sub]; omega, Int.add_mul_emod_self_left]
/-- n modulo k. -/
def R_mod : RT := fun args k => match args with
  | [.c (.sc (.int .i64 x)), .c (.sc (.int .i64 n))] => (0 < n ∧ n ≤ 4611686018427387904) ∧ k (I (x % n))
  | _ => False
/-- A deck. -/
structure Dk where
  L : List Int
  at_ : Nat
def Dk.ok (d : Dk) : Prop := d.at_ ≤ d.L.length ∧ d.L.length ≤ 9223372036854775807
def dkC (d : Dk) : List Cell := [.lst (d.L.map eI), IC d.at_]
def R_next : RB := fun cs args k => match args with
  | [.c (.sc (.int .i64 n))] => ∃ d : Dk, cs = dkC d ∧ d.ok ∧ n ≤ 4611686018427387904 ∧ ∀ v d', Dk.ok d' → 0 ≤ v → (v < n ∨ v = 0) → k (I v) (dkC d')
  | _ => False
/-- A new deck. -/
def R_new : RN := fun args k => match args with
  | [.c (.lst es)] => ∃ l : List Int, es = l.map eI ∧ k (dkC ⟨l, 0⟩)
  | _ => False
def R_true : RT := fun args k => match args with
  | [] => k (Bo true)
  | _ => False
/-- A law of a slice of numbers and n numbers. -/
def R_law1 (n : Nat) : RT := fun args k => match args with
  | .c (.lst es) :: rest => (∃ l : Ls, es = eL l ∧ l.length ≤ 9223372036854775807) ∧ (∃ xs : Ls, rest = xs.map (fun x => I x) ∧ xs.length = n) ∧ k (Bo true)
  | _ => False
theorem sum_take {l : Ls} {i : Nat} (h : i < l.length) : (l.take (i + 1)).sum = (l.take i).sum + l[i] := by
  rw [show l.take (i + 1) = l.take i ++ [l[i]] from (List.take_append_getElem h).symm, List.sum_append]; simp
theorem sum_in {l : Ls} {a : Int} (ha : 0 ≤ a) (h : ∀ x ∈ l, 0 ≤ x ∧ x ≤ a) : 0 ≤ l.sum ∧ l.sum ≤ a * l.length := by
  induction l with
  | nil => simp
  | cons x r ih =>
    have h1 := h x (by simp)
    have h2 := ih fun y hy => h y (by simp [hy])
    rw [List.sum_cons, List.length_cons]
    have : a * ((r.length + 1 : Nat) : Int) = a * r.length + a := by rw [Int.natCast_add, Int.mul_add]; simp
    omega
theorem eL_all (l : Ls) : (eL l).all (fun e => e.length == 1) = true := by simp [List.all_eq_true, eL, eI]
theorem eL_take (l : Ls) (n : Nat) : (eL l).take n = eL (l.take n) := (List.map_take ..).symm
theorem eL_drop (l : Ls) (n : Nat) : (eL l).drop n = eL (l.drop n) := (List.map_drop ..).symm
theorem eL_snoc (l : Ls) (a : Int) : eL l ++ [[IC a]] = eL (l ++ [a]) := by simp [eL, eI]
theorem eL_set (l : Ls) (i : Nat) (v : Int) : (eL l).set i (eI v) = eL (l.set i v) := (List.map_set ..).symm
/-- A list of numbers in front of a law's end. -/
theorem leaf_l {k : AV → List Cell → Prop} (l : Ls) {n : Nat} {cs : List Cell} (h : n = l.length) (hc : noCs cs = true) (hk : k (.c (.lst (eL l))) cs) :
    noA (.c (.lst (List.take n (List.drop 0 (eL l))))) = true ∧ noCs cs = true ∧ k (.c (.lst (List.take n (List.drop 0 (eL l))))) cs := by
  subst h
  rw [List.drop_zero, List.take_of_length_le (by rw [eL_len]; exact Nat.le_refl _)]
  exact ⟨rfl, hc, hk⟩
/-! Points. -/
abbrev Pt := Int × Int
def ePt (p : Pt) : List Cell := [IC p.1, IC p.2]
abbrev eP (l : List Pt) : List (List Cell) := l.map ePt
theorem eP_len (l : List Pt) : (eP l).length = l.length := List.length_map _
theorem eP_all (l : List Pt) : (eP l).all (fun e => e.length == 2) = true := by simp [List.all_eq_true, ePt]
theorem eP_snoc (l : List Pt) (p : Pt) : eP l ++ [[IC p.1, IC p.2]] = eP (l ++ [p]) := by simp [ePt]
theorem leaf_p {k : AV → List Cell → Prop} (l : List Pt) {n : Nat} {cs : List Cell} (h : n = l.length) (hc : noCs cs = true) (hk : k (.c (.lst (eP l))) cs) :
    noA (.c (.lst (List.take n (List.drop 0 (eP l))))) = true ∧ noCs cs = true ∧ k (.c (.lst (List.take n (List.drop 0 (eP l))))) cs := by
  subst h
  rw [List.drop_zero, List.take_of_length_le (by rw [eP_len]; exact Nat.le_refl _)]
  exact ⟨rfl, hc, hk⟩
theorem mul_in {a b A B : Int} (h1 : -A ≤ a) (h2 : a ≤ A) (h3 : -B ≤ b) (h4 : b ≤ B) : -(A * B) ≤ a * b ∧ a * b ≤ A * B := by
  have hA : 0 ≤ A := by omega
  have hB : 0 ≤ B := by omega
  have h : (a * b).natAbs ≤ (A * B).natAbs := by
    rw [Int.natAbs_mul, Int.natAbs_mul]
    exact Nat.mul_le_mul (by omega) (by omega)
  have := Int.mul_nonneg hA hB
  omega
end Go.Proofs
