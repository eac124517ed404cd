/- From what is proved of a function to the call itself: arguments that come in. -/
import Derived.Test.YtgehodhbcckcoaaAbsR
namespace Go.Abs
open Go.RowKit

/-- Integers that came in as a slice. -/
def RowIn (k : IntKind) (w : World) (a : Option Addr) (len cap : Nat) (zs : List Int) : Prop :=
  (a = none ∧ len = 0 ∧ cap = 0 ∧ zs = []) ∨
  ∃ x, a = some x ∧ x.spot = none ∧ len ≤ cap ∧ cap ≤ maxLen ∧ zs.length = cap ∧ (∀ i, i < zs.length → w.cell? (x.add i) = some (.int k (zs.getD i 0)))

abbrev FIn (w : World) : Nat → Nat → Prop := fun b _ => b < w.heap.size

theorem cell_lt {w : World} {a : Addr} {v : Value} (h : w.cell? a = some v) : a.block < w.heap.size := by
  unfold World.cell? at h
  split at h
  · rename_i hb; exact (Array.getElem?_eq_some_iff.1 hb).1
  · cases h

theorem addr_add {x : Addr} (h : x.spot = none) (n : Nat) : x.add n = ⟨x.block, x.off + n, none⟩ := by
  unfold Addr.add
  split
  · rename_i hn; subst hn; cases x; simp only at h; subst h; rfl
  · rfl

theorem rep_rowP {k : IntKind} {w : World} {a : Option Addr} {len cap : Nat} {zs : List Int} (h : RowIn k w a len cap zs) :
    RepP (FIn w) w (.lst ((zs.take len).map fun x => [.sc (.int k x)])) (.slice a len cap) := by
  rcases h with ⟨rfl, rfl, rfl, rfl⟩ | ⟨x, rfl, hx, hl, hc, hz, hcell⟩
  · exact .nil
  · have hlen : ((zs.take len).map fun x => [Cell.sc (.int k x)]).length = len := by rw [List.length_map, List.length_take]; omega
    have key := RepP.lst (F := FIn w) (w := w) (es := (zs.take len).map fun x => [Cell.sc (.int k x)]) (b := x.block) (off := x.off) (cap := cap) (sz := 1) (fun i _ => .int k (zs.getD i 0))
      (fun i e he => by
        rw [List.getElem?_map] at he
        cases h' : (zs.take len)[i]? with
        | none => rw [h'] at he; cases he
        | some y => rw [h'] at he; simp at he; subst he; rfl)
      (fun i e he j c hj => by
        have hi : i < len := by rw [← hlen]; exact (List.getElem?_eq_some_iff.1 he).1
        rw [List.getElem?_map] at he
        cases h' : (zs.take len)[i]? with
        | none => rw [h'] at he; cases he
        | some y =>
          rw [h'] at he; simp at he; subst he
          have hj0 : j = 0 := by
            cases j with
            | zero => rfl
            | succ j => simp at hj
          subst hj0
          have := hcell i (by omega)
          rw [addr_add hx] at this
          rw [Nat.mul_one, Nat.add_zero]
          exact ⟨cell_lt (a := ⟨x.block, x.off + i, none⟩) this, this⟩)
      (fun i e he j c hj => by
        rw [List.getElem?_map] at he
        cases h' : (zs.take len)[i]? with
        | none => rw [h'] at he; cases he
        | some y =>
          rw [h'] at he; simp at he; subst he
          have hj0 : j = 0 := by
            cases j with
            | zero => rfl
            | succ j => simp at hj
          subst hj0
          simp at hj
          subst hj
          rw [List.getElem?_take] at h'
          split at h'
          · rw [List.getD_eq_getElem?_getD, h']; exact .sc rfl
          · cases h') (by omega) hc
    rw [hlen] at key
    have hxe : x = ⟨x.block, x.off, none⟩ := by cases x; simp only at hx; subst hx; rfl
    rw [hxe]
    exact key

theorem rep_row {k : IntKind} {w : World} {a : Option Addr} {len cap : Nat} {zs : List Int} (h : RowIn k w a len cap zs) :
    RepA (g0 (FIn w)) w (.c (.lst ((zs.take len).map fun x => [.sc (.int k x)]))) (.slice a len cap) := .c (.pure (rep_rowP h))
theorem rep_int {k : IntKind} {w : World} {n : Int} : RepA (g0 (FIn w)) w (.c (.sc (.int k n))) (.int k n) := .c (.pure (.sc rfl))

theorem row_len {k : IntKind} {w : World} {a : Option Addr} {len cap : Nat} {zs : List Int} (h : RowIn k w a len cap zs) : (zs.take len).length ≤ maxLen := by
  rw [List.length_take]
  rcases h with ⟨rfl, rfl, rfl, rfl⟩ | ⟨x, rfl, hx, hl, hc, hz, _⟩
  · exact Nat.zero_le _
  · omega

/-- The arguments, one by one. -/
def RepL (w : World) : List AV → List Value → Prop
  | [], [] => True
  | a :: r, v :: s => RepA (g0 (FIn w)) w a v ∧ RepL w r s
  | _, _ => False
theorem RepL.spec {w : World} : ∀ {l : List AV} {vs : List Value}, RepL w l vs → vs.length = l.length ∧ ∀ (j : Nat) a v, l[j]? = some a → vs[j]? = some v → RepA (g0 (FIn w)) w a v
  | [], [], _ => ⟨rfl, fun j a v h => by simp at h⟩
  | a :: r, v :: s, h => by
    obtain ⟨h1, h2⟩ := RepL.spec h.2
    refine ⟨by simp [h1], fun j x y hx hy => ?_⟩
    cases j with
    | zero => simp at hx hy; subst hx; subst hy; exact h.1
    | succ j => simp at hx hy; exact h2 j x y hx hy
  | [], _ :: _, h => h.elim
  | _ :: _, [], h => h.elim

theorem calls_true {P : Program} {f : Nat} {R : RT} (h : FunR P f R) {args : List AV} {vals : List Value} {w : World} (hrep : RepL w args vals) (hR : R args (fun r => r = .c (.sc (.bool true)))) :
    Calls P f vals.toArray w fun e w' => e = .returned (.bool true) ∧ Below w.heap.size w w' := by
  obtain ⟨r, hd, rfl⟩ := h _ _ hR
  obtain ⟨h1, h2⟩ := hrep.spec
  refine (hd.2 (FIn w) w vals (fun _ _ h => h) h1 h2).mono fun e w' ⟨v, F', he, _, _, _, hr, hb⟩ => ?_
  obtain ⟨rfl, _⟩ := isSc hr
  exact ⟨he, hb⟩
theorem okWide_spot {P : Program} {w : World} {r : Reach} {base : Nat} {t e : TypeId} {x : Addr} {len cap : Nat} (ht : P.underlying t = some (.slice e)) (h : Value.okWide P w r base t (.slice (some x) len cap)) : x.spot = none := by
  simp only [Value.okWide, ht, Cell.okWide, Cell.ok] at h
  exact h.2.2.2.1
end Go.Abs
