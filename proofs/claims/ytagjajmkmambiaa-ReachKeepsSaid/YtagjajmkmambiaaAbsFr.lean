/- A call keeps an object that is made before it in place of behind it. -/
import Derived.Test.YtagjajmkmambiaaAbsM
namespace Go.Abs
open Go.RowKit
open Classical in
/-- The call of a function, with objects beside it that nothing of the call names. -/
theorem CallSem.frame {P : Program} {f : Nat} {args : List AV} {m m' M M' : Mem} {r : AV} (h : CallSem P f args m r m') (D : Id → Prop)
    (hDx : ∀ n, D (.x n)) (hDl : ∀ s k, D (.l s k) → k < m.nx) (hDlow : ∀ s k, k < m.nx → D (.l s k)) (hnx : m'.nx = m.nx) (hnxM : m.nx ≤ M.nx) (hnxM' : M'.nx = M.nx)
    (ha : inAs D args) (ho : ∀ i o, mget m.o i = some o → D i ∧ inO D o) (hM : ∀ i o, mget m.o i = some o → mget M.o i = some o) (hE : ∀ i o, mget M.o i = some o → mget m.o i = none → ¬ D i)
    (hM' : ∀ i o, mget M'.o i = some o → mget m'.o i = some o ∨ (mget m.o i = none ∧ mget M.o i = some o)) : CallSem P f args M r M' := by
  refine ⟨h.1, fun B g w vals hI hl hrep => ?_⟩
  let g1 : G := { g with K := fun i => g.K i ∧ D i }
  have lk : Link id D g1 g := ⟨fun i hi => ⟨fun h => h.1, fun h => ⟨h, hi⟩⟩, fun _ _ _ => rfl, fun _ _ _ => rfl, rfl⟩
  let X : Nat → Prop := fun b => ∃ i o, mget m.o i = some o ∧ blockOf (g.β i) = some b
  let B' : Base := { w0 := w, X := X, g0 := { g with K := fun i => g.K i ∧ ∃ n, i = .x n }, N := B.N, gx := fun i hi => hi.2 }
  have hI1 : Inv B' g1 m w := {
    ok := fun i o hi => by
      obtain ⟨k1, k2⟩ := hI.ok i o (hM i o hi)
      obtain ⟨d1, d2⟩ := ho i o hi
      have hk : g1.K i := ⟨k1, d1⟩
      exact ⟨hk, lk.pullO d1 hk (by rw [renO_id]; exact k2) d2⟩
    apart := fun i j oi oj b hi hj => hI.apart i j oi oj b (hM i oi hi) (hM j oj hj)
    fresh := fun s k hk hK => by have := hDl s k hK.2; omega
    flt := hI.flt
    ext := ⟨fun i hi => by obtain ⟨h1, n, rfl⟩ := hi; exact ⟨h1, hDx n⟩, fun _ _ => rfl, fun _ _ => rfl, fun _ _ h => h, fun _ _ _ => rfl⟩
    fnew := fun b o hF => .inl hF
    own := fun i o b hi hb => .inr ⟨i, o, hi, hb⟩
    os := rfl, tape := rfl, output := rfl, size := Nat.le_refl _, block := fun _ _ _ => rfl }
  refine (h.2 B' g1 w vals hI1 hl (fun j a v h1 h2 => lk.pullA (hrep j a v h1 h2) a (renA_id a) (inAs_get ha h1))).mono fun e w' ⟨v, g', he, hx, hr, hI'⟩ => ?_
  have hD' : ∀ i, g'.K i → D i := fun i hi => by
    cases i with
    | x n => exact hDx n
    | l s k =>
      by_cases hk : k < m.nx
      · exact hDlow s k hk
      · exact absurd hi (hI'.fresh s k (by omega))
  let g2 : G := { K := fun i => g'.K i ∨ g.K i, β := fun i => if D i then g'.β i else g.β i, sz := fun i => if D i then g'.sz i else g.sz i, F := g'.F }
  have x2 : Ext g' w' g2 w' := ⟨fun _ h => .inl h, fun i hi => if_pos (hD' i hi), fun i hi => if_pos (hD' i hi), fun _ _ h => h, fun _ _ _ => rfl⟩
  have x3 : Ext g w g2 w' := ⟨fun _ h => .inr h, fun i hi => by
      show (if D i then g'.β i else g.β i) = g.β i
      by_cases hd : D i
      · rw [if_pos hd]; exact hx.β i ⟨hi, hd⟩
      · rw [if_neg hd], fun i hi => by
      show (if D i then g'.sz i else g.sz i) = g.sz i
      by_cases hd : D i
      · rw [if_pos hd]; exact hx.sz i ⟨hi, hd⟩
      · rw [if_neg hd], hx.F, hx.cell⟩
  have hX : ∀ b, X b → B.w0.heap.size ≤ b ∨ B.X b := fun b ⟨i, o, hi, hb⟩ => hI.own i o b (hM i o hi) hb
  -- an object beside the call
  have hext : ∀ i o, mget m.o i = none → mget M.o i = some o → ¬ D i ∧ ∀ b, blockOf (g.β i) = some b → b < w.heap.size ∧ ¬ X b := fun i o h1 h2 => ⟨hE i o h2 h1, fun b hb =>
    ⟨(hI.ok i o h2).2.lt hb, fun ⟨j, oj, hj, hjb⟩ => hI.apart i j o oj b h2 (hM j oj hj) (fun e => by rw [e, hj] at h1; cases h1) hb hjb⟩⟩
  have hown' : ∀ i o b, mget m'.o i = some o → blockOf (g'.β i) = some b → w.heap.size ≤ b ∨ X b := fun i o b hi hb => hI'.own i o b hi hb
  refine ⟨v, g2, he, x3, hr.ext x2, ?_⟩
  refine { ok := fun i o hi => ?_, apart := fun i j oi oj b hi hj hij hb hb' => ?_, fresh := fun s k hk hK => ?_, flt := hI'.flt, ext := hI.ext.trans x3, fnew := fun b o hF => ?_, own := fun i o b hi hb => ?_,
           os := hI'.os.trans hI.os, tape := hI'.tape.trans hI.tape, output := hI'.output.trans hI.output, size := Nat.le_trans hI.size hI'.size, block := fun b hb hXb => ?_ }
  · rcases hM' i o hi with h1 | ⟨h1, h2⟩
    · obtain ⟨k1, k2⟩ := hI'.ok i o h1
      exact ⟨.inl k1, k2.keep k1 x2 fun b _ => ⟨rfl, fun _ h => h⟩⟩
    · obtain ⟨k1, k2⟩ := hI.ok i o h2
      refine ⟨.inr k1, k2.keep k1 x3 fun b hb => ?_⟩
      obtain ⟨b1, b2⟩ := (hext i o h1 h2).2 b hb
      refine ⟨hI'.block b b1 b2, fun y hF => ?_⟩
      rcases hI'.fnew b y hF with h | h | h
      · exact h
      · exact absurd h (by show ¬ w.heap.size ≤ b; omega)
      · exact absurd h b2
  · have key : ∀ k ok, mget m'.o k = some ok → g2.β k = g'.β k := fun k ok hk => if_pos (hD' k (hI'.ok k ok hk).1)
    rcases hM' i oi hi with h1 | ⟨h1, h2⟩ <;> rcases hM' j oj hj with q1 | ⟨q1, q2⟩
    · rw [key i oi h1] at hb
      rw [key j oj q1] at hb'
      exact hI'.apart i j oi oj b h1 q1 hij hb hb'
    · obtain ⟨d1, d2⟩ := hext j oj q1 q2
      have hbj : g2.β j = g.β j := if_neg d1
      rw [hbj] at hb'
      rw [key i oi h1] at hb
      obtain ⟨b1, b2⟩ := d2 b hb'
      rcases hown' i oi b h1 hb with h | h
      · omega
      · exact b2 h
    · obtain ⟨d1, d2⟩ := hext i oi h1 h2
      have hbi : g2.β i = g.β i := if_neg d1
      rw [hbi] at hb
      rw [key j oj q1] at hb'
      obtain ⟨b1, b2⟩ := d2 b hb
      rcases hown' j oj b q1 hb' with h | h
      · omega
      · exact b2 h
    · have hbi : g2.β i = g.β i := if_neg (hext i oi h1 h2).1
      have hbj : g2.β j = g.β j := if_neg (hext j oj q1 q2).1
      rw [hbi] at hb
      rw [hbj] at hb'
      exact hI.apart i j oi oj b h2 q2 hij hb hb'
  · rcases hK with hK | hK
    · exact hI'.fresh s k (by omega) hK
    · exact hI.fresh s k (by omega) hK
  · rcases hI'.fnew b o hF with h | h | h
    · exact hI.fnew b o h
    · exact .inr (.inl (Nat.le_trans hI.size h))
    · exact .inr (hX b h)
  · rcases hM' i o hi with h1 | ⟨h1, h2⟩
    · have key : g2.β i = g'.β i := if_pos (hD' i (hI'.ok i o h1).1)
      rw [key] at hb
      rcases hown' i o b h1 hb with h | h
      · exact .inl (Nat.le_trans hI.size h)
      · exact hX b h
    · have hbi : g2.β i = g.β i := if_neg (hext i o h1 h2).1
      rw [hbi] at hb
      exact hI.own i o b h2 hb
  · rw [hI'.block b (Nat.lt_of_lt_of_le hb hI.size) (fun h => ?_)]
    · exact hI.block b hb hXb
    · rcases hX b h with h | h
      · omega
      · exact hXb h
end Go.Abs
