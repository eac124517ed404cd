/- Proved here: what functions of the given program come to, and the plain laws of it; no condition but those in the theorems. -/
import Derived.Test.YthkimpoeiighoaaAbsRy
/- Slices put into a slice that stays one's own: the block behind it has a name of its own, .x 0, as a variable whose cells are the elements; the slice itself is .x 1. -/
namespace Go.Abs
open Go.RowKit
set_option linter.unusedVariables false
set_option linter.unusedSimpArgs false
structure GhB (B : Base) : Prop where
  ex : ∃ b cap, B.g0.K (.x 0) ∧ B.g0.K (.x 1) ∧ B.g0.β (.x 0) = .pointer (some ⟨b, 0, none⟩) ∧ B.g0.β (.x 1) = .slice (some ⟨b, 0, none⟩) cap cap ∧ B.g0.sz (.x 1) = 1 ∧ cap ≤ maxLen
/-- What a base has of one from which it was made on the way. -/
structure Under (B B' : Base) : Prop where
  os : B'.w0.os = B.w0.os
  tape : B'.w0.tape = B.w0.tape
  output : B'.w0.output = B.w0.output
  size : B.w0.heap.size ≤ B'.w0.heap.size
  block : ∀ b, b < B.w0.heap.size → ¬ B.X b → B'.w0.heap[b]? = B.w0.heap[b]?
  X : ∀ b, B'.X b → B.X b ∨ B.w0.heap.size ≤ b
  F1 : ∀ b o, B.g0.F b o → B'.g0.F b o
  F2 : ∀ b o, B'.g0.F b o → B.g0.F b o ∨ B.w0.heap.size ≤ b ∨ B.X b
  N : B'.N = B.N
  ds : B'.ds = B.ds
theorem Under.refl (B : Base) : Under B B := ⟨rfl, rfl, rfl, Nat.le_refl _, fun _ _ _ => rfl, fun _ h => .inl h, fun _ _ h => h, fun _ _ h => .inl h, rfl, rfl⟩
/-! Names that are no base's. -/
def lI : Id → Bool
  | .l _ _ => true
  | .x _ => false
def lC : Cell → Bool
  | .sc _ => true
  | .lst _ => true
  | .full _ => true
  | .pel _ => true
  | .view i _ _ => lI i
  | .ptr i _ => lI i
  | .aptr i _ _ => lI i
  | .fn _ _ => false
def lCs : List Cell → Bool
  | [] => true
  | c :: r => match lC c with
    | true => lCs r
    | false => false
def lA1 : AV → Bool
  | .c x => lC x
  | .agg cs => lCs cs
  | .tup _ => false
def lA1s : List AV → Bool
  | [] => true
  | x :: r => match lA1 x with
    | true => lA1s r
    | false => false
def lA : AV → Bool
  | .c x => lC x
  | .agg cs => lCs cs
  | .tup l => lA1s l
def lT : List (Nat × AV) → Bool
  | [] => true
  | (_, x) :: r => match lA x with
    | true => lT r
    | false => false
def lO : List (Id × MObj) → Bool
  | [] => true
  | (i, x) :: r => match lI i, (match x with
      | .blk cs => lCs cs
      | .arr .. => true) with
    | true, true => lO r
    | _, _ => false
abbrev DL : Id → Prop := fun i => ∃ s k, i = .l s k
theorem lI_in {i : Id} (h : lI i = true) : DL i := by cases i with
  | x n => cases h
  | l s k => exact ⟨s, k, rfl⟩
theorem lC_in {c : Cell} (h : lC c = true) : inC DL c := by
  cases c with
  | view i _ _ => exact lI_in h
  | ptr i _ => exact lI_in h
  | aptr i _ _ => exact lI_in h
  | fn _ _ => cases h
  | _ => exact trivial
theorem lCs_in : ∀ {l : List Cell}, lCs l = true → inCs DL l
  | [], _ => trivial
  | c :: r, h => by
    unfold lCs at h
    split at h
    · rename_i e; exact ⟨lC_in e, lCs_in h⟩
    · cases h
theorem lA1_in {x : AV} (h : lA1 x = true) : inA DL x := by
  cases x with
  | c x => exact lC_in h
  | agg cs => exact lCs_in h
  | tup l => cases h
theorem lA1s_in : ∀ {l : List AV}, lA1s l = true → inAs DL l
  | [], _ => trivial
  | c :: r, h => by
    unfold lA1s at h
    split at h
    · rename_i e; exact ⟨lA1_in e, lA1s_in h⟩
    · cases h
theorem lA_in {x : AV} (h : lA x = true) : inA DL x := by
  cases x with
  | c x => exact lC_in h
  | agg cs => exact lCs_in h
  | tup l => exact lA1s_in (l := l) h
theorem lT_in : ∀ {t : List (Nat × AV)}, lT t = true → ∀ {d : Nat} {x : AV}, tget t d = some x → inA DL x
  | [], _, _, _, h => by cases h
  | (s, y) :: r, h, d, x, hx => by
    unfold lT at h
    split at h
    · rename_i e
      simp only [tget] at hx
      split at hx
      · simp at hx; subst hx; exact lA_in e
      · exact lT_in h hx
    · cases h
theorem lT_get : ∀ {t : List (Nat × AV)}, lT t = true → ∀ {d : Nat} {x : AV}, tget t d = some x → lA x = true
  | [], _, _, _, h => by cases h
  | (s, y) :: r, h, d, x, hx => by
    unfold lT at h
    split at h
    · rename_i e
      simp only [tget] at hx
      split at hx
      · simp at hx; subst hx; exact e
      · exact lT_get h hx
    · cases h
theorem lO_in : ∀ {l : List (Id × MObj)}, lO l = true → ∀ {i : Id} {x : MObj}, mget l i = some x → inO DL x ∧ DL i
  | [], _, _, _, h => by cases h
  | (j, y) :: r, h, i, x, hx => by
    unfold lO at h
    split at h
    · rename_i e1 e2
      simp only [mget] at hx
      split at hx
      · rename_i hij
        simp at hx; subst hx; subst hij
        refine ⟨?_, lI_in e1⟩
        cases y with
        | blk cs => exact lCs_in e2
        | arr _ _ _ _ => trivial
      · exact lO_in h hx
    · cases h
section
variable {P : Program} {B : Base} {g : G} {m : Mem} {w : World}
theorem pur_keeps {c c' : Cell} {m1 : Mem} (h : pur m c = some (c', m1)) {i : Id} {o : MObj} (hi : mget m.o i = some o) : ∃ o', mget m1.o i = some o' := by
  unfold pur at h
  split at h
  · simp at h; obtain ⟨_, rfl⟩ := h; exact ⟨o, hi⟩
  · simp at h; obtain ⟨_, rfl⟩ := h; exact ⟨o, hi⟩
  · simp at h; obtain ⟨_, rfl⟩ := h; exact ⟨o, hi⟩
  · split at h
    · split at h
      · simp at h
        obtain ⟨_, rfl⟩ := h
        simp only [mget_mset]
        split
        · exact ⟨_, rfl⟩
        · exact ⟨o, hi⟩
      · cases h
    · cases h
  · cases h
theorem purL_keeps : ∀ {cs cs' : List Cell} {m m1 : Mem} (_ : purL m cs = some (cs', m1)) {i : Id} {o : MObj} (_ : mget m.o i = some o), ∃ o', mget m1.o i = some o'
  | [], cs', m, m1, h, i, o, hi => by
    simp [purL] at h
    obtain ⟨_, rfl⟩ := h
    exact ⟨o, hi⟩
  | c :: r, cs', m, m1, h, i, o, hi => by
    unfold purL at h
    split at h
    · rename_i c1 m2 h1
      split at h
      · rename_i r1 m3 h2
        simp at h
        obtain ⟨_, rfl⟩ := h
        obtain ⟨o2, hi2⟩ := pur_keeps h1 hi
        exact purL_keeps h2 hi2
      · cases h
    · cases h
theorem gh_at (hG : GhB B) (hI : Inv B g m w) : ∃ b cap, g.K (.x 0) ∧ g.K (.x 1) ∧ g.β (.x 0) = .pointer (some ⟨b, 0, none⟩) ∧ g.β (.x 1) = .slice (some ⟨b, 0, none⟩) cap cap ∧ g.sz (.x 1) = 1 ∧ cap ≤ maxLen := by
  obtain ⟨b, cap, h1, h2, h3, h4, h5, h6⟩ := hG.ex
  exact ⟨b, cap, hI.ext.K _ h1, hI.ext.K _ h2, (hI.ext.β _ h1).trans h3, (hI.ext.β _ h2).trans h4, (hI.ext.sz _ h2).trans h5, h6⟩
theorem gh_ptr (hG : GhB B) (hI : Inv B g m w) {k : Nat} {v : Value} (h : RepA g w (.c (.aptr (.x 1) k 0)) v) : RepA g w (.c (.ptr (.x 0) k)) v := by
  obtain ⟨b, cap, h1, h2, h3, h4, h5, h6⟩ := gh_at hG hI
  cases h with
  | c h => cases h with
    | pure h => cases h
    | aptr hk hv =>
      rw [h4] at hv
      simp at hv
      obtain ⟨rfl, _⟩ := hv
      rw [h5, Nat.mul_one, Nat.add_zero]
      exact .c (.ptr h1 h3)
/-- The slice as data: its elements are data by now, and nobody writes it any more. -/
theorem gh_out (hG : GhB B) (hI : Inv B g m w) {cs cs' : List Cell} (hm : mget m.o (.x 0) = some (.blk cs)) {m1 : Mem} (hp : purL m cs = some (cs', m1)) {v : Value} (hv : RepA g w (.c (.view (.x 1) 0 cs.length)) v) :
    ∃ g', Ext g w g' w ∧ Inv B g' { m1 with o := mdel m1.o (.x 0) } w ∧ RepA g' w (.c (.lst (cs'.map fun c => [c]))) v := by
  obtain ⟨b, cap, h1, h2, h3, h4, h5, h6⟩ := gh_at hG hI
  obtain ⟨hK0, hO⟩ := hI.ok _ _ hm
  cases hO with
  | blk us hv0 hh hl hr h1c hf =>
  rw [h3] at hv0
  simp at hv0
  subst hv0
  obtain ⟨hlen, g1, hE1, hI1, hr1⟩ := purL_ok hI hl hr hp
  have hbl : b < w.heap.size := (Array.getElem?_eq_some_iff.1 hh).1
  let g2 : G := { g1 with F := fun b' o => g1.F b' o ∨ (b' = b ∧ o < cs.length) }
  have hE2 : Ext g1 w g2 w := ⟨fun _ h => h, fun _ _ => rfl, fun _ _ => rfl, fun _ _ h => .inl h, fun _ _ _ => rfl⟩
  have hβ1 : g1.β (.x 0) = .pointer (some ⟨b, 0, none⟩) := (hE1.β _ h1).trans h3
  have hm' : ∀ j o, mget (mdel m1.o (.x 0)) j = some o → mget m1.o j = some o ∧ j ≠ .x 0 := fun j o h => by
    rw [mget_mdel] at h
    split at h
    · cases h
    · rename_i e; exact ⟨h, e⟩
  have hx0 : ∃ o, mget m1.o (.x 0) = some o := purL_keeps hp hm
  obtain ⟨o0, ho0⟩ := hx0
  have hnb : ∀ j o, mget (mdel m1.o (.x 0)) j = some o → blockOf (g1.β j) ≠ some b := fun j o h => by
    obtain ⟨h1', h2'⟩ := hm' j o h
    exact hI1.apart (.x 0) j o0 o b ho0 h1' (Ne.symm h2') (by rw [hβ1]; rfl)
  refine ⟨g2, hE1.trans hE2, { ok := fun j o hj => ?_, apart := fun i j oi oj b' hi hj hij hb => hI1.apart i j oi oj b' (hm' i oi hi).1 (hm' j oj hj).1 hij hb, fresh := fun s k hu => hI1.fresh s k hu, flt := fun b' o hF => ?_, ext := hI1.ext.trans hE2, fnew := fun b' o hF => ?_, own := fun i o b' hi hb => hI1.own i o b' (hm' i o hi).1 hb, os := hI1.os, tape := hI1.tape, output := hI1.output, size := hI1.size, block := hI1.block }, ?_⟩
  · obtain ⟨hk, ho⟩ := hI1.ok j o (hm' j o hj).1
    refine ⟨hk, ho.keep hk hE2 fun b' hb' => ⟨rfl, fun o' hF => ?_⟩⟩
    rcases hF with hF | ⟨e, _⟩
    · exact hF
    · subst e; exact absurd hb' (hnb j o hj)
  · rcases hF with hF | ⟨e, _⟩
    · exact hI1.flt b' o hF
    · subst e; exact hbl
  · rcases hF with hF | ⟨e, _⟩
    · exact hI1.fnew b' o hF
    · subst e; exact .inr (hI.own _ _ b' hm (by rw [h3]; rfl))
  · cases hv with
    | c hv => cases hv with
      | pure h => cases h
      | view hk hv hle ha hsp =>
        rw [h4] at hv
        simp at hv
        obtain ⟨rfl, rfl, rfl⟩ := hv
        have := ha (.inr rfl)
        subst this
        refine .c (.pure ?_)
        have hu : ∀ (i : Nat), i < cs.length → us[i]? = some (us.getD i undef) := fun i hi => by
          rw [List.getD_eq_getElem?_getD, List.getElem?_eq_getElem (by omega)]; rfl
        have key := RepP.lst (F := g2.F) (w := w) (es := cs'.map fun c => [c]) (b := b) (off := 0) (cap := cap) (sz := 1) (fun i _ => us.getD i undef) (fun i e he => by
            obtain ⟨c, _, rfl⟩ := List.getElem?_map .. ▸ he |> Option.map_eq_some_iff.1
            rfl) (fun i e he j c hj => by
            rw [List.getElem?_map] at he
            obtain ⟨c', hc', rfl⟩ := Option.map_eq_some_iff.1 he
            have hi : i < cs.length := by rw [← hlen]; exact (List.getElem?_eq_some_iff.1 hc').1
            have hj0 : j = 0 := by have := (List.getElem?_eq_some_iff.1 hj).1; simp at this; omega
            subst hj0
            refine ⟨.inr ⟨rfl, by omega⟩, ?_⟩
            rw [cell_of_block hh, Nat.zero_add, Nat.mul_one, Nat.add_zero]
            simpa using hu i hi) (fun i e he j c hj => by
            rw [List.getElem?_map] at he
            obtain ⟨c', hc', rfl⟩ := Option.map_eq_some_iff.1 he
            have hi : i < cs.length := by rw [← hlen]; exact (List.getElem?_eq_some_iff.1 hc').1
            have hj0 : j = 0 := by have := (List.getElem?_eq_some_iff.1 hj).1; simp at this; omega
            subst hj0
            simp at hj
            subst hj
            exact (hr1 i c' _ hc' (hu i hi)).ext (fun _ _ h => .inl h) (fun _ _ _ => rfl)) (by simp; omega) h6
        rw [List.length_map, hlen] at key
        simpa [Addr.add] using key
end
end Go.Abs

/- Where a slice of one's own becomes a variable whose cells are its elements. -/
namespace Go.Abs
open Go.RowKit
set_option linter.unusedVariables false
set_option linter.unusedSimpArgs false
section
variable {P : Program} {B : Base} {g : G} {m : Mem} {w : World}
def ghG0 (F : Nat → Nat → Prop) (b n : Nat) : G := { K := fun i => i = .x 0 ∨ i = .x 1, β := fun i => if i = .x 0 then .pointer (some ⟨b, 0, none⟩) else .slice (some ⟨b, 0, none⟩) n n, sz := fun _ => 1, F := F }
def ghG (g : G) (b n : Nat) : G := { K := fun i => (DL i ∧ g.K i) ∨ i = .x 0 ∨ i = .x 1, β := fun i => if lI i = true then g.β i else (ghG0 g.F b n).β i, sz := fun i => if lI i = true then g.sz i else 1, F := g.F }
def ghBase (B : Base) (W : World) (F : Nat → Nat → Prop) (b n : Nat) : Base := { w0 := W, X := fun b => B.X b ∨ B.w0.heap.size ≤ b, g0 := ghG0 F b n, N := B.N, gx := fun i h => by rcases h with rfl | rfl; exact ⟨0, rfl⟩; exact ⟨1, rfl⟩, ds := B.ds }
theorem gh_link (g : G) (b n : Nat) : Link id DL (ghG g b n) g where
  K := fun i hi => by
    obtain ⟨s, k, rfl⟩ := hi
    constructor
    · intro h
      rcases h with h | h | h
      · exact h.2
      · cases h
      · cases h
    · intro h
      exact .inl ⟨⟨s, k, rfl⟩, h⟩
  β := fun i hi _ => by obtain ⟨s, k, rfl⟩ := hi; rfl
  sz := fun i hi _ => by obtain ⟨s, k, rfl⟩ := hi; rfl
  F := rfl
theorem gh_base {W : World} {F : Nat → Nat → Prop} {b n : Nat} (h : n ≤ maxLen) : GhB (ghBase B W F b n) := ⟨⟨b, n, .inl rfl, .inr rfl, rfl, rfl, rfl, h⟩⟩
theorem gh_under (hI : Inv B g m w) {b n : Nat} : Under B (ghBase B w g.F b n) := ⟨hI.os, hI.tape, hI.output, hI.size, hI.block, fun _ h => h, hI.ext.F, fun b o h => hI.fnew b o h, rfl, rfl⟩
theorem cells_flat {es : List (List Cell)} (hs : ∀ (k : Nat) x, es[k]? = some x → x.length = 1) : ∀ {j : Nat} {c : Cell}, es.flatten[j]? = some c → es[j]? = some [c] := by
  induction es with
  | nil => intro j c h; simp at h
  | cons e r ih =>
    intro j c h
    have h1 := hs 0 e rfl
    obtain ⟨c0, rfl⟩ : ∃ c0, e = [c0] := by
      cases e with
      | nil => simp at h1
      | cons a l => cases l with
        | nil => exact ⟨a, rfl⟩
        | cons => simp at h1
    cases j with
    | zero => simp at h; subst h; rfl
    | succ j =>
      simp only [List.flatten_cons, List.singleton_append, List.getElem?_cons_succ] at h ⊢
      exact ih (fun k x hk => hs (k + 1) x (by simpa using hk)) h
theorem flat_len {es : List (List Cell)} (hs : ∀ (k : Nat) x, es[k]? = some x → x.length = 1) : es.flatten.length = es.length := by
  induction es with
  | nil => rfl
  | cons e r ih =>
    have h1 := hs 0 e rfl
    rw [List.flatten_cons, List.length_append, h1, ih fun k x hk => hs (k + 1) x (by simpa using hk), List.length_cons]
    omega
theorem to_gh (hI : Inv B g m w) {io : Id} {e : TypeId} {es : List (List Cell)} (hio : mget m.o io = some (.arr e 1 es false)) {b : Nat} (hv : RepA g w (.c (.view io 0 es.length)) (.slice (some ⟨b, 0, none⟩) es.length es.length))
    {o' : List (Id × MObj)} (ho' : ∀ i o, mget o' i = some o → mget m.o i = some o ∧ i ≠ io) (hO : lO o' = true) :
    GhB (ghBase B w g.F b es.length) ∧ Inv (ghBase B w g.F b es.length) (ghG g b es.length) { m with o := (.x 0, .blk es.flatten) :: o' } w ∧
    (∀ x v, lA x = true → RepA g w x v → RepA (ghG g b es.length) w x v) ∧ RepA (ghG g b es.length) w (.c (.view (.x 1) 0 es.length)) (.slice (some ⟨b, 0, none⟩) es.length es.length) := by
  have hlk := gh_link g b es.length
  obtain ⟨hKo, hOb⟩ := hI.ok io _ hio
  cases hOb with
  | arr us hsz ho hs hr h1c hf =>
  have hβ : ∃ len, g.β io = .slice (some ⟨b, 0, none⟩) len es.length := by
    cases hv with
    | c hv =>
      generalize hV : Value.slice (some ⟨b, 0, none⟩) es.length es.length = V at hv
      cases hv with
      | pure h => cases h
      | view hk hv hle ha hsp =>
        rename_i len cap a a'
        simp at hV
        obtain ⟨rfl, hcap⟩ := hV
        have := ha (.inr rfl)
        cases a with
        | none => simp at this
        | some ad =>
          have hsp0 := hsp _ rfl
          simp only [Option.map_some, Nat.zero_mul, Option.some.injEq] at this
          refine ⟨len, ?_⟩
          rw [hv, hcap]
          congr 2
          rcases ho.2 with ⟨hn, _⟩ | ⟨gb, cap', cur, hb', _⟩
          · rw [hv] at hn; cases hn
          · rw [hv] at hb'
            simp at hb'
            obtain ⟨hb', _, _⟩ := hb'
            subst hb'
            simpa [Addr.add_lit] using this.symm
  obtain ⟨len, hβ⟩ := hβ
  rcases ho.2 with ⟨hn, _⟩ | ⟨gb, cap', cur, hb', _, hh, hnc, hcm, hcs, htk⟩
  · rw [hβ] at hn; cases hn
  rw [hβ] at hb'
  simp at hb'
  obtain ⟨rfl, rfl, rfl⟩ := hb'
  have hus : us = cur.toList := by
    rw [← htk]
    exact List.take_of_length_le (by rw [Array.length_toList, hcs]; exact Nat.le_refl _)
  have hbo : blockOf (g.β io) = some b := by rw [hβ]; rfl
  refine ⟨gh_base hcm, ?_, fun x v hx hr => hlk.pullA hr x (renA_id x) (lA_in hx), ?_⟩
  · have hget : ∀ i o, mget ((Id.x 0, MObj.blk es.flatten) :: o') i = some o → (i = .x 0 ∧ o = .blk es.flatten) ∨ (mget o' i = some o ∧ DL i) := fun i o h => by
      simp only [mget] at h
      split at h
      · rename_i e; simp at h; exact .inl ⟨e, h.symm⟩
      · exact .inr ⟨h, (lO_in hO h).2⟩
    have hβl : ∀ i, DL i → (ghG g b es.length).β i = g.β i := fun i hi => by obtain ⟨s, k, rfl⟩ := hi; rfl
    refine { ok := fun i o hi => ?_, apart := fun i j oi oj b' hi hj hij hb => ?_, fresh := fun s k hu hK => ?_, flt := hI.flt, ext := ?_, fnew := fun b' o hF => .inl hF, own := fun i o b' hi hb => ?_, os := rfl, tape := rfl, output := rfl, size := Nat.le_refl _, block := fun _ _ _ => rfl }
    · rcases hget i o hi with ⟨rfl, rfl⟩ | ⟨h, hD⟩
      · refine ⟨.inr (.inl rfl), .blk (T := e) us rfl (by rw [hus]; simpa using hh) ?_ (fun j c u hj hu => ?_) h1c (fun o hF => ?_)⟩
        · rw [flat_len hs, ho.1, Nat.mul_one]
        · obtain ⟨u', hu', hc⟩ := hr j _ (cells_flat hs hj) 0 c rfl
          rw [Nat.mul_one, Nat.add_zero, hu] at hu'
          cases hu'
          exact .pure hc
        · have := hf b o hbo hF
          exact absurd this.1 (by simp)
      · obtain ⟨hk, hob⟩ := hI.ok i o (ho' i o h).1
        have hk' : (ghG g b es.length).K i := .inl ⟨hD, hk⟩
        exact ⟨hk', hlk.pullO hD hk' (by rw [renO_id]; exact hob) (lO_in hO h).1⟩
    · rcases hget i oi hi with ⟨rfl, rfl⟩ | ⟨h, hD⟩ <;> rcases hget j oj hj with ⟨rfl, rfl⟩ | ⟨h', hD'⟩
      · exact absurd rfl hij
      · rw [hβl j hD']
        have hb : some b = some b' := hb
        cases hb
        exact hI.apart io j _ oj b hio (ho' j oj h').1 (Ne.symm (ho' j oj h').2) hbo
      · rw [hβl i hD] at hb
        intro (e : some b = some b')
        cases e
        exact hI.apart io i _ oi b hio (ho' i oi h).1 (Ne.symm (ho' i oi h).2) hbo hb
      · rw [hβl i hD] at hb
        rw [hβl j hD']
        exact hI.apart i j oi oj b' (ho' i oi h).1 (ho' j oj h').1 hij hb
    · rcases hK with h | h | h
      · exact hI.fresh s k hu h.2
      · cases h
      · cases h
    · refine ⟨fun i hi => .inr hi, fun i hi => ?_, fun i hi => ?_, fun _ _ h => h, fun _ _ _ => rfl⟩ <;> rcases hi with rfl | rfl <;> rfl
    · rcases hget i o hi with ⟨rfl, rfl⟩ | ⟨h, hD⟩
      · have hb : some b = some b' := hb
        cases hb
        rcases hI.own io _ b hio hbo with h | h
        · exact .inr (.inr h)
        · exact .inr (.inl h)
      · rw [hβl i hD] at hb
        rcases hI.own i o b' (ho' i o h).1 hb with h | h
        · exact .inr (.inr h)
        · exact .inr (.inl h)
  · have := RepC.view (g := ghG g b es.length) (w := w) (o := .x 1) (lo := 0) (n := es.length) (len := es.length) (cap := es.length) (a := some ⟨b, 0, none⟩) (a' := some ⟨b, 0, none⟩) (.inr (.inr rfl)) rfl (by omega) (fun _ => by simp [Addr.add]) (fun ad h => by simp at h; subst h; rfl)
    exact .c (by simpa using this)
end
end Go.Abs
