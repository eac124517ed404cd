/- Proved here: what functions of the given program come to, and the plain laws of it; no condition but those in the theorems. -/
import Derived.Test.YtfhnicamjcfddaaGreatDoorAbsK
import Derived.Test.YtfhnicamjcfddaaGreatDoorAbsMp
/- The abstract evaluator is right: every operation. -/
namespace Go.Abs
open Go.RowKit

section
variable {P : Program} {B : Base} {g g' : G} {m m' : Mem} {w w' : World}

theorem map_pair {α : Type} {o : Option α} {m m' : Mem} {x : α} (h : o.map (·, m) = some (x, m')) : o = some x ∧ m' = m := by
  cases o with
  | none => cases h
  | some y => simp at h; exact ⟨by rw [h.1], h.2.symm⟩

theorem mapM_cells : ∀ {l : List AV} {cs : List Cell}, plainCells l = some cs → l = cs.map AV.c
  | [], cs, h => by simp [plainCells] at h; subst h; rfl
  | x :: l, cs, h => by
    cases x with
    | c x =>
      simp [plainCells] at h
      obtain ⟨cs', h1, rfl⟩ := h
      simp [mapM_cells h1]
    | agg _ => simp [plainCells] at h
    | tup _ => simp [plainCells] at h

theorem opF_ok (hI : Inv B g m w) {φ : Nat → Option AV} {a : Act} (hs : Slots g w φ a) (o : Oper) {d : Nat} (hfd : memU d m.us = false) {x : AV} (h : opF P o.op d φ m = some (x, m')) :
    ∃ v w' g', (execOp a.eval o).run P w = .ok (.value v) w' ∧ Ext g w g' w' ∧ RepA g' w' x v ∧ Inv B g' m' w' := by
  obtain ⟨dst, op, ty, pos, af, gd⟩ := o
  have quiet : ∀ {v : Value}, (execOp a.eval ⟨dst, op, ty, pos, af, gd⟩).run P w = .ok (.value v) w → RepA g w x v → m' = m →
      ∃ v w' g', (execOp a.eval ⟨dst, op, ty, pos, af, gd⟩).run P w = .ok (.value v) w' ∧ Ext g w g' w' ∧ RepA g' w' x v ∧ Inv B g' m' w' := fun h1 h2 h3 => ⟨_, w, g, h1, .refl g w, h2, h3 ▸ hI⟩
  unfold opF at h
  simp only at h
  split at h
  · rename_i y
    obtain ⟨h1, h2⟩ := map_pair h
    exact quiet (by simp [execOp]) (ev_rep hI.laid hs h1) h2
  · rename_i y
    obtain ⟨h1, h2⟩ := map_pair h
    exact quiet (by simp [execOp]) (ev_rep hI.laid hs h1) h2
  · rename_i c y z
    split at h
    · rename_i hc
      obtain ⟨h1, h2⟩ := map_pair h
      have := isBool (ev_rep hI.laid hs hc)
      exact quiet (by simp [execOp, asBool, this]) (ev_rep hI.laid hs h1) h2
    · rename_i hc
      obtain ⟨h1, h2⟩ := map_pair h
      have := isBool (ev_rep hI.laid hs hc)
      exact quiet (by simp [execOp, asBool, this]) (ev_rep hI.laid hs h1) h2
    · cases h
  · rename_i T
    split at h
    · rename_i ti hti
      split at h
      · rename_i cs hcs
        simp at h
        obtain ⟨rfl, rfl⟩ := h
        obtain ⟨v, w', g', r1, r2, r3, r4⟩ := alloc_ok hI d hfd hti hcs
        exact ⟨v, w', g', by simp [execOp, r1], r2, r3, r4⟩
      · cases h
    · cases h
  · rename_i T y
    split at h
    · rename_i av hav
      split at h
      · rename_i cs hcs
        simp at h
        obtain ⟨rfl, rfl⟩ := h
        obtain ⟨v, w', g', r1, r2, r3, r4⟩ := box_ok hI d hfd (T := T) hcs (ev_rep hI.laid hs hav)
        exact ⟨v, w', g', by simp only [execOp, Sem.run_bind]; rw [r1]; rfl, r2, r3, r4⟩
      · cases h
    · cases h
  · rename_i T ps
    split at h
    · rename_i ti hti
      split at h
      · rename_i fs z hd hz
        split at h
        · rename_i hall
          cases hb : buildF φ P fs z ps.toList with
          | none => simp [hb] at h
          | some cs =>
            simp [hb] at h
            obtain ⟨rfl, rfl⟩ := h
            obtain ⟨v, r1, r2⟩ := build_ok (a := a) hI.laid hs hti hd hz hall hb
            exact quiet (by simp only [execOp, Sem.run_bind, r1]; rfl) r2 rfl
        · cases h
      · rename_i n e z hd hz
        split at h
        · rename_i te hte
          cases hb : buildF φ P (arrFs te.size e n 0) z ps.toList with
          | none => simp [hb] at h
          | some cs =>
            simp [hb] at h
            obtain ⟨rfl, rfl⟩ := h
            obtain ⟨v, r1, r2⟩ := buildArr_ok (a := a) hI.laid hs hti hd hz hte hb
            exact quiet (by simp only [execOp, Sem.run_bind, r1]; rfl) r2 rfl
        · cases h
      · cases h
    · cases h
  · rename_i T n ps
    split at h
    · rename_i e _ hti
      split at h
      · rename_i te hte
        split at h
        · cases h
        · rename_i h0
          split at h
          · rename_i es m1 hp
            split at h
            · rename_i hn
              simp at h
              obtain ⟨rfl, rfl⟩ := h
              obtain ⟨v, w', g', r1, r2, r3, r4⟩ := buildSlice_ok (a := a) hs hI d hfd hti rfl hte h0 hp hn
              exact ⟨v, w', g', by simp only [execOp, Sem.run_bind, r1]; rfl, r2, r3, r4⟩
            · cases h
          · cases h
      · cases h
    · cases h
  · rename_i T y y'
    split at h
    · rename_i e _ _ n _ n' hti hy hy'
      split at h
      · rename_i te hte
        split at h
        · rename_i z hz
          split at h
          · rename_i hcond
            obtain ⟨rfl, hn, hs0, hb0, hzl, hb⟩ := hcond
            simp at h
            obtain ⟨rfl, rfl⟩ := h
            obtain ⟨n, rfl⟩ := Int.eq_ofNat_of_zero_le hn
            obtain ⟨v, w', g', r1, r2, r3, r4⟩ := makeSlice_ok hI d hfd hti rfl hte hz hzl hs0 hb0 (n := n) (by rw [← Int.natCast_mul] at hb; omega) _ _
            refine ⟨v, w', g', ?_, r2, r3, r4⟩
            simp only [execOp, Sem.run_bind]
            rw [isInt (ev_rep hI.laid hs hy), isInt (ev_rep hI.laid hs hy'), r1]
            rfl
          · cases h
        · cases h
      · cases h
    · cases h
  · rename_i t y
    split at h
    · rename_i ti p hti hp
      obtain ⟨h1, h2⟩ := map_pair h
      obtain ⟨u, r1, r2⟩ := loadF_ok hI hti (ev_rep hI.laid hs hp) h1
      exact quiet (by simp [execOp, r1]) r2 h2
    · cases h
  · rename_i y
    split at h
    · rename_i i o hy
      simp at h; obtain ⟨rfl, rfl⟩ := h
      have hr := ev_rep hI.laid hs hy
      have hv : ∃ ad, a.eval y = .pointer (some ad) := by
        generalize a.eval y = v at hr
        cases hr with
        | c hr => cases hr with
          | pure hr => cases hr
          | ptr _ _ => exact ⟨_, rfl⟩
      obtain ⟨ad, hv⟩ := hv
      exact quiet (by simp [execOp, hv]; rfl) (by rw [hv] at hr; exact hr) rfl
    · rename_i o i k hy
      simp at h; obtain ⟨rfl, rfl⟩ := h
      have hr := ev_rep hI.laid hs hy
      have hv : ∃ ad, a.eval y = .pointer (some ad) := by
        generalize a.eval y = v at hr
        cases hr with
        | c hr => cases hr with
          | pure hr => cases hr
          | aptr _ _ => exact ⟨_, rfl⟩
      obtain ⟨ad, hv⟩ := hv
      exact quiet (by simp [execOp, hv]; rfl) (by rw [hv] at hr; exact hr) rfl
    · rename_i cs hy
      simp at h; obtain ⟨rfl, rfl⟩ := h
      have hr := ev_rep hI.laid hs hy
      have hv : ∃ ad, a.eval y = .pointer (some ad) := by
        generalize a.eval y = v at hr
        cases hr with
        | c hr => cases hr with
          | pure hr => cases hr
          | pel _ _ _ => exact ⟨_, rfl⟩
      obtain ⟨ad, hv⟩ := hv
      exact quiet (by simp [execOp, hv]; rfl) (by rw [hv] at hr; exact hr) rfl
    · rename_i f cs hy
      simp at h; obtain ⟨rfl, rfl⟩ := h
      have hr := ev_rep hI.laid hs hy
      have hv : ∃ us : Array Value, a.eval y = .func (.func f) #[] us := by
        generalize a.eval y = v at hr
        cases hr with
        | c hr => cases hr with
          | pure hr => cases hr
          | fn us _ _ => exact ⟨_, rfl⟩
      obtain ⟨us, hv⟩ := hv
      exact quiet (by simp [execOp, hv]; rfl) (by rw [hv] at hr; exact hr) rfl
    · cases h
  · rename_i op t y z ty'
    split at h
    · rename_i k p k' q hy hz
      split at h
      · rename_i hk
        subst hk
        cases hb : binI op k p q with
        | none => simp [hb] at h
        | some v =>
          simp [hb] at h
          obtain ⟨rfl, rfl⟩ := h
          have e1 := isInt (ev_rep hI.laid hs hy)
          have e2 := isInt (ev_rep hI.laid hs hz)
          obtain ⟨r1, r2⟩ := binI_ok (P := P) (w := w) (t := t) hb
          refine quiet (v := v) ?_ (.c (repC_sc r2)) rfl
          simp [execOp, e1, e2, eqGuard_at_int, r1]
      · cases h
    · rename_i p q hy hz
      split at h
      · rename_i hti
        cases hb : binB op p q with
        | none => simp [hb] at h
        | some v =>
          simp [hb] at h
          obtain ⟨rfl, rfl⟩ := h
          have e1 := isBool (ev_rep hI.laid hs hy)
          have e2 := isBool (ev_rep hI.laid hs hz)
          obtain ⟨i, dd, z, hi, hd, hz', he⟩ := tiOf_spec hti
          simp only [TI.mk.injEq] at he
          obtain ⟨_, _, _, _, hds, _⟩ := he
          obtain rfl := descOf_bool hds.symm
          obtain ⟨r1, r2⟩ := binB_ok (P := P) (w := w) (t := t) hd hb
          refine quiet (v := v) ?_ (.c (repC_sc r2)) rfl
          simp [execOp, e1, e2, eqGuard_at_bool, r1]
      · cases h
    · rename_i xs ys hy hz
      split at h
      · rename_i ti hti
        split at h
        · rename_i q ks hq
          cases hb : binE op (q :: ks) xs ys with
          | none => simp [hb] at h
          | some r =>
            simp [hb] at h
            obtain ⟨rfl, rfl⟩ := h
            have r1 := binE_ok (P := P) hti hq (ev_rep hI.laid hs hy) (ev_rep hI.laid hs hz) hb y z
            exact quiet (v := .bool r) (by simp only [execOp]; rw [Sem.run_bind, r1]; rfl) (.c (repC_sc rfl)) rfl
        · cases h
      · cases h
    · rename_i x hy hz
      split at h
      · rename_i hti
        cases hb : nilB op x with
        | none => simp [hb] at h
        | some r =>
          simp [hb] at h
          obtain ⟨rfl, rfl⟩ := h
          obtain ⟨e2, _⟩ := isSc (ev_rep hI.laid hs hz)
          obtain ⟨i, dd, z', hi, hd, hz', he⟩ := tiOf_spec hti
          simp only [TI.mk.injEq] at he
          obtain ⟨_, _, _, _, hds, _⟩ := he
          obtain rfl := descOf_slice hds.symm
          have r1 := nilB_ok (P := P) (w := w) (t := t) hd (ev_rep hI.laid hs hy) hb y z
          refine quiet (v := .bool r) ?_ (.c (repC_sc rfl)) rfl
          simp only [execOp, e2]
          rw [Sem.run_bind, r1]
          rfl
      · cases h
    · cases hb : binSO op (ev φ y) (ev φ z) with
      | none => simp [hb] at h
      | some v =>
        simp [hb] at h
        obtain ⟨rfl, rfl⟩ := h
        unfold binSO at hb
        split at hb
        · rename_i p q hy hz
          obtain ⟨e1, _⟩ := isSc (ev_rep hI.laid hs hy)
          obtain ⟨e2, _⟩ := isSc (ev_rep hI.laid hs hz)
          obtain ⟨r1, r2⟩ := binS_ok (P := P) (w := w) (t := t) hb
          refine quiet (v := v) ?_ (.c (repC_sc r2)) rfl
          simp [execOp, e1, e2, eqGuard_at_string, r1]
        · cases hb
  · rename_i op t y
    split at h
    · rename_i v hy
      cases hu : unV op v with
      | none => simp [hu] at h
      | some u =>
        simp [hu] at h
        obtain ⟨rfl, rfl⟩ := h
        obtain ⟨e1, _⟩ := isSc (ev_rep hI.laid hs hy)
        obtain ⟨r1, r2⟩ := unV_ok (P := P) (w := w) hu
        refine quiet (v := u) ?_ (.c (repC_sc r2)) rfl
        simp [execOp, e1, r1]
    · cases h
  · rename_i src t y
    split at h
    · rename_i ts k _ k' n hts hti hy
      simp at h
      obtain ⟨rfl, rfl⟩ := h
      have e1 := isInt (ev_rep hI.laid hs hy)
      obtain ⟨i, dd, z, hi, hd, hz', he⟩ := tiOf_spec hti
      simp only [TI.mk.injEq] at he
      obtain ⟨_, _, _, _, hds, _⟩ := he
      obtain rfl := descOf_int hds.symm
      obtain ⟨i', dd', z', hi', hd', hz'', _⟩ := tiOf_spec hts
      refine quiet (v := .int k (k.wrap n)) ?_ (.c (repC_sc rfl)) rfl
      simp [execOp, e1, convert, run_underlying hd, run_underlying hd', Conv.intToInt]
    · cases h
  · rename_i s y f
    split at h
    · rename_i p hp
      obtain ⟨h1, h2⟩ := map_pair h
      obtain ⟨u, r1, r2⟩ := fieldF_ok (ev_rep hI.laid hs hp) h1
      exact quiet (by simp [execOp, r1]) r2 h2
    · cases h
  · rename_i s y f
    split at h
    · rename_i p hp
      obtain ⟨h1, h2⟩ := map_pair h
      obtain ⟨u, r1, r2⟩ := fieldV_ok (ev_rep hI.laid hs hp) h1
      exact quiet (by simp [execOp, r1]) r2 h2
    · cases h
  · rename_i t y z
    split at h
    · rename_i p i hp hi
      obtain ⟨h1, h2⟩ := map_pair h
      obtain ⟨u, r1, r2⟩ := indexF_ok hI (ev_rep hI.laid hs hp) (ev_rep hI.laid hs hi) h1
      exact quiet (by simp [execOp, r1]) r2 h2
    · cases h
  · rename_i t y z
    split at h
    · rename_i p i hp hi
      obtain ⟨h1, h2⟩ := map_pair h
      obtain ⟨u, r1, r2⟩ := indexV_ok (ev_rep hI.laid hs hp) (ev_rep hI.laid hs hi) h1
      exact quiet (by simp [execOp, r1]) r2 h2
    · cases h
  · rename_i t y lo hi mx
    split at h
    · rename_i p hp
      obtain ⟨h1, h2⟩ := map_pair h
      obtain ⟨u, r1, r2⟩ := sliceF_ok hI hs (ev_rep hI.laid hs hp) h1
      exact quiet (by simp [execOp, r1]) r2 h2
    · cases h
  · rename_i T
    split at h
    · rename_i hti
      simp at h
      obtain ⟨rfl, rfl⟩ := h
      obtain ⟨v, w', g', r1, r2, r3, r4⟩ := makeMap_ok (P := P) hI d hfd T
      exact ⟨v, w', g', by simp [execOp, r1], r2, r3, r4⟩
    · cases h
  · rename_i T y z
    split at h
    · rename_i p q hp hq
      obtain ⟨h1, h2⟩ := map_pair h
      obtain ⟨u, r1, r2⟩ := mapF_ok hI (ev_rep hI.laid hs hp) (ev_rep hI.laid hs hq) h1
      exact quiet (by simp [execOp, r1]) r2 h2
    · cases h
  · rename_i y i
    split at h
    · rename_i l hy
      obtain ⟨h1, h2⟩ := map_pair h
      have hr := ev_rep hI.laid hs hy
      generalize hv : a.eval y = v at hr
      cases hr with
      | tup us hl hc =>
        have hi : i < us.length := by rw [hl]; exact (List.getElem?_eq_some_iff.1 h1).1
        refine quiet (v := us[i]) ?_ (hc i x _ h1 (List.getElem?_eq_getElem hi)) h2
        simp [execOp, hv, Instr.extract, hi]
    · cases h
  · rename_i f first caps
    split at h
    · rename_i hf
      split at h
      · rename_i l hl
        split at h
        · rename_i cs hcs
          simp at h
          obtain ⟨rfl, rfl⟩ := h
          have hfe : first = #[] := Array.eq_empty_of_size_eq_zero hf
          subst hfe
          obtain ⟨hll, hr⟩ := evs_rep hI.laid hs hl
          have hlc := mapM_cells hcs
          subst hlc
          refine quiet (v := .func (.func f) #[] (caps.toList.map a.eval).toArray) ?_ (.c (.fn _ (by simpa using hll.symm) fun j c u h1 h2 => ?_)) rfl
          · have e : (caps.toList.map a.eval).toArray = caps.map a.eval := by apply Array.ext'; simp
            rw [e]
            simp [execOp, Instr.makeFunc]
          · have := hr j (.c c) u (by rw [List.getElem?_map, h1]; rfl) h2
            cases this with
            | c h => exact h
        · cases h
      · cases h
    · cases h
  · rename_i b args argTypes
    split at h
    · rename_i l hl
      obtain ⟨hll, hr⟩ := evs_rep hI.laid hs hl
      obtain ⟨v, w', g', r1, r2, r3, r4⟩ := callB_ok hI hfd (vals := args.toList.map a.eval) ty (args.map fun | .const _ => true | _ => false) (by simpa using hll) (fun j x v h1 h2 => hr j x v h1 h2) h
      refine ⟨v, w', g', ?_, r2, r3, r4⟩
      have e : (args.toList.map a.eval).toArray = args.map a.eval := by apply Array.ext'; simp
      rw [e] at r1
      simp only [execOp, resolve, invoke, Sem.run_bind, Sem.run_pure, Result.andThen_ok]
      exact r1
    · cases h
  · cases h

theorem updOp_ok (hI : Inv B g m w) {φ : Nat → Option AV} {a : Act} (hs : Slots g w φ a) (o : Oper) {t : Nat} {p q v : Operand} (ho : o.op = .mapUpdate t p q v) {pa qa va : AV} (hp : ev φ p = some pa) (hq : ev φ q = some qa) (hv : ev φ v = some va)
    (h : updF' P t m pa qa va = some m') : ∃ w' g', (execOp a.eval o).run P w = .ok .skip w' ∧ Ext g w g' w' ∧ Inv B g' m' w' := by
  obtain ⟨w', g', r1, r2, r3⟩ := updF_ok hI (ev_rep hI.laid hs hp) (ev_rep hI.laid hs hq) (ev_rep hI.laid hs hv) h
  refine ⟨w', g', ?_, r2, r3⟩
  simp [execOp, ho, r1]

theorem storeOp_ok (hI : Inv B g m w) {φ : Nat → Option AV} {a : Act} (hs : Slots g w φ a) (o : Oper) {t : Nat} {p v : Operand} (ho : o.op = .store t p v) {ti : TI} (hti : tiOf P t = some ti) {pa va : AV} (hp : ev φ p = some pa) (hv : ev φ v = some va)
    (h : storeF ti m pa va = some m') : ∃ w' g', (execOp a.eval o).run P w = .ok .skip w' ∧ Ext g w g' w' ∧ Inv B g' m' w' := by
  obtain ⟨w', g', r1, r2, r3⟩ := storeF_ok hI hti (ev_rep hI.laid hs hp) (ev_rep hI.laid hs hv) h
  refine ⟨w', g', ?_, r2, r3⟩
  simp [execOp, ho, r1]

end
end Go.Abs

/- Functions that are given what may change: contracts with a small memory, names changed where they are used. -/
namespace Go.Abs
open Go.RowKit

/-! ### Names changed -/

mutual
def renC (ρ : Id → Id) : Cell → Cell
  | .sc v => .sc v
  | .lst es => .lst es
  | .full es => .full es
  | .view o lo n => .view (ρ o) lo n
  | .ptr i off => .ptr (ρ i) off
  | .aptr o i k => .aptr (ρ o) i k
  | .pel cs => .pel cs
  | .mp i => .mp (ρ i)
  | .fn f caps => .fn f (renCs ρ caps)
def renCs (ρ : Id → Id) : List Cell → List Cell
  | [] => []
  | c :: r => renC ρ c :: renCs ρ r
end
mutual
def renA (ρ : Id → Id) : AV → AV
  | .c x => .c (renC ρ x)
  | .agg cs => .agg (renCs ρ cs)
  | .tup l => .tup (renAs ρ l)
def renAs (ρ : Id → Id) : List AV → List AV
  | [] => []
  | x :: r => renA ρ x :: renAs ρ r
end
def renO (ρ : Id → Id) : MObj → MObj
  | .blk cs => .blk (renCs ρ cs)
  | .arr e sz es fr => .arr e sz es fr
  | .map es => .map es

mutual
def inC (D : Id → Prop) : Cell → Prop
  | .sc _ => True
  | .lst _ => True
  | .full _ => True
  | .view o _ _ => D o
  | .ptr i _ => D i
  | .aptr o _ _ => D o
  | .pel _ => True
  | .mp i => D i
  | .fn _ caps => inCs D caps
def inCs (D : Id → Prop) : List Cell → Prop
  | [] => True
  | c :: r => inC D c ∧ inCs D r
end
mutual
def inA (D : Id → Prop) : AV → Prop
  | .c x => inC D x
  | .agg cs => inCs D cs
  | .tup l => inAs D l
def inAs (D : Id → Prop) : List AV → Prop
  | [] => True
  | x :: r => inA D x ∧ inAs D r
end
def inO (D : Id → Prop) : MObj → Prop
  | .blk cs => inCs D cs
  | .arr .. => True
  | .map _ => True

theorem renCs_get {ρ : Id → Id} : ∀ {l : List Cell} {j : Nat}, (renCs ρ l)[j]? = (l[j]?).map (renC ρ)
  | [], j => by simp [renCs]
  | c :: r, 0 => by simp [renCs]
  | c :: r, j + 1 => by simpa [renCs] using renCs_get (l := r) (j := j)
theorem renCs_len {ρ : Id → Id} : ∀ {l : List Cell}, (renCs ρ l).length = l.length
  | [] => rfl
  | c :: r => by simp [renCs, renCs_len (l := r)]
theorem renAs_get {ρ : Id → Id} : ∀ {l : List AV} {j : Nat}, (renAs ρ l)[j]? = (l[j]?).map (renA ρ)
  | [], j => by simp [renAs]
  | c :: r, 0 => by simp [renAs]
  | c :: r, j + 1 => by simpa [renAs] using renAs_get (l := r) (j := j)
theorem renAs_len {ρ : Id → Id} : ∀ {l : List AV}, (renAs ρ l).length = l.length
  | [] => rfl
  | c :: r => by simp [renAs, renAs_len (l := r)]
theorem inCs_get {D : Id → Prop} : ∀ {l : List Cell} {j : Nat} {c : Cell}, inCs D l → l[j]? = some c → inC D c
  | [], _, _, _, h => by simp at h
  | x :: r, 0, c, h, hc => by simp at hc; subst hc; exact h.1
  | x :: r, j + 1, c, h, hc => inCs_get (l := r) (j := j) h.2 (by simpa using hc)
theorem inAs_get {D : Id → Prop} : ∀ {l : List AV} {j : Nat} {c : AV}, inAs D l → l[j]? = some c → inA D c
  | [], _, _, _, h => by simp at h
  | x :: r, 0, c, h, hc => by simp at hc; subst hc; exact h.1
  | x :: r, j + 1, c, h, hc => inAs_get (l := r) (j := j) h.2 (by simpa using hc)

/-- The names of one ghost, as those of another. -/
structure Link (ρ : Id → Id) (D : Id → Prop) (g g' : G) : Prop where
  K : ∀ i, D i → (g.K i ↔ g'.K (ρ i))
  β : ∀ i, D i → g.K i → g.β i = g'.β (ρ i)
  sz : ∀ i, D i → g.K i → g.sz i = g'.sz (ρ i)
  F : g.F = g'.F

variable {ρ : Id → Id} {D : Id → Prop} {g g' : G} {w : World}

theorem Link.pushC (h : Link ρ D g g') {c : Cell} {v : Value} (hr : RepC g w c v) : inC D c → RepC g' w (renC ρ c) v := by
  induction hr with
  | pure hp =>
    intro _
    rw [h.F] at hp
    cases hp with
    | sc hs => exact .pure (.sc hs)
    | emp h hn => exact .pure (.emp h hn)
    | lst u a b c d e => exact .pure (.lst u a b c d e)
  | full hp => intro _; rw [h.F] at hp; exact .full hp
  | view hk hv hn ha hsp =>
    intro hD
    exact .view ((h.K _ hD).1 hk) ((h.β _ hD hk).symm.trans hv) hn (by rw [← h.sz _ hD hk]; exact ha) hsp
  | ptr hk hv =>
    intro hD
    exact .ptr ((h.K _ hD).1 hk) ((h.β _ hD hk).symm.trans hv)
  | aptr hk hv =>
    rename_i o i k b len cap
    intro hD
    have := RepC.aptr (g := g') (w := w) (i := i) (k := k) ((h.K _ hD).1 hk) ((h.β _ hD hk).symm.trans hv)
    rw [← h.sz _ hD hk] at this
    exact this
  | pel u hc hr => intro _; rw [h.F] at hc hr; exact .pel u hc hr
  | mp hk hv =>
    intro hD
    exact .mp ((h.K _ hD).1 hk) ((h.β _ hD hk).symm.trans hv)
  | fn us hl _ ih =>
    intro hD
    refine .fn us (by rw [renCs_len]; exact hl) fun j c u hj hu => ?_
    rw [renCs_get] at hj
    cases hc : (‹List Cell› : List Cell)[j]? with
    | none => rw [hc] at hj; cases hj
    | some c0 =>
      rw [hc] at hj
      simp at hj
      subst hj
      exact ih j c0 u hc hu (inCs_get hD hc)

theorem Link.pullC (h : Link ρ D g g') {c' : Cell} {v : Value} (hr : RepC g' w c' v) : ∀ c, renC ρ c = c' → inC D c → RepC g w c v := by
  induction hr with
  | pure hp =>
    intro c e _
    rw [← h.F] at hp
    cases c <;> simp only [renC] at e <;> subst e <;> first | exact .pure hp | cases hp
  | full hp =>
    intro c e _
    rw [← h.F] at hp
    cases c <;> simp only [renC] at e <;> first | (cases e; done) | skip
    simp at e
    subst e
    exact .full hp
  | view hk hv hn ha hsp =>
    intro c e hD
    cases c <;> simp only [renC] at e <;> first | (cases e; done) | skip
    simp at e
    obtain ⟨rfl, rfl, rfl⟩ := e
    have hk' := (h.K _ hD).2 hk
    exact .view hk' ((h.β _ hD hk').trans hv) hn (by rw [h.sz _ hD hk']; exact ha) hsp
  | ptr hk hv =>
    intro c e hD
    cases c <;> simp only [renC] at e <;> first | (cases e; done) | skip
    simp at e
    obtain ⟨rfl, rfl⟩ := e
    have hk' := (h.K _ hD).2 hk
    exact .ptr hk' ((h.β _ hD hk').trans hv)
  | aptr hk hv =>
    rename_i o i k b len cap
    intro c e hD
    cases c <;> simp only [renC] at e <;> first | (cases e; done) | skip
    simp at e
    obtain ⟨rfl, rfl, rfl⟩ := e
    have hk' := (h.K _ hD).2 hk
    rw [← h.sz _ hD hk']
    exact .aptr hk' ((h.β _ hD hk').trans hv)
  | pel u hc hr =>
    intro c e _
    rw [← h.F] at hc hr
    cases c <;> simp only [renC] at e <;> first | (cases e; done) | skip
    simp at e
    subst e
    exact .pel u hc hr
  | mp hk hv =>
    intro c e hD
    cases c <;> simp only [renC] at e <;> first | (cases e; done) | skip
    simp at e
    subst e
    have hk' := (h.K _ hD).2 hk
    exact .mp hk' ((h.β _ hD hk').trans hv)
  | fn us hl _ ih =>
    intro c e hD
    cases c <;> simp only [renC] at e <;> first | (cases e; done) | skip
    simp at e
    obtain ⟨rfl, rfl⟩ := e
    rw [renCs_len] at hl
    exact .fn us hl fun j c u hj hu => ih j (renC ρ c) u (by rw [renCs_get, hj]; rfl) hu c rfl (inCs_get hD hj)

theorem Link.pushA (h : Link ρ D g g') {x : AV} {v : Value} (hr : RepA g w x v) : inA D x → RepA g' w (renA ρ x) v := by
  induction hr with
  | c hc => intro hD; exact .c (h.pushC hc hD)
  | agg us hl hc =>
    intro hD
    refine .agg us (by rw [renCs_len]; exact hl) fun j c u hj hu => ?_
    rw [renCs_get] at hj
    cases hc' : (‹List Cell› : List Cell)[j]? with
    | none => rw [hc'] at hj; cases hj
    | some c0 =>
      rw [hc'] at hj
      simp at hj
      subst hj
      exact h.pushC (hc j c0 u hc' hu) (inCs_get hD hc')
  | tup us hl _ ih =>
    intro hD
    refine .tup us (by rw [renAs_len]; exact hl) fun j c u hj hu => ?_
    rw [renAs_get] at hj
    cases hc' : (‹List AV› : List AV)[j]? with
    | none => rw [hc'] at hj; cases hj
    | some c0 =>
      rw [hc'] at hj
      simp at hj
      subst hj
      exact ih j c0 u hc' hu (inAs_get hD hc')

theorem Link.pullA (h : Link ρ D g g') {x' : AV} {v : Value} (hr : RepA g' w x' v) : ∀ x, renA ρ x = x' → inA D x → RepA g w x v := by
  induction hr with
  | c hc =>
    intro x e hD
    cases x <;> simp only [renA] at e <;> first | (cases e; done) | skip
    simp at e
    exact .c (h.pullC hc _ e hD)
  | agg us hl hc =>
    intro x e hD
    cases x <;> simp only [renA] at e <;> first | (cases e; done) | skip
    simp at e
    subst e
    rw [renCs_len] at hl
    exact .agg us hl fun j c u hj hu => h.pullC (hc j (renC ρ c) u (by rw [renCs_get, hj]; rfl) hu) c rfl (inCs_get hD hj)
  | tup us hl _ ih =>
    intro x e hD
    cases x <;> simp only [renA] at e <;> first | (cases e; done) | skip
    simp at e
    subst e
    rw [renAs_len] at hl
    exact .tup us hl fun j c u hj hu => ih j (renA ρ c) u (by rw [renAs_get, hj]; rfl) hu c rfl (inAs_get hD hj)

theorem Link.pushO (h : Link ρ D g g') {i : Id} {o : MObj} (hi : D i) (hk : g.K i) (ho : ObjOk g w i o) (hD : inO D o) : ObjOk g' w (ρ i) (renO ρ o) := by
  cases ho with
  | blk us hv hh hl hr h1 hf =>
    refine .blk us ((h.β i hi hk).symm.trans hv) hh (by rw [renCs_len]; exact hl) (fun j c u hj hu => ?_) h1 (fun o => by rw [← h.F]; exact hf o)
    rw [renCs_get] at hj
    cases hc' : (‹List Cell› : List Cell)[j]? with
    | none => rw [hc'] at hj; cases hj
    | some c0 =>
      rw [hc'] at hj
      simp at hj
      subst hj
      exact h.pushC (hr j c0 u hc' hu) (inCs_get hD hc')
  | arr us hz ho hs hr h1 hf =>
    refine .arr us ((h.sz i hi hk).symm.trans hz) (by rw [← h.β i hi hk]; exact ho) hs (fun k x hx j c hj => ?_) h1 (fun b o hb hF => hf b o (by rw [h.β i hi hk]; exact hb) (by rw [h.F]; exact hF))
    obtain ⟨u, h2, h3⟩ := hr k x hx j c hj
    exact ⟨u, h2, by rw [← h.F]; exact h3⟩
  | map ents hv hh hr hs hf => exact .map ents ((h.β i hi hk).symm.trans hv) hh hr hs (fun o => by rw [← h.F]; exact hf o)

theorem Link.pullO (h : Link ρ D g g') {i : Id} {o : MObj} (hi : D i) (hk : g.K i) (ho : ObjOk g' w (ρ i) (renO ρ o)) (hD : inO D o) : ObjOk g w i o := by
  cases o with
  | blk cs =>
    cases ho with
    | blk us hv hh hl hr h1 hf =>
      rw [renCs_len] at hl
      exact .blk us ((h.β i hi hk).trans hv) hh hl (fun j c u hj hu => h.pullC (hr j (renC ρ c) u (by rw [renCs_get, hj]; rfl) hu) c rfl (inCs_get hD hj)) h1 (fun o => by rw [h.F]; exact hf o)
  | arr e sz es fr =>
    cases ho with
    | arr us hz ho hs hr h1 hf =>
      refine .arr us ((h.sz i hi hk).trans hz) (by rw [h.β i hi hk]; exact ho) hs (fun k x hx j c hj => ?_) h1 (fun b o hb hF => hf b o (by rw [← h.β i hi hk]; exact hb) (by rw [← h.F]; exact hF))
      obtain ⟨u, h2, h3⟩ := hr k x hx j c hj
      exact ⟨u, h2, by rw [h.F]; exact h3⟩
  | map es =>
    cases ho with
    | map ents hv hh hr hs hf => exact .map ents ((h.β i hi hk).trans hv) hh hr hs (fun o => by rw [h.F]; exact hf o)

mutual
theorem renC_id : ∀ c : Cell, renC id c = c
  | .sc _ => rfl
  | .lst _ => rfl
  | .full _ => rfl
  | .view _ _ _ => rfl
  | .ptr _ _ => rfl
  | .aptr _ _ _ => rfl
  | .pel _ => rfl
  | .mp _ => rfl
  | .fn f caps => by simp only [renC, renCs_id caps]
theorem renCs_id : ∀ l : List Cell, renCs id l = l
  | [] => rfl
  | c :: r => by simp only [renCs, renC_id c, renCs_id r]
end
mutual
theorem renA_id : ∀ x : AV, renA id x = x
  | .c x => by simp only [renA, renC_id]
  | .agg cs => by simp only [renA, renCs_id]
  | .tup l => by simp only [renA, renAs_id l]
theorem renAs_id : ∀ l : List AV, renAs id l = l
  | [] => rfl
  | c :: r => by simp only [renAs, renA_id c, renAs_id r]
end
theorem renO_id (o : MObj) : renO id o = o := by cases o <;> simp only [renO, renCs_id]


def beqI : Id → Id → Bool
  | .x a, .x b => Nat.beq a b
  | .l a b, .l c d => match Nat.beq a c with
    | true => Nat.beq b d
    | false => false
  | _, _ => false

theorem natBeq {a b : Nat} (h : Nat.beq a b = true) : a = b := Nat.eq_of_beq_eq_true h
theorem natBeqF {a b : Nat} (h : Nat.beq a b = false) : a ≠ b := fun e => by subst e; simp at h
theorem beqI_t {i j : Id} (h : beqI i j = true) : i = j := by
  cases i <;> cases j <;> simp only [beqI] at h <;> try (cases h; done)
  · rw [natBeq h]
  · split at h
    · rename_i h1; rw [natBeq h1, natBeq h]
    · cases h
theorem beqI_f {i j : Id} (h : beqI i j = false) : i ≠ j := by
  rintro rfl
  cases i <;> simp [beqI] at h

theorem beqI_refl (i : Id) : beqI i i = true := by cases i <;> simp [beqI]
end Go.Abs
