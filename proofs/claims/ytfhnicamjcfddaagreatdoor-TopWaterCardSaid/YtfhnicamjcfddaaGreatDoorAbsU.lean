/- The strict evaluator: all operations, code, functions. -/
import Derived.Test.YtfhnicamjcfddaaGreatDoorAbsT
namespace Go.Abs
open Go.RowKit

section
variable {P : Program} {τ : List (Nat × TI)}

def fieldK (τ : List (Nat × TI)) (s f : Nat) (p : AV) (k : AV → Prop) : Prop :=
  tyK s (fun ti => match ti.d with
    | .struct fs => optK fs[f]? fun x => tyK x.2 (fun tf => match Nat.beq tf.size 0 with
      | true => False
      | false => match p with
        | .c (.ptr i o) => k (.c (.ptr i (o + x.1)))
        | .c (.aptr o i kk) => k (.c (.aptr o i (kk + x.1)))
        | .c (.pel cs) => match Nat.ble (x.1 + 1) cs.length with
          | true => forceL (cs.drop x.1) fun l => k (.c (.pel l))
          | false => False
        | _ => False) τ
    | _ => False) τ
theorem fieldK_ok (hτ : TyOk P τ) {s f : Nat} {p : AV} {k : AV → Prop} (h : fieldK τ s f p k) : ∃ x, fieldF P s f p = some x ∧ k x := by
  obtain ⟨ti, h1, h2⟩ := tyK_ok hτ h
  obtain ⟨ag, sz, by_, ze, d⟩ := ti
  simp only at h2
  split at h2
  · rename_i fs
    obtain ⟨⟨off, t⟩, h3, h4⟩ := optK_ok h2
    obtain ⟨tf, h5, h6⟩ := tyK_ok hτ h4
    split at h6
    · exact h6.elim
    · rename_i h0
      have h0 := natBeqF h0
      split at h6
      · exact ⟨_, by simp [fieldF, h1, h3, h5, h0], h6⟩
      · exact ⟨_, by simp [fieldF, h1, h3, h5, h0], h6⟩
      · split at h6
        · rename_i hb
          have hb := Nat.le_of_ble_eq_true hb
          exact ⟨_, by simp [fieldF, h1, h3, h5, h0]; omega, forceL_ok h6⟩
        · exact h6.elim
      · exact h6.elim
  · exact h2.elim

def fieldVK (τ : List (Nat × TI)) (s f : Nat) (p : AV) (k : AV → Prop) : Prop :=
  tyK s (fun ti => match ti.d, p with
    | .struct fs, .agg cs => optK fs[f]? fun x => tyK x.2 (fun tf => cutK tf cs x.1 k) τ
    | _, _ => False) τ
theorem fieldVK_ok (hτ : TyOk P τ) {s f : Nat} {p : AV} {k : AV → Prop} (h : fieldVK τ s f p k) : ∃ x, fieldV P s f p = some x ∧ k x := by
  obtain ⟨ti, h1, h2⟩ := tyK_ok hτ h
  obtain ⟨ag, sz, by_, ze, d⟩ := ti
  simp only at h2
  split at h2
  · rename_i fs cs
    obtain ⟨⟨off, t⟩, h3, h4⟩ := optK_ok h2
    obtain ⟨tf, h5, h6⟩ := tyK_ok hτ h4
    obtain ⟨x, h7, h8⟩ := cutK_ok h6
    exact ⟨x, by simp [fieldV, h1, h3, h5, h7], h8⟩
  · exact h2.elim

def indexK (τ : List (Nat × TI)) (m : Mem) (t : Nat) (p ix : AV) (k : AV → Prop) : Prop :=
  tyK t (fun ti => match ti.d, ix with
    | .slice e, .c (.sc (.int _ n)) => tyK e (fun te => match p with
      | .c (.lst es) => 0 ≤ n ∧ ∃ el, es[n.toNat]? = some el ∧ el.length = te.size ∧ k (.c (.pel el))
      | .c (.full es) => 0 ≤ n ∧ ∃ el, es[n.toNat]? = some el ∧ el.length = te.size ∧ k (.c (.pel el))
      | .c (.view o lo len) => mgetK o (fun x => match x with
        | .arr _ sz _ _ => (0 ≤ n ∧ n < len) ∧ sz = te.size ∧ k (.c (.aptr o (lo + n.toNat) 0))
        | _ => False) m.o
      | _ => False) τ
    | .array len e, .c (.sc (.int _ n)) => tyK e (fun te => match p with
      | .c (.ptr i off) => (0 ≤ n ∧ n < len) ∧ k (.c (.ptr i (off + n.toNat * te.size)))
      | .c (.pel cs) => (0 ≤ n ∧ n < len) ∧ n.toNat * te.size < cs.length ∧ forceL (cs.drop (n.toNat * te.size)) fun l => k (.c (.pel l))
      | _ => False) τ
    | _, _ => False) τ
theorem indexK_ok (hτ : TyOk P τ) {m : Mem} {t : Nat} {p ix : AV} {k : AV → Prop} (h : indexK τ m t p ix k) : ∃ x, indexF P m t p ix = some x ∧ k x := by
  obtain ⟨ti, h1, h2⟩ := tyK_ok hτ h
  obtain ⟨ag, sz, by_, ze, d⟩ := ti
  simp only at h2
  split at h2
  · obtain ⟨te, h3, h4⟩ := tyK_ok hτ h2
    split at h4
    · obtain ⟨h5, el, h6, h7, h8⟩ := h4
      exact ⟨_, by simp [indexF, h1, h3, h5, h6, h7], h8⟩
    · obtain ⟨h5, el, h6, h7, h8⟩ := h4
      exact ⟨_, by simp [indexF, h1, h3, h5, h6, h7], h8⟩
    · obtain ⟨o, h5, h6⟩ := mgetK_ok h4
      split at h6
      · obtain ⟨⟨h7, h8⟩, h9, h10⟩ := h6
        exact ⟨_, by simp [indexF, h1, h3, h5, h7, h8, h9], h10⟩
      · exact h6.elim
    · exact h4.elim
  · obtain ⟨te, h3, h4⟩ := tyK_ok hτ h2
    split at h4
    · obtain ⟨⟨h5, h6⟩, h7⟩ := h4
      exact ⟨_, by simp [indexF, h1, h3, h5, h6], h7⟩
    · obtain ⟨⟨h5, h6⟩, h7, h8⟩ := h4
      exact ⟨_, by simp [indexF, h1, h3, h5, h6, h7], forceL_ok h8⟩
    · exact h4.elim
  · exact h2.elim

def indexVK (τ : List (Nat × TI)) (t : Nat) (p ix : AV) (k : AV → Prop) : Prop :=
  tyK t (fun ti => match ti.d, p, ix with
    | .array len e, .agg cs, .c (.sc (.int _ n)) => tyK e (fun te => (0 ≤ n ∧ n < len) ∧ cutK te cs (n.toNat * te.size) k) τ
    | .str, .c (.sc (.string b)), .c (.sc (.int _ n)) => 0 ≤ n ∧ ∃ u, b.data[n.toNat]? = some u ∧ k (.c (.sc (.int .u8 u.toNat)))
    | _, _, _ => False) τ
theorem indexVK_ok (hτ : TyOk P τ) {t : Nat} {p ix : AV} {k : AV → Prop} (h : indexVK τ t p ix k) : ∃ x, indexV P t p ix = some x ∧ k x := by
  obtain ⟨ti, h1, h2⟩ := tyK_ok hτ h
  obtain ⟨ag, sz, by_, ze, d⟩ := ti
  simp only at h2
  split at h2
  · obtain ⟨te, h3, ⟨h4, h5⟩, h6⟩ := tyK_ok hτ h2
    obtain ⟨x, h7, h8⟩ := cutK_ok h6
    exact ⟨x, by simp [indexV, h1, h3, h4, h5, h7], h8⟩
  · obtain ⟨h3, u, h4, h5⟩ := h2
    exact ⟨_, by simp only [indexV, h1, if_pos h3, h4], h5⟩
  · exact h2.elim

def boundK (L : List (Nat × AV)) (d : Nat) (x : Option Operand) (k : Int → Prop) : Prop :=
  match x with
  | none => k d
  | some x => evK L x fun a => match a with
    | .c (.sc (.int _ n)) => k n
    | _ => False
theorem boundK_ok {L : List (Nat × AV)} {d : Nat} {x : Option Operand} {k : Int → Prop} (h : boundK L d x k) : ∃ n, bound d (x.map (ev (tget L))) = some n ∧ k n := by
  unfold boundK at h
  split at h
  · exact ⟨_, rfl, h⟩
  · obtain ⟨a, h1, h2⟩ := evK_ok h
    split at h2
    · exact ⟨_, by simp [bound, h1], h2⟩
    · exact h2.elim

def sliceK (τ : List (Nat × TI)) (L : List (Nat × AV)) (m : Mem) (t : Nat) (x : AV) (lo hi mx : Option Operand) (k : AV → Prop) : Prop :=
  tyK t (fun ti => match ti.d, x with
    | .slice e, .c c => tyK e (fun te => optK (lenC c) fun n => boundK L 0 lo fun l => boundK L n hi fun h => (0 ≤ l ∧ l ≤ h ∧ h ≤ n) ∧
      match mx, hi with
      | none, _ => (match c with
        | .sc v => k (.c (.sc v))
        | .lst es => es.all (fun e => e.length == te.size) = true ∧ k (.c (.lst ((es.take h.toNat).drop l.toNat)))
        | .full es => es.all (fun e => e.length == te.size) = true ∧ k (.c (.lst ((es.take h.toNat).drop l.toNat)))
        | .view o lo' _ => mgetK o (fun x => match x with
          | .arr _ sz _ _ => sz = te.size ∧ k (.c (.view o (lo' + l.toNat) (h.toNat - l.toNat)))
          | _ => False) m.o
        | _ => False)
      | some mx, some _ => boundK L 0 (some mx) fun kk => kk = h ∧ (match c with
        | .sc v => k (.c (.sc v))
        | .lst es => es.all (fun e => e.length == te.size) = true ∧ k (.c (.full ((es.take h.toNat).drop l.toNat)))
        | .full es => es.all (fun e => e.length == te.size) = true ∧ k (.c (.full ((es.take h.toNat).drop l.toNat)))
        | _ => False)
      | _, _ => False) τ
    | _, _ => False) τ
theorem sliceK_ok (hτ : TyOk P τ) {L : List (Nat × AV)} {m : Mem} {t : Nat} {x : AV} {lo hi mx : Option Operand} {k : AV → Prop} (h : sliceK τ L m t x lo hi mx k) :
    ∃ y, sliceF P m t x (lo.map (ev (tget L))) (hi.map (ev (tget L))) (mx.map (ev (tget L))) = some y ∧ k y := by
  obtain ⟨ti, h1, h2⟩ := tyK_ok hτ h
  obtain ⟨ag, sz, by_, ze, d⟩ := ti
  simp only at h2
  split at h2
  · rename_i e c
    obtain ⟨te, h3, h4⟩ := tyK_ok hτ h2
    obtain ⟨n, h5, h6⟩ := optK_ok h4
    obtain ⟨l, h7, h8⟩ := boundK_ok h6
    obtain ⟨hh, h9, ⟨ha, hb, hc⟩, h10⟩ := boundK_ok h8
    split at h10
    · split at h10
      · exact ⟨_, by simp [sliceF, h1, h3, h5, h7, h9, ha, hb, hc], h10⟩
      · exact ⟨_, by simp only [sliceF, h1, h3, h5, h7, h9, ha, hb, hc, h10.1, Option.map_none, and_self, if_true], h10.2⟩
      · exact ⟨_, by simp only [sliceF, h1, h3, h5, h7, h9, ha, hb, hc, h10.1, Option.map_none, and_self, if_true], h10.2⟩
      · obtain ⟨o, h11, h12⟩ := mgetK_ok h10
        split at h12
        · exact ⟨_, by simp only [sliceF, h1, h3, h5, h7, h9, ha, hb, hc, h11, h12.1, Option.map_none, and_self, if_true], h12.2⟩
        · exact h12.elim
      · exact h10.elim
    · rename_i mx' hi'
      obtain ⟨kk, h11, h12, h13⟩ := boundK_ok h10
      subst h12
      simp only [Option.map_some] at h9 h11
      split at h13
      · exact ⟨_, by simp only [sliceF, h1, h3, h5, h7, h9, ha, hb, hc, h11, Option.map_some, and_self, if_true], h13⟩
      · exact ⟨_, by simp only [sliceF, h1, h3, h5, h7, h9, ha, hb, hc, h11, h13.1, Option.map_some, and_self, if_true], h13.2⟩
      · exact ⟨_, by simp only [sliceF, h1, h3, h5, h7, h9, ha, hb, hc, h11, h13.1, Option.map_some, and_self, if_true], h13.2⟩
      · exact h13.elim
    · exact h10.elim
  · exact h2.elim

def partsK (L : List (Nat × AV)) (sz : Nat) : Nat → List (Nat × Operand) → Mem → (List (List Cell) → Mem → Prop) → Prop
  | _, [], m, k => k [] m
  | i, (j, x) :: r, m, k => match Nat.beq j i with
    | false => False
    | true => evK L x fun a => avK a fun cs => match Nat.beq cs.length sz with
      | false => False
      | true => purLK m cs fun pcs m1 => partsK L sz (i + 1) r m1 fun l m2 => k (pcs :: l) m2
theorem partsK_ok {L : List (Nat × AV)} {sz : Nat} : ∀ {l : List (Nat × Operand)} {i : Nat} {m : Mem} {k : List (List Cell) → Mem → Prop}, partsK L sz i l m k → ∃ es m', parts (tget L) sz i l m = some (es, m') ∧ k es m'
  | [], i, m, k, h => ⟨[], m, rfl, h⟩
  | (j, x) :: r, i, m, k, h => by
    unfold partsK at h
    split at h
    · exact h.elim
    · rename_i hj
      have hj := natBeq hj
      obtain ⟨a, h1, h2⟩ := evK_ok h
      obtain ⟨cs, h3, h4⟩ := avK_ok h2
      split at h4
      · exact h4.elim
      · rename_i hl
        have hl := natBeq hl
        obtain ⟨pcs, m1, h5, h6⟩ := purLK_ok h4
        obtain ⟨l, m2, h7, h8⟩ := partsK_ok h6
        exact ⟨_, _, by simp [parts, hj, h1, h3, hl, h5, h7], h8⟩

def buildK (τ : List (Nat × TI)) (L : List (Nat × AV)) (fs : List (Nat × TypeId)) : List Cell → List (Nat × Operand) → (List Cell → Prop) → Prop
  | cs, [], k => k cs
  | cs, (j, x) :: r, k => optK fs[j]? fun f => tyK f.2 (fun ti => evK L x fun a => avK a fun cs' => match Nat.beq cs'.length ti.size, Nat.ble (f.1 + ti.size) cs.length with
    | true, true => wrK cs f.1 cs' fun l => buildK τ L fs l r k
    | _, _ => False) τ
theorem buildK_ok (hτ : TyOk P τ) {L : List (Nat × AV)} {fs : List (Nat × TypeId)} : ∀ {l : List (Nat × Operand)} {cs : List Cell} {k : List Cell → Prop}, buildK τ L fs cs l k → ∃ cs', buildF (tget L) P fs cs l = some cs' ∧ k cs'
  | [], cs, k, h => ⟨cs, rfl, h⟩
  | (j, x) :: r, cs, k, h => by
    unfold buildK at h
    obtain ⟨f, h1, h2⟩ := optK_ok h
    obtain ⟨ti, h3, h4⟩ := tyK_ok hτ h2
    obtain ⟨a, h5, h6⟩ := evK_ok h4
    obtain ⟨cs', h7, h8⟩ := avK_ok h6
    split at h8
    · rename_i e1 e2
      obtain ⟨cs2, h9, h10⟩ := buildK_ok hτ (forceL_ok h8)
      exact ⟨cs2, by simp [buildF, h1, h3, h5, h7, natBeq e1, Nat.le_of_ble_eq_true e2, h9], h10⟩
    · exact h8.elim

def allTyK (τ : List (Nat × TI)) (fs : List (Nat × TypeId)) (k : Prop) : Prop :=
  match fs with
  | [] => k
  | f :: r => tyK f.2 (fun _ => allTyK τ r k) τ
theorem allTyK_ok (hτ : TyOk P τ) {k : Prop} : ∀ {fs : List (Nat × TypeId)}, allTyK τ fs k → fs.all (fun f => (tiOf P f.2).isSome) = true ∧ k
  | [], h => ⟨rfl, h⟩
  | f :: r, h => by
    obtain ⟨ti, h1, h2⟩ := tyK_ok hτ h
    obtain ⟨h3, h4⟩ := allTyK_ok hτ h2
    exact ⟨by simp only [List.all_cons, h1, Option.isSome_some, Bool.true_and]; exact h3, h4⟩

def elemsK (m : Mem) (c : Cell) (k : List (List Cell) → Prop) : Prop :=
  match c with
  | .sc (.slice none 0 0) => k []
  | .lst es => k es
  | .full es => k es
  | .view o lo n => mgetK o (fun x => match x with
    | .arr _ _ es _ => lo + n ≤ es.length ∧ k ((es.drop lo).take n)
    | _ => False) m.o
  | _ => False
theorem elemsK_ok {m : Mem} {c : Cell} {k : List (List Cell) → Prop} (h : elemsK m c k) : ∃ es, elems m c = some es ∧ k es := by
  unfold elemsK at h
  split at h
  · exact ⟨_, rfl, h⟩
  · exact ⟨_, rfl, h⟩
  · exact ⟨_, rfl, h⟩
  · obtain ⟨x, h1, h2⟩ := mgetK_ok h
    split at h2
    · exact ⟨_, by simp [elems, h1, h2.1], h2.2⟩
    · exact h2.elim
  · exact h.elim

def snocK (i : Id) (o : MObj) : List (Id × MObj) → (List (Id × MObj) → Prop) → Prop
  | [], k => k [(i, o)]
  | x :: r, k => snocK i o r fun l => k (x :: l)
theorem snocK_ok {i : Id} {o : MObj} : ∀ {l : List (Id × MObj)} {k : List (Id × MObj) → Prop}, snocK i o l k → k (l ++ [(i, o)])
  | [], _, h => h
  | x :: r, k, h => snocK_ok (l := r) (k := fun l => k (x :: l)) h
def addK (d : Nat) (m : Mem) (x : MObj) (k : Id → Mem → Prop) : Prop := match m with
  | ⟨o, nx, us⟩ => snocK (.l d nx) x o fun o' => k (.l d nx) ⟨o', nx, d :: us⟩
theorem addK_ok {d : Nat} {m : Mem} {o : MObj} {k : Id → Mem → Prop} (h : addK d m o k) : k (newId d m) (addObj d m o) := snocK_ok (k := fun o' => k (.l d m.nx) { o := o', nx := m.nx, us := d :: m.us }) h

def tyGood (te : TI) : Bool := match Nat.beq te.size 0, Nat.beq te.bytes 0, Nat.beq te.zero.length te.size with
  | false, false, true => true
  | _, _, _ => false
theorem tyGood_ok {te : TI} (h : tyGood te = true) : te.size ≠ 0 ∧ te.bytes ≠ 0 ∧ te.zero.length = te.size := by
  unfold tyGood at h
  split at h
  · rename_i h1 h2 h3; exact ⟨natBeqF h1, natBeqF h2, natBeq h3⟩
  · cases h

def appZK (τ : List (Nat × TI)) (t t' d : Nat) (m : Mem) (s x : Cell) (k : AV → Mem → Prop) : Prop :=
  match s, x with
  | .view o lo n, .sc (.int _ kk) => tyK t (fun ti => match ti.d with
    | .slice e => tyK t' (fun ti' => match ti'.d with
      | .int _ => tyK e (fun te => match tyGood te with
        | false => False
        | true => constCellsK te.zero fun z => mgetK o (fun y => match y with
          | .arr e' sz es fr => (e' = e ∧ sz = te.size ∧ lo = 0 ∧ n = es.length ∧ 0 ≤ kk ∧ (es.length + kk.toNat) * te.bytes ≤ 140737488355328) ∧
            mdelK o m.o fun o' => setOK m o' fun m0 => addK d m0 (.arr e te.size (es ++ List.replicate kk.toNat z) fr) fun i m' => k (.c (.view i 0 (es.length + kk.toNat))) m'
          | _ => False) m.o) τ
      | _ => False) τ
    | _ => False) τ
  | _, _ => False
theorem appZK_ok (hτ : TyOk P τ) {t t' d : Nat} {m : Mem} {s x : Cell} {k : AV → Mem → Prop} (h : appZK τ t t' d m s x k) : ∃ y m', appZF P t t' d m s x = some (y, m') ∧ k y m' := by
  unfold appZK at h
  split at h
  case h_2 => exact h.elim
  obtain ⟨ti, h1, h2⟩ := tyK_ok hτ h
  obtain ⟨ag, sz, by_, ze, dd⟩ := ti
  simp only at h2
  split at h2
  case h_2 => exact h2.elim
  obtain ⟨ti', h3, h4⟩ := tyK_ok hτ h2
  obtain ⟨ag', sz', by_', ze', dd'⟩ := ti'
  simp only at h4
  split at h4
  case h_2 => exact h4.elim
  obtain ⟨te, h5, h6⟩ := tyK_ok hτ h4
  split at h6
  · exact h6.elim
  · rename_i hg
    obtain ⟨g1, g2, g3⟩ := tyGood_ok hg
    obtain ⟨z, h7, h8⟩ := constCellsK_ok h6
    obtain ⟨y, h9, h10⟩ := mgetK_ok h8
    split at h10
    · obtain ⟨⟨c1, c2, c3, c4, c5, c6⟩, h11⟩ := h10
      refine ⟨_, _, ?_, addK_ok (setOK_ok (mdelK_ok h11))⟩
      simp only [appZF, h1, h3, h5, h9, h7, if_pos (show _ ∧ _ ∧ _ ∧ _ ∧ _ ∧ _ ∧ _ ∧ _ ∧ _ from ⟨c1, c2, c3, c4, g1, g2, g3, c5, c6⟩)]
      rfl
    · exact h10.elim

def mapK (τ : List (Nat × TI)) (t : TypeId) (m : Mem) (x ix : AV) (k : AV → Prop) : Prop :=
  tyK t (fun ti => match ti.d, x, ix with
    | .map kt vt, .c (.mp i), .agg [.sc (.int .i64 a), .sc (.int .i64 b)] => tyK kt (fun tk => match tk.d, tk.size with
      | .array 2 e, 2 => tyK e (fun te => match te.d, te.size with
        | .int .i64, 1 => tyK vt (fun tv => match Nat.beq tv.zero.length 1 with
          | false => constCellsK tv.zero fun z => mgetK i (fun o => match o with
            | .map es => ∃ r, findM es a b = r ∧ (match r with
              | some v => k (.tup [.agg (v.map .sc), .c (.sc (.bool true))])
              | none => k (.tup [.agg z, .c (.sc (.bool false))]))
            | _ => False) m.o
          | true => False) τ
        | _, _ => False) τ
      | _, _ => False) τ
    | _, _, _ => False) τ
theorem mapK_ok (hτ : TyOk P τ) {t : TypeId} {m : Mem} {x ix : AV} {k : AV → Prop} (h : mapK τ t m x ix k) : ∃ y, mapF P t m x ix = some y ∧ k y := by
  obtain ⟨ti, h1, h2⟩ := tyK_ok hτ h
  obtain ⟨ag, sz, by_, ze, dd⟩ := ti
  simp only at h2
  split at h2
  case h_2 => exact h2.elim
  rename_i kt _ _ _ _
  obtain ⟨tk, h3, h4⟩ := tyK_ok hτ h2
  obtain ⟨ag', sz', by_', ze', dd'⟩ := tk
  simp only at h4
  split at h4
  case h_2 => exact h4.elim
  obtain ⟨te, h5, h6⟩ := tyK_ok hτ h4
  obtain ⟨ag2, sz2, by2, ze2, dd2⟩ := te
  simp only at h6
  split at h6
  case h_2 => exact h6.elim
  obtain ⟨tv, h7, h8⟩ := tyK_ok hτ h6
  split at h8
  case h_2 => exact h8.elim
  rename_i hz
  obtain ⟨z, h9, h10⟩ := constCellsK_ok h8
  obtain ⟨o, h11, h12⟩ := mgetK_ok h10
  split at h12
  case h_2 => exact h12.elim
  obtain ⟨r, rfl, h13⟩ := h12
  have hk : keyTy P kt = true := by simp only [keyTy, h3, h5]
  split at h13
  · rename_i e
    exact ⟨_, by simp only [mapF, h1, hk, h7, h11, hz, h9, e], h13⟩
  · rename_i e
    exact ⟨_, by simp only [mapF, h1, hk, h7, h11, hz, h9, e], h13⟩
def scK : List Cell → (List Value → Prop) → Prop
  | [], k => k []
  | .sc v :: r, k => match scalar v with
    | true => scK r fun l => k (v :: l)
    | false => False
  | _ :: _, _ => False
theorem scK_ok : ∀ {l : List Cell} {k : List Value → Prop}, scK l k → ∃ vs, scCs l = some vs ∧ k vs
  | [], k, h => ⟨[], rfl, h⟩
  | c :: r, k, h => by
    unfold scK at h
    split at h
    · rename_i e; cases e
    · rename_i v r' k' e
      simp only [List.cons.injEq] at e
      obtain ⟨rfl, rfl⟩ := e
      split at h
      · rename_i hv
        obtain ⟨vs, h1, h2⟩ := scK_ok h
        exact ⟨_, by simp only [scCs, hv, h1], h2⟩
      · exact h.elim
    · exact h.elim
def updK (τ : List (Nat × TI)) (t : TypeId) (m : Mem) (x ix v : AV) (k : Mem → Prop) : Prop :=
  tyK t (fun ti => match ti.d, x, ix, v with
    | .map kt _, .c (.mp i), .agg [.sc (.int .i64 a), .sc (.int .i64 b)], .agg cs => tyK kt (fun tk => match tk.d, tk.size with
      | .array 2 e, 2 => tyK e (fun te => match te.d, te.size with
        | .int .i64, 1 => scK cs fun vs => mgetK i (fun o => match o with
            | .map es => ∃ es', putM es a b vs = es' ∧ msetK i (.map es') m.o fun o' => setOK m o' k
            | _ => False) m.o
        | _, _ => False) τ
      | _, _ => False) τ
    | _, _, _, _ => False) τ
theorem updK_ok (hτ : TyOk P τ) {t : TypeId} {m : Mem} {x ix v : AV} {k : Mem → Prop} (h : updK τ t m x ix v k) : ∃ m', updF' P t m x ix v = some m' ∧ k m' := by
  obtain ⟨ti, h1, h2⟩ := tyK_ok hτ h
  obtain ⟨ag, sz, by_, ze, dd⟩ := ti
  simp only at h2
  split at h2
  case h_2 => exact h2.elim
  rename_i kt _ _ _ _ _
  obtain ⟨tk, h3, h4⟩ := tyK_ok hτ h2
  obtain ⟨ag', sz', by_', ze', dd'⟩ := tk
  simp only at h4
  split at h4
  case h_2 => exact h4.elim
  obtain ⟨te, h5, h6⟩ := tyK_ok hτ h4
  obtain ⟨ag2, sz2, by2, ze2, dd2⟩ := te
  simp only at h6
  split at h6
  case h_2 => exact h6.elim
  obtain ⟨vs, h7, h8⟩ := scK_ok h6
  obtain ⟨o, h9, h10⟩ := mgetK_ok h8
  split at h10
  case h_2 => exact h10.elim
  obtain ⟨es', rfl, h11⟩ := h10
  have hk : keyTy P kt = true := by simp only [keyTy, h3, h5]
  exact ⟨_, by simp only [updF', h1, hk, h7, h9], setOK_ok (msetK_ok h11)⟩

def callBK (τ : List (Nat × TI)) (b : Builtin) (argTypes : List TypeId) (d : Nat) (m : Mem) (args : List AV) (k : AV → Mem → Prop) : Prop :=
  match b, argTypes, args with
  | .len, [t], [.c x] => tyK t (fun ti => match ti.d with
    | .slice _ => optK (lenC x) fun n => k (.c (.sc (.int .i64 n))) m
    | .str => (match x with
      | .sc (.string b) => k (.c (.sc (.int .i64 b.data.size))) m
      | _ => False)
    | _ => False) τ
  | .min, _, [.c (.sc (.int kk a)), .c (.sc (.int _ b)), .c (.sc (.int _ c))] => k (.c (.sc (.int kk (if c < (if b < a then b else a) then c else (if b < a then b else a))))) m
  | .min, _, [.c (.sc (.int kk a)), .c (.sc (.int _ b))] => k (.c (.sc (.int kk (if b < a then b else a)))) m
  | .max, _, [.c (.sc (.int kk a)), .c (.sc (.int _ b))] => k (.c (.sc (.int kk (if a < b then b else a)))) m
  | .append, [t, t'], [.c s, .c x] => match Nat.beq t t' with
    | false => appZK τ t t' d m s x k
    | true => tyK t (fun ti => match ti.d with
      | .slice e => tyK e (fun te => match tyGood te with
        | false => False
        | true => elemsK m x fun es2 => es2.all (fun e => e.length == te.size) = true ∧ (match s with
          | .sc (.slice none 0 0) => es2.length * te.bytes ≤ 140737488355328 ∧ addK d m (.arr e te.size es2 false) fun i m' => k (.c (.view i 0 es2.length)) m'
          | .full es => (match es2 with
            | [] => False
            | x2 :: r2 => (es.all (fun e => e.length == te.size) = true ∧ (es.length + (x2 :: r2).length) * te.bytes ≤ 140737488355328) ∧
              addK d m (.arr e te.size (es ++ x2 :: r2) false) fun i m' => k (.c (.view i 0 (es.length + (x2 :: r2).length))) m')
          | .view o lo n => mgetK o (fun y => match y with
            | .arr e' sz es fr => (e' = e ∧ sz = te.size ∧ lo = 0 ∧ n = es.length ∧ (es.length + es2.length) * te.bytes ≤ 140737488355328) ∧
              mdelK o m.o fun o' => setOK m o' fun m0 => addK d m0 (.arr e te.size (es ++ es2) fr) fun i m' => k (.c (.view i 0 (es.length + es2.length))) m'
            | _ => False) m.o
          | _ => False)) τ
      | _ => False) τ
  | .copy, [t, _], [.c (.view o lo n), .c x] => tyK t (fun ti => match ti.d with
    | .slice e => tyK e (fun te => match Nat.beq te.size 0 with
      | true => False
      | false => elemsK m x fun es2 => es2.all (fun e => e.length == te.size) = true ∧ mgetK o (fun y => match y with
        | .arr e' sz es false => (e' = e ∧ sz = te.size ∧ lo + n ≤ es.length) ∧
          msetK o (.arr e' sz (wrE es lo (es2.take (Nat.min es2.length n))) false) m.o fun o' => setOK m o' fun m' => k (.c (.sc (.int .i64 (Nat.min es2.length n)))) m'
        | _ => False) m.o) τ
    | _ => False) τ
  | _, _, _ => False
theorem callBK_ok (hτ : TyOk P τ) {b : Builtin} {argTypes : List TypeId} {d : Nat} {m : Mem} {args : List AV} {k : AV → Mem → Prop} (h : callBK τ b argTypes d m args k) : ∃ x m', callB P b argTypes d m args = some (x, m') ∧ k x m' := by
  unfold callBK at h
  split at h
  · obtain ⟨ti, h1, h2⟩ := tyK_ok hτ h
    obtain ⟨ag, sz, by_, ze, dd⟩ := ti
    simp only at h2
    split at h2
    · obtain ⟨n, h3, h4⟩ := optK_ok h2
      exact ⟨_, _, by simp only [callB, h1, h3], h4⟩
    · split at h2
      · exact ⟨_, _, by simp only [callB, h1], h2⟩
      · exact h2.elim
    · exact h2.elim
  · exact ⟨_, _, rfl, h⟩
  · exact ⟨_, _, rfl, h⟩
  · exact ⟨_, _, rfl, h⟩
  · split at h
    · rename_i htt
      have htt : ¬ _ = _ := natBeqF htt
      obtain ⟨y, m', e1, e2⟩ := appZK_ok hτ h
      exact ⟨y, m', by simp only [callB, if_neg htt, e1], e2⟩
    · rename_i htt
      have htt := natBeq htt
      subst htt
      obtain ⟨ti, h1, h2⟩ := tyK_ok hτ h
      obtain ⟨ag, sz, by_, ze, dd⟩ := ti
      simp only at h2
      split at h2
      · obtain ⟨te, h3, h4⟩ := tyK_ok hτ h2
        split at h4
        · exact h4.elim
        · rename_i hg
          obtain ⟨g1, g2, g3⟩ := tyGood_ok hg
          obtain ⟨es2, h5, h6, h7⟩ := elemsK_ok h4
          have hneg : ¬ (te.size = 0 ∨ te.bytes = 0 ∨ es2.all (fun e => e.length == te.size) = false ∨ ¬ te.zero.length = te.size) := by
            rw [h6]; simp [g1, g2, g3]
          split at h7
          · exact ⟨_, _, by simp only [callB, h1, h3, h5, if_neg hneg, h7.1, if_true], addK_ok h7.2⟩
          · split at h7
            · exact h7.elim
            · exact ⟨_, _, by simp only [callB, h1, h3, h5, if_neg hneg, h7.1.1, h7.1.2, and_self, if_true], addK_ok h7.2⟩
          · obtain ⟨y, h8, h9⟩ := mgetK_ok h7
            split at h9
            · obtain ⟨hc, h10⟩ := h9
              exact ⟨_, _, by simp only [callB, h1, h3, h5, if_neg hneg, h8, if_pos hc, if_true]; rfl, addK_ok (setOK_ok (mdelK_ok h10))⟩
            · exact h9.elim
          · exact h7.elim
      · exact h2.elim
  · obtain ⟨ti, h1, h2⟩ := tyK_ok hτ h
    obtain ⟨ag, sz, by_, ze, dd⟩ := ti
    simp only at h2
    split at h2
    · obtain ⟨te, h3, h4⟩ := tyK_ok hτ h2
      split at h4
      · exact h4.elim
      · rename_i hs0
        obtain ⟨es2, h5, h6, h7⟩ := elemsK_ok h4
        obtain ⟨y, h8, h9⟩ := mgetK_ok h7
        split at h9
        · obtain ⟨⟨c1, c2, c3⟩, h10⟩ := h9
          exact ⟨_, _, by simp only [callB, h1, h3, h5, h8, if_pos (⟨c1, c2, c3, natBeqF hs0, h6⟩ : _ ∧ _ ∧ _ ∧ _ ∧ _)], msetK_ok h10⟩
        · exact h9.elim
    · exact h2.elim
  · exact h.elim

end
end Go.Abs
