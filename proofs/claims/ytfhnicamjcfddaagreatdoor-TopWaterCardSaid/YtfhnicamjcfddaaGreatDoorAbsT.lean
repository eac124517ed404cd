/- The evaluator once more, so that a reduction to weak head normal form carries it out: every result is handed on whole. -/
import Derived.Test.YtfhnicamjcfddaaGreatDoorAbsO
import Derived.IntWalk
namespace Go.Abs
open Go.RowKit

def tgetK (t : Nat) (k : AV → Prop) : List (Nat × AV) → Prop
  | [] => False
  | (s, x) :: r => match Nat.beq t s with
    | true => k x
    | false => tgetK t k r
def tsetK (d : Nat) (x : AV) : List (Nat × AV) → (List (Nat × AV) → Prop) → Prop
  | [], k => k [(d, x)]
  | (s, y) :: r, k => match Nat.beq d s with
    | true => k ((d, x) :: r)
    | false => tsetK d x r fun r' => k ((s, y) :: r')
def tdelK (d : Nat) : List (Nat × AV) → (List (Nat × AV) → Prop) → Prop
  | [], k => k []
  | (s, y) :: r, k => match Nat.beq d s with
    | true => tdelK d r k
    | false => tdelK d r fun r' => k ((s, y) :: r')
def mgetK (i : Id) (k : MObj → Prop) : List (Id × MObj) → Prop
  | [] => False
  | (j, o) :: r => match beqI i j with
    | true => k o
    | false => mgetK i k r
def msetK (i : Id) (o : MObj) : List (Id × MObj) → (List (Id × MObj) → Prop) → Prop
  | [], k => k [(i, o)]
  | (j, p) :: r, k => match beqI i j with
    | true => k ((i, o) :: r)
    | false => msetK i o r fun r' => k ((j, p) :: r')
def mdelK (i : Id) : List (Id × MObj) → (List (Id × MObj) → Prop) → Prop
  | [], k => k []
  | (j, p) :: r, k => match beqI i j with
    | true => mdelK i r k
    | false => mdelK i r fun r' => k ((j, p) :: r')
def forceL : List Cell → (List Cell → Prop) → Prop
  | [], k => k []
  | c :: r, k => forceL r fun r' => k (c :: r')
def optK {α : Type} : Option α → (α → Prop) → Prop
  | some a, k => k a
  | none, _ => False
def tyK (t : Nat) (k : TI → Prop) : List (Nat × TI) → Prop
  | [] => False
  | (s, x) :: r => match Nat.beq t s with
    | true => k x
    | false => tyK t k r

theorem tgetK_ok {t : Nat} {k : AV → Prop} : ∀ {l : List (Nat × AV)}, tgetK t k l → ∃ x, tget l t = some x ∧ k x
  | [], h => h.elim
  | (s, x) :: r, h => by
    unfold tgetK at h
    split at h
    · rename_i e; exact ⟨x, by simp [tget, natBeq e], h⟩
    · rename_i e
      obtain ⟨y, h1, h2⟩ := tgetK_ok h
      exact ⟨y, by simp [tget, natBeqF e, h1], h2⟩
theorem tsetK_ok {d : Nat} {x : AV} : ∀ {l : List (Nat × AV)} {k : List (Nat × AV) → Prop}, tsetK d x l k → k (tset l d x)
  | [], k, h => h
  | (s, y) :: r, k, h => by
    unfold tsetK at h
    split at h
    · rename_i e; simpa [tset, natBeq e] using h
    · rename_i e; simpa [tset, natBeqF e] using tsetK_ok h
theorem tdelK_ok {d : Nat} : ∀ {l : List (Nat × AV)} {k : List (Nat × AV) → Prop}, tdelK d l k → k (tdel l d)
  | [], k, h => h
  | (s, y) :: r, k, h => by
    unfold tdelK at h
    split at h
    · rename_i e; simpa [tdel, natBeq e] using tdelK_ok h
    · rename_i e; simpa [tdel, natBeqF e] using tdelK_ok h
theorem mgetK_ok {i : Id} {k : MObj → Prop} : ∀ {l : List (Id × MObj)}, mgetK i k l → ∃ x, mget l i = some x ∧ k x
  | [], h => h.elim
  | (s, x) :: r, h => by
    unfold mgetK at h
    split at h
    · rename_i e; exact ⟨x, by simp [mget, beqI_t e], h⟩
    · rename_i e
      obtain ⟨y, h1, h2⟩ := mgetK_ok h
      exact ⟨y, by simp [mget, beqI_f e, h1], h2⟩
theorem msetK_ok {i : Id} {o : MObj} : ∀ {l : List (Id × MObj)} {k : List (Id × MObj) → Prop}, msetK i o l k → k (mset l i o)
  | [], k, h => h
  | (s, y) :: r, k, h => by
    unfold msetK at h
    split at h
    · rename_i e; simpa [mset, beqI_t e] using h
    · rename_i e; simpa [mset, beqI_f e] using msetK_ok h
theorem mdelK_ok {i : Id} : ∀ {l : List (Id × MObj)} {k : List (Id × MObj) → Prop}, mdelK i l k → k (mdel l i)
  | [], k, h => h
  | (s, y) :: r, k, h => by
    unfold mdelK at h
    split at h
    · rename_i e; simpa [mdel, beqI_t e] using mdelK_ok h
    · rename_i e; simpa [mdel, beqI_f e] using mdelK_ok h
theorem forceL_ok : ∀ {l : List Cell} {k : List Cell → Prop}, forceL l k → k l
  | [], _, h => h
  | c :: r, k, h => forceL_ok (l := r) (k := fun r' => k (c :: r')) h
theorem optK_ok {α : Type} {o : Option α} {k : α → Prop} (h : optK o k) : ∃ a, o = some a ∧ k a := by
  cases o with
  | none => exact h.elim
  | some a => exact ⟨a, rfl, h⟩

def TyOk (P : Program) : List (Nat × TI) → Prop
  | [] => True
  | (t, ti) :: r => tiOf P t = some ti ∧ TyOk P r

theorem tyK_ok {P : Program} {t : Nat} {k : TI → Prop} : ∀ {τ : List (Nat × TI)}, TyOk P τ → tyK t k τ → ∃ ti, tiOf P t = some ti ∧ k ti
  | [], _, h => h.elim
  | (s, x) :: r, hτ, h => by
    unfold tyK at h
    split at h
    · rename_i e; exact ⟨x, by rw [natBeq e]; exact hτ.1, h⟩
    · exact tyK_ok hτ.2 h

def constCellsK : List Value → (List Cell → Prop) → Prop
  | [], k => k []
  | v :: r, k => match scalar v with
    | true => constCellsK r fun l => k (.sc v :: l)
    | false => False
theorem constCellsK_ok : ∀ {l : List Value} {k : List Cell → Prop}, constCellsK l k → ∃ cs, constCells l = some cs ∧ k cs
  | [], k, h => ⟨[], rfl, h⟩
  | v :: r, k, h => by
    unfold constCellsK at h
    split at h
    · rename_i hv
      obtain ⟨cs, h1, h2⟩ := constCellsK_ok h
      exact ⟨_, by simp [constCells, hv, h1], h2⟩
    · exact h.elim
def nrmK (v : Value) (k : Cell → Prop) : Prop := match v with
  | .slice none 0 0 => k (.lst [])
  | v => k (.sc v)
theorem nrmK_ok {v : Value} {k : Cell → Prop} (h : nrmK v k) : k (nrm v) := by
  unfold nrmK at h
  split at h
  · exact h
  · rename_i hn
    have e : nrm v = .sc v := by
      unfold nrm
      split
      · exact (hn rfl).elim
      · rfl
    rw [e]
    exact h
def constCellsNK : List Value → (List Cell → Prop) → Prop
  | [], k => k []
  | v :: r, k => match scalar v with
    | true => constCellsNK r fun l => nrmK v fun c => k (c :: l)
    | false => False
theorem constCellsNK_ok : ∀ {l : List Value} {k : List Cell → Prop}, constCellsNK l k → ∃ cs, constCellsN l = some cs ∧ k cs
  | [], k, h => ⟨[], rfl, h⟩
  | v :: r, k, h => by
    unfold constCellsNK at h
    split at h
    · rename_i hv
      obtain ⟨cs, h1, h2⟩ := constCellsNK_ok h
      exact ⟨_, by simp [constCellsN, hv, h1], nrmK_ok h2⟩
    · exact h.elim
def constK : Value → (AV → Prop) → Prop
  | .agg cs, k => constCellsK cs.toList fun l => k (.agg l)
  | .tuple _, _ => False
  | v, k => match scalar v with
    | true => k (.c (.sc v))
    | false => False
theorem constK_ok {v : Value} {k : AV → Prop} (h : constK v k) : ∃ x, constAV v = some x ∧ k x := by
  unfold constK at h
  split at h
  · obtain ⟨cs, h1, h2⟩ := constCellsK_ok h
    exact ⟨.agg cs, by simp [constAV, h1], h2⟩
  · exact h.elim
  · rename_i h1 h2
    split at h
    · rename_i hv
      refine ⟨_, ?_, h⟩
      unfold constAV
      split
      · rename_i cs; exact absurd rfl (h1 cs)
      · rename_i cs; exact absurd rfl (h2 cs)
      · simp [hv]
    · exact h.elim

def ggetK (n : Nat) (k : List Value → Prop) : List (Nat × List Value) → Prop
  | [] => False
  | (j, l) :: r => match Nat.beq n j with
    | true => k l
    | false => ggetK n k r
theorem ggetK_ok {n : Nat} {k : List Value → Prop} : ∀ {l : List (Nat × List Value)}, ggetK n k l → ∃ vs, gget n l = some vs ∧ k vs
  | [], h => h.elim
  | (j, l) :: r, h => by
    unfold ggetK at h
    split at h
    · rename_i e; exact ⟨l, by simp only [gget, e], h⟩
    · rename_i e
      obtain ⟨vs, h1, h2⟩ := ggetK_ok h
      exact ⟨vs, by simp only [gget, e, h1], h2⟩
def evK (L : List (Nat × AV)) : Operand → (AV → Prop) → Prop
  | .tmp t, k => tgetK t k L
  | .const v, k => constK v k
  | .func f, k => k (.c (.fn f []))
  | .global n, k => ggetK n (fun vs => constCellsK vs fun cs => k (.c (.pel cs))) gtab
theorem evK_ok {L : List (Nat × AV)} {x : Operand} {k : AV → Prop} (h : evK L x k) : ∃ a, ev (tget L) x = some a ∧ k a := by
  cases x with
  | tmp t => exact tgetK_ok h
  | const v => exact constK_ok h
  | global n =>
    obtain ⟨vs, h1, h2⟩ := ggetK_ok h
    obtain ⟨cs, h3, h4⟩ := constCellsK_ok h2
    exact ⟨_, by simp [ev, h1, h3], h4⟩
  | func f => exact ⟨_, rfl, h⟩

def evsK (L : List (Nat × AV)) : List Operand → (List AV → Prop) → Prop
  | [], k => k []
  | x :: r, k => evK L x fun a => evsK L r fun l => k (a :: l)
theorem evsK_ok {L : List (Nat × AV)} : ∀ {l : List Operand} {k : List AV → Prop}, evsK L l k → ∃ xs, evs (tget L) l = some xs ∧ k xs
  | [], k, h => ⟨[], rfl, h⟩
  | x :: r, k, h => by
    obtain ⟨a, h1, h2⟩ := evK_ok h
    obtain ⟨xs, h3, h4⟩ := evsK_ok h2
    exact ⟨a :: xs, by simp [evs, h1, h3], h4⟩

def avK : AV → (List Cell → Prop) → Prop
  | .c x, k => k [x]
  | .agg cs, k => k cs
  | .tup _, _ => False
theorem avK_ok {a : AV} {k : List Cell → Prop} (h : avK a k) : ∃ cs, avCells a = some cs ∧ k cs := by
  cases a <;> first | exact ⟨_, rfl, h⟩ | exact h.elim

def cutK (ti : TI) (cs : List Cell) (off : Nat) (k : AV → Prop) : Prop :=
  match ti.agg with
  | true => match Nat.ble (off + ti.size) cs.length with
    | true => forceL ((cs.drop off).take ti.size) fun l => k (.agg l)
    | false => False
  | false => optK cs[off]? fun c => k (.c c)
theorem cutK_ok {ti : TI} {cs : List Cell} {off : Nat} {k : AV → Prop} (h : cutK ti cs off k) : ∃ x, cut ti cs off = some x ∧ k x := by
  unfold cutK at h
  split at h
  · rename_i ha
    split at h
    · rename_i hb
      refine ⟨_, ?_, forceL_ok h⟩
      simp [cut, ha, Nat.le_of_ble_eq_true hb]
    · exact h.elim
  · rename_i ha
    obtain ⟨c, h1, h2⟩ := optK_ok h
    exact ⟨_, by simp [cut, ha, h1], h2⟩

def loadK (ti : TI) (m : Mem) (p : AV) (k : AV → Prop) : Prop :=
  match p with
  | .c (.ptr i off) => mgetK i (fun o => match o with
    | .blk cs => cutK ti cs off k
    | _ => False) m.o
  | .c (.aptr o i kk) => mgetK o (fun o => match o with
    | .arr _ _ es _ => ∃ cs, es[i]? = some cs ∧ cutK ti cs kk k
    | _ => False) m.o
  | .c (.pel cs) => cutK ti cs 0 k
  | _ => False
theorem loadK_ok {ti : TI} {m : Mem} {p : AV} {k : AV → Prop} (h : loadK ti m p k) : ∃ x, loadF ti m p = some x ∧ k x := by
  unfold loadK at h
  split at h
  · obtain ⟨o, h1, h2⟩ := mgetK_ok h
    split at h2
    · obtain ⟨x, h3, h4⟩ := cutK_ok h2
      exact ⟨x, by simp [loadF, h1, h3], h4⟩
    · exact h2.elim
  · obtain ⟨o, h1, h2⟩ := mgetK_ok h
    split at h2
    · obtain ⟨cs, h0, h2⟩ := h2
      obtain ⟨x, h3, h4⟩ := cutK_ok h2
      exact ⟨x, by simp [loadF, h1, h0, h3], h4⟩
    · exact h2.elim
  · obtain ⟨x, h3, h4⟩ := cutK_ok h
    exact ⟨x, h3, h4⟩
  · exact h.elim

def setOK (m : Mem) (o' : List (Id × MObj)) (k : Mem → Prop) : Prop := match m with
  | ⟨_, nx, us⟩ => k ⟨o', nx, us⟩
theorem setOK_ok {m : Mem} {o' : List (Id × MObj)} {k : Mem → Prop} (h : setOK m o' k) : k { m with o := o' } := h
def purK (m : Mem) (c : Cell) (k : Cell → Mem → Prop) : Prop :=
  match c with
  | .sc v => k (nrm v) m
  | .lst es => k (.lst es) m
  | .full es => k (.lst es) m
  | .view o lo n => mgetK o (fun x => match x with
    | .arr e sz es _ => lo + n ≤ es.length ∧ msetK o (.arr e sz es true) m.o fun o' => setOK m o' fun m' => k (.lst ((es.drop lo).take n)) m'
    | _ => False) m.o
  | _ => False
theorem purK_ok {m : Mem} {c : Cell} {k : Cell → Mem → Prop} (h : purK m c k) : ∃ c' m', pur m c = some (c', m') ∧ k c' m' := by
  unfold purK at h
  split at h
  · exact ⟨_, _, rfl, h⟩
  · exact ⟨_, _, rfl, h⟩
  · exact ⟨_, _, rfl, h⟩
  · obtain ⟨x, h1, h2⟩ := mgetK_ok h
    split at h2
    · obtain ⟨h3, h4⟩ := h2
      exact ⟨_, _, by simp [pur, h1, h3], setOK_ok (msetK_ok h4)⟩
    · exact h2.elim
  · exact h.elim
def purLK (m : Mem) : List Cell → (List Cell → Mem → Prop) → Prop
  | [], k => k [] m
  | c :: r, k => purK m c fun c' m1 => purLK m1 r fun l m2 => k (c' :: l) m2
theorem purLK_ok : ∀ {l : List Cell} {m : Mem} {k : List Cell → Mem → Prop}, purLK m l k → ∃ l' m', purL m l = some (l', m') ∧ k l' m'
  | [], m, k, h => ⟨[], m, rfl, h⟩
  | c :: r, m, k, h => by
    obtain ⟨c', m1, h1, h2⟩ := purK_ok h
    obtain ⟨l, m2, h3, h4⟩ := purLK_ok h2
    exact ⟨_, _, by simp [purL, h1, h3], h4⟩

def wrK (cs : List Cell) (off : Nat) (xs : List Cell) (k : List Cell → Prop) : Prop := forceL (wr cs off xs) k

def storeK (ti : TI) (m : Mem) (p v : AV) (k : Mem → Prop) : Prop :=
  avK v fun cs' => match Nat.beq cs'.length ti.size with
    | false => False
    | true => match p with
      | .c (.ptr i off) => mgetK i (fun o => match o with
        | .blk cs => match Nat.ble (off + ti.size) cs.length with
          | true => wrK cs off cs' fun l => msetK i (.blk l) m.o fun o' => setOK m o' k
          | false => False
        | _ => False) m.o
      | .c (.aptr o i kk) => purLK m cs' fun pcs m1 => mgetK o (fun x => match x with
        | .arr e sz es false => ∃ cs, es[i]? = some cs ∧ kk + ti.size ≤ cs.length ∧ wrK cs kk pcs fun l => msetK o (.arr e sz (es.set i l) false) m1.o fun o' => setOK m1 o' k
        | _ => False) m1.o
      | _ => False
theorem storeK_ok {ti : TI} {m : Mem} {p v : AV} {k : Mem → Prop} (h : storeK ti m p v k) : ∃ m', storeF ti m p v = some m' ∧ k m' := by
  obtain ⟨cs', h1, h2⟩ := avK_ok h
  split at h2
  · exact h2.elim
  · rename_i hl
    have hl := natBeq hl
    split at h2
    · obtain ⟨o, h3, h4⟩ := mgetK_ok h2
      split at h4
      · split at h4
        · rename_i hb
          exact ⟨_, by simp [storeF, h1, hl, h3, Nat.le_of_ble_eq_true hb], setOK_ok (msetK_ok (forceL_ok h4))⟩
        · exact h4.elim
      · exact h4.elim
    · obtain ⟨pcs, m1, h3, h4⟩ := purLK_ok h2
      obtain ⟨o, h5, h6⟩ := mgetK_ok h4
      split at h6
      · obtain ⟨cs, h7, h8, h9⟩ := h6
        exact ⟨_, by simp [storeF, h1, hl, h3, h5, h7, h8], setOK_ok (msetK_ok (forceL_ok h9))⟩
      · exact h6.elim
    · exact h2.elim

end Go.Abs
