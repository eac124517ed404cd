/- The abstract evaluator: what each operation does to the slots and the small memory. -/
import Derived.Test.YtfhnicamjcfddaaGreatDoorAbsA
namespace Go.Abs

/-- What the evaluator is told of a type. -/
inductive TD where
  | int (k : IntKind)
  | slice (e : TypeId)
  | array (n : Nat) (e : TypeId)
  | struct (fs : List (Nat × TypeId))
  | bool
  | str
  | map (k v : TypeId)
  | other

structure TI where
  agg : Bool
  size : Nat
  bytes : Nat
  zero : List Value
  d : TD
  eq : List Bool := []

def descOf : TypeDesc → TD
  | .int k => .int k
  | .slice e => .slice e
  | .array n e => .array n e
  | .struct fs => .struct (fs.toList.map fun f => (f.offset, f.type))
  | .bool => .bool
  | .string => .str
  | .map k v => .map k v
  | _ => .other

def isAggD : TypeDesc → Bool
  | .struct _ => true
  | .array _ _ => true
  | _ => false

/-- A struct of numbers (true) and truth values (false) alone, compared part by part. -/
def flatFs (P : Program) : Nat → List Field → Option (List Bool)
  | _, [] => some []
  | i, f :: r => if (f.name != "_" && f.offset == i) = true then (match P.underlying f.type with
    | some (.int _) => (flatFs P (i + 1) r).map (true :: ·)
    | some .bool => (flatFs P (i + 1) r).map (false :: ·)
    | _ => none) else none
def eqFlat (P : Program) (t : TypeId) : List Bool := match P.underlying t with
  | some (.struct fs) => match flatFs P 0 fs.toList with
    | some ks => if (!P.stoodInHeld t && !P.eqGuardType P.depth t) = true then ks else []
    | none => []
  | _ => []

def tiOf (P : Program) (t : TypeId) : Option TI :=
  match P.info? t, P.underlying t with
  | some i, some d =>
    match i.zero with
    | some z => some { agg := isAggD d, size := i.size, bytes := i.bytes, zero := z.cells.toList, d := descOf d, eq := eqFlat P t }
    | none => none
  | _, _ => none

/-- A nil slice among cells reads as the empty list. -/
def nrm : Value → Cell
  | .slice none 0 0 => .lst []
  | v => .sc v

def constCells : List Value → Option (List Cell)
  | [] => some []
  | v :: r => if scalar v then (constCells r).map (Cell.sc v :: ·) else none

/-- As `constCells`, a nil slice as the empty list. -/
def constCellsN : List Value → Option (List Cell)
  | [] => some []
  | v :: r => if scalar v then (constCellsN r).map (nrm v :: ·) else none

def constAV : Value → Option AV
  | .agg cs => (constCells cs.toList).map .agg
  | .tuple _ => none
  | v => if scalar v then some (.c (.sc v)) else none

def ev (L : Nat → Option AV) : Operand → Option AV
  | .tmp t => L t
  | .const v => constAV v
  | .func f => some (.c (.fn f []))
  | .global n => match gget n gtab with
    | some vs => (constCells vs).map fun cs => .c (.pel cs)
    | none => none

def evs (L : Nat → Option AV) : List Operand → Option (List AV)
  | [] => some []
  | x :: r => match ev L x, evs L r with
    | some a, some l => some (a :: l)
    | _, _ => none

def andI (k : IntKind) (a b : Int) : Int := k.wrap ((BitVec.ofInt k.bits a &&& BitVec.ofInt k.bits b).toNat)
def shrI (k : IntKind) (a b : Int) : Int := a.fdiv (2 ^ min b.toNat k.bits)
def binI (op : BinOp) (k : IntKind) (a b : Int) : Option Value :=
  match op with
  | .add => some (.int k (k.wrap (a + b)))
  | .sub => some (.int k (k.wrap (a - b)))
  | .mul => some (.int k (k.wrap (a * b)))
  | .quo => if b = 0 then none else some (.int k (k.wrap (a.tdiv b)))
  | .rem => if b = 0 then none else some (.int k (a.tmod b))
  | .eql => some (.bool (decide (a = b)))
  | .neq => some (.bool (!decide (a = b)))
  | .lss => some (.bool (decide (a < b)))
  | .leq => some (.bool (decide (a ≤ b)))
  | .gtr => some (.bool (decide (b < a)))
  | .geq => some (.bool (decide (b ≤ a)))
  | .and => some (.int k (andI k a b))
  | .shr => if b < 0 then none else some (.int k (shrI k a b))
  | _ => none

def binB (op : BinOp) (a b : Bool) : Option Value :=
  match op with
  | .eql => some (.bool (a == b))
  | .neq => some (.bool (!(a == b)))
  | _ => none

/-- A slice beside the literal nil. -/
def nilB (op : BinOp) (x : Cell) : Option Bool := match op, x with
  | .eql, .sc (.slice none 0 0) => some true
  | .eql, .lst (_ :: _) => some false
  | .neq, .sc (.slice none 0 0) => some false
  | .neq, .lst (_ :: _) => some true
  | _, _ => none

def unV (op : UnOp) (x : Value) : Option Value :=
  match op, x with
  | .not, .bool b => some (.bool (!b))
  | .neg, .int k n => some (.int k (k.wrap (0 - n)))
  | _, _ => none

def avCells : AV → Option (List Cell)
  | .c x => some [x]
  | .agg cs => some cs
  | .tup _ => none

/-- The part of a variable's cells from a place on, of a type. -/
def cut (ti : TI) (cs : List Cell) (off : Nat) : Option AV :=
  if ti.agg then (if off + ti.size ≤ cs.length then some (.agg ((cs.drop off).take ti.size)) else none)
  else match cs[off]? with
    | some c => some (.c c)
    | none => none

def wr (cs : List Cell) (off : Nat) (xs : List Cell) : List Cell := cs.take off ++ (xs ++ cs.drop (off + xs.length))

/-- A cell as pure data: arrays of the frame's own are written no more from here on. -/
def pur (m : Mem) : Cell → Option (Cell × Mem)
  | .sc v => some (nrm v, m)
  | .lst es => some (.lst es, m)
  | .full es => some (.lst es, m)
  | .view o lo n => match mget m.o o with
    | some (.arr e sz es _) => if lo + n ≤ es.length then some (.lst ((es.drop lo).take n), { m with o := mset m.o o (.arr e sz es true) }) else none
    | _ => none
  | _ => none

def purL (m : Mem) : List Cell → Option (List Cell × Mem)
  | [] => some ([], m)
  | c :: r => match pur m c with
    | some (c', m1) => match purL m1 r with
      | some (r', m2) => some (c' :: r', m2)
      | none => none
    | none => none

/-- The elements that a slice holds now. -/
def elems (m : Mem) : Cell → Option (List (List Cell))
  | .sc (.slice none 0 0) => some []
  | .lst es => some es
  | .full es => some es
  | .view o lo n => match mget m.o o with
    | some (.arr _ _ es _) => if lo + n ≤ es.length then some ((es.drop lo).take n) else none
    | _ => none
  | _ => none

def lenC : Cell → Option Nat
  | .sc (.slice none 0 0) => some 0
  | .lst es => some es.length
  | .full es => some es.length
  | .view _ _ n => some n
  | _ => none

def loadF (ti : TI) (m : Mem) : AV → Option AV
  | .c (.ptr i off) => match mget m.o i with
    | some (.blk cs) => cut ti cs off
    | _ => none
  | .c (.aptr o i k) => match mget m.o o with
    | some (.arr _ _ es _) => match es[i]? with
      | some cs => cut ti cs k
      | none => none
    | _ => none
  | .c (.pel cs) => cut ti cs 0
  | _ => none

def storeF (ti : TI) (m : Mem) (p v : AV) : Option Mem :=
  match avCells v with
  | none => none
  | some cs' =>
    if cs'.length = ti.size then
      match p with
      | .c (.ptr i off) => match mget m.o i with
        | some (.blk cs) => if off + ti.size ≤ cs.length then some { m with o := mset m.o i (.blk (wr cs off cs')) } else none
        | _ => none
      | .c (.aptr o i k) => match purL m cs' with
        | some (pcs, m1) => match mget m1.o o with
          | some (.arr e sz es false) => match es[i]? with
            | some cs => if k + ti.size ≤ cs.length then some { m1 with o := mset m1.o o (.arr e sz (es.set i (wr cs k pcs)) false) } else none
            | none => none
          | _ => none
        | none => none
      | _ => none
    else none

def fieldF (P : Program) (s f : Nat) (p : AV) : Option AV :=
  match tiOf P s with
  | some { d := .struct fs, .. } => match fs[f]? with
    | some (off, t) => match tiOf P t with
      | some ti => if ti.size = 0 then none else
        match p with
        | .c (.ptr i o) => some (.c (.ptr i (o + off)))
        | .c (.aptr o i k) => some (.c (.aptr o i (k + off)))
        | .c (.pel cs) => if off < cs.length then some (.c (.pel (cs.drop off))) else none
        | _ => none
      | none => none
    | none => none
  | _ => none

def fieldV (P : Program) (s f : Nat) (x : AV) : Option AV :=
  match tiOf P s, x with
  | some { d := .struct fs, .. }, .agg cs => match fs[f]? with
    | some (off, t) => match tiOf P t with
      | some ti => cut ti cs off
      | none => none
    | none => none
  | _, _ => none

def indexF (P : Program) (m : Mem) (t : Nat) (x ix : AV) : Option AV :=
  match tiOf P t, ix with
  | some { d := .slice e, .. }, .c (.sc (.int _ n)) =>
    match tiOf P e with
    | none => none
    | some te =>
      if 0 ≤ n then
        match x with
        | .c (.lst es) => match es[n.toNat]? with
          | some el => if el.length = te.size then some (.c (.pel el)) else none
          | none => none
        | .c (.full es) => match es[n.toNat]? with
          | some el => if el.length = te.size then some (.c (.pel el)) else none
          | none => none
        | .c (.view o lo len) => match mget m.o o with
          | some (.arr _ sz _ _) => if n < len ∧ sz = te.size then some (.c (.aptr o (lo + n.toNat) 0)) else none
          | _ => none
        | _ => none
      else none
  | some { d := .array len e, .. }, .c (.sc (.int _ n)) =>
    match tiOf P e with
    | none => none
    | some te =>
      if 0 ≤ n ∧ n < len then
        match x with
        | .c (.ptr i off) => some (.c (.ptr i (off + n.toNat * te.size)))
        | .c (.pel cs) => if n.toNat * te.size < cs.length then some (.c (.pel (cs.drop (n.toNat * te.size)))) else none
        | _ => none
      else none
  | _, _ => none

def indexV (P : Program) (t : Nat) (x ix : AV) : Option AV :=
  match tiOf P t, x, ix with
  | some { d := .array len e, .. }, .agg cs, .c (.sc (.int _ n)) =>
    if 0 ≤ n ∧ n < len then
      match tiOf P e with
      | some te => cut te cs (n.toNat * te.size)
      | none => none
    else none
  | some { d := .str, .. }, .c (.sc (.string b)), .c (.sc (.int _ n)) => if 0 ≤ n then (match b.data[n.toNat]? with
    | some u => some (.c (.sc (.int .u8 u.toNat)))
    | none => none) else none
  | _, _, _ => none

def bound (d : Nat) : Option (Option AV) → Option Int
  | none => some d
  | some (some (.c (.sc (.int _ n)))) => some n
  | _ => none

def sliceF (P : Program) (m : Mem) (t : Nat) (x : AV) (lo hi mx : Option (Option AV)) : Option AV :=
  match tiOf P t, x with
  | some { d := .slice e, .. }, .c x =>
    match lenC x, tiOf P e with
    | some n, some te =>
      match bound 0 lo, bound n hi with
      | some l, some h =>
        if 0 ≤ l ∧ l ≤ h ∧ h ≤ n then
          match mx with
          | none => match x with
            | .sc _ => some (.c x)
            | .lst es => if es.all (fun e => e.length == te.size) then some (.c (.lst ((es.take h.toNat).drop l.toNat))) else none
            | .full es => if es.all (fun e => e.length == te.size) then some (.c (.lst ((es.take h.toNat).drop l.toNat))) else none
            | .view o lo' _ => match mget m.o o with
              | some (.arr _ sz _ _) => if sz = te.size then some (.c (.view o (lo' + l.toNat) (h.toNat - l.toNat))) else none
              | _ => none
            | _ => none
          | some mk => match bound 0 (some mk), hi with
            | some k, some _ => if k = h then
                match x with
                | .sc _ => some (.c x)
                | .lst es => if es.all (fun e => e.length == te.size) then some (.c (.full ((es.take h.toNat).drop l.toNat))) else none
                | .full es => if es.all (fun e => e.length == te.size) then some (.c (.full ((es.take h.toNat).drop l.toNat))) else none
                | _ => none
              else none
            | _, _ => none
        else none
      | _, _ => none
    | _, _ => none
  | _, _ => none

def newId (d : Nat) (m : Mem) : Id := .l d m.nx

def addObj (d : Nat) (m : Mem) (o : MObj) : Mem := { o := m.o ++ [(newId d m, o)], nx := m.nx, us := d :: m.us }

def parts (L : Nat → Option AV) (sz : Nat) : Nat → List (Nat × Operand) → Mem → Option (List (List Cell) × Mem)
  | _, [], m => some ([], m)
  | i, (k, x) :: r, m =>
    if k = i then
      match ev L x with
      | some a => match avCells a with
        | some cs => if cs.length = sz then
            match purL m cs with
            | some (pcs, m1) => match parts L sz (i + 1) r m1 with
              | some (l, m2) => some (pcs :: l, m2)
              | none => none
            | none => none
          else none
        | none => none
      | none => none
    else none

/-- The parts of an array. -/
def arrFs (sz : Nat) (e : TypeId) : Nat → Nat → List (Nat × TypeId)
  | 0, _ => []
  | n + 1, i => (i * sz, e) :: arrFs sz e n (i + 1)
theorem arrFs_get {sz : Nat} {e : TypeId} : ∀ {n i k : Nat} {x : Nat × TypeId}, (arrFs sz e n i)[k]? = some x → x = ((i + k) * sz, e)
  | 0, _, _, _, h => by simp [arrFs] at h
  | n + 1, i, 0, x, h => by simp [arrFs] at h; simp [← h]
  | n + 1, i, k + 1, x, h => by
    have := arrFs_get (n := n) (i := i + 1) (k := k) (by simpa [arrFs] using h)
    rw [this, show i + 1 + k = i + (k + 1) by omega]

def buildF (L : Nat → Option AV) (P : Program) (fs : List (Nat × TypeId)) : List Cell → List (Nat × Operand) → Option (List Cell)
  | cs, [] => some cs
  | cs, (k, x) :: r =>
    match fs[k]? with
    | some (off, t) => match tiOf P t, ev L x with
      | some ti, some a => match avCells a with
        | some cs' => if cs'.length = ti.size ∧ off + ti.size ≤ cs.length then buildF L P fs (wr cs off cs') r else none
        | none => none
      | _, _ => none
    | none => none

def wrE (es : List (List Cell)) (lo : Nat) (xs : List (List Cell)) : List (List Cell) := es.take lo ++ (xs ++ es.drop (lo + xs.length))

def eqC : List Bool → List Cell → List Cell → Option Bool
  | [], [], [] => some true
  | true :: ks, .sc (.int k a) :: r, .sc (.int k' b) :: s => if k = k' then (eqC ks r s).map (decide (a = b) && ·) else none
  | false :: ks, .sc (.bool a) :: r, .sc (.bool b) :: s => (eqC ks r s).map ((a == b) && ·)
  | _, _, _ => none
def binE (op : BinOp) (ks : List Bool) (xs ys : List Cell) : Option Bool := match op with
  | .eql => eqC ks xs ys
  | .neq => (eqC ks xs ys).map (!·)
  | _ => none

/-- append of new zeros: the translation hands over their number. -/
def appZF (P : Program) (t t' : TypeId) (d : Nat) (m : Mem) (s x : Cell) : Option (AV × Mem) :=
  match s, x, tiOf P t, tiOf P t' with
  | .view o lo n, .sc (.int _ k), some { d := .slice e, .. }, some { d := .int _, .. } =>
    match tiOf P e, mget m.o o with
    | some te, some (.arr e' sz es fr) => match constCells te.zero with
      | some z => if e' = e ∧ sz = te.size ∧ lo = 0 ∧ n = es.length ∧ te.size ≠ 0 ∧ te.bytes ≠ 0 ∧ te.zero.length = te.size ∧ 0 ≤ k ∧ (es.length + k.toNat) * te.bytes ≤ 140737488355328 then
          some (.c (.view (newId d m) 0 (es.length + k.toNat)), addObj d { m with o := mdel m.o o } (.arr e te.size (es ++ List.replicate k.toNat z) fr))
        else none
      | none => none
    | _, _ => none
  | _, _, _, _ => none

def eqBy : List UInt8 → List UInt8 → Bool
  | [], [] => true
  | a :: r, b :: s => match Nat.beq a.toNat b.toNat with
    | true => eqBy r s
    | false => false
  | _, _ => false
def binS (op : BinOp) (a b : ByteArray) : Option Value := match op with
  | .eql => some (.bool (eqBy a.data.toList b.data.toList))
  | .neq => some (.bool (!eqBy a.data.toList b.data.toList))
  | _ => none

def binSO (op : BinOp) (p q : Option AV) : Option Value := match p, q with
  | some (.c (.sc (.string a))), some (.c (.sc (.string b))) => binS op a b
  | _, _ => none

/-! ### Maps -/

def findM : List ((Int × Int) × List Value) → Int → Int → Option (List Value)
  | [], _, _ => none
  | (k, v) :: r, a, b => if k = (a, b) then some v else findM r a b
def putM : List ((Int × Int) × List Value) → Int → Int → List Value → List ((Int × Int) × List Value)
  | [], a, b, v => [((a, b), v)]
  | (k, u) :: r, a, b, v => if k = (a, b) then (k, v) :: r else (k, u) :: putM r a b v
def scCs : List Cell → Option (List Value)
  | [] => some []
  | .sc v :: r => match scalar v, scCs r with
    | true, some l => some (v :: l)
    | _, _ => none
  | _ :: _ => none
/-- Keys of this type are two numbers. -/
def keyTy (P : Program) (k : TypeId) : Bool := match tiOf P k with
  | some { d := .array 2 e, size := 2, .. } => match tiOf P e with
    | some { d := .int .i64, size := 1, .. } => true
    | _ => false
  | _ => false
def mapF (P : Program) (t : TypeId) (m : Mem) (x ix : AV) : Option AV := match tiOf P t, x, ix with
  | some { d := .map kt vt, .. }, .c (.mp i), .agg [.sc (.int .i64 a), .sc (.int .i64 b)] => match keyTy P kt, tiOf P vt, mget m.o i with
    | true, some tv, some (.map es) => match Nat.beq tv.zero.length 1, constCells tv.zero with
      | false, some z => some (match findM es a b with
        | some v => .tup [.agg (v.map .sc), .c (.sc (.bool true))]
        | none => .tup [.agg z, .c (.sc (.bool false))])
      | _, _ => none
    | _, _, _ => none
  | _, _, _ => none
def updF' (P : Program) (t : TypeId) (m : Mem) (x ix v : AV) : Option Mem := match tiOf P t, x, ix, v with
  | some { d := .map kt _, .. }, .c (.mp i), .agg [.sc (.int .i64 a), .sc (.int .i64 b)], .agg cs => match keyTy P kt, scCs cs, mget m.o i with
    | true, some vs, some (.map es) => some { m with o := mset m.o i (.map (putM es a b vs)) }
    | _, _, _ => none
  | _, _, _, _ => none

def callB (P : Program) (b : Builtin) (argTypes : List TypeId) (d : Nat) (m : Mem) (args : List AV) : Option (AV × Mem) :=
  match b, argTypes, args with
  | .len, [t], [.c x] => match tiOf P t with
    | some { d := .slice _, .. } => match lenC x with
      | some n => some (.c (.sc (.int .i64 n)), m)
      | none => none
    | some { d := .str, .. } => match x with
      | .sc (.string b) => some (.c (.sc (.int .i64 b.data.size)), m)
      | _ => none
    | _ => none
  | .min, _, [.c (.sc (.int k a)), .c (.sc (.int _ b))] => some (.c (.sc (.int k (if b < a then b else a))), m)
  | .min, _, [.c (.sc (.int k a)), .c (.sc (.int _ b)), .c (.sc (.int _ c))] => some (.c (.sc (.int k (if c < (if b < a then b else a) then c else (if b < a then b else a)))), m)
  | .max, _, [.c (.sc (.int k a)), .c (.sc (.int _ b))] => some (.c (.sc (.int k (if a < b then b else a))), m)
  | .append, [t, t'], [.c s, .c x] =>
    if t = t' then
      match tiOf P t with
      | some { d := .slice e, .. } => match tiOf P e, elems m x with
        | some te, some es2 =>
          if te.size = 0 ∨ te.bytes = 0 ∨ es2.all (fun e => e.length == te.size) = false ∨ ¬ te.zero.length = te.size then none else
          match s with
          | .sc (.slice none 0 0) => if es2.length * te.bytes ≤ 140737488355328 then some (.c (.view (newId d m) 0 es2.length), addObj d m (.arr e te.size es2 false)) else none
          | .full es => match es2 with
            | [] => none
            | x2 :: r2 => if es.all (fun e => e.length == te.size) = true ∧ (es.length + (x2 :: r2).length) * te.bytes ≤ 140737488355328 then
                some (.c (.view (newId d m) 0 (es.length + (x2 :: r2).length)), addObj d m (.arr e te.size (es ++ x2 :: r2) false)) else none
          | .view o lo n => match mget m.o o with
            | some (.arr e' sz es fr) =>
              if e' = e ∧ sz = te.size ∧ lo = 0 ∧ n = es.length ∧ (es.length + es2.length) * te.bytes ≤ 140737488355328 then
                some (.c (.view (newId d m) 0 (es.length + es2.length)), addObj d { m with o := mdel m.o o } (.arr e te.size (es ++ es2) fr))
              else none
            | _ => none
          | _ => none
        | _, _ => none
      | _ => none
    else appZF P t t' d m s x
  | .copy, [t, _], [.c (.view o lo n), .c x] => match tiOf P t with
    | some { d := .slice e, .. } => match tiOf P e, elems m x, mget m.o o with
      | some te, some es2, some (.arr e' sz es false) =>
        if e' = e ∧ sz = te.size ∧ lo + n ≤ es.length ∧ te.size ≠ 0 ∧ es2.all (fun e => e.length == te.size) = true then
          some (.c (.sc (.int .i64 (Nat.min es2.length n))), { m with o := mset m.o o (.arr e' sz (wrE es lo (es2.take (Nat.min es2.length n))) false) })
        else none
      | _, _, _ => none
    | _ => none
  | _, _, _ => none

def plainCells : List AV → Option (List Cell)
  | [] => some []
  | .c x :: r => (plainCells r).map (x :: ·)
  | _ :: _ => none

def opF (P : Program) (op : Op) (d : Nat) (L : Nat → Option AV) (m : Mem) : Option (AV × Mem) :=
  match op with
  | .move x => (ev L x).map (·, m)
  | .assign x => (ev L x).map (·, m)
  | .pick c a b => match ev L c with
    | some (.c (.sc (.bool true))) => (ev L a).map (·, m)
    | some (.c (.sc (.bool false))) => (ev L b).map (·, m)
    | _ => none
  | .alloc T => match tiOf P T with
    | some ti => match constCells ti.zero with
      | some cs => some (.c (.ptr (newId d m) 0), addObj d m (.blk cs))
      | none => none
    | none => none
  | .box _ x => match ev L x with
    | some a => match avCells a with
      | some cs => some (.c (.ptr (newId d m) 0), addObj d m (.blk cs))
      | none => none
    | none => none
  | .build T ps => match tiOf P T with
    | some ti => match ti.d, constCells ti.zero with
      | .struct fs, some z => if fs.all (fun f => (tiOf P f.2).isSome) then (buildF L P fs z ps.toList).map fun cs => (.agg cs, m) else none
      | .array n e, some z => match tiOf P e with
        | some te => (buildF L P (arrFs te.size e n 0) z ps.toList).map fun cs => (.agg cs, m)
        | none => none
      | _, _ => none
    | none => none
  | .buildSlice T n ps => match tiOf P T with
    | some { d := .slice e, .. } => match tiOf P e with
      | some te => if te.size = 0 ∨ 16777216 < n * te.size then none else
        match parts L te.size 0 ps.toList m with
        | some (es, m1) => if es.length = n then some (.c (.view (newId d m1) 0 n), addObj d m1 (.arr e te.size es false)) else none
        | none => none
      | none => none
    | _ => none
  | .makeSlice T x y => match tiOf P T, ev L x, ev L y with
    | some { d := .slice e, .. }, some (.c (.sc (.int _ n))), some (.c (.sc (.int _ n'))) => match tiOf P e with
      | some te => match constCellsN te.zero with
        | some z => if n = n' ∧ 0 ≤ n ∧ te.size ≠ 0 ∧ te.bytes ≠ 0 ∧ te.zero.length = te.size ∧ n * te.bytes ≤ 140737488355328 then
            some (.c (.view (newId d m) 0 n.toNat), addObj d m (.arr e te.size (List.replicate n.toNat z) false))
          else none
        | none => none
      | none => none
    | _, _, _ => none
  | .load t a => match tiOf P t, ev L a with
    | some ti, some p => (loadF ti m p).map (·, m)
    | _, _ => none
  | .nilCheck x => match ev L x with
    | some (.c (.ptr i o)) => some (.c (.ptr i o), m)
    | some (.c (.aptr o i k)) => some (.c (.aptr o i k), m)
    | some (.c (.pel cs)) => some (.c (.pel cs), m)
    | some (.c (.fn f cs)) => some (.c (.fn f cs), m)
    | _ => none
  | .binOp op t x y _ => match ev L x, ev L y with
    | some (.c (.sc (.int k a))), some (.c (.sc (.int k' b))) => if k = k' then (binI op k a b).map fun v => (.c (.sc v), m) else none
    | some (.c (.sc (.bool a))), some (.c (.sc (.bool b))) => match tiOf P t with
      | some { d := .bool, .. } => (binB op a b).map fun v => (.c (.sc v), m)
      | _ => none
    | some (.agg xs), some (.agg ys) => match tiOf P t with
      | some ti => match ti.eq with
        | q :: ks => (binE op (q :: ks) xs ys).map fun b => (.c (.sc (.bool b)), m)
        | [] => none
      | none => none
    | some (.c x), some (.c (.sc (.slice none 0 0))) => match tiOf P t with
      | some { d := .slice _, .. } => (nilB op x).map fun b => (.c (.sc (.bool b)), m)
      | _ => none
    | p, q => (binSO op p q).map fun v => (.c (.sc v), m)
  | .unOp op _ x => match ev L x with
    | some (.c (.sc v)) => (unV op v).map fun v => (.c (.sc v), m)
    | _ => none
  | .convert src t x => match tiOf P src, tiOf P t, ev L x with
    | some _, some { d := .int k, .. }, some (.c (.sc (.int _ n))) => some (.c (.sc (.int k (k.wrap n))), m)
    | _, _, _ => none
  | .fieldAddr s x f => match ev L x with
    | some p => (fieldF P s f p).map (·, m)
    | none => none
  | .field s x f => match ev L x with
    | some p => (fieldV P s f p).map (·, m)
    | none => none
  | .indexAddr t x i => match ev L x, ev L i with
    | some x, some i => (indexF P m t x i).map (·, m)
    | _, _ => none
  | .index t x i => match ev L x, ev L i with
    | some x, some i => (indexV P t x i).map (·, m)
    | _, _ => none
  | .slice t x lo hi mx => match ev L x with
    | some x => (sliceF P m t x (lo.map (ev L)) (hi.map (ev L)) (mx.map (ev L))).map (·, m)
    | none => none
  | .makeMap T none => match tiOf P T with
    | some { d := .map _ _, .. } => some (.c (.mp (newId d m)), addObj d m (.map []))
    | _ => none
  | .lookup T x ix true => match ev L x, ev L ix with
    | some a, some b => (mapF P T m a b).map (·, m)
    | _, _ => none
  | .extract x i => match ev L x with
    | some (.tup l) => (l[i]?).map (·, m)
    | _ => none
  | .makeFunc (.func f) first caps => if first.size = 0 then
      match evs L caps.toList with
      | some l => match plainCells l with
        | some cs => some (.c (.fn f cs), m)
        | none => none
      | none => none
    else none
  | .call { callee := .builtin b, args, argTypes } => match evs L args.toList with
    | some l => callB P b argTypes.toList d m l
    | none => none
  | _ => none

end Go.Abs
