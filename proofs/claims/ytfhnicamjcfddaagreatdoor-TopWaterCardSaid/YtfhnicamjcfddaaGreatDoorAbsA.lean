/- An abstract layer over the kit's walks: values as pure data, what may change as a small memory by name. Definitions and how they stay true while the world grows. -/
import Derived.Still
import Derived.Laws.AppendOwn
import Derived.Laws.OwnMore
import Derived.Below
namespace Go.Abs

/-- Names of what may change: what came in or goes out, and what a frame made (slot, count). -/
inductive Id where
  | x (n : Nat)
  | l (s n : Nat)
  deriving DecidableEq

/-- One cell, abstractly. -/
inductive Cell where
  | sc (v : Value)
  | lst (es : List (List Cell))
  | full (es : List (List Cell))
  | view (o : Id) (lo n : Nat)
  | ptr (i : Id) (off : Nat)
  | aptr (o : Id) (i k : Nat)
  | pel (cs : List Cell)
  | mp (i : Id)
  | fn (f : Nat) (caps : List Cell)

inductive AV where
  | c (x : Cell)
  | agg (cs : List Cell)
  | tup (l : List AV)

inductive MObj where
  | blk (cs : List Cell)
  | arr (e : TypeId) (sz : Nat) (es : List (List Cell)) (fr : Bool)
  | map (es : List ((Int × Int) × List Value))

structure Mem where
  o : List (Id × MObj)
  nx : Nat
  us : List Nat := []

def memN (n : Nat) : List Nat → Bool
  | [] => false
  | k :: r => match Nat.beq n k with
    | true => true
    | false => memN n r
/-- Slots are small numbers. -/
def lowS (n : Nat) : Bool := Nat.blt n 2048
/-- Slots told as in use; great numbers are no slots. -/
def memU (n : Nat) : List Nat → Bool
  | [] => match lowS n with
    | true => false
    | false => true
  | k :: r => match Nat.beq n k with
    | true => true
    | false => memU n r
/-- The second name of a slot. -/
def nxt (d : Nat) : Nat := d + 2048
/-- The names of a slot in use: its own and one more. -/
def usd (s : Nat) (us : List Nat) : Bool := match lowS s with
  | true => memU s us
  | false => match lowS (s - 2048) with
    | true => memU (s - 2048) us
    | false => false
theorem lowS_nxt {d : Nat} : lowS (nxt d) = false := by
  cases e : lowS (nxt d) with
  | false => rfl
  | true =>
    have h : nxt d + 1 ≤ 2048 := Nat.le_of_ble_eq_true e
    unfold nxt at h
    exact absurd h (by omega)
theorem lowS_F {d : Nat} (h : lowS d = false) : 2048 ≤ d := by
  apply Nat.le_of_not_lt
  intro hl
  have : lowS d = true := Nat.ble_eq_true_of_le hl
  rw [h] at this; cases this
theorem nxt_sub {d : Nat} : nxt d - 2048 = d := by unfold nxt; omega
theorem memU_big {d : Nat} : ∀ {us : List Nat}, memU d us = false → lowS d = true
  | [], h => by
    rw [memU] at h
    cases e : lowS d with
    | true => rfl
    | false => rw [e] at h; cases h
  | k :: r, h => by
    rw [memU] at h
    cases e : Nat.beq d k with
    | true => rw [e] at h; cases h
    | false => rw [e] at h; exact memU_big h
theorem memU_cons {s d : Nat} {us : List Nat} (h : memU s us = true) : memU s (d :: us) = true := by
  rw [memU, h]
  cases Nat.beq s d <;> rfl
theorem memU_self {d : Nat} {us : List Nat} : memU d (d :: us) = true := by
  rw [memU, Nat.beq_refl]
theorem usd_cons {s d : Nat} {us : List Nat} (h : usd s us = true) : usd s (d :: us) = true := by
  rw [usd] at h ⊢
  cases e : lowS s with
  | true => simp only [e] at h ⊢; exact memU_cons h
  | false =>
    simp only [e] at h ⊢
    cases e2 : lowS (s - 2048) with
    | true => simp only [e2] at h ⊢; exact memU_cons h
    | false => simp only [e2] at h; cases h
theorem usd_self {d : Nat} {us : List Nat} (h : memU d us = false) : usd d (d :: us) = true := by
  simp only [usd, memU_big h, memU_self]
theorem usd_next {d : Nat} {us : List Nat} (h : memU d us = false) : usd (nxt d) (d :: us) = true := by
  simp only [usd, lowS_nxt, nxt_sub, memU_big h, memU_self]
theorem usd_nil {s : Nat} : usd s [] = false := by
  rw [usd]
  cases e : lowS s with
  | true => simp only [memU, e]
  | false =>
    cases e2 : lowS (s - 2048) with
    | true => simp only [memU, e2]
    | false => simp only
theorem usd_F {d : Nat} {us : List Nat} (h : memU d us = false) : usd d us = false := by
  simp only [usd, memU_big h, h]
theorem usd_F' {d : Nat} {us : List Nat} (h : memU d us = false) : usd (nxt d) us = false := by
  simp only [usd, lowS_nxt, nxt_sub, memU_big h, h]
theorem usd_congr {s : Nat} {us us' : List Nat} (h : ∀ s, memU s us = memU s us') : usd s us = usd s us' := by
  rw [usd, usd, h, h]
theorem usd_cons_inv {s d : Nat} {us : List Nat} (h : usd s us = false) (h1 : s ≠ d) (h2 : s ≠ nxt d) : usd s (d :: us) = false := by
  have key : ∀ x, x ≠ d → memU x us = false → memU x (d :: us) = false := fun x hx e => by
    rw [memU]
    cases e2 : Nat.beq x d with
    | true => exact absurd (Nat.eq_of_beq_eq_true e2) hx
    | false => exact e
  rw [usd] at h ⊢
  cases e : lowS s with
  | true => simp only [e] at h ⊢; exact key s h1 h
  | false =>
    simp only [e] at h ⊢
    cases e2 : lowS (s - 2048) with
    | true =>
      simp only [e2] at h ⊢
      exact key _ (fun e3 => h2 (by have := lowS_F e; unfold nxt; omega)) h
    | false => simp only
/-- The names that may be in use: those of former counts, and of this count those whose slots are told. -/
def Used (m : Mem) (s k : Nat) : Prop := k < m.nx ∨ (k = m.nx ∧ usd s m.us = true)
/-- The next count. -/
def bump (m : Mem) : Mem := match m.us with
  | [] => m
  | _ :: _ => { o := m.o, nx := m.nx + 1 }
theorem bump_o (m : Mem) : (bump m).o = m.o := by unfold bump; split <;> rfl
theorem bump_us (m : Mem) : (bump m).us = [] := by unfold bump; split <;> first | assumption | rfl
theorem used_bump {m : Mem} {s k : Nat} (h : Used m s k) : Used (bump m) s k := by
  unfold Used at *
  unfold bump
  split
  · exact h
  · simp only; omega
theorem not_used {m : Mem} {d : Nat} (h : memU d m.us = false) : ¬ Used m d m.nx := by
  rintro (h1 | ⟨_, h1⟩)
  · exact Nat.lt_irrefl _ h1
  · rw [usd_F h] at h1; cases h1
theorem not_used' {m : Mem} {d : Nat} (h : memU d m.us = false) : ¬ Used m (nxt d) m.nx := by
  rintro (h1 | ⟨_, h1⟩)
  · exact Nat.lt_irrefl _ h1
  · rw [usd_F' h] at h1; cases h1

structure St where
  t : List (Nat × AV)
  m : Mem

def scalar : Value → Bool
  | .bool _ => true
  | .int _ _ => true
  | .float _ _ => true
  | .complex _ _ _ => true
  | .string _ => true
  | .pointer none => true
  | .slice none 0 0 => true
  | .map none => true
  | .chan none => true
  | .nilFunc => true
  | .nilIface => true
  | .func (.yield _) _ _ => true
  | _ => false

/-- What the abstract names stand for. K: the names in use; β: their values; sz: cells of an element; F: the cells that nobody writes any more. -/
structure G where
  K : Id → Prop
  β : Id → Value
  sz : Id → Nat
  F : Nat → Nat → Prop

inductive RepP (F : Nat → Nat → Prop) (w : World) : Cell → Value → Prop where
  | sc {v : Value} (h : scalar v = true) : RepP F w (.sc v) v
  | emp {a : Option Addr} {cap : Nat} (hcap : cap ≤ maxLen) (hn : a = none → cap = 0) : RepP F w (.lst []) (.slice a 0 cap)
  | lst {es : List (List Cell)} {b off cap sz : Nat} (u : Nat → Nat → Value) (hs : ∀ (i : Nat) e, es[i]? = some e → e.length = sz)
      (hc : ∀ (i : Nat) e, es[i]? = some e → ∀ (j : Nat) c, e[j]? = some c → F b (off + i * sz + j) ∧ w.cell? ⟨b, off + i * sz + j, none⟩ = some (u i j))
      (hr : ∀ (i : Nat) e, es[i]? = some e → ∀ (j : Nat) c, e[j]? = some c → RepP F w c (u i j)) (hl : es.length ≤ cap) (hcap : cap ≤ maxLen) :
      RepP F w (.lst es) (.slice (some ⟨b, off, none⟩) es.length cap)

inductive RepC (g : G) (w : World) : Cell → Value → Prop where
  | pure {c : Cell} {v : Value} (h : RepP g.F w c v) : RepC g w c v
  | full {es : List (List Cell)} {a : Option Addr} (h : RepP g.F w (.lst es) (.slice a es.length es.length)) : RepC g w (.full es) (.slice a es.length es.length)
  | view {o : Id} {lo n len cap : Nat} {a a' : Option Addr} (hk : g.K o) (hv : g.β o = .slice a len cap) (h : lo + n ≤ cap)
      (ha : lo < cap ∨ lo = 0 → a' = a.map (·.add (lo * g.sz o))) (hsp : ∀ ad, a' = some ad → ad.spot = none) : RepC g w (.view o lo n) (.slice a' n (cap - lo))
  | ptr {i : Id} {b off : Nat} (hk : g.K i) (hv : g.β i = .pointer (some ⟨b, 0, none⟩)) : RepC g w (.ptr i off) (.pointer (some ⟨b, off, none⟩))
  | aptr {o : Id} {i k b len cap : Nat} (hk : g.K o) (hv : g.β o = .slice (some ⟨b, 0, none⟩) len cap) : RepC g w (.aptr o i k) (.pointer (some ⟨b, i * g.sz o + k, none⟩))
  | pel {cs : List Cell} {b off : Nat} (u : Nat → Value) (hc : ∀ (j : Nat) c, cs[j]? = some c → g.F b (off + j) ∧ w.cell? ⟨b, off + j, none⟩ = some (u j))
      (hr : ∀ (j : Nat) c, cs[j]? = some c → RepP g.F w c (u j)) : RepC g w (.pel cs) (.pointer (some ⟨b, off, none⟩))
  | mp {i : Id} {b : Nat} (hk : g.K i) (hv : g.β i = .map (some b)) : RepC g w (.mp i) (.map (some b))
  | fn {f : Nat} {caps : List Cell} (us : List Value) (hl : us.length = caps.length) (h : ∀ (j : Nat) c u, caps[j]? = some c → us[j]? = some u → RepC g w c u) :
      RepC g w (.fn f caps) (.func (.func f) #[] us.toArray)

inductive RepA (g : G) (w : World) : AV → Value → Prop where
  | c {x : Cell} {v : Value} (h : RepC g w x v) : RepA g w (.c x) v
  | agg {cs : List Cell} (us : List Value) (hl : us.length = cs.length) (h : ∀ (j : Nat) c u, cs[j]? = some c → us[j]? = some u → RepC g w c u) : RepA g w (.agg cs) (.agg us.toArray)
  | tup {l : List AV} (us : List Value) (hl : us.length = l.length) (h : ∀ (j : Nat) x u, l[j]? = some x → us[j]? = some u → RepA g w x u) : RepA g w (.tup l) (.tuple us.toArray)

/-- What stands stays: names keep their values, what nobody writes any more reads as it did. -/
structure Ext (g : G) (w : World) (g' : G) (w' : World) : Prop where
  K : ∀ i, g.K i → g'.K i
  β : ∀ i, g.K i → g'.β i = g.β i
  sz : ∀ i, g.K i → g'.sz i = g.sz i
  F : ∀ b o, g.F b o → g'.F b o
  cell : ∀ b o, g.F b o → w'.cell? ⟨b, o, none⟩ = w.cell? ⟨b, o, none⟩

theorem Ext.refl (g : G) (w : World) : Ext g w g w := ⟨fun _ h => h, fun _ _ => rfl, fun _ _ => rfl, fun _ _ h => h, fun _ _ _ => rfl⟩
theorem Ext.trans {g g1 g2 : G} {w w1 w2 : World} (h : Ext g w g1 w1) (k : Ext g1 w1 g2 w2) : Ext g w g2 w2 :=
  ⟨fun i hi => k.K i (h.K i hi), fun i hi => (k.β i (h.K i hi)).trans (h.β i hi), fun i hi => (k.sz i (h.K i hi)).trans (h.sz i hi), fun b o hf => k.F b o (h.F b o hf),
   fun b o hf => (k.cell b o (h.F b o hf)).trans (h.cell b o hf)⟩

theorem RepP.nil {F : Nat → Nat → Prop} {w : World} : RepP F w (.lst []) (.slice none 0 0) := .emp (Nat.zero_le _) fun _ => rfl
theorem RepP.ext {F F' : Nat → Nat → Prop} {w w' : World} (hF : ∀ b o, F b o → F' b o) (hc : ∀ b o, F b o → w'.cell? ⟨b, o, none⟩ = w.cell? ⟨b, o, none⟩) {c : Cell} {v : Value} (h : RepP F w c v) : RepP F' w' c v := by
  induction h with
  | sc h => exact .sc h
  | emp h hn => exact .emp h hn
  | lst u hs hc' hr hl hcap ih =>
    refine .lst u hs (fun i e he j c hcj => ?_) (fun i e he j c hcj => ih i e he j c hcj) hl hcap
    obtain ⟨h1, h2⟩ := hc' i e he j c hcj
    exact ⟨hF _ _ h1, (hc _ _ h1).trans h2⟩

theorem RepC.ext {g g' : G} {w w' : World} (h : Ext g w g' w') {c : Cell} {v : Value} (hr : RepC g w c v) : RepC g' w' c v := by
  induction hr with
  | pure hp => exact .pure (hp.ext h.F h.cell)
  | full hp => exact .full (hp.ext h.F h.cell)
  | view hk hv hn ha hsp => exact .view (h.K _ hk) ((h.β _ hk).trans hv) hn (by rw [h.sz _ hk]; exact ha) hsp
  | ptr hk hv => exact .ptr (h.K _ hk) ((h.β _ hk).trans hv)
  | aptr hk hv =>
    rename_i o i k b len cap
    have := RepC.aptr (g := g') (w := w') (i := i) (k := k) (h.K _ hk) ((h.β _ hk).trans hv)
    rwa [h.sz _ hk] at this
  | pel u hc hr =>
    exact .pel u (fun j c hj => ⟨h.F _ _ (hc j c hj).1, (h.cell _ _ (hc j c hj).1).trans (hc j c hj).2⟩) (fun j c hj => (hr j c hj).ext h.F h.cell)
  | mp hk hv => exact .mp (h.K _ hk) ((h.β _ hk).trans hv)
  | fn us hl _ ih => exact .fn us hl ih

theorem RepA.ext {g g' : G} {w w' : World} (h : Ext g w g' w') {x : AV} {v : Value} (hr : RepA g w x v) : RepA g' w' x v := by
  induction hr with
  | c hc => exact .c (hc.ext h)
  | agg us hl hc => exact .agg us hl fun j c u h1 h2 => (hc j c u h1 h2).ext h
  | tup us hl _ ih => exact .tup us hl ih

/-! ### The small memory -/

def mget : List (Id × MObj) → Id → Option MObj
  | [], _ => none
  | (j, o) :: r, i => if i = j then some o else mget r i
def mset : List (Id × MObj) → Id → MObj → List (Id × MObj)
  | [], i, o => [(i, o)]
  | (j, p) :: r, i, o => if i = j then (i, o) :: r else (j, p) :: mset r i o
def mdel : List (Id × MObj) → Id → List (Id × MObj)
  | [], _ => []
  | (j, o) :: r, i => if i = j then mdel r i else (j, o) :: mdel r i
def tget : List (Nat × AV) → Nat → Option AV
  | [], _ => none
  | (s, x) :: r, t => if t = s then some x else tget r t
def tset : List (Nat × AV) → Nat → AV → List (Nat × AV)
  | [], t, x => [(t, x)]
  | (s, y) :: r, t, x => if t = s then (t, x) :: r else (s, y) :: tset r t x
def tdel : List (Nat × AV) → Nat → List (Nat × AV)
  | [], _ => []
  | (s, x) :: r, t => if t = s then tdel r t else (s, x) :: tdel r t

theorem mget_mset (l : List (Id × MObj)) (i j : Id) (o : MObj) : mget (mset l i o) j = if j = i then some o else mget l j := by
  induction l with
  | nil => simp [mset, mget]
  | cons p r ih =>
    obtain ⟨k, q⟩ := p
    by_cases h : i = k
    · subst h
      by_cases h2 : j = i <;> simp [mset, mget, h2]
    · by_cases h2 : j = k
      · subst h2; simp [mset, mget, h, Ne.symm h]
      · simp [mset, mget, h, h2, ih]
theorem mget_mdel (l : List (Id × MObj)) (i j : Id) : mget (mdel l i) j = if j = i then none else mget l j := by
  induction l with
  | nil => simp [mdel, mget]
  | cons p r ih =>
    obtain ⟨k, q⟩ := p
    by_cases h : i = k
    · subst h
      by_cases h2 : j = i <;> simp_all [mdel, mget]
    · by_cases h2 : j = k
      · subst h2; simp [mdel, mget, h, Ne.symm h]
      · simp [mdel, mget, h, h2, ih]
theorem tget_tset (l : List (Nat × AV)) (i j : Nat) (o : AV) : tget (tset l i o) j = if j = i then some o else tget l j := by
  induction l with
  | nil => simp [tset, tget]
  | cons p r ih =>
    obtain ⟨k, q⟩ := p
    by_cases h : i = k
    · subst h
      by_cases h2 : j = i <;> simp [tset, tget, h2]
    · by_cases h2 : j = k
      · subst h2; simp [tset, tget, h, Ne.symm h]
      · simp [tset, tget, h, h2, ih]
theorem tget_tdel (l : List (Nat × AV)) (i j : Nat) : tget (tdel l i) j = if j = i then none else tget l j := by
  induction l with
  | nil => simp [tdel, tget]
  | cons p r ih =>
    obtain ⟨k, q⟩ := p
    by_cases h : i = k
    · subst h
      by_cases h2 : j = i <;> simp_all [tdel, tget]
    · by_cases h2 : j = k
      · subst h2; simp [tdel, tget, h, Ne.symm h]
      · simp [tdel, tget, h, h2, ih]

/-- The block behind a name's value. -/
def blockOf : Value → Option Nat
  | .pointer (some a) => some a.block
  | .slice (some a) _ _ => some a.block
  | .map (some b) => some b
  | _ => none

/-- A map's entry: two numbers as its key, data without any memory as its value. -/
def entV (x : (Int × Int) × List Value) : Value × Value := (.agg #[.int .i64 x.1.1, .int .i64 x.1.2], .agg x.2.toArray)

inductive ObjOk (g : G) (w : World) (i : Id) : MObj → Prop where
  | blk {cs : List Cell} {b : Nat} {T : TypeId} (us : List Value) (hv : g.β i = .pointer (some ⟨b, 0, none⟩)) (hh : w.heap[b]? = some (.cells us.toArray T (0, 0))) (hl : us.length = cs.length)
      (hr : ∀ (j : Nat) c u, cs[j]? = some c → us[j]? = some u → RepC g w c u) (h1 : ∀ u ∈ us, u.oneCell' = true) (hf : ∀ o, ¬ g.F b o) : ObjOk g w i (.blk cs)
  | arr {e : TypeId} {sz : Nat} {es : List (List Cell)} {fr : Bool} (us : List Value) (hz : g.sz i = sz) (ho : w.ownsRow 0 e sz (g.β i) es.length us) (hs : ∀ (k : Nat) x, es[k]? = some x → x.length = sz)
      (hr : ∀ (k : Nat) x, es[k]? = some x → ∀ (j : Nat) c, x[j]? = some c → ∃ u, us[k * sz + j]? = some u ∧ RepP g.F w c u) (h1 : ∀ u ∈ us, u.oneCell' = true)
      (hf : ∀ b o, blockOf (g.β i) = some b → g.F b o → fr = true ∧ o < es.length * sz) : ObjOk g w i (.arr e sz es fr)
  | map {es : List ((Int × Int) × List Value)} {b clock : Nat} (ents : Array MapEntry) (hv : g.β i = .map (some b)) (hh : w.heap[b]? = some (.map ents clock))
      (hr : ents.toList.map (fun e => (e.key, e.val)) = es.map entV) (hs : ∀ x ∈ es, ∀ v ∈ x.2, scalar v = true) (hf : ∀ o, ¬ g.F b o) : ObjOk g w i (.map es)

/-! ### Package variables -/

/-- Package variables that nobody writes, with what they hold; and such as hold some number. -/
def gtab : List (Nat × List Value) := [(0, [.string ⟨#[]⟩, .string ⟨#[108, 101, 97, 115, 116]⟩, .string ⟨#[109, 111, 115, 116]⟩, .string ⟨#[117, 112]⟩, .string ⟨#[100, 111, 119, 110]⟩]), (1, [.bool false, .bool false, .bool true, .bool false, .bool false, .bool false, .bool false, .bool true, .bool true, .bool true])]
def gints : List Nat := [2]
def gget (n : Nat) : List (Nat × List Value) → Option (List Value)
  | [] => none
  | (k, l) :: r => match Nat.beq n k with
    | true => some l
    | false => gget n r
structure Laid (F : Nat → Nat → Prop) (w : World) : Prop where
  tab : ∀ n vs, gget n gtab = some vs → ∀ (j : Nat) v, vs[j]? = some v → F n j ∧ w.cell? ⟨n, j, none⟩ = some v
  int : ∀ n, n ∈ gints → F n 0 ∧ ∃ m, w.cell? ⟨n, 0, none⟩ = some (.int .i64 m)
theorem Laid.mono {F F' : Nat → Nat → Prop} {w w' : World} (h : Laid F w) (hF : ∀ b o, F b o → F' b o) (hc : ∀ b o, F b o → w'.cell? ⟨b, o, none⟩ = w.cell? ⟨b, o, none⟩) : Laid F' w' :=
  ⟨fun n vs hn j v hv => ⟨hF _ _ (h.tab n vs hn j v hv).1, (hc _ _ (h.tab n vs hn j v hv).1).trans (h.tab n vs hn j v hv).2⟩,
   fun n hn => ⟨hF _ _ (h.int n hn).1, by obtain ⟨h1, m, h2⟩ := h.int n hn; exact ⟨m, (hc _ _ h1).trans h2⟩⟩⟩
theorem Laid.ext {g g' : G} {w w' : World} (h : Laid g.F w) (he : Ext g w g' w') : Laid g'.F w' := h.mono he.F he.cell

/-- What does not change for a whole call: the world in which it began, the old blocks that it may change, what nobody wrote then, how many slots the frame has. -/
structure Base where
  w0 : World
  X : Nat → Prop
  g0 : G
  N : Nat
  gx : ∀ i, g0.K i → ∃ n, i = .x n
  gl : Laid g0.F w0
  ds : List Deferred := []

structure Inv (B : Base) (g : G) (m : Mem) (w : World) : Prop where
  ok : ∀ i o, mget m.o i = some o → g.K i ∧ ObjOk g w i o
  apart : ∀ i j oi oj b, mget m.o i = some oi → mget m.o j = some oj → i ≠ j → blockOf (g.β i) = some b → blockOf (g.β j) ≠ some b
  fresh : ∀ s k, ¬ Used m s k → ¬ g.K (.l s k)
  flt : ∀ b o, g.F b o → b < w.heap.size
  ext : Ext B.g0 B.w0 g w
  fnew : ∀ b o, g.F b o → B.g0.F b o ∨ B.w0.heap.size ≤ b ∨ B.X b
  own : ∀ i o b, mget m.o i = some o → blockOf (g.β i) = some b → B.w0.heap.size ≤ b ∨ B.X b
  os : w.os = B.w0.os
  tape : w.tape = B.w0.tape
  output : w.output = B.w0.output
  size : B.w0.heap.size ≤ w.heap.size
  block : ∀ b, b < B.w0.heap.size → ¬ B.X b → w.heap[b]? = B.w0.heap[b]?

theorem Inv.laid {B : Base} {g : G} {m : Mem} {w : World} (h : Inv B g m w) : Laid g.F w := B.gl.ext h.ext

/-- The frame's slots read as said. -/
def Slots (g : G) (w : World) (φ : Nat → Option AV) (a : Act) : Prop := ∀ t x, φ t = some x → ∃ v, a.tmps[t]? = some v ∧ RepA g w x v

structure RR (B : Base) (g : G) (φ : Nat → Option AV) (m : Mem) (a : Act) (w : World) : Prop where
  slots : Slots g w φ a
  inv : Inv B g m w
  defers : a.defers = []
  size : a.tmps.size = B.N

end Go.Abs
