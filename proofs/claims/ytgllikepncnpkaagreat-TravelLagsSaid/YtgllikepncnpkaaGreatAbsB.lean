/- Proved here: what functions of the given program come to, and the plain laws of it; no condition but those in the theorems. -/
import Derived.Still
import Derived.Laws.AppendOwn
import Derived.Laws.OwnMore
import Derived.Below
namespace Go.Abs
inductive Id where
  | x (n:Nat)
  | l (s n:Nat)
  deriving DecidableEq
inductive Cell where
  | sc (v:Value)
  | lst (es:List (List Cell))
  | full (es:List (List Cell))
  | view (o:Id) (lo n:Nat)
  | ptr (i:Id) (off:Nat)
  | aptr (o:Id) (i k:Nat)
  | pel (cs:List Cell)
  | fn (f:Nat) (caps:List Cell)
inductive AV where
  | c (x:Cell)
  | agg (cs:List Cell)
  | tup (l:List AV)
inductive MObj where
  | blk (cs:List Cell)
  | arr (e:TypeId) (sz:Nat) (es:List (List Cell)) (fr:Bool)
structure Mem where
  o:List (Id × MObj)
  nx:Nat
  us:List Nat:=[]
def memN (n:Nat):List Nat→Bool
  | []=>false
  | k :: r=>match Nat.beq n k with
    | true=>true
    | false=>memN n r
def lowS (n:Nat):Bool:=Nat.blt n 2048
def memU (n:Nat):List Nat→Bool
  | []=>match lowS n with
    | true=>false
    | false=>true
  | k :: r=>match Nat.beq n k with
    | true=>true
    | false=>memU n r
def nxt (d:Nat):Nat:=d+2048
def usd (s:Nat) (us:List Nat):Bool:=match lowS s with
  | true=>memU s us
  | false=>match lowS (s - 2048) with
    | true=>memU (s - 2048) us
    | false=>false
theorem lowS_nxt {d:Nat}:lowS (nxt d)=false:=by
  cases e:lowS (nxt d) with
  | false=>rfl
  | true =>
    have h:nxt d+1≤2048:=Nat.le_of_ble_eq_true e
    unfold nxt at h
    exact absurd h (by omega)
theorem nxt_sub {d:Nat}:nxt d - 2048=d:=by unfold nxt;omega
theorem memU_big {d:Nat}:∀ {us:List Nat},memU d us=false→lowS d=true
  | [],h=>by
    rw [memU] at h
    cases e:lowS d with
    | true=>rfl
    | false=>rw [e] at h;cases h
  | k :: r,h=>by
    rw [memU] at h
    cases e:Nat.beq d k with
    | true=>rw [e] at h;cases h
    | false=>rw [e] at h;exact memU_big h
theorem memU_cons {s d:Nat} {us:List Nat} (h:memU s us=true):memU s (d :: us)=true:=by
  rw [memU,h]
  cases Nat.beq s d <;> rfl
theorem memU_self {d:Nat} {us:List Nat}:memU d (d :: us)=true:=by
  rw [memU,Nat.beq_refl]
theorem usd_cons {s d:Nat} {us:List Nat} (h:usd s us=true):usd s (d :: us)=true:=by
  rw [usd] at h ⊢
  cases e:lowS s with
  | true=>simp only [e] at h ⊢;exact memU_cons h
  | false =>
    simp only [e] at h ⊢
    cases e2:lowS (s - 2048) with
    | true=>simp only [e2] at h ⊢;exact memU_cons h
    | false=>simp only [e2] at h;cases h
theorem usd_self {d:Nat} {us:List Nat} (h:memU d us=false):usd d (d :: us)=true:=by
  simp only [usd,memU_big h,memU_self]
theorem usd_next {d:Nat} {us:List Nat} (h:memU d us=false):usd (nxt d) (d :: us)=true:=by
  simp only [usd,lowS_nxt,nxt_sub,memU_big h,memU_self]
theorem usd_F {d:Nat} {us:List Nat} (h:memU d us=false):usd d us=false:=by
  simp only [usd,memU_big h,h]
theorem usd_F' {d:Nat} {us:List Nat} (h:memU d us=false):usd (nxt d) us=false:=by
  simp only [usd,lowS_nxt,nxt_sub,memU_big h,h]
theorem usd_congr {s:Nat} {us us':List Nat} (h:∀ s,memU s us=memU s us'):usd s us=usd s us':=by
  rw [usd,usd,h,h]
def Used (m:Mem) (s k:Nat):Prop:=k < m.nx ∨ (k=m.nx∧usd s m.us=true)
def bump (m:Mem):Mem:=match m.us with
  | []=>m
  | _ :: _=>{ o:=m.o,nx:=m.nx+1 }
theorem bump_o (m:Mem):(bump m).o=m.o:=by unfold bump;split <;> rfl
theorem bump_us (m:Mem):(bump m).us=[]:=by unfold bump;split <;> first | assumption | rfl
theorem used_bump {m:Mem} {s k:Nat} (h:Used m s k):Used (bump m) s k:=by
  unfold Used at *
  unfold bump
  split
  · exact h
  · simp only;omega
theorem not_used {m:Mem} {d:Nat} (h:memU d m.us=false):¬ Used m d m.nx:=by
  rintro (h1 | ⟨_,h1⟩)
  · exact Nat.lt_irrefl _ h1
  · rw [usd_F h] at h1;cases h1
theorem not_used' {m:Mem} {d:Nat} (h:memU d m.us=false):¬ Used m (nxt d) m.nx:=by
  rintro (h1 | ⟨_,h1⟩)
  · exact Nat.lt_irrefl _ h1
  · rw [usd_F' h] at h1;cases h1
structure St where
  t:List (Nat × AV)
  m:Mem
def scalar:Value→Bool
  | .bool _=>true
  | .int _ _=>true
  | .float _ _=>true
  | .complex _ _ _=>true
  | .string _=>true
  | .pointer none=>true
  | .slice none 0 0=>true
  | .map none=>true
  | .chan none=>true
  | .nilFunc=>true
  | .nilIface=>true
  | .func (.yield _) _ _=>true
  | _=>false
structure G where
  K:Id→Prop
  β:Id→Value
  sz:Id→Nat
  F:Nat→Nat→Prop
inductive RepP (F:Nat→Nat→Prop) (w:World):Cell→Value→Prop where
  | sc {v:Value} (h:scalar v=true):RepP F w (.sc v) v
  | emp {a:Option Addr} {cap:Nat} (hcap:cap≤maxLen) (hn:a=none→cap=0):RepP F w (.lst []) (.slice a 0 cap)
  | lst {es:List (List Cell)} {b off cap sz:Nat} (u:Nat→Nat→Value) (hs:∀ (i:Nat) e,es[i]?=some e→e.length=sz)
      (hc:∀ (i:Nat) e,es[i]?=some e→∀ (j:Nat) c,e[j]?=some c→F b (off+i * sz+j)∧w.cell? ⟨b,off+i * sz+j,none⟩=some (u i j))
      (hr:∀ (i:Nat) e,es[i]?=some e→∀ (j:Nat) c,e[j]?=some c→RepP F w c (u i j)) (hl:es.length≤cap) (hcap:cap≤maxLen) :
      RepP F w (.lst es) (.slice (some ⟨b,off,none⟩) es.length cap)
inductive RepC (g:G) (w:World):Cell→Value→Prop where
  | pure {c:Cell} {v:Value} (h:RepP g.F w c v):RepC g w c v
  | full {es:List (List Cell)} {a:Option Addr} (h:RepP g.F w (.lst es) (.slice a es.length es.length)):RepC g w (.full es) (.slice a es.length es.length)
  | view {o:Id} {lo n len cap:Nat} {a a':Option Addr} (hk:g.K o) (hv:g.β o=.slice a len cap) (h:lo+n≤cap)
      (ha:lo < cap ∨ lo=0→a'=a.map (·.add (lo * g.sz o))) (hsp:∀ ad,a'=some ad→ad.spot=none):RepC g w (.view o lo n) (.slice a' n (cap - lo))
  | ptr {i:Id} {b off:Nat} (hk:g.K i) (hv:g.β i=.pointer (some ⟨b,0,none⟩)):RepC g w (.ptr i off) (.pointer (some ⟨b,off,none⟩))
  | aptr {o:Id} {i k b len cap:Nat} (hk:g.K o) (hv:g.β o=.slice (some ⟨b,0,none⟩) len cap):RepC g w (.aptr o i k) (.pointer (some ⟨b,i * g.sz o+k,none⟩))
  | pel {cs:List Cell} {b off:Nat} (u:Nat→Value) (hc:∀ (j:Nat) c,cs[j]?=some c→g.F b (off+j)∧w.cell? ⟨b,off+j,none⟩=some (u j))
      (hr:∀ (j:Nat) c,cs[j]?=some c→RepP g.F w c (u j)):RepC g w (.pel cs) (.pointer (some ⟨b,off,none⟩))
  | fn {f:Nat} {caps:List Cell} (us:List Value) (hl:us.length=caps.length) (h:∀ (j:Nat) c u,caps[j]?=some c→us[j]?=some u→RepC g w c u) :
      RepC g w (.fn f caps) (.func (.func f) #[] us.toArray)
inductive RepA (g:G) (w:World):AV→Value→Prop where
  | c {x:Cell} {v:Value} (h:RepC g w x v):RepA g w (.c x) v
  | agg {cs:List Cell} (us:List Value) (hl:us.length=cs.length) (h:∀ (j:Nat) c u,cs[j]?=some c→us[j]?=some u→RepC g w c u):RepA g w (.agg cs) (.agg us.toArray)
  | tup {l:List AV} (us:List Value) (hl:us.length=l.length) (h:∀ (j:Nat) x u,l[j]?=some x→us[j]?=some u→RepA g w x u):RepA g w (.tup l) (.tuple us.toArray)
structure Ext (g:G) (w:World) (g':G) (w':World):Prop where
  K:∀ i,g.K i→g'.K i
  β:∀ i,g.K i→g'.β i=g.β i
  sz:∀ i,g.K i→g'.sz i=g.sz i
  F:∀ b o,g.F b o→g'.F b o
  cell:∀ b o,g.F b o→w'.cell? ⟨b,o,none⟩=w.cell? ⟨b,o,none⟩
theorem Ext.refl (g:G) (w:World):Ext g w g w:=⟨fun _ h=>h,fun _ _=>rfl,fun _ _=>rfl,fun _ _ h=>h,fun _ _ _=>rfl⟩
theorem Ext.trans {g g1 g2:G} {w w1 w2:World} (h:Ext g w g1 w1) (k:Ext g1 w1 g2 w2):Ext g w g2 w2 :=
  ⟨fun i hi=>k.K i (h.K i hi),fun i hi=>(k.β i (h.K i hi)).trans (h.β i hi),fun i hi=>(k.sz i (h.K i hi)).trans (h.sz i hi),fun b o hf=>k.F b o (h.F b o hf),
   fun b o hf=>(k.cell b o (h.F b o hf)).trans (h.cell b o hf)⟩
theorem RepP.nil {F:Nat→Nat→Prop} {w:World}:RepP F w (.lst []) (.slice none 0 0):=.emp (Nat.zero_le _) fun _=>rfl
theorem RepP.ext {F F':Nat→Nat→Prop} {w w':World} (hF:∀ b o,F b o→F' b o) (hc:∀ b o,F b o→w'.cell? ⟨b,o,none⟩=w.cell? ⟨b,o,none⟩) {c:Cell} {v:Value} (h:RepP F w c v):RepP F' w' c v:=by
  induction h with
  | sc h=>exact .sc h
  | emp h hn=>exact .emp h hn
  | lst u hs hc' hr hl hcap ih =>
    refine .lst u hs (fun i e he j c hcj=>?_) (fun i e he j c hcj=>ih i e he j c hcj) hl hcap
    obtain ⟨h1,h2⟩:=hc' i e he j c hcj
    exact ⟨hF _ _ h1,(hc _ _ h1).trans h2⟩
theorem RepC.ext {g g':G} {w w':World} (h:Ext g w g' w') {c:Cell} {v:Value} (hr:RepC g w c v):RepC g' w' c v:=by
  induction hr with
  | pure hp=>exact .pure (hp.ext h.F h.cell)
  | full hp=>exact .full (hp.ext h.F h.cell)
  | view hk hv hn ha hsp=>exact .view (h.K _ hk) ((h.β _ hk).trans hv) hn (by rw [h.sz _ hk];exact ha) hsp
  | ptr hk hv=>exact .ptr (h.K _ hk) ((h.β _ hk).trans hv)
  | aptr hk hv =>
    rename_i o i k b len cap
    have:=RepC.aptr (g:=g') (w:=w') (i:=i) (k:=k) (h.K _ hk) ((h.β _ hk).trans hv)
    rwa [h.sz _ hk] at this
  | pel u hc hr =>
    exact .pel u (fun j c hj=>⟨h.F _ _ (hc j c hj).1,(h.cell _ _ (hc j c hj).1).trans (hc j c hj).2⟩) (fun j c hj=>(hr j c hj).ext h.F h.cell)
  | fn us hl _ ih=>exact .fn us hl ih
theorem RepA.ext {g g':G} {w w':World} (h:Ext g w g' w') {x:AV} {v:Value} (hr:RepA g w x v):RepA g' w' x v:=by
  induction hr with
  | c hc=>exact .c (hc.ext h)
  | agg us hl hc=>exact .agg us hl fun j c u h1 h2=>(hc j c u h1 h2).ext h
  | tup us hl _ ih=>exact .tup us hl ih
def mget:List (Id × MObj)→Id→Option MObj
  | [],_=>none
  | (j,o) :: r,i=>if i=j then some o else mget r i
def mset:List (Id × MObj)→Id→MObj→List (Id × MObj)
  | [],i,o=>[(i,o)]
  | (j,p) :: r,i,o=>if i=j then (i,o) :: r else (j,p) :: mset r i o
def mdel:List (Id × MObj)→Id→List (Id × MObj)
  | [],_=>[]
  | (j,o) :: r,i=>if i=j then mdel r i else (j,o) :: mdel r i
def tget:List (Nat × AV)→Nat→Option AV
  | [],_=>none
  | (s,x) :: r,t=>if t=s then some x else tget r t
def tset:List (Nat × AV)→Nat→AV→List (Nat × AV)
  | [],t,x=>[(t,x)]
  | (s,y) :: r,t,x=>if t=s then (t,x) :: r else (s,y) :: tset r t x
def tdel:List (Nat × AV)→Nat→List (Nat × AV)
  | [],_=>[]
  | (s,x) :: r,t=>if t=s then tdel r t else (s,x) :: tdel r t
theorem mget_mset (l:List (Id × MObj)) (i j:Id) (o:MObj):mget (mset l i o) j=if j=i then some o else mget l j:=by
  induction l with
  | nil=>simp [mset,mget]
  | cons p r ih =>
    obtain ⟨k,q⟩:=p
    by_cases h:i=k
    · subst h
      by_cases h2:j=i <;> simp [mset,mget,h2]
    · by_cases h2:j=k
      · subst h2;simp [mset,mget,h,Ne.symm h]
      · simp [mset,mget,h,h2,ih]
theorem mget_mdel (l:List (Id × MObj)) (i j:Id):mget (mdel l i) j=if j=i then none else mget l j:=by
  induction l with
  | nil=>simp [mdel,mget]
  | cons p r ih =>
    obtain ⟨k,q⟩:=p
    by_cases h:i=k
    · subst h
      by_cases h2:j=i <;> simp_all [mdel,mget]
    · by_cases h2:j=k
      · subst h2;simp [mdel,mget,h,Ne.symm h]
      · simp [mdel,mget,h,h2,ih]
theorem tget_tset (l:List (Nat × AV)) (i j:Nat) (o:AV):tget (tset l i o) j=if j=i then some o else tget l j:=by
  induction l with
  | nil=>simp [tset,tget]
  | cons p r ih =>
    obtain ⟨k,q⟩:=p
    by_cases h:i=k
    · subst h
      by_cases h2:j=i <;> simp [tset,tget,h2]
    · by_cases h2:j=k
      · subst h2;simp [tset,tget,h,Ne.symm h]
      · simp [tset,tget,h,h2,ih]
theorem tget_tdel (l:List (Nat × AV)) (i j:Nat):tget (tdel l i) j=if j=i then none else tget l j:=by
  induction l with
  | nil=>simp [tdel,tget]
  | cons p r ih =>
    obtain ⟨k,q⟩:=p
    by_cases h:i=k
    · subst h
      by_cases h2:j=i <;> simp_all [tdel,tget]
    · by_cases h2:j=k
      · subst h2;simp [tdel,tget,h,Ne.symm h]
      · simp [tdel,tget,h,h2,ih]
def blockOf:Value→Option Nat
  | .pointer (some a)=>some a.block
  | .slice (some a) _ _=>some a.block
  | _=>none
inductive ObjOk (g:G) (w:World) (i:Id):MObj→Prop where
  | blk {cs:List Cell} {b:Nat} {T:TypeId} (us:List Value) (hv:g.β i=.pointer (some ⟨b,0,none⟩)) (hh:w.heap[b]?=some (.cells us.toArray T (0,0))) (hl:us.length=cs.length)
      (hr:∀ (j:Nat) c u,cs[j]?=some c→us[j]?=some u→RepC g w c u) (h1:∀ u ∈ us,u.oneCell'=true) (hf:∀ o,¬ g.F b o):ObjOk g w i (.blk cs)
  | arr {e:TypeId} {sz:Nat} {es:List (List Cell)} {fr:Bool} (us:List Value) (hz:g.sz i=sz) (ho:w.ownsRow 0 e sz (g.β i) es.length us) (hs:∀ (k:Nat) x,es[k]?=some x→x.length=sz)
      (hr:∀ (k:Nat) x,es[k]?=some x→∀ (j:Nat) c,x[j]?=some c→∃ u,us[k * sz+j]?=some u∧RepP g.F w c u) (h1:∀ u ∈ us,u.oneCell'=true)
      (hf:∀ b o,blockOf (g.β i)=some b→g.F b o→fr=true∧o < es.length * sz):ObjOk g w i (.arr e sz es fr)
structure Base where
  w0:World
  X:Nat→Prop
  g0:G
  N:Nat
  gx:∀ i,g0.K i→∃ n,i=.x n
  ds:List Deferred:=[]
structure Inv (B:Base) (g:G) (m:Mem) (w:World):Prop where
  ok:∀ i o,mget m.o i=some o→g.K i∧ObjOk g w i o
  apart:∀ i j oi oj b,mget m.o i=some oi→mget m.o j=some oj→i ≠ j→blockOf (g.β i)=some b→blockOf (g.β j) ≠ some b
  fresh:∀ s k,¬ Used m s k→¬ g.K (.l s k)
  flt:∀ b o,g.F b o→b < w.heap.size
  ext:Ext B.g0 B.w0 g w
  fnew:∀ b o,g.F b o→B.g0.F b o ∨ B.w0.heap.size≤b ∨ B.X b
  own:∀ i o b,mget m.o i=some o→blockOf (g.β i)=some b→B.w0.heap.size≤b ∨ B.X b
  os:w.os=B.w0.os
  tape:w.tape=B.w0.tape
  output:w.output=B.w0.output
  size:B.w0.heap.size≤w.heap.size
  block:∀ b,b < B.w0.heap.size→¬ B.X b→w.heap[b]?=B.w0.heap[b]?
def Slots (g:G) (w:World) (φ:Nat→Option AV) (a:Act):Prop:=∀ t x,φ t=some x→∃ v,a.tmps[t]?=some v∧RepA g w x v
end Go.Abs

namespace Go.Abs
inductive TD where
  | int (k:IntKind)
  | slice (e:TypeId)
  | array (n:Nat) (e:TypeId)
  | struct (fs:List (Nat × TypeId))
  | bool
  | str
  | other
structure TI where
  agg:Bool
  size:Nat
  bytes:Nat
  zero:List Value
  d:TD
  eq:List Bool:=[]
def descOf:TypeDesc→TD
  | .int k=>.int k
  | .slice e=>.slice e
  | .array n e=>.array n e
  | .struct fs=>.struct (fs.toList.map fun f=>(f.offset,f.type))
  | .bool=>.bool
  | .string=>.str
  | _=>.other
def isAggD:TypeDesc→Bool
  | .struct _=>true
  | .array _ _=>true
  | _=>false
def flatFs (P:Program):Nat→List Field→Option (List Bool)
  | _,[]=>some []
  | i, f :: r => if (f.name != "_" && f.offset == i) = true then (match P.underlying f.type with
    | some (.int _)=>(flatFs P (i+1) r).map (true :: ·)
    | some .bool=>(flatFs P (i+1) r).map (false :: ·)
    | _=>none) else none
def eqFlat (P:Program) (t:TypeId):List Bool:=match P.underlying t with
  | some (.struct fs)=>match flatFs P 0 fs.toList with
    | some ks=>if (!P.stoodInHeld t && !P.eqGuardType P.depth t)=true then ks else []
    | none=>[]
  | _=>[]
def tiOf (P:Program) (t:TypeId):Option TI :=
  match P.info? t,P.underlying t with
  | some i,some d =>
    match i.zero with
    | some z=>some { agg:=isAggD d,size:=i.size,bytes:=i.bytes,zero:=z.cells.toList,d:=descOf d,eq:=eqFlat P t }
    | none=>none
  | _,_=>none
def nrm:Value→Cell
  | .slice none 0 0=>.lst []
  | v=>.sc v
def constCells:List Value→Option (List Cell)
  | []=>some []
  | v :: r=>if scalar v then (constCells r).map (Cell.sc v :: ·) else none
def constCellsN:List Value→Option (List Cell)
  | []=>some []
  | v :: r=>if scalar v then (constCellsN r).map (nrm v :: ·) else none
def constAV:Value→Option AV
  | .agg cs=>(constCells cs.toList).map .agg
  | .tuple _=>none
  | v=>if scalar v then some (.c (.sc v)) else none
def ev (L:Nat→Option AV):Operand→Option AV
  | .tmp t=>L t
  | .const v=>constAV v
  | .func f=>some (.c (.fn f []))
  | .global _=>none
def evs (L:Nat→Option AV):List Operand→Option (List AV)
  | []=>some []
  | x :: r=>match ev L x,evs L r with
    | some a,some l=>some (a :: l)
    | _,_=>none
def andI (k:IntKind) (a b:Int):Int:=k.wrap ((BitVec.ofInt k.bits a &&& BitVec.ofInt k.bits b).toNat)
def shrI (k:IntKind) (a b:Int):Int:=a.fdiv (2 ^ min b.toNat k.bits)
def binI (op:BinOp) (k:IntKind) (a b:Int):Option Value :=
  match op with
  | .add=>some (.int k (k.wrap (a+b)))
  | .sub=>some (.int k (k.wrap (a - b)))
  | .mul=>some (.int k (k.wrap (a * b)))
  | .quo=>if b=0 then none else some (.int k (k.wrap (a.tdiv b)))
  | .rem=>if b=0 then none else some (.int k (a.tmod b))
  | .eql=>some (.bool (decide (a=b)))
  | .neq=>some (.bool (!decide (a=b)))
  | .lss=>some (.bool (decide (a < b)))
  | .leq=>some (.bool (decide (a≤b)))
  | .gtr=>some (.bool (decide (b < a)))
  | .geq=>some (.bool (decide (b≤a)))
  | .and=>some (.int k (andI k a b))
  | .shr=>if b < 0 then none else some (.int k (shrI k a b))
  | _=>none
def binB (op:BinOp) (a b:Bool):Option Value :=
  match op with
  | .eql=>some (.bool (a == b))
  | .neq=>some (.bool (!(a == b)))
  | _=>none
def nilB (op:BinOp) (x:Cell):Option Bool:=match op,x with
  | .eql,.sc (.slice none 0 0)=>some true
  | .eql,.lst (_ :: _)=>some false
  | .neq,.sc (.slice none 0 0)=>some false
  | .neq,.lst (_ :: _)=>some true
  | _,_=>none
def unV (op:UnOp) (x:Value):Option Value :=
  match op,x with
  | .not,.bool b=>some (.bool (!b))
  | .neg,.int k n=>some (.int k (k.wrap (0 - n)))
  | _,_=>none
def avCells:AV→Option (List Cell)
  | .c x=>some [x]
  | .agg cs=>some cs
  | .tup _=>none
def cut (ti:TI) (cs:List Cell) (off:Nat):Option AV :=
  if ti.agg then (if off+ti.size≤cs.length then some (.agg ((cs.drop off).take ti.size)) else none)
  else match cs[off]? with
    | some c=>some (.c c)
    | none=>none
def wr (cs:List Cell) (off:Nat) (xs:List Cell):List Cell:=cs.take off ++ (xs ++ cs.drop (off+xs.length))
def pur (m:Mem):Cell→Option (Cell × Mem)
  | .sc v=>some (nrm v,m)
  | .lst es=>some (.lst es,m)
  | .full es=>some (.lst es,m)
  | .view o lo n=>match mget m.o o with
    | some (.arr e sz es _)=>if lo+n≤es.length then some (.lst ((es.drop lo).take n),{ m with o:=mset m.o o (.arr e sz es true) }) else none
    | _=>none
  | _=>none
def purL (m:Mem):List Cell→Option (List Cell × Mem)
  | []=>some ([],m)
  | c :: r=>match pur m c with
    | some (c',m1)=>match purL m1 r with
      | some (r',m2)=>some (c' :: r',m2)
      | none=>none
    | none=>none
def elems (m:Mem):Cell→Option (List (List Cell))
  | .sc (.slice none 0 0)=>some []
  | .lst es=>some es
  | .full es=>some es
  | .view o lo n=>match mget m.o o with
    | some (.arr _ _ es _)=>if lo+n≤es.length then some ((es.drop lo).take n) else none
    | _=>none
  | _=>none
def lenC:Cell→Option Nat
  | .sc (.slice none 0 0)=>some 0
  | .lst es=>some es.length
  | .full es=>some es.length
  | .view _ _ n=>some n
  | _=>none
def loadF (ti:TI) (m:Mem):AV→Option AV
  | .c (.ptr i off)=>match mget m.o i with
    | some (.blk cs)=>cut ti cs off
    | _=>none
  | .c (.aptr o i k)=>match mget m.o o with
    | some (.arr _ _ es _)=>match es[i]? with
      | some cs=>cut ti cs k
      | none=>none
    | _=>none
  | .c (.pel cs)=>cut ti cs 0
  | _=>none
def storeF (ti:TI) (m:Mem) (p v:AV):Option Mem :=
  match avCells v with
  | none=>none
  | some cs' =>
    if cs'.length=ti.size then
      match p with
      | .c (.ptr i off)=>match mget m.o i with
        | some (.blk cs)=>if off+ti.size≤cs.length then some { m with o:=mset m.o i (.blk (wr cs off cs')) } else none
        | _=>none
      | .c (.aptr o i k)=>match purL m cs' with
        | some (pcs,m1)=>match mget m1.o o with
          | some (.arr e sz es false)=>match es[i]? with
            | some cs=>if k+ti.size≤cs.length then some { m1 with o:=mset m1.o o (.arr e sz (es.set i (wr cs k pcs)) false) } else none
            | none=>none
          | _=>none
        | none=>none
      | _=>none
    else none
def fieldF (P:Program) (s f:Nat) (p:AV):Option AV :=
  match tiOf P s with
  | some { d:=.struct fs,.. }=>match fs[f]? with
    | some (off,t)=>match tiOf P t with
      | some ti=>if ti.size=0 then none else
        match p with
        | .c (.ptr i o)=>some (.c (.ptr i (o+off)))
        | .c (.aptr o i k)=>some (.c (.aptr o i (k+off)))
        | .c (.pel cs)=>if off < cs.length then some (.c (.pel (cs.drop off))) else none
        | _=>none
      | none=>none
    | none=>none
  | _=>none
def fieldV (P:Program) (s f:Nat) (x:AV):Option AV :=
  match tiOf P s,x with
  | some { d:=.struct fs,.. },.agg cs=>match fs[f]? with
    | some (off,t)=>match tiOf P t with
      | some ti=>cut ti cs off
      | none=>none
    | none=>none
  | _,_=>none
def indexF (P:Program) (m:Mem) (t:Nat) (x ix:AV):Option AV :=
  match tiOf P t,ix with
  | some { d:=.slice e,.. },.c (.sc (.int _ n)) =>
    match tiOf P e with
    | none=>none
    | some te =>
      if 0≤n then
        match x with
        | .c (.lst es)=>match es[n.toNat]? with
          | some el=>if el.length=te.size then some (.c (.pel el)) else none
          | none=>none
        | .c (.full es)=>match es[n.toNat]? with
          | some el=>if el.length=te.size then some (.c (.pel el)) else none
          | none=>none
        | .c (.view o lo len)=>match mget m.o o with
          | some (.arr _ sz _ _)=>if n < len∧sz=te.size then some (.c (.aptr o (lo+n.toNat) 0)) else none
          | _=>none
        | _=>none
      else none
  | some { d:=.array len e,.. },.c (.sc (.int _ n)) =>
    match tiOf P e with
    | none=>none
    | some te =>
      if 0≤n∧n < len then
        match x with
        | .c (.ptr i off)=>some (.c (.ptr i (off+n.toNat * te.size)))
        | _=>none
      else none
  | _,_=>none
def indexV (P:Program) (t:Nat) (x ix:AV):Option AV :=
  match tiOf P t,x,ix with
  | some { d:=.array len e,.. },.agg cs,.c (.sc (.int _ n)) =>
    if 0≤n∧n < len then
      match tiOf P e with
      | some te=>cut te cs (n.toNat * te.size)
      | none=>none
    else none
  | _,_,_=>none
def bound (d:Nat):Option (Option AV)→Option Int
  | none=>some d
  | some (some (.c (.sc (.int _ n))))=>some n
  | _=>none
def sliceF (P:Program) (m:Mem) (t:Nat) (x:AV) (lo hi mx:Option (Option AV)):Option AV :=
  match tiOf P t,x with
  | some { d:=.slice e,.. },.c x =>
    match lenC x,tiOf P e with
    | some n,some te =>
      match bound 0 lo,bound n hi with
      | some l,some h =>
        if 0≤l∧l≤h∧h≤n then
          match mx with
          | none=>match x with
            | .sc _=>some (.c x)
            | .lst es=>if es.all (fun e=>e.length == te.size) then some (.c (.lst ((es.take h.toNat).drop l.toNat))) else none
            | .full es=>if es.all (fun e=>e.length == te.size) then some (.c (.lst ((es.take h.toNat).drop l.toNat))) else none
            | .view o lo' _=>match mget m.o o with
              | some (.arr _ sz _ _)=>if sz=te.size then some (.c (.view o (lo'+l.toNat) (h.toNat - l.toNat))) else none
              | _=>none
            | _=>none
          | some mk=>match bound 0 (some mk),hi with
            | some k,some _=>if k=h then
                match x with
                | .sc _=>some (.c x)
                | .lst es=>if es.all (fun e=>e.length == te.size) then some (.c (.full ((es.take h.toNat).drop l.toNat))) else none
                | .full es=>if es.all (fun e=>e.length == te.size) then some (.c (.full ((es.take h.toNat).drop l.toNat))) else none
                | _=>none
              else none
            | _,_=>none
        else none
      | _,_=>none
    | _,_=>none
  | _,_=>none
def newId (d:Nat) (m:Mem):Id:=.l d m.nx
def addObj (d:Nat) (m:Mem) (o:MObj):Mem:={ o:=m.o ++ [(newId d m,o)],nx:=m.nx,us:=d :: m.us }
def parts (L:Nat→Option AV) (sz:Nat):Nat→List (Nat × Operand)→Mem→Option (List (List Cell) × Mem)
  | _,[],m=>some ([],m)
  | i,(k,x) :: r,m =>
    if k=i then
      match ev L x with
      | some a=>match avCells a with
        | some cs=>if cs.length=sz then
            match purL m cs with
            | some (pcs,m1)=>match parts L sz (i+1) r m1 with
              | some (l,m2)=>some (pcs :: l,m2)
              | none=>none
            | none=>none
          else none
        | none=>none
      | none=>none
    else none
def arrFs (sz:Nat) (e:TypeId):Nat→Nat→List (Nat × TypeId)
  | 0,_=>[]
  | n+1,i=>(i * sz,e) :: arrFs sz e n (i+1)
theorem arrFs_get {sz:Nat} {e:TypeId}:∀ {n i k:Nat} {x:Nat × TypeId},(arrFs sz e n i)[k]?=some x→x=((i+k) * sz,e)
  | 0,_,_,_,h=>by simp [arrFs] at h
  | n+1,i,0,x,h=>by simp [arrFs] at h;simp [← h]
  | n+1,i,k+1,x,h=>by
    have:=arrFs_get (n:=n) (i:=i+1) (k:=k) (by simpa [arrFs] using h)
    rw [this,show i+1+k=i+(k+1) by omega]
def buildF (L:Nat→Option AV) (P:Program) (fs:List (Nat × TypeId)):List Cell→List (Nat × Operand)→Option (List Cell)
  | cs,[]=>some cs
  | cs,(k,x) :: r =>
    match fs[k]? with
    | some (off,t)=>match tiOf P t,ev L x with
      | some ti,some a=>match avCells a with
        | some cs'=>if cs'.length=ti.size∧off+ti.size≤cs.length then buildF L P fs (wr cs off cs') r else none
        | none=>none
      | _,_=>none
    | none=>none
def wrE (es:List (List Cell)) (lo:Nat) (xs:List (List Cell)):List (List Cell):=es.take lo ++ (xs ++ es.drop (lo+xs.length))
def eqC:List Bool→List Cell→List Cell→Option Bool
  | [],[],[]=>some true
  | true :: ks,.sc (.int k a) :: r,.sc (.int k' b) :: s=>if k=k' then (eqC ks r s).map (decide (a=b) && ·) else none
  | false :: ks,.sc (.bool a) :: r,.sc (.bool b) :: s=>(eqC ks r s).map ((a == b) && ·)
  | _,_,_=>none
def binE (op:BinOp) (ks:List Bool) (xs ys:List Cell):Option Bool:=match op with
  | .eql=>eqC ks xs ys
  | .neq=>(eqC ks xs ys).map (!·)
  | _=>none
def appZF (P:Program) (t t':TypeId) (d:Nat) (m:Mem) (s x:Cell):Option (AV × Mem) :=
  match s,x,tiOf P t,tiOf P t' with
  | .view o lo n,.sc (.int _ k),some { d:=.slice e,.. },some { d:=.int _,.. } =>
    match tiOf P e,mget m.o o with
    | some te,some (.arr e' sz es fr)=>match constCells te.zero with
      | some z=>if e'=e∧sz=te.size∧lo=0∧n=es.length∧te.size ≠ 0∧te.bytes ≠ 0∧te.zero.length=te.size∧0≤k∧(es.length+k.toNat) * te.bytes≤140737488355328 then
          some (.c (.view (newId d m) 0 (es.length+k.toNat)),addObj d { m with o:=mdel m.o o } (.arr e te.size (es ++ List.replicate k.toNat z) fr))
        else none
      | none=>none
    | _,_=>none
  | _,_,_,_=>none
def callB (P:Program) (b:Builtin) (argTypes:List TypeId) (d:Nat) (m:Mem) (args:List AV):Option (AV × Mem) :=
  match b,argTypes,args with
  | .len,[t],[.c x]=>match tiOf P t with
    | some { d:=.slice _,.. }=>match lenC x with
      | some n=>some (.c (.sc (.int .i64 n)),m)
      | none=>none
    | _=>none
  | .min,_,[.c (.sc (.int k a)),.c (.sc (.int _ b))]=>some (.c (.sc (.int k (if b < a then b else a))),m)
  | .max,_,[.c (.sc (.int k a)),.c (.sc (.int _ b))]=>some (.c (.sc (.int k (if a < b then b else a))),m)
  | .append,[t,t'],[.c s,.c x] =>
    if t=t' then
      match tiOf P t with
      | some { d:=.slice e,.. }=>match tiOf P e,elems m x with
        | some te,some es2 =>
          if te.size=0 ∨ te.bytes=0 ∨ es2.all (fun e=>e.length == te.size)=false ∨ ¬ te.zero.length=te.size then none else
          match s with
          | .sc (.slice none 0 0)=>if es2.length * te.bytes≤140737488355328 then some (.c (.view (newId d m) 0 es2.length),addObj d m (.arr e te.size es2 false)) else none
          | .full es=>match es2 with
            | []=>none
            | x2 :: r2=>if es.all (fun e=>e.length == te.size)=true∧(es.length+(x2 :: r2).length) * te.bytes≤140737488355328 then
                some (.c (.view (newId d m) 0 (es.length+(x2 :: r2).length)),addObj d m (.arr e te.size (es ++ x2 :: r2) false)) else none
          | .view o lo n=>match mget m.o o with
            | some (.arr e' sz es fr) =>
              if e'=e∧sz=te.size∧lo=0∧n=es.length∧(es.length+es2.length) * te.bytes≤140737488355328 then
                some (.c (.view (newId d m) 0 (es.length+es2.length)),addObj d { m with o:=mdel m.o o } (.arr e te.size (es ++ es2) fr))
              else none
            | _=>none
          | _=>none
        | _,_=>none
      | _=>none
    else appZF P t t' d m s x
  | .copy,[t,_],[.c (.view o lo n),.c x]=>match tiOf P t with
    | some { d:=.slice e,.. }=>match tiOf P e,elems m x,mget m.o o with
      | some te,some es2,some (.arr e' sz es false) =>
        if e'=e∧sz=te.size∧lo+n≤es.length∧te.size ≠ 0∧es2.all (fun e=>e.length == te.size)=true then
          some (.c (.sc (.int .i64 (Nat.min es2.length n))),{ m with o:=mset m.o o (.arr e' sz (wrE es lo (es2.take (Nat.min es2.length n))) false) })
        else none
      | _,_,_=>none
    | _=>none
  | _,_,_=>none
def plainCells:List AV→Option (List Cell)
  | []=>some []
  | .c x :: r=>(plainCells r).map (x :: ·)
  | _ :: _=>none
def opF (P:Program) (op:Op) (d:Nat) (L:Nat→Option AV) (m:Mem):Option (AV × Mem) :=
  match op with
  | .move x=>(ev L x).map (·,m)
  | .assign x=>(ev L x).map (·,m)
  | .pick c a b=>match ev L c with
    | some (.c (.sc (.bool true)))=>(ev L a).map (·,m)
    | some (.c (.sc (.bool false)))=>(ev L b).map (·,m)
    | _=>none
  | .alloc T=>match tiOf P T with
    | some ti=>match constCells ti.zero with
      | some cs=>some (.c (.ptr (newId d m) 0),addObj d m (.blk cs))
      | none=>none
    | none=>none
  | .box _ x=>match ev L x with
    | some a=>match avCells a with
      | some cs=>some (.c (.ptr (newId d m) 0),addObj d m (.blk cs))
      | none=>none
    | none=>none
  | .build T ps=>match tiOf P T with
    | some ti=>match ti.d,constCells ti.zero with
      | .struct fs,some z=>if fs.all (fun f=>(tiOf P f.2).isSome) then (buildF L P fs z ps.toList).map fun cs=>(.agg cs,m) else none
      | .array n e,some z=>match tiOf P e with
        | some te=>(buildF L P (arrFs te.size e n 0) z ps.toList).map fun cs=>(.agg cs,m)
        | none=>none
      | _,_=>none
    | none=>none
  | .buildSlice T n ps=>match tiOf P T with
    | some { d:=.slice e,.. }=>match tiOf P e with
      | some te=>if te.size=0 ∨ 16777216 < n * te.size then none else
        match parts L te.size 0 ps.toList m with
        | some (es,m1)=>if es.length=n then some (.c (.view (newId d m1) 0 n),addObj d m1 (.arr e te.size es false)) else none
        | none=>none
      | none=>none
    | _=>none
  | .makeSlice T x y=>match tiOf P T,ev L x,ev L y with
    | some { d:=.slice e,.. },some (.c (.sc (.int _ n))),some (.c (.sc (.int _ n')))=>match tiOf P e with
      | some te=>match constCellsN te.zero with
        | some z=>if n=n'∧0≤n∧te.size ≠ 0∧te.bytes ≠ 0∧te.zero.length=te.size∧n * te.bytes≤140737488355328 then
            some (.c (.view (newId d m) 0 n.toNat),addObj d m (.arr e te.size (List.replicate n.toNat z) false))
          else none
        | none=>none
      | none=>none
    | _,_,_=>none
  | .load t a=>match tiOf P t,ev L a with
    | some ti,some p=>(loadF ti m p).map (·,m)
    | _,_=>none
  | .nilCheck x=>match ev L x with
    | some (.c (.ptr i o))=>some (.c (.ptr i o),m)
    | some (.c (.aptr o i k))=>some (.c (.aptr o i k),m)
    | some (.c (.pel cs))=>some (.c (.pel cs),m)
    | some (.c (.fn f cs))=>some (.c (.fn f cs),m)
    | _=>none
  | .binOp op t x y _=>match ev L x,ev L y with
    | some (.c (.sc (.int k a))),some (.c (.sc (.int k' b)))=>if k=k' then (binI op k a b).map fun v=>(.c (.sc v),m) else none
    | some (.c (.sc (.bool a))),some (.c (.sc (.bool b)))=>match tiOf P t with
      | some { d:=.bool,.. }=>(binB op a b).map fun v=>(.c (.sc v),m)
      | _=>none
    | some (.agg xs),some (.agg ys)=>match tiOf P t with
      | some ti=>match ti.eq with
        | q :: ks=>(binE op (q :: ks) xs ys).map fun b=>(.c (.sc (.bool b)),m)
        | []=>none
      | none=>none
    | some (.c x),some (.c (.sc (.slice none 0 0)))=>match tiOf P t with
      | some { d:=.slice _,.. }=>(nilB op x).map fun b=>(.c (.sc (.bool b)),m)
      | _=>none
    | _,_=>none
  | .unOp op _ x=>match ev L x with
    | some (.c (.sc v))=>(unV op v).map fun v=>(.c (.sc v),m)
    | _=>none
  | .convert src t x=>match tiOf P src,tiOf P t,ev L x with
    | some _,some { d:=.int k,.. },some (.c (.sc (.int _ n)))=>some (.c (.sc (.int k (k.wrap n))),m)
    | _,_,_=>none
  | .fieldAddr s x f=>match ev L x with
    | some p=>(fieldF P s f p).map (·,m)
    | none=>none
  | .field s x f=>match ev L x with
    | some p=>(fieldV P s f p).map (·,m)
    | none=>none
  | .indexAddr t x i=>match ev L x,ev L i with
    | some x,some i=>(indexF P m t x i).map (·,m)
    | _,_=>none
  | .index t x i=>match ev L x,ev L i with
    | some x,some i=>(indexV P t x i).map (·,m)
    | _,_=>none
  | .slice t x lo hi mx=>match ev L x with
    | some x=>(sliceF P m t x (lo.map (ev L)) (hi.map (ev L)) (mx.map (ev L))).map (·,m)
    | none=>none
  | .extract x i=>match ev L x with
    | some (.tup l)=>(l[i]?).map (·,m)
    | _=>none
  | .makeFunc (.func f) first caps=>if first.size=0 then
      match evs L caps.toList with
      | some l=>match plainCells l with
        | some cs=>some (.c (.fn f cs),m)
        | none=>none
      | none=>none
    else none
  | .call { callee:=.builtin b,args,argTypes }=>match evs L args.toList with
    | some l=>callB P b argTypes.toList d m l
    | none=>none
  | _=>none
end Go.Abs
