/- Proved here: what functions of the given program come to, and the plain laws of it; no condition but those in the theorems. -/
import Derived.Test.YtgllikepncnpkaaGreatAbsRl
namespace Go.Abs
open Go.RowKit
set_option linter.unusedVariables false
set_option linter.unusedSimpArgs false
namespace Part
variable {P:Program} {p:Part} {N Ng:Nat} {qc qcg:Nat→Bool} {CK CKg:Nat→KT} {τ:List (Nat × TI)}
def genQ (QJ:Exit→Mem→Prop):Exit→TK
  | .normal=>fun _ m=>QJ .normal m
  | .ret=>fun _ m=>QJ .normal m
  | _=>fun _ _=>False
theorem range_in (hτ:TyOk P τ) {np npg:NPT} (hCK:∀ f args d m k,CK f args d m k→callK P qc f args d m k) (hCKg:∀ f args d m k,CKg f args d m k→callK P qcg f args d m k) (hm:P.follows .mixedOrders=true)
    {gop:Operand} {ps:Array Tmp} {assign body:Code} {a:Act} (hN:a.tmps.size=N) (hpa:plainC assign=true) (hpb:plainC body=true) (hps:∀ q ∈ ps.toList,q < N)
    {f : FuncId} {fnG : Func} {gc : Code} (hf : P.funcs[f]? = some fnG) (hname : (fnG.name == "runtime.NumGoroutine") = false) (hb : fnG.body = some gc) (hNg : fnG.ntmps = Ng) (hres : fnG.results = #[]) (hcg : codeOk qcg npg Ng gc = true)
    {caps:List Cell} {us:List Value} (hg:a.eval gop=.func (.func f) #[] us.toArray) (hul:us.length=caps.length) (hur:∀ (j:Nat) c u,caps[j]?=some c→us[j]?=some u→RepC p.g p.w c u) (hsz:caps.length+1≤Ng)
    {t0:List (Nat × AV)} (hs0:Slots p.g p.w (tget t0) { tmps:=a.tmps,defers:=[] }) (hI:Inv (p.qB p.w p.g.F N []) p.g ⟨p.m,0,[]⟩ p.w) {kx:Nat} (hKx:∀ i,KX kx i→p.g.K i) {QJ:Exit→Mem→Prop}
    {Y:YT} (hYc:∀ args m k,Y args m k→args.length=ps.size∧awp P qc np CK N assign (fun e σ=>match e with | .normal=>awp P qc np CK N body (roundQ QJ k) σ | _=>False) ⟨setPs ps.toList args t0,m⟩)
    (h:awpYC τ npg CKg kx Ng (p.w.heap.size+1) Y gc (genQ QJ) (initT (yV (p.w.heap.size+1) :: caps.map .c) 0) ⟨p.m,0,[]⟩) :
    (Code.rangeFunc gop ps assign body).wpIn Fence.wide 0 P (fun e a' w'=>a'.tmps=a.tmps∧a'.defers={ target:=.collected p.w.heap.size,args:=#[] } :: a.defers∧w'.heap[p.w.heap.size]?=some (.deferred (some []))∧∃ g' m',Inv (p.qB p.w p.g.F N []) g' m' w'∧NoZ p g' m'∧QJ e m') a p.w:=by
  refine wpIn_rangeFunc fun fn _=>?_
  rw [show Fence.wide.round=none from rfl]
  obtain ⟨W1,hW1⟩:∃ W1,(p.w.alloc (.deferred (some []))).alloc (.loop (lpRec fn a.tmps ps assign body p.w.heap.size .ready none))=W1:=⟨_,rfl⟩
  have hl1:W1.heap[p.w.heap.size+1]?=some (.loop (lpRec fn a.tmps ps assign body p.w.heap.size .ready none)):=by
    rw [← hW1];have:=World.alloc_heap_new (p.w.alloc (.deferred (some []))) (.loop (lpRec fn a.tmps ps assign body p.w.heap.size .ready none));rwa [World.size_alloc] at this
  have hk1:W1.heap[p.w.heap.size]?=some (.deferred (some [])):=by
    rw [← hW1];exact (Below.heap_alloc _ _ _ (by simp)).trans (World.alloc_heap_new p.w _)
  have hWs:W1.heap.size=p.w.heap.size+2:=by rw [← hW1];simp
  obtain ⟨e1,i1⟩:=inv_quiet hI (World.grownBy_alloc p.w (.deferred (some [])) none)
  obtain ⟨e2,i2⟩:=inv_quiet i1 (World.grownBy_alloc (p.w.alloc (.deferred (some []))) (.loop (lpRec fn a.tmps ps assign body p.w.heap.size .ready none)) none)
  rw [hW1] at e2 i2
  have heW:Ext p.g p.w p.g W1:=e1.trans e2
  have nz0:NoZ p p.g ⟨p.m,0,[]⟩:=⟨fun b o hf hz=>by have:=p.flt b o hf;rcases hz with rfl | rfl <;> omega,fun i o b hi hb hz=>by have:=p.tch b ⟨i,o,hi,hb⟩;rcases hz with rfl | rfl <;> omega⟩
  have hIg:Inv (p.pB W1 p.g.F Ng []) p.g ⟨p.m,0,[]⟩ W1:=qp (q_step i2 (Nat.le_refl _)) nz0 fun _ _=>rfl
  refine ⟨p.w.heap.size+1,[{ target:=.collected p.w.heap.size,args:=#[] }],W1,{ target:=.fn (.func f) us.toArray,args:=#[.func (.yield (p.w.heap.size+1)) #[] #[]] },W1,f,
    #[.func (.yield (p.w.heap.size+1)) #[] #[]] ++ us.toArray,W1,?_,?_,fun _ _=>trivial,?_,fun h=>by simp [Fence.wide] at h,?_⟩
  · rw [← hW1];exact run_enterLoop_outer _ _ _ _ _
  · simp only [resolve,hg]
    simp [go_sem]
  · simp [invoke,go_sem,callable hf hname hb]
  have hY0:=round_ok (Ng:=Ng) (ds:=[]) (qc:=qc) (np:=np) hCK hm (fn:=fn) (p:=p) hN hpa hpb hps hWs hl1 hk1 heW hs0 (QJ:=QJ)
  have hY:YOk P (p.pB W1 p.g.F Ng []) (p.w.heap.size+1) (Stop p (lpRec fn a.tmps ps assign body p.w.heap.size) W1 Ng [] QJ) Y:=fun args m k h=>hY0 args m k (hYc args m k h)
  refine callsIn_of_wp hf hb trivial ?_
  have hR:RS (p.pB W1 p.g.F Ng []) (tget (initT (yV (p.w.heap.size+1) :: caps.map .c) 0)) ⟨p.m,0,[]⟩ { tmps:=((#[Value.func (.yield (p.w.heap.size+1)) #[] #[]]:Array Value) ++ us.toArray) ++ Array.replicate (fnG.ntmps - ((#[Value.func (.yield (p.w.heap.size+1)) #[] #[]]:Array Value) ++ us.toArray).size) undef,defers:=[] } W1:=by
    refine ⟨⟨p.g,fun t x hx=>?_,hIg⟩,rfl,by simp [pB];omega⟩
    obtain ⟨_,h2⟩:=initT_get _ 0 t hx
    rw [Nat.sub_zero] at h2
    have ht:t < us.length+1:=by have:=(List.getElem?_eq_some_iff.1 h2).1;simp at this;omega
    have hgt:∀ (r:Array Value),(((#[Value.func (.yield (p.w.heap.size+1)) #[] #[]]:Array Value) ++ us.toArray) ++ r)[t]?=(Value.func (.yield (p.w.heap.size+1)) #[] #[] :: us)[t]?:=fun r=>by
      rw [Array.getElem?_append,if_pos (by simp;omega),show (#[Value.func (.yield (p.w.heap.size+1)) #[] #[]]:Array Value) ++ us.toArray=(Value.func (.yield (p.w.heap.size+1)) #[] #[] :: us).toArray by simp]
      simp
    cases t with
    | zero =>
      simp at h2
      subst h2
      exact ⟨_,hgt _,.c (.pure (.sc rfl))⟩
    | succ t =>
      simp only [List.getElem?_cons_succ,List.getElem?_map] at h2
      obtain ⟨c,hc,rfl⟩:=Option.map_eq_some_iff.1 h2
      have hu:=List.getElem?_eq_getElem (show t < us.length by omega)
      exact ⟨us[t],(hgt _).trans (by rw [List.getElem?_cons_succ];exact hu),.c ((hur t c _ hc hu).ext heW)⟩
  refine wpIn_mono (awpYC_ok hτ hY hKx hCKg hm rfl gc hcg _ _ _ _ _ hR h) ?_
  rintro e a3 w3 hq
  have hrun:∀ (tm:Array Value) (w:World),∃ v,(results fnG tm).run P w=.ok v w:=fun tm w=>by
    unfold results
    rw [hres]
    exact ⟨_,by simp;rfl⟩
  have zl:p.Z (p.w.heap.size+1):=.inr rfl
  have zD:p.Z p.w.heap.size:=.inl rfl
  have keepZ:∀ {g m w},Inv (p.pB W1 p.g.F Ng []) g m w→∀ b,p.Z b→w.heap[b]?=W1.heap[b]?:=fun h b hz=>h.block b (by rcases hz with rfl | rfl <;> (show _ < _;dsimp only [pB];omega)) fun hx=>hx.1 hz
  have out:∀ {g':G} {m':Mem} {w:World} (st:LoopState) (pe:Option Code),Inv (p.qB W1 p.g.F Ng []) g' m' w→NoZ p g' m'→w.heap[p.w.heap.size+1]?=some (.loop (lpRec fn a.tmps ps assign body p.w.heap.size st pe))→w.heap[p.w.heap.size]?=some (.deferred (some []))→st ≠ .busy →
      ∃ w4,(Instr.endLoop (p.w.heap.size+1)).run P w=.ok pe w4∧w4.heap[p.w.heap.size]?=some (.deferred (some []))∧Inv (p.qB p.w p.g.F N []) g' m' w4:=fun st pe hi hn hl hk hb=>by
    have hs:p.w.heap.size+1 < _:=(Array.getElem?_eq_some_iff.1 hl).1
    refine ⟨_,run_endLoop hl hb,(World.putObj_heap_other (by omega)).trans hk,?_⟩
    exact q_join i2 (q_turn hi hn zl (grownBy_putObj' _ _ _)).2
  have goN:∀ {g':G} {m':Mem} {v:Value},Inv (p.pB W1 p.g.F Ng []) g' m' w3→QJ .normal m'→rangePost Fence.wide 0 P (p.w.heap.size+1) (fun e a' w'=>a'.tmps=a.tmps∧a'.defers={ target:=.collected p.w.heap.size,args:=#[] } :: a.defers∧w'.heap[p.w.heap.size]?=some (.deferred (some []))∧∃ g' m',Inv (p.qB p.w p.g.F N []) g' m' w'∧NoZ p g' m'∧QJ e m') { a with defers:=[{ target:=.collected p.w.heap.size,args:=#[] }] ++ a.defers } (.returned v) w3:=fun {g' m' v} hi hj=>by
    have hn:NoZ p g' m':=noZ hi (fun b h=>by rcases h with rfl | rfl <;> omega) nz0.F
    obtain ⟨w4,r1,r2,r3⟩:=out .ready none (pq hi) hn ((keepZ hi _ zl).trans hl1) ((keepZ hi _ zD).trans hk1) (by simp)
    exact ⟨none,w4,r1,rfl,rfl,r2,g',m',r3,hn,hj⟩
  rcases hq with ⟨t,m',⟨⟨g',_,hI3⟩,hd3,_⟩,hj⟩ | ⟨rfl,hd3,_,⟨e,c,g',m',he,hl3,hk3,hI3,hn3,hj⟩⟩
  · obtain ⟨v,hv⟩:=hrun a3.tmps w3
    cases e with
    | normal=>exact ⟨hd3,v,hv,goN hI3 hj⟩
    | ret=>exact ⟨hd3,v,hv,goN hI3 hj⟩
    | _=>exact hj.elim
  · obtain ⟨v,hv⟩:=hrun a3.tmps w3
    obtain ⟨w4,r1,r2,r3⟩:=out .done (some c) hI3 hn3 hl3 hk3 (by simp)
    refine ⟨hd3,v,hv,some c,w4,r1,?_⟩
    cases e with
    | ret=>cases he;exact wpIn_ret ⟨rfl,rfl,r2,g',m',r3,hn3,hj⟩
    | exit i=>cases he;exact wpIn_exit ⟨rfl,rfl,r2,g',m',r3,hn3,hj⟩
    | _=>cases he
end Part
end Go.Abs

namespace Go.Abs
open Go.RowKit
set_option linter.unusedVariables false
set_option linter.unusedSimpArgs false
namespace Part
variable {p:Part} {N n:Nat} {g':G} {m':Mem} {w':World}
end Part
end Go.Abs

namespace Go.Abs
open Go.RowKit
set_option linter.unusedVariables false
set_option linter.unusedSimpArgs false
def partT (ns:List Id):List (Nat × AV)→List (Nat × AV)
  | []=>[]
  | (t,x) :: r=>match lsA ns x with
    | true=>(t,renA (toX ns) x) :: partT ns r
    | false=>tdel (partT ns r) t
theorem partT_get {ns:List Id}:∀ {l:List (Nat × AV)} {t:Nat} {x:AV},tget (partT ns l) t=some x→∃ y,tget l t=some y∧lsA ns y=true∧x=renA (toX ns) y
  | [],_,_,h=>by cases h
  | (s,y) :: r,t,x,h=>by
    unfold partT at h
    split at h
    · rename_i e
      simp only [tget] at h ⊢
      split at h
      · rename_i e2;simp at h;subst h;rw [if_pos e2];exact ⟨y,rfl,e,rfl⟩
      · rename_i e2;rw [if_neg e2];exact partT_get h
    · rw [tget_tdel] at h
      split at h
      · cases h
      · rename_i e2;simp only [tget,if_neg e2];exact partT_get h
section
variable {P:Program} {B:Base} {gC:G} {M:Mem} {w:World}
theorem mkPart {ns:List Id} {os:List MObj} (hI:Inv B gC M w) (hn:nodupI ns=true) (hl1:os.length=ns.length) (hg:∀ (j:Nat) i,ns[j]?=some i→∃ x,os[j]?=some x∧mget M.o i=some x) (hlo:lsOs ns os=true) (hxo:xsOs ns.length (mapO (toX ns) os)=true) :
    ∃ p:Part,p.w=w∧p.m=mX (mapO (toX ns) os)∧p.g=pull (ofX ns) (keys (mX (mapO (toX ns) os))) gC∧MInv p.g p.m p.w:=by
  have hlx:(mapO (toX ns) os).length=ns.length:=getD_len hl1
  have hL:=link_names (M:=M) hn hl1 hg hlo hxo hlx
  have hMI:=core_in hI hL
  exact ⟨{ g:=pull (ofX ns) (keys (mX (mapO (toX ns) os))) gC,m:=mX (mapO (toX ns) os),w:=w,gx:=fun i hi=>by obtain ⟨k,_,e⟩:=keys_mX.1 hi.1;exact ⟨k,e⟩,flt:=hMI.flt,tch:=fun b ⟨i,o,hi,hb⟩=>(hMI.ok i o hi).2.lt hb },rfl,rfl,rfl,hMI⟩
theorem part_inv {p:Part} (h:MInv p.g p.m p.w) (hK:∀ i,p.g.K i→keys p.m i) {N:Nat}:Inv (p.qB p.w p.g.F N []) p.g ⟨p.m,0,[]⟩ p.w where
  ok:=h.ok
  apart:=h.apart
  fresh:=fun s k _ hk=>by obtain ⟨n,e⟩:=p.gx _ hk;cases e
  flt:=h.flt
  ext:=.refl _ _
  fnew:=fun b o hf=>.inl hf
  own:=fun i o b hi hb=>.inr (.inl ⟨i,o,hi,hb⟩)
  os:=rfl
  tape:=rfl
  output:=rfl
  size:=Nat.le_refl _
  block:=fun _ _ _=>rfl
theorem part_slots {ns:List Id} {os:List MObj} (hl1:os.length=ns.length) {t:List (Nat × AV)} {a:Act} (hs:Slots gC w (tget t) a):Slots (pull (ofX ns) (keys (mX (mapO (toX ns) os))) gC) w (tget (partT ns t)) { tmps:=a.tmps,defers:=[] }:=fun k x hx=>by
  obtain ⟨y,h1,h2,rfl⟩:=partT_get hx
  obtain ⟨v,h3,h4⟩:=hs k y h1
  obtain ⟨q1,q2⟩:=lsA_ok h2
  have hlx:(mapO (toX ns) os).length=ns.length:=getD_len hl1
  have hD:KX ns.length=keys (mX (mapO (toX ns) os)):=by rw [← hlx];exact funext fun i=>propext keys_mX.symm
  exact ⟨v,h3,pull_link.pullA h4 _ q1 (by rw [← hD];exact q2)⟩
end
end Go.Abs

namespace Go.Abs
open Go.RowKit
set_option linter.unusedVariables false
set_option linter.unusedSimpArgs false
section
variable {P:Program} {B:Base} {N Ng:Nat} {qc qcg:Nat→Bool} {CK CKg:Nat→KT} {τ:List (Nat × TI)}
theorem own_cells {g:G} {w:World} {i:Id} {o:MObj} (h:ObjOk g w i o) {b:Nat} (hb:blockOf (g.β i)=some b):∃ c T z,w.heap[b]?=some (.cells c T z):=by
  cases h with
  | blk us hv hh hl hr h1 hf =>
    rw [hv] at hb
    simp [blockOf] at hb
    subst hb
    exact ⟨_,_,_,hh⟩
  | arr us hz ho hs hr h1 hf =>
    rcases ho.2 with ⟨hv,_⟩ | ⟨gb,cap,cur,hv,_,hh,_⟩
    · rw [hv] at hb;simp [blockOf] at hb
    · rw [hv] at hb
      simp [blockOf] at hb
      subst hb
      exact ⟨_,_,_,hh⟩
structure RangeP (B:Base) (a:Act) (w:World) (t:List (Nat × AV)) (Q:Exit→Mem→Prop) (e:Exit) (a':Act) (w':World):Prop where
  tmps:a'.tmps=a.tmps
  defers:a'.defers={ target:=.collected w.heap.size,args:=#[] } :: a.defers
  mark:w'.heap[w.heap.size]?=some (.deferred (some []))
  ex:∃ g m,Slots g w' (tget t) a'∧Inv B g m w'∧(∀ o,¬ g.F w.heap.size o)∧(∀ i o,mget m.o i=some o→blockOf (g.β i) ≠ some w.heap.size)∧Q e m
end
end Go.Abs

namespace Go.Abs
open Go.RowKit
set_option linter.unusedVariables false
set_option linter.unusedSimpArgs false
variable {P:Program}
abbrev markD (D:Nat):Deferred:={ target:=.collected D,args:=#[] }
theorem leaves_none {fn:Func} {tmps:Array Value} {R:Ending→World→Prop} {w:World} {v:Value} (hr:(results fn tmps).run P w=.ok v w) (hR:R (.returned v) w):LeavesInM Fence.wide 0 P fn tmps R [] .returning w:=by
  unfold LeavesInM LeavesIn
  exact ⟨v,hr,hR⟩
end Go.Abs

namespace Go.Abs
open Go.RowKit
set_option linter.unusedVariables false
set_option linter.unusedSimpArgs false
structure Gen (P:Program) where
  f:FuncId
  fn:Func
  gc:Code
  N:Nat
  np:NPT
  qc:Nat→Bool
  CK:Nat→KT
  hf:P.funcs[f]?=some fn
  hname : (fn.name == "runtime.NumGoroutine") = false
  hb:fn.body=some gc
  hN:fn.ntmps=N
  hres:fn.results=#[]
  hc:codeOk qc np N gc=true
  hCK:∀ f args d m k,CK f args d m k→callK P qc f args d m k
def ltsN (N:Nat):List Nat→Bool
  | []=>true
  | q :: r=>match Nat.blt q N with
    | true=>ltsN N r
    | false=>false
theorem ltsN_ok {N:Nat}:∀ {l:List Nat},ltsN N l=true→∀ q ∈ l,q < N
  | [],_,_,h=>by cases h
  | x :: l,h,q,hq=>by
    simp only [ltsN] at h
    split at h
    · rename_i e
      rcases List.mem_cons.1 hq with rfl | hq
      · exact Nat.le_of_ble_eq_true e
      · exact ltsN_ok h q hq
    · cases h
def roundC (τ:List (Nat × TI)) (np:NPT) (CK:Nat→KT) (ps:Array Tmp) (assign body:Code) (tp:List (Nat × AV)) (QE:Exit→Mem→Prop):YT:=fun args m k=>args.length=ps.size ∧
  awpC τ np CK assign (fun e t m=>match e with
    | .normal=>awpC τ np CK body (fun e t m=>roundQ QE k e ⟨t,m⟩) t m
    | _=>False) (setPs ps.toList args tp) m
section
variable {P:Program} {τ:List (Nat × TI)} {N:Nat} {qc:Nat→Bool}
end
end Go.Abs

namespace Go.Abs
open Go.RowKit
set_option linter.unusedVariables false
set_option linter.unusedSimpArgs false
structure RSM (B:Base) (t:List (Nat × AV)) (m:Mem) (a:Act) (w:World):Prop where
  ex:∃ (Ds:List Nat) (g:G),Slots g w (tget t) a∧Inv B g m w∧a.defers=Ds.map markD∧a.tmps.size=B.N∧Ds.Nodup∧∀ D ∈ Ds,w.heap[D]?=some (.deferred (some []))∧(∀ o,¬ g.F D o)∧B.w0.heap.size≤D
section
variable {P:Program} {B:Base} {τ:List (Nat × TI)} {N:Nat} {qc:Nat→Bool}
theorem own_mark {g:G} {m:Mem} {w:World} (hI:Inv B g m w) {D:Nat} (hh:w.heap[D]?=some (.deferred (some []))) (i:Id) (o:MObj) (hi:mget m.o i=some o):blockOf (g.β i) ≠ some D:=fun hb=>by
  obtain ⟨c,T,z,hc⟩:=own_cells (hI.ok i o hi).2 hb
  rw [hh] at hc
  cases hc
theorem lt_mark {w:World} {D:Nat} {x:Obj} (hh:w.heap[D]?=some x):D < w.heap.size:=by
  rcases Array.getElem?_eq_some_iff.1 hh with ⟨h,_⟩
  exact h
theorem rsm_walk {t:List (Nat × AV)} {m:Mem} {a:Act} {w:World} (h:RSM B t m a w):∃ B':Base,B'.N=B.N∧RS B' (tget t) m a w∧∀ t' m' a' w',RS B' (tget t') m' a' w'→RSM B t' m' a' w':=by
  obtain ⟨Ds,g,hs,hI,hd,hz,hn,hD⟩:=h.ex
  have hO:=hI.over
  refine ⟨reB B w B.N a.defers (· ∈ Ds),rfl,⟨⟨g,hs,?_⟩,rfl,hz⟩,?_⟩
  · refine hI.back hO (Nat.le_refl _) (fun _ _ _=>rfl) (fun b o hf=>.inr (.inr fun hb=>(hD b hb).2.1 o hf)) (fun i o b hi hb=>.inr fun hz=>own_mark hI (hD b hz).1 i o hi hb)
  · rintro t' m' a' w' ⟨⟨g',hs',hI'⟩,hd',hz'⟩
    refine ⟨Ds,g',hs',hI'.out hO,hd'.trans hd,hz',hn,fun D hm=>?_⟩
    obtain ⟨h1,h2,h3⟩:=hD D hm
    have hlt:=lt_mark h1
    refine ⟨(hI'.block D hlt fun hx=>hx.1 hm).trans h1,fun o hf=>?_,h3⟩
    rcases hI'.fnew D o hf with h4 | h4 | h4
    · exact h2 o (hI.ext.F _ _ h4)
    · have h4:w.heap.size≤D:=h4
      omega
    · exact h4.1 hm
theorem rsm_shift {a b:St} (hs:Shift a b) {act:Act} {w:World} (h:RSM B b.t b.m act w):RSM B a.t a.m act w:=by
  obtain ⟨B',_,h1,h2⟩:=rsm_walk h
  exact h2 _ _ _ _ (hs B' act w h1)
theorem rsm_bump {t:List (Nat × AV)} {m:Mem} {a:Act} {w:World} (h:RSM B t m a w):RSM B t (bump m) a w:=by
  obtain ⟨B',_,h1,h2⟩:=rsm_walk h
  exact h2 _ _ _ _ h1.bump
def awpT (P:Program) (τ:List (Nat × TI)) (np:NPT) (CK:Nat→KT) (RC:Operand→Array Tmp→Code→Code→(Exit→TK)→TK):Code→(Exit→TK)→TK
  | .skip,Q=>Q .normal
  | .label _,Q=>Q .normal
  | .region id ops draw,Q=>awpC τ np CK (.region id ops draw) Q
  | .seq a b,Q=>awpT P τ np CK RC a (seqQ (awpT P τ np CK RC b Q) Q)
  | .cond c a b,Q=>condK c (awpT P τ np CK RC a Q) (awpT P τ np CK RC b Q)
  | .block id c,Q=>awpT P τ np CK RC c (blockQ id Q)
  | .loop c,Q=>fun t m=>∃ (X:Type) (I:X→List (Nat × AV) × Mem) (inv:X→Prop) (μ:X→Nat) (x0:X),inv x0∧Shift ⟨(I x0).1,(I x0).2⟩ ⟨t,m⟩ ∧
      ∀ x,inv x→awpT P τ np CK RC c (fun e t m=>match e with | .normal=>∃ x',inv x'∧Shift ⟨(I x').1,(I x').2⟩ ⟨t,m⟩∧μ x' < μ x | e=>Q e t m) (I x).1 (I x).2
  | .exit id,Q=>Q (.exit id)
  | .ret,Q=>Q .ret
  | .rangeFunc g ps a b,Q=>RC g ps a b Q
  | _,_=>fun _ _=>False
def concT (B:Base) (Q:Exit→TK):Exit→Act→World→Prop:=fun e a w=>∃ t m,RSM B t m a w∧Q e t m
def RCOk (P:Program) (N:Nat) (RC:Operand→Array Tmp→Code→Code→(Exit→TK)→TK):Prop:=∀ (B:Base),B.N=N→∀ gop ps a b Q t m act w,RSM B t m act w→RC gop ps a b Q t m→(Code.rangeFunc gop ps a b).wpIn Fence.wide 0 P (concT B Q) act w
theorem awpT_ok (hτ:TyOk P τ) {np:NPT} {CK:Nat→KT} (hCK:∀ f args d m k,CK f args d m k→callK P qc f args d m k) (hm:P.follows .mixedOrders=true) {RC:Operand→Array Tmp→Code→Code→(Exit→TK)→TK} (hRC:RCOk P N RC) (hN:B.N=N) :
    ∀ (c:Code) (_:codeOk qc np N c=true) (Q:Exit→TK) (t:List (Nat × AV)) (m:Mem) (a:Act) (w:World),RSM B t m a w→awpT P τ np CK RC c Q t m→c.wpIn Fence.wide 0 P (concT B Q) a w:=by
  have hCC:∀ f args d m k,callK P qc f args d m k→callK P qc f args d m k:=fun _ _ _ _ _ h=>h
  intro c
  induction c with
  | skip=>intro _ Q t m a w hR h;exact wpIn_skip ⟨t,m,hR,h⟩
  | label l=>intro _ Q t m a w hR h;exact wpIn_label ⟨t,m,hR,h⟩
  | exit id=>intro _ Q t m a w hR h;exact wpIn_exit ⟨t,m,hR,h⟩
  | ret=>intro _ Q t m a w hR h;exact wpIn_ret ⟨t,m,hR,h⟩
  | region id ops draw =>
    intro hc Q t m a w hR h
    obtain ⟨B',hN',h1,h2⟩:=rsm_walk hR
    refine wpIn_mono (wpIn_wide.2 (awp_ok (B:=B') hCC hm (hN'.trans hN) _ _ ⟨t,m⟩ a w h1 (awpC_ok hτ hCK hc h))) fun e a w ⟨σ,h3,h4⟩=>⟨σ.t,σ.m,h2 _ _ _ _ h3,h4⟩
  | seq x y ihx ihy =>
    intro hc Q t m a w hR h
    simp only [codeOk,Bool.and_eq_true] at hc
    refine wpIn_seq (wpIn_mono (ihx hc.1 _ t m a w hR h) fun e a w ⟨t',m',h1,h2⟩=>?_)
    cases e with
    | normal=>exact ihy hc.2 Q t' m' a w h1 h2
    | _=>exact ⟨t',m',h1,h2⟩
  | cond c x y iha ihb =>
    intro hc Q t m a w hR h
    simp only [codeOk,Bool.and_eq_true] at hc
    unfold awpT condK at h
    obtain ⟨v,h1,h2⟩:=evK_ok h
    split at h2
    · obtain ⟨_,g,hs,_⟩:=hR.ex
      have hv:=isBool (ev_rep hs h1)
      exact wpIn_cond_split hv (fun e=>iha hc.1 Q t m a w hR (h2.yes e)) (fun e=>ihb hc.2 Q t m a w hR (h2.no e))
    · exact h2.elim
  | block id c ih =>
    intro hc Q t m a w hR h
    refine wpIn_block (wpIn_mono (ih hc _ t m a w hR h) fun e a w ⟨t',m',h1,h2⟩=>?_)
    cases e with
    | exit i =>
      simp only [blockQ] at h2
      simp only [Exit.inBlock]
      cases hi:Nat.beq i id with
      | true=>rw [hi] at h2;rw [if_pos (natBeq hi)];exact ⟨t',m',h1,h2⟩
      | false=>rw [hi] at h2;rw [if_neg (natBeqF hi)];exact ⟨t',m',h1,h2⟩
    | _=>exact ⟨t',m',h1,h2⟩
  | loop c ih =>
    intro hc Q t m a w hR h
    obtain ⟨X,I,inv,μ,x0,h0,hs,hround⟩:=h
    refine wpIn_loop_ghost (fun n a w=>∃ x,inv x∧RSM B (I x).1 (I x).2 a w∧μ x=n) (μ x0) ⟨x0,h0,rsm_shift hs hR,rfl⟩ ?_
    intro n a w ⟨x,hx,hRx,hn⟩
    refine wpIn_mono (ih hc _ (I x).1 (I x).2 a w hRx (hround x hx)) fun e a' w' ⟨t',m',h1,h2⟩=>?_
    cases e with
    | normal =>
      obtain ⟨x',hx',hsh,hlt⟩:=h2
      exact ⟨μ x',by omega,x',hx',rsm_shift hsh h1,rfl⟩
    | _=>exact ⟨t',m',h1,h2⟩
  | rangeFunc f p x y _ _=>intro _ Q t m a w hR h;exact hRC B hN _ _ _ _ Q t m a w hR h
  | scope c ih=>intro _ Q t m a w hR h;exact h.elim
  | goto l=>intro _ Q t m a w hR h;exact h.elim
  | refuse s=>intro _ Q t m a w hR h;exact h.elim
theorem leaves_marks {fn:Func} {tmps:Array Value} {R:Ending→World→Prop} {g:G} {m:Mem}:∀ {Ds:List Nat} {w:World},Inv B g m w→Ds.Nodup→(∀ D ∈ Ds,w.heap[D]?=some (.deferred (some []))∧(∀ o,¬ g.F D o)∧B.w0.heap.size≤D) →
    (∀ w',Ext g w g w'→Inv B g m w'→∃ v,(results fn tmps).run P w'=.ok v w'∧R (.returned v) w')→LeavesInM Fence.wide 0 P fn tmps R (Ds.map markD) .returning w
  | [],w,hI,_,_,h=>by
    obtain ⟨v,h1,h2⟩:=h w (.refl _ _) hI
    exact leaves_none h1 h2
  | D :: r,w,hI,hn,hD,h=>by
    obtain ⟨h1,h2,h3⟩:=hD D (by simp)
    have hlt:=lt_mark h1
    obtain ⟨hnD,hnr⟩:=List.nodup_cons.1 hn
    obtain ⟨e1,i1⟩:=hI.foreign (grownBy_putObj' w D (.deferred none)) (.inl h3) h2 fun i o hi=>own_mark hI h1 i o hi
    rw [List.map_cons]
    unfold LeavesInM
    refine ⟨by simp,.inl ⟨D,_,rfl,run_takeDeferred h1,?_⟩⟩
    refine leaves_marks i1 hnr (fun D' hm=>?_) fun w' e2 i2=>h w' (e1.trans e2) i2
    obtain ⟨h4,h5,h6⟩:=hD D' (by simp [hm])
    exact ⟨(World.putObj_heap_other (fun e=>hnD (by rw [← e];exact hm))).trans h4,h5,h6⟩
theorem calls_of_T {f:FuncId} {fn:Func} {c:Code} {args:Array Value} {w:World} {R:Ending→World→Prop} (hf:P.funcs[f]?=some fn) (hb:fn.body=some c) {Q:Exit→TK}
    (h:c.wpIn Fence.wide 0 P (concT B Q) { tmps:=args ++ Array.replicate (fn.ntmps - args.size) undef,defers:=[] } w)
    (hQ:∀ e t m,Q e t m→(e=.normal ∨ e=.ret)∧∀ g (a:Act) w',Slots g w' (tget t) a→Inv B g m w'→∃ v,(results fn a.tmps).run P w'=.ok v w'∧R (.returned v) w'):Calls P f args w R:=by
  refine callsIn_wide (n:=0).1 (callsIn_of_wp_marks hf hb trivial (wpIn_mono h ?_))
  rintro e a w ⟨t,m,⟨Ds,g,hs,hI,hd,hz,hn,hD⟩,hq⟩
  obtain ⟨he,hq⟩:=hQ e t m hq
  have key:LeavesInM Fence.wide 0 P fn a.tmps R a.defers .returning w:=by
    rw [hd]
    exact leaves_marks hI hn hD fun w' e' i'=>hq g a w' (slots_ext hs e') i'
  rcases he with rfl | rfl <;> exact key
theorem rsm_of {t:List (Nat × AV)} {m:Mem} {a:Act} {w:World} (h:RS B (tget t) m a w) (hd:B.ds=[]):RSM B t m a w:=by
  obtain ⟨⟨g,hs,hI⟩,h1,h2⟩:=h
  exact ⟨[],g,hs,hI,h1.trans hd,h2,List.nodup_nil,fun D hm=>by cases hm⟩
theorem doesT_of {f : Nat} {fn : Func} {c : Code} {rs : Array ResultVar} {np : NPT} {CK : Nat → KT} {RC : Operand → Array Tmp → Code → Code → (Exit → TK) → TK} (hm : P.follows .mixedOrders = true) (hf : P.funcs[f]? = some fn) (hname : (fn.name == "runtime.NumGoroutine") = false) (hb : fn.body = some c) (hn : fn.ntmps = N) (hrs : fn.results = rs) (hτ : TyOk P τ)
    (hcode:codeOk qc np N c=true) {args:List AV} {r:AV} (hCK:∀ f args d m k,CK f args d m k→callK P qc f args d m k) (hRC:RCOk P N RC) (hsz:args.length≤N)
    (h:initK args fun t=>awpT P τ np CK RC c (fun e t m=>match e with
      | .normal=>resK τ t m rs.toList fun l=>purAsK m l fun l _=>r=oneOf l
      | .ret=>resK τ t m rs.toList fun l=>purAsK m l fun l _=>r=oneOf l
      | _=>False) t ⟨[],0,[]⟩):Does P f args r:=by
  subst hn
  refine ⟨callable hf hname hb,fun F w vals hF hl hr=>?_⟩
  let B:Base:={ w0:=w,X:=fun _=>False,g0:=g0 F,N:=fn.ntmps,gx:=fun _ h=>h.elim }
  have hI:Inv B (g0 F) ⟨[],0,[]⟩ w:={ ok:=fun i o h=>(by cases h),apart:=fun i j oi oj b h=>(by cases h),fresh:=fun _ _ _ h=>h.elim,flt:=hF,ext:=.refl _ _,fnew:=fun b o h=>.inl h,own:=fun i o b h=>(by cases h),os:=rfl,tape:=rfl,output:=rfl,size:=Nat.le_refl _,block:=fun _ _ _=>rfl }
  have hR:RS B (tget (initT args 0)) ⟨[],0,[]⟩ { tmps:=vals.toArray ++ Array.replicate (fn.ntmps - vals.toArray.size) undef,defers:=[] } w:=by
    refine ⟨⟨g0 F,fun t x hx=>?_,hI⟩,rfl,by simp [B];omega⟩
    obtain ⟨_,h2⟩:=initT_get args 0 t hx
    rw [Nat.sub_zero] at h2
    have ht:t < vals.length:=by rw [hl];exact (List.getElem?_eq_some_iff.1 h2).1
    refine ⟨vals[t],?_,hr t x _ h2 (List.getElem?_eq_getElem ht)⟩
    rw [Array.getElem?_append,if_pos (by simpa using ht)]
    simp [ht]
  refine calls_of_T (B:=B) hf hb (awpT_ok hτ hCK hm hRC rfl c hcode _ _ _ _ _ (rsm_of hR rfl) (initK_go h)) fun e t m hq=>?_
  have fin:(resK τ t m rs.toList fun l=>purAsK m l fun l _=>r=oneOf l)→∀ g (a:Act) w',Slots g w' (tget t) a→Inv B g m w'→∃ v',(results fn a.tmps).run P w'=.ok v' w'∧∃ v F',(Ending.returned v')=.returned v∧(∀ b o,F b o→F' b o)∧(∀ b o,F' b o→F b o ∨ w.heap.size≤b)∧(∀ b o,F' b o→b < w'.heap.size)∧RepA (g0 F') w' r v∧Below w.heap.size w w':=fun hr g a w' hs hI'=>by
    subst hrs
    obtain ⟨l,h1,h2⟩:=resK_ok hτ hr
    obtain ⟨l',m',h3,h4⟩:=purAsK_ok h2
    obtain ⟨v,g',m',q1,q2,q3,q4⟩:=results_ok (σ:=⟨t,m⟩) hs hI' ⟨l,l',m',h1,h3,h4⟩
    exact ⟨v,q1,v,g'.F,rfl,q3.ext.F,fun b o hF'=>by rcases q3.fnew b o hF' with h | h | h;exact .inl h;exact .inr h;exact h.elim,q3.flt,q4,⟨q3.os,q3.tape,q3.output,q3.size,fun k hk=>q3.block k hk (fun h=>h)⟩⟩
  cases e with
  | normal=>exact ⟨.inl rfl,fin hq⟩
  | ret=>exact ⟨.inr rfl,fin hq⟩
  | _=>exact hq.elim
end
end Go.Abs
