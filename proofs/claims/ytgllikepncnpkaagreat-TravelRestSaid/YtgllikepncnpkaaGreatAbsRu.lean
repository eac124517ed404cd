/- Proved here: what functions of the given program come to, and the plain laws of it; no condition but those in the theorems. -/
import Derived.Test.YtgllikepncnpkaaGreatAbsRs
/- A function that is given listed names and hands back two new objects that may name them: a closure with its boxes. -/
namespace Go.Abs
open Go.RowKit
set_option linter.unusedVariables false
set_option linter.unusedSimpArgs false
section
variable {D:Id→Prop} {ρ ρ':Id→Id}
mutual
theorem renC_congr (h:∀ i,D i→ρ i=ρ' i):∀ {c:Cell},inC D c→renC ρ c=renC ρ' c
  | .sc _,_=>rfl
  | .lst _,_=>rfl
  | .full _,_=>rfl
  | .view _ _ _,hc=>by simp only [renC,h _ hc]
  | .ptr _ _,hc=>by simp only [renC,h _ hc]
  | .aptr _ _ _,hc=>by simp only [renC,h _ hc]
  | .pel _,_=>rfl
  | .fn _ caps,hc=>by simp only [renC,renCs_congr h (l:=caps) hc]
theorem renCs_congr (h:∀ i,D i→ρ i=ρ' i):∀ {l:List Cell},inCs D l→renCs ρ l=renCs ρ' l
  | [],_=>rfl
  | c :: r,hc=>by simp only [renCs,renC_congr h hc.1,renCs_congr h hc.2]
end
mutual
theorem renA_congr (h:∀ i,D i→ρ i=ρ' i):∀ {x:AV},inA D x→renA ρ x=renA ρ' x
  | .c _,hc=>by simp only [renA,renC_congr h hc]
  | .agg _,hc=>by simp only [renA,renCs_congr h hc]
  | .tup l,hc=>by simp only [renA,renAs_congr h (l:=l) hc]
theorem renAs_congr (h:∀ i,D i→ρ i=ρ' i):∀ {l:List AV},inAs D l→renAs ρ l=renAs ρ' l
  | [],_=>rfl
  | c :: r,hc=>by simp only [renAs,renA_congr h hc.1,renAs_congr h hc.2]
end
theorem renO_congr (h:∀ i,D i→ρ i=ρ' i) {o:MObj} (hc:inO D o):renO ρ o=renO ρ' o:=by
  cases o with
  | blk cs=>simp only [renO,renCs_congr h (l:=cs) hc]
  | arr _ _ _ _=>rfl
end
section
variable {P:Program} {τ:List (Nat × TI)}
/-! Renamed objects and values, told out. -/
def forceId:Id→(Id→Prop)→Prop
  | .x n,k=>k (.x n)
  | .l s n,k=>k (.l s n)
theorem forceId_ok:∀ {i:Id} {k:Id→Prop},forceId i k→k i
  | .x _,_,h=>h
  | .l _ _,_,h=>h
mutual
def forceC:Cell→(Cell→Prop)→Prop
  | .view o lo n,k=>forceId o fun o=>k (.view o lo n)
  | .ptr i off,k=>forceId i fun i=>k (.ptr i off)
  | .aptr o i n,k=>forceId o fun o=>k (.aptr o i n)
  | .fn f caps,k=>forceCs caps fun caps=>k (.fn f caps)
  | .sc v,k=>k (.sc v)
  | .lst es,k=>k (.lst es)
  | .full es,k=>k (.full es)
  | .pel cs,k=>k (.pel cs)
def forceCs:List Cell→(List Cell→Prop)→Prop
  | [],k=>k []
  | c :: r,k=>forceC c fun c=>forceCs r fun r=>k (c :: r)
end
mutual
theorem forceC_ok:∀ {c:Cell} {k:Cell→Prop},forceC c k→k c
  | .view o lo n,k,h=>forceId_ok (k:=fun o=>k (.view o lo n)) h
  | .ptr i off,k,h=>forceId_ok (k:=fun i=>k (.ptr i off)) h
  | .aptr o i n,k,h=>forceId_ok (k:=fun o=>k (.aptr o i n)) h
  | .fn f caps,k,h=>forceCs_ok (l:=caps) (k:=fun caps=>k (.fn f caps)) h
  | .sc _,_,h=>h
  | .lst _,_,h=>h
  | .full _,_,h=>h
  | .pel _,_,h=>h
theorem forceCs_ok:∀ {l:List Cell} {k:List Cell→Prop},forceCs l k→k l
  | [],_,h=>h
  | c :: r,k,h=>forceCs_ok (l:=r) (k:=fun r=>k (c :: r)) (forceC_ok (c:=c) (k:=fun c=>forceCs r fun r=>k (c :: r)) h)
end
def forceO:MObj→(MObj→Prop)→Prop
  | .blk cs,k=>forceCs cs fun cs=>k (.blk cs)
  | .arr e sz es fr,k=>k (.arr e sz es fr)
theorem forceO_ok:∀ {o:MObj} {k:MObj→Prop},forceO o k→k o
  | .blk cs,k,h=>forceCs_ok (k:=fun cs=>k (.blk cs)) h
  | .arr _ _ _ _,_,h=>h
def forceOs:List MObj→(List MObj→Prop)→Prop
  | [],k=>k []
  | o :: r,k=>forceO o fun o=>forceOs r fun r=>k (o :: r)
theorem forceOs_ok:∀ {l:List MObj} {k:List MObj→Prop},forceOs l k→k l
  | [],_,h=>h
  | o :: r,k,h=>forceOs_ok (l:=r) (k:=fun r=>k (o :: r)) (forceO_ok (o:=o) (k:=fun o=>forceOs r fun r=>k (o :: r)) h)
mutual
def forceV:AV→(AV→Prop)→Prop
  | .c c,k=>forceC c fun c=>k (.c c)
  | .agg cs,k=>forceCs cs fun cs=>k (.agg cs)
  | .tup l,k=>forceVs l fun l=>k (.tup l)
def forceVs:List AV→(List AV→Prop)→Prop
  | [],k=>k []
  | x :: r,k=>forceV x fun x=>forceVs r fun r=>k (x :: r)
end
mutual
theorem forceV_ok:∀ {x:AV} {k:AV→Prop},forceV x k→k x
  | .c c,k,h=>forceC_ok (c:=c) (k:=fun c=>k (.c c)) h
  | .agg cs,k,h=>forceCs_ok (l:=cs) (k:=fun cs=>k (.agg cs)) h
  | .tup l,k,h=>forceVs_ok (l:=l) (k:=fun l=>k (.tup l)) h
theorem forceVs_ok:∀ {l:List AV} {k:List AV→Prop},forceVs l k→k l
  | [],_,h=>h
  | x :: r,k,h=>forceVs_ok (l:=r) (k:=fun r=>k (x :: r)) (forceV_ok (x:=x) (k:=fun x=>forceVs r fun r=>k (x :: r)) h)
end
structure WfH (args:List AV) (os:List MObj) (r:AV) (os':List MObj):Prop where
  r:xsA (os.length+2) r=true
  o':xsOs (os.length+2) os'=true
  len:os'.length=os.length+2
def DoesH (P:Program) (f:Nat) (args:List AV) (os:List MObj) (r:AV) (os':List MObj):Prop:=WfH args os r os'∧DoesM P f args (mX os) r (mX os')
def FunH (P:Program) (f:Nat) (R:RG):Prop:=∀ args os k,R args os k→∃ r os',DoesH P f args os r os'∧k r os'
def nsH (ns:List Id) (d nx:Nat):List Id:=ns ++ [.l d nx,.l (nxt d) nx]
def useK (d:Nat) (m:Mem) (o:List (Id × MObj)) (k:Mem→Prop):Prop:=match m with
  | ⟨_,nx,us⟩=>k ⟨o,nx,d :: us⟩
def cH (R:RG):KT:=fun args d m k=>match d with
  | none=>False
  | some d=>nxK m fun nx=>∃ ns:List Id,nodupI (nsH ns d nx)=true∧selAsK ns m args fun args' m1=>lsAs ns args'=true∧getsK ns m1.o fun os=>lsOs ns os=true ∧
    R (renAs (toX ns) args') (mapO (toX ns) os) fun r os'=>forceOs (mapO (ofX (nsH ns d nx)) os') fun os'=>setsK (nsH ns d nx) os' m1.o fun o'=>useK d m1 o' fun m'=>forceV (renA (ofX (nsH ns d nx)) r) fun r=>k r m' ⟨[],nsH ns d nx ++ idsAs args,true⟩
theorem nodup_left:∀ {a b:List Id},nodupI (a ++ b)=true→nodupI a=true
  | [],_,_=>rfl
  | i :: r,b,h=>by
    simp only [List.cons_append,nodupI] at h ⊢
    split at h
    · cases h
    · rename_i e
      cases e2:inI i r with
      | true=>rw [inI_append.2 (.inl e2)] at e;cases e
      | false=>exact nodup_left h
theorem fm_use {R W:List Id} {d:Nat} {m1 M M1:Mem} (u:UpdW W m1 M M1):fm { M1 with us:=d :: M1.us }=updF ⟨R,W,true⟩ (some d) (fm { m1 with us:=d :: m1.us }) (fm M) :=
  fm_ext (fun i=>u.o i) u.nx (fun s=>by
    simp only [fm,updF,memU,isD,u.us,Bool.true_and]
    cases Nat.beq s d <;> simp)
theorem cH_ok {f:Nat} {qc:Nat→Bool} {R:RG} (h:FunH P f R) (hq:qc f=false):KOk P qc f (cH R):=fun args d m k hk=>by
  unfold cH at hk
  split at hk
  · exact hk.elim
  rename_i d
  have hk:∃ ns:List Id,nodupI (nsH ns d m.nx)=true∧selAsK ns m args fun args' m1=>lsAs ns args'=true∧getsK ns m1.o fun os=>lsOs ns os=true ∧
    R (renAs (toX ns) args') (mapO (toX ns) os) fun r os'=>forceOs (mapO (ofX (nsH ns d m.nx)) os') fun os'=>setsK (nsH ns d m.nx) os' m1.o fun o'=>useK d m1 o' fun m'=>forceV (renA (ofX (nsH ns d m.nx)) r) fun r=>k r m' ⟨[],nsH ns d m.nx ++ idsAs args,true⟩:=by cases m;exact hk
  obtain ⟨ns,hnd,hk⟩:=hk
  obtain ⟨args',m2,h1,hla,hk⟩:=selAsK_ok hk
  obtain ⟨os,hl1,hg,hlo,hk⟩:=getsK_ok hk
  obtain ⟨r,os',⟨wf,hd⟩,hk⟩:=h _ _ _ hk
  have hk:=setsK_ok (forceOs_ok hk)
  unfold useK at hk
  have hk:=forceV_ok hk
  have hn:=nodup_left hnd
  have hlx:(mapO (toX ns) os).length=ns.length:=getD_len hl1
  have hnl:(nsH ns d m.nx).length=ns.length+2:=by simp [nsH]
  have hl':os'.length=(nsH ns d m.nx).length:=by rw [wf.len,hlx,hnl]
  have hlm:(mapO (ofX (nsH ns d m.nx)) os').length=(nsH ns d m.nx).length:=by rw [mapO_len,hl']
  have hl:=selAs_loc h1
  have hu:=updW_sets (ns:=nsH ns d m.nx) (l:=mapO (ofX (nsH ns d m.nx)) os') hlm hl.self
  have hnx0:m2.nx=m.nx:=hl.self.nx
  obtain ⟨mo,mn,mu⟩:=m2
  simp only at hnx0
  subst hnx0
  refine ⟨_,{ o:=sets (nsH ns d m.nx) (mapO (ofX (nsH ns d m.nx)) os') mo,nx:=m.nx,us:=d :: mu },_,⟨fm_use hu,fun M hM hf=>?_⟩,(fun e=>by rw [hq] at e;cases e),hk⟩
  obtain ⟨M2,g1,g2⟩:=hl.all M fun j hj=>hM.1 j (.inr (inI_append.2 (.inr hj)))
  have hnx:M2.nx=m.nx:=g2.nx.trans hM.2
  have hg2:∀ (j:Nat) i,ns[j]?=some i→∃ x,os[j]?=some x∧mget M2.o i=some x:=fun j i hj=>by
    obtain ⟨x,e1,e2⟩:=hg j i hj
    refine ⟨x,e1,?_⟩
    rw [g2.o i,← e2]
    by_cases e:inI i (idsAs args)=true
    · rw [if_pos e]
    · rw [if_neg e,hl.self.o i,if_neg e];exact hM.1 i (.inr (inI_append.2 (.inl (by unfold nsH;exact inI_append.2 (.inl (inI_get hj))))))
  have hus:memU d M2.us=false:=by rw [g2.us];exact hf
  refine ⟨{ M2 with o:=sets (nsH ns d m.nx) (mapO (ofX (nsH ns d m.nx)) os') M2.o,us:=d :: M2.us },?_,fm_use (updW_sets hlm g2)⟩
  refine callSem_sel g1 ?_
  obtain ⟨ha1,ha2⟩:=lsAs_ok hla
  have sub:∀ {k:Nat} {i:Id},ns[k]?=some i→(nsH ns d m.nx)[k]?=some i:=fun {k i} e=>by
    unfold nsH
    rw [List.getElem?_append_left (List.getElem?_eq_some_iff.1 e).1];exact e
  have ofs:∀ {i:Id},KX ns.length i→ofX (nsH ns d m.nx) i=ofX ns i:=fun {i} ⟨k,hk,e⟩=>by
    subst e
    rw [ofX_x (sub (List.getElem?_eq_getElem hk)),ofX_x (List.getElem?_eq_getElem hk)]
  have kx:∀ i,keys (mX (mapO (toX ns) os)) i ↔ KX ns.length i:=fun i=>by rw [keys_mX,hlx]
  have kx':∀ i,keys (mX os') i ↔ KX (ns.length+2) i:=fun i=>by rw [keys_mX,hl',hnl]
  have inK:KX ns.length=keys (mX (mapO (toX ns) os)):=funext fun i=>propext (kx i).symm
  have hof:∀ i,KX (ns.length+2) i→∃ n,i=.x n∧n < ns.length+2∧(nsH ns d m.nx)[n]?=some (ofX (nsH ns d m.nx) i):=fun i ⟨n,hn,e⟩=>by
    subst e
    have hn':n < (nsH ns d m.nx).length:=by omega
    exact ⟨n,rfl,hn,by rw [ofX_x (List.getElem?_eq_getElem hn')];exact List.getElem?_eq_getElem hn'⟩
  have kx2:∀ i,KX ns.length i→KX (ns.length+2) i:=fun i ⟨k,hk,e⟩=>⟨k,by omega,e⟩
  have hD:(fun i=>keys (mX (mapO (toX ns) os)) i ∨ keys (mX os') i)=KX (ns.length+2):=funext fun i=>propext ⟨fun h=>h.elim (fun h=>kx2 i ((kx i).1 h)) (kx' i).1,fun h=>.inr ((kx' i).2 h)⟩
  have ren_args:renAs (ofX (nsH ns d m.nx)) (renAs (toX ns) args')=args':=by
    have:=renAs_congr (l:=renAs (toX ns) args') (D:=KX ns.length) (ρ:=ofX (nsH ns d m.nx)) (ρ':=ofX ns) (fun i hi=>ofs hi) ha2
    rw [this,ha1]
  have hc:=callM (ρ:=ofX (nsH ns d m.nx)) (M:=M2) (M':={ M2 with o:=sets (nsH ns d m.nx) (mapO (ofX (nsH ns d m.nx)) os') M2.o,us:=d :: M2.us }) hd ⟨fun i o hi=>?_,fun j o hj=>?_,fun i a b=>?_,fun a b ha hb e=>?_,fun s k hh=>?_⟩ (by rw [← inK];exact ha2) (by rw [hD];have:=xsA_ok wf.r;rwa [hlx] at this)
  · rw [ren_args] at hc
    exact hc
  · obtain ⟨n,e1,e2⟩:=mget_nameX.1 hi
    rw [mapO_get] at e2
    obtain ⟨x,e3,rfl⟩:=Option.map_eq_some_iff.1 e2
    have hnl:n < ns.length:=by rw [← hl1];exact (List.getElem?_eq_some_iff.1 e3).1
    obtain ⟨y,e4,e5⟩:=hg2 n ns[n] (List.getElem?_eq_getElem hnl)
    rw [e3] at e4
    cases e4
    obtain ⟨q1,q2⟩:=lsO_ok (lsOs_get hlo e3)
    refine ⟨?_,by rw [← inK];exact q2⟩
    rw [renO_congr (D:=KX ns.length) (ρ':=ofX ns) (fun i hi=>ofs hi) q2,q1,e1,Nat.zero_add,ofX_x (sub (List.getElem?_eq_getElem hnl))]
    exact e5
  · obtain ⟨s1,s2⟩:=mget_sets (ns:=nsH ns d m.nx) (l:=mapO (ofX (nsH ns d m.nx)) os') (o:=M2.o) (j:=j) hlm hnd
    cases e:inI j (nsH ns d m.nx) with
    | true =>
      obtain ⟨n,hp⟩:=posI_in (n:=0) e
      obtain ⟨_,hp⟩:=posI_spec hp
      rw [Nat.sub_zero] at hp
      have hj':=s1 n hp
      rw [show mget (sets (nsH ns d m.nx) (mapO (ofX (nsH ns d m.nx)) os') M2.o) j=some o from hj,mapO_get] at hj'
      obtain ⟨x,e3,e4⟩:=Option.map_eq_some_iff.1 hj'.symm
      exact .inl ⟨.x n,x,mget_nameX.2 ⟨n,by congr 1;omega,e3⟩,ofX_x hp,e4.symm,by rw [hD];have:=xsO_ok (xsOs_get wf.o' e3);rwa [hlx] at this⟩
    | false =>
      refine .inr ⟨by rw [← s2 e];exact hj,fun i hi e'=>?_⟩
      obtain ⟨n,_,_,h3⟩:=hof i (kx2 i ((kx i).1 hi))
      rw [e'] at h3
      rw [inI_get h3] at e
      cases e
  · obtain ⟨n,rfl,h2,h3⟩:=hof i ((kx' i).1 a)
    have hge:ns.length≤n:=Nat.le_of_not_lt fun hlt=>b ((kx _).2 ⟨n,hlt,rfl⟩)
    have hn2:n=ns.length ∨ n=ns.length+1:=by omega
    rcases hn2 with rfl | rfl
    · refine ⟨d,m.nx,?_,by rw [← hnx];exact not_used hus,.inr ⟨hnx.symm,usd_self hus⟩⟩
      rw [show (nsH ns d m.nx)[ns.length]?=some (.l d m.nx) by simp [nsH]] at h3
      exact (Option.some.inj h3).symm
    · refine ⟨nxt d,m.nx,?_,by rw [← hnx];exact not_used' hus,.inr ⟨hnx.symm,usd_next hus⟩⟩
      rw [show (nsH ns d m.nx)[ns.length+1]?=some (.l (nxt d) m.nx) by simp [nsH]] at h3
      exact (Option.some.inj h3).symm
  · have ha':KX (ns.length+2) a:=ha.elim (fun h=>kx2 a ((kx a).1 h)) (kx' a).1
    have hb':KX (ns.length+2) b:=hb.elim (fun h=>kx2 b ((kx b).1 h)) (kx' b).1
    obtain ⟨n,rfl,_,h3⟩:=hof a ha'
    obtain ⟨n',rfl,_,h4⟩:=hof b hb'
    rw [← e] at h4
    rw [nodup_get hnd h3 h4]
  · rcases hh with h | ⟨h,h'⟩
    · exact .inl h
    · exact .inr ⟨h,usd_cons h'⟩
/-- Results that name two new objects. -/
def resH (n:Nat) (k:AV→List MObj→Prop) (l:List AV) (m:Mem):Prop:=∃ i1 i2,nodupI (xsN 0 n ++ [i1,i2])=true∧selAsK (xsN 0 n ++ [i1,i2]) m l fun l mf=>lsAs (xsN 0 n ++ [i1,i2]) l=true∧getsK (xsN 0 n ++ [i1,i2]) mf.o fun os'=>lsOs (xsN 0 n ++ [i1,i2]) os'=true ∧
  xsA (n+2) (renA (toX (xsN 0 n ++ [i1,i2])) (oneOf l))=true∧xsOs (n+2) (mapO (toX (xsN 0 n ++ [i1,i2])) os')=true∧k (renA (toX (xsN 0 n ++ [i1,i2])) (oneOf l)) (mapO (toX (xsN 0 n ++ [i1,i2])) os')
theorem doesH_ex {qc : Nat → Bool} {np : NPT} {f : Nat} {fn : Func} {c : Code} {rs : Array ResultVar} {CK : Nat → KT} (hm : P.follows .mixedOrders = true) (hf : P.funcs[f]? = some fn) (hname : (fn.name == "runtime.NumGoroutine") = false) (hb : fn.body = some c) {N : Nat} (hn : fn.ntmps = N) (hrs : fn.results = rs) (hτ : TyOk P τ)
    (hcode:codeOk qc np N c=true) {args:List AV} {os:List MObj} {k:AV→List MObj→Prop} (hCK:∀ f args d m k,CK f args d m k→callK P qc f args d m k) (hsz:args.length≤N)
    (h:initK args fun t=>awpC τ np CK c (fun e t mm=>match e with
      | .normal=>resK τ t mm rs.toList fun l=>resH os.length k l mm
      | .ret=>resK τ t mm rs.toList fun l=>resH os.length k l mm
      | _=>False) t ⟨mX os,0,[]⟩):∃ r os',DoesH P f args os r os'∧k r os':=by
  obtain ⟨ef,σf,h1,h2⟩:=awp_det (awpC_ok hτ hCK hcode (initK_go h))
  have hef:(ef=.normal ∨ ef=.ret)∧resK τ σf.t σf.m rs.toList fun l=>resH os.length k l σf.m:=by
    cases ef with
    | normal=>exact ⟨.inl rfl,h1⟩
    | ret=>exact ⟨.inr rfl,h1⟩
    | _=>exact h1.elim
  obtain ⟨l,h3,i1,i2,hnd,h4⟩:=resK_ok hτ hef.2
  obtain ⟨l',m',h5,hls,h6⟩:=selAsK_ok h4
  obtain ⟨os',g1,g2,g3,g4,g5,hk⟩:=getsK_ok h6
  have hnl:(xsN 0 os.length ++ [i1,i2]).length=os.length+2:=by simp [xsN_len]
  have hone:∀ {ns:List Id} {l:List AV},lsAs ns l=true→lsA ns (oneOf l)=true:=fun {ns l} h=>by
    match l,h with
    | [],_=>rfl
    | [x],h =>
      simp only [lsAs] at h
      split at h
      · rename_i e;exact e
      · cases h
    | x :: y :: r,h=>exact h
  obtain ⟨q1,q2⟩:=lsA_ok (hone hls)
  have hlo:(mapO (toX (xsN 0 os.length ++ [i1,i2])) os').length=os.length+2:=by rw [mapO_len,g1,hnl]
  have kx:∀ i,keys (mX os) i ↔ KX os.length i:=fun i=>keys_mX
  have kx':∀ i,keys (mX (mapO (toX (xsN 0 os.length ++ [i1,i2])) os')) i ↔ KX (os.length+2) i:=fun i=>by rw [keys_mX,hlo]
  have hD:(fun i=>keys (mX os) i ∨ keys (mX (mapO (toX (xsN 0 os.length ++ [i1,i2])) os')) i)=KX (os.length+2):=funext fun i=>propext ⟨fun h=>h.elim (fun h=>by obtain ⟨k,hk,e⟩:=(kx i).1 h;exact ⟨k,by omega,e⟩) (kx' i).1,fun h=>.inr ((kx' i).2 h)⟩
  have hof:∀ {n:Nat},n < os.length+2→(xsN 0 os.length ++ [i1,i2])[n]?=some (ofX (xsN 0 os.length ++ [i1,i2]) (.x n)):=fun {n} hn=>by
    have hn':n < (xsN 0 os.length ++ [i1,i2]).length:=by omega
    rw [ofX_x (List.getElem?_eq_getElem hn')];exact List.getElem?_eq_getElem hn'
  have hh:awp P qc np (callK P qc) N c (fun e σ=>(match e with | .normal=>True | .ret=>True | _=>False)∧RetS P (xsN 0 os.length ++ [i1,i2]) fn σ (fun rf mf=>∃ ρ,LeafM ρ (mX os) (mX (mapO (toX (xsN 0 os.length ++ [i1,i2])) os')) (renA (toX (xsN 0 os.length ++ [i1,i2])) (oneOf l')) mf.o rf)) ⟨initT args 0,⟨mX os,0,[]⟩⟩:=by
    refine awp_mono ?_ h2
    rintro e σ ⟨rfl,rfl⟩
    refine ⟨?_,l,l',m',by rw [hrs];exact h3,h5,ofX (xsN 0 os.length ++ [i1,i2]),?_⟩
    · rcases hef.1 with rfl | rfl <;> trivial
    · refine ⟨q1,by rw [hD,← hnl];exact q2,fun j o' hj=>?_,fun a b ha hb e=>?_,fun j hj=>?_⟩
      · obtain ⟨n,e1,e2⟩:=mget_nameX.1 hj
        rw [Nat.zero_add] at e1
        subst e1
        rw [mapO_get] at e2
        obtain ⟨x,e3,rfl⟩:=Option.map_eq_some_iff.1 e2
        have hn:n < os.length+2:=by rw [← hnl,← g1];exact (List.getElem?_eq_some_iff.1 e3).1
        obtain ⟨y,e4,e5⟩:=g2 n _ (hof hn)
        rw [e3] at e4
        cases e4
        obtain ⟨w1,w2⟩:=lsO_ok (lsOs_get g3 e3)
        exact ⟨by rw [w1];exact e5,by rw [hD,← hnl];exact w2⟩
      · obtain ⟨n,hn,rfl⟩:=(kx' a).1 ha
        obtain ⟨n',hn',rfl⟩:=(kx' b).1 hb
        have h3:=hof hn
        have h4:=hof hn'
        rw [← e] at h4
        rw [nodup_get hnd h3 h4]
      · obtain ⟨n,hn,rfl⟩:=(kx j).1 hj
        have:=xsN_get (n:=os.length) (i:=0) (k:=n) hn
        rw [Nat.zero_add] at this
        exact ofX_x (by rw [List.getElem?_append_left (by rw [xsN_len];exact hn)];exact this)
  exact ⟨_,_,⟨⟨g4,g5,by rw [mapO_len,g1,hnl]⟩,spec_ofS (qc:=qc) (np:=np) (CK:=callK P qc) hm hf hname hb hn (fun i hi=>by obtain ⟨n,_,e⟩:=keys_mX.1 hi;exact ⟨n,e⟩) (fun _ _ _ _ _ h=>h) hsz hh⟩,hk⟩
end
end Go.Abs

/- The statement of a range over a function whose body replaces some of the named objects by new ones. -/
namespace Go.Abs
open Go.RowKit
set_option linter.unusedVariables false
set_option linter.unusedSimpArgs false
theorem nodup_right:∀ {b c:List Id},nodupI (b ++ c)=true→nodupI c=true
  | [],_,h=>h
  | x :: b,c,h=>by
    simp only [List.cons_append,nodupI] at h
    split at h
    · cases h
    · exact nodup_right h
theorem nodup_mid:∀ {a b c:List Id},nodupI ((a ++ b) ++ c)=true→nodupI (a ++ c)=true
  | [],b,c,h=>nodup_right h
  | x :: a,b,c,h=>by
    simp only [List.cons_append,nodupI] at h ⊢
    split at h
    · cases h
    · rename_i e
      cases e2:inI x (a ++ c) with
      | true =>
        rcases inI_append.1 e2 with h2 | h2
        · rw [inI_append.2 (.inl (inI_append.2 (.inl h2)))] at e;cases e
        · rw [inI_append.2 (.inr h2)] at e;cases e
      | false=>exact nodup_mid h
def jsW:List Nat→Nat→List Id
  | [],_=>[]
  | s :: r,k=>.l s k :: jsW r k
theorem jsW_len {k:Nat}:∀ {l:List Nat},(jsW l k).length=l.length
  | []=>rfl
  | _ :: r=>by simp [jsW,jsW_len (l:=r)]
theorem jsW_get {k:Nat}:∀ {l:List Nat} {n:Nat},(jsW l k)[n]?=(l[n]?).map fun s=>Id.l s k
  | [],n=>by simp [jsW]
  | s :: r,0=>by simp [jsW]
  | s :: r,n+1=>by simpa [jsW] using jsW_get (l:=r) (n:=n)
def dels:List Id→List (Id × MObj)→List (Id × MObj)
  | [],o=>o
  | i :: r,o=>dels r (mdel o i)
theorem mget_dels:∀ {ns:List Id} {o:List (Id × MObj)} {j:Id},mget (dels ns o) j=if inI j ns=true then none else mget o j
  | [],o,j=>by simp [dels,inI]
  | i :: r,o,j=>by
    rw [dels,mget_dels (ns:=r),mget_mdel]
    by_cases e:j=i
    · simp [e,inI_cons.2 (.inl rfl)]
    · cases e2:inI j r with
      | true=>simp [inI_cons.2 (.inr e2)]
      | false =>
        have:inI j (i :: r)=false:=by
          cases e3:inI j (i :: r) with
          | false=>rfl
          | true=>rcases inI_cons.1 e3 with h | h;exact absurd h e;rw [h] at e2;cases e2
        simp [this,e]
def nameY (n:Nat) (a b:List MObj):List (Id × MObj):=nameX 0 a ++ nameX n b
theorem mget_app:∀ {a b:List (Id × MObj)} {i:Id},mget (a ++ b) i=match mget a i with | some o=>some o | none=>mget b i
  | [],b,i=>rfl
  | (j,p) :: r,b,i=>by
    simp only [List.cons_append,mget]
    split
    · rfl
    · exact mget_app (a:=r)
theorem mget_nameY {n:Nat} {a b:List MObj} (h:a.length≤n) {i:Id} {o:MObj}:mget (nameY n a b) i=some o ↔ (∃ k,i=.x k∧a[k]?=some o) ∨ ∃ k,i=.x (n+k)∧b[k]?=some o:=by
  unfold nameY
  rw [mget_app]
  have h1:=@mget_nameX a 0 i
  have h2:=@mget_nameX b n i o
  constructor
  · intro hh
    split at hh
    · rename_i p e
      cases hh
      obtain ⟨k,q1,q2⟩:=h1.1 e
      exact .inl ⟨k,by rw [q1,Nat.zero_add],q2⟩
    · exact .inr (h2.1 hh)
  · rintro (⟨k,rfl,q⟩ | q)
    · have:mget (nameX 0 a) (.x k)=some o:=mget_nameX.2 ⟨k,by rw [Nat.zero_add],q⟩
      rw [this]
    · obtain ⟨k,rfl,q⟩:=q
      have:mget (nameX 0 a) (.x (n+k))=none:=by
        cases e:mget (nameX 0 a) (.x (n+k)) with
        | none=>rfl
        | some p =>
          obtain ⟨k',q1,q2⟩:=mget_nameX.1 e
          have:=(List.getElem?_eq_some_iff.1 q2).1
          simp at q1
          omega
      rw [this]
      exact h2.2 ⟨k,rfl,q⟩
/-- Slots that are free now. -/
def freshS (us:List Nat):List Nat→Bool
  | []=>true
  | s :: r=>match memU s us with
    | false=>freshS us r
    | true=>false
theorem freshS_get {us:List Nat}:∀ {l:List Nat},freshS us l=true→∀ s ∈ l,memU s us=false
  | [],_,s,hs=>by cases hs
  | a :: r,h,s,hs=>by
    simp only [freshS] at h
    split at h
    · rename_i e
      rcases List.mem_cons.1 hs with rfl | hs
      · exact e
      · exact freshS_get h s hs
    · cases h
theorem usd_app {s:Nat} {us:List Nat}:∀ {l:List Nat},usd s us=true→usd s (l ++ us)=true
  | [],h=>h
  | a :: r,h=>usd_cons (usd_app (l:=r) h)
theorem usd_mem {s:Nat} {us:List Nat} (hs:lowS s=true):∀ {l:List Nat},s ∈ l→usd s (l ++ us)=true
  | [],h=>by cases h
  | a :: r,h=>by
    rcases List.mem_cons.1 h with rfl | h
    · simp only [usd,hs,List.cons_append,memU_self]
    · exact usd_cons (usd_mem hs h)
/-- The whole's memory behind the statement. -/
def memN' (nk nd:List Id) (ss:List Nat) (os':List MObj) (M:Mem):Mem:={ o:=sets (nk ++ jsW ss M.nx) os' (dels nd M.o),nx:=M.nx,us:=ss ++ M.us }
section
variable {P:Program} {B:Base}
theorem link_new {nk nd:List Id} {ss:List Nat} {os ok on:List MObj} {M:Mem} (hn:nodupI ((nk ++ nd) ++ jsW ss M.nx)=true) (hf:freshS M.us ss=true) (hl1:os.length=(nk ++ nd).length)
    (hg2:∀ (j:Nat) i,(nk ++ nd)[j]?=some i→∃ x,os[j]?=some x∧mget M.o i=some x) (hlo:lsOs (nk ++ nd) os=true) (hok:ok.length=nk.length) (hon:on.length=ss.length)
    (hin:∀ o,o ∈ ok ∨ o ∈ on→inO (KX ((nk ++ nd) ++ jsW ss M.nx).length) o) :
    LinkM (ofX ((nk ++ nd) ++ jsW ss M.nx)) (mX (mapO (toX (nk ++ nd)) os)) (nameY (nk ++ nd).length ok on) M (memN' nk nd ss (mapO (ofX ((nk ++ nd) ++ jsW ss M.nx)) (ok ++ on)) M):=by
  generalize hns:nk ++ nd=ns at *
  generalize hW:ns ++ jsW ss M.nx=nsW at *
  have hnk:nk.length≤ns.length:=by rw [← hns];simp
  have hnW:nsW.length=ns.length+ss.length:=by rw [← hW];simp [jsW_len]
  have hlx:(mapO (toX ns) os).length=ns.length:=getD_len hl1
  have sub:∀ {k:Nat} {i:Id},ns[k]?=some i→nsW[k]?=some i:=fun {k i} e=>by
    rw [← hW,List.getElem?_append_left (List.getElem?_eq_some_iff.1 e).1];exact e
  have ofs:∀ i,KX ns.length i→ofX nsW i=ofX ns i:=fun i ⟨k,hk,e⟩=>by
    subst e
    rw [ofX_x (sub (List.getElem?_eq_getElem hk)),ofX_x (List.getElem?_eq_getElem hk)]
  have kx:∀ i,keys (mX (mapO (toX ns) os)) i ↔ KX ns.length i:=fun i=>by rw [keys_mX,hlx]
  have inK:KX ns.length=keys (mX (mapO (toX ns) os)):=funext fun i=>propext (kx i).symm
  have kxW:∀ i,keys (nameY ns.length ok on) i→KX nsW.length i∧(KX ns.length i ∨ ∃ k,k < ss.length∧i=.x (ns.length+k)):=fun i ⟨o,ho⟩=>by
    rcases (mget_nameY (by omega)).1 ho with ⟨k,rfl,q⟩ | ⟨k,rfl,q⟩
    · have:=(List.getElem?_eq_some_iff.1 q).1
      exact ⟨⟨k,by omega,rfl⟩,.inl ⟨k,by omega,rfl⟩⟩
    · have:=(List.getElem?_eq_some_iff.1 q).1
      exact ⟨⟨_,by omega,rfl⟩,.inr ⟨k,by omega,rfl⟩⟩
  have hof:∀ i,KX nsW.length i→∃ n,i=.x n∧n < nsW.length∧nsW[n]?=some (ofX nsW i):=fun i ⟨n,hn,e⟩=>by
    subst e
    exact ⟨n,rfl,hn,by rw [ofX_x (List.getElem?_eq_getElem hn)];exact List.getElem?_eq_getElem hn⟩
  have inW:∀ i,KX ns.length i→KX nsW.length i:=fun i ⟨k,hk,e⟩=>⟨k,by omega,e⟩
  have hlen:(mapO (ofX nsW) (ok ++ on)).length=(nk ++ jsW ss M.nx).length:=by rw [mapO_len];simp [jsW_len,hok,hon]
  have hkeep:∀ i,KX nsW.length i→(keys (mX (mapO (toX ns) os)) i ∨ keys (nameY ns.length ok on) i):=fun i ⟨k,hk,e⟩=>by
    by_cases h:k < ns.length
    · exact .inl ((kx i).2 ⟨k,h,e⟩)
    · have hk2:k - ns.length < on.length:=by omega
      exact .inr ⟨on[k - ns.length],(mget_nameY (by omega)).2 (.inr ⟨k - ns.length,by rw [e];congr 1;omega,List.getElem?_eq_getElem hk2⟩)⟩
  have hDW:KX nsW.length=fun i=>keys (mX (mapO (toX ns) os)) i ∨ keys (nameY ns.length ok on) i:=funext fun i=>propext ⟨hkeep i,fun h=>h.elim (fun h=>inW i ((kx i).1 h)) fun h=>(kxW i h).1⟩
  -- positions of the new list in nsW
  have posW:∀ {k:Nat} {j:Id},(nk ++ jsW ss M.nx)[k]?=some j→∃ k',nsW[k']?=some j∧((k < nk.length∧k'=k) ∨ (nk.length≤k∧k'=ns.length+(k - nk.length))):=fun {k j} h=>by
    by_cases hk:k < nk.length
    · rw [List.getElem?_append_left hk] at h
      exact ⟨k,sub (by rw [← hns,List.getElem?_append_left hk];exact h),.inl ⟨hk,rfl⟩⟩
    · rw [List.getElem?_append_right (by omega)] at h
      exact ⟨ns.length+(k - nk.length),by rw [← hW,List.getElem?_append_right (by omega),Nat.add_sub_cancel_left];exact h,.inr ⟨by omega,rfl⟩⟩
  have hn':nodupI (nk ++ jsW ss M.nx)=true:=by
    rw [← hW,← hns] at hn
    exact nodup_mid hn
  refine ⟨fun i o hi=>?_,fun j o hj=>?_,fun i a b=>?_,fun a b ha hb e=>?_,fun s k hh=>?_⟩
  · obtain ⟨n,e1,e2⟩:=mget_nameX.1 hi
    rw [mapO_get] at e2
    obtain ⟨x,e3,rfl⟩:=Option.map_eq_some_iff.1 e2
    have hnl:n < ns.length:=by rw [← hl1];exact (List.getElem?_eq_some_iff.1 e3).1
    obtain ⟨y,e4,e5⟩:=hg2 n ns[n] (List.getElem?_eq_getElem hnl)
    rw [e3] at e4
    cases e4
    obtain ⟨q1,q2⟩:=lsO_ok (lsOs_get hlo e3)
    refine ⟨?_,by rw [← inK];exact q2⟩
    rw [renO_congr (D:=KX ns.length) (ρ':=ofX ns) ofs q2,q1,e1,Nat.zero_add,ofX_x (sub (List.getElem?_eq_getElem hnl))]
    exact e5
  · obtain ⟨s1,s2⟩:=mget_sets (ns:=nk ++ jsW ss M.nx) (l:=mapO (ofX nsW) (ok ++ on)) (o:=dels nd M.o) (j:=j) hlen hn'
    have hj:mget (sets (nk ++ jsW ss M.nx) (mapO (ofX nsW) (ok ++ on)) (dels nd M.o)) j=some o:=hj
    cases e:inI j (nk ++ jsW ss M.nx) with
    | true =>
      obtain ⟨n,hp⟩:=posI_in (n:=0) e
      obtain ⟨_,hp⟩:=posI_spec hp
      rw [Nat.sub_zero] at hp
      have hj':=s1 n hp
      rw [hj,mapO_get] at hj'
      obtain ⟨x,e3,e4⟩:=Option.map_eq_some_iff.1 hj'.symm
      obtain ⟨k',hk1,hk2⟩:=posW hp
      refine .inl ⟨.x k',x,(mget_nameY (by omega)).2 ?_,ofX_x hk1,e4.symm,?_⟩
      · rcases hk2 with ⟨h1,rfl⟩ | ⟨h1,rfl⟩
        · exact .inl ⟨_,rfl,by rw [List.getElem?_append_left (by omega)] at e3;exact e3⟩
        · exact .inr ⟨_,rfl,by rw [List.getElem?_append_right (by omega),hok] at e3;exact e3⟩
      · rw [← hDW]
        exact hin x (by have:=List.mem_of_getElem? e3;simpa using this)
    | false =>
      rw [s2 e,mget_dels] at hj
      split at hj
      · cases hj
      rename_i e2
      refine .inr ⟨hj,fun i hi e'=>?_⟩
      obtain ⟨n,h1,h2⟩:=(kx i).1 hi
      subst h2
      have h3:ns[n]?=some j:=by rw [← e',ofs _ ⟨n,h1,rfl⟩,ofX_x (List.getElem?_eq_getElem h1)];exact List.getElem?_eq_getElem h1
      rw [← hns] at h3
      rcases inI_append.1 (inI_get h3) with h4 | h4
      · rw [inI_append.2 (.inl h4)] at e;cases e
      · exact e2 h4
  · obtain ⟨h1,h2⟩:=kxW i a
    rcases h2 with h2 | ⟨k,hk,rfl⟩
    · exact absurd ((kx i).2 h2) b
    · have h3:nsW[ns.length+k]?=some (.l ss[k] M.nx):=by rw [← hW,List.getElem?_append_right (by omega),Nat.add_sub_cancel_left,jsW_get,List.getElem?_eq_getElem hk];rfl
      have hm:=freshS_get hf ss[k] (List.getElem_mem hk)
      exact ⟨ss[k],M.nx,ofX_x h3,not_used hm,.inr ⟨rfl,usd_mem (memU_big hm) (List.getElem_mem hk)⟩⟩
  · have ha':KX nsW.length a:=ha.elim (fun h=>inW a ((kx a).1 h)) fun h=>(kxW a h).1
    have hb':KX nsW.length b:=hb.elim (fun h=>inW b ((kx b).1 h)) fun h=>(kxW b h).1
    obtain ⟨n,rfl,_,h3⟩:=hof a ha'
    obtain ⟨n',rfl,_,h4⟩:=hof b hb'
    rw [← e] at h4
    rw [nodup_get hn h3 h4]
  · rcases hh with h | ⟨h,h'⟩
    · exact .inl h
    · exact .inr ⟨h,usd_app h'⟩
end
namespace Part
variable {p:Part} {N:Nat} {g':G} {m':Mem} {w':World}
theorem part_new {os ok on:List MObj} {ids:List Id} (hm:p.m=mX os) (hK:∀ i,p.g.K i→keys p.m i) (hI:Inv (p.qB p.w p.g.F N []) g' m' w') (hnd:nodupI (xsN 0 os.length ++ ids)=true) (hok:ok.length≤os.length) (hon:on.length=ids.length)
    (hgk:∀ (j:Nat) o,ok[j]?=some o→mget m'.o (.x j)=some o) (hgn:∀ (j:Nat) o,on[j]?=some o→∃ i,ids[j]?=some i∧mget m'.o i=some o) (hls:lsOs (xsN 0 os.length ++ ids) ok=true) (hls2:lsOs (xsN 0 os.length ++ ids) on=true) {nW:Nat} (hnW:nW=os.length+ids.length) :
    ∃ gx,gx.F=g'.F∧Ext p.g p.w gx w'∧MInv gx (nameY os.length (mapO (toX (xsN 0 os.length ++ ids)) ok) (mapO (toX (xsN 0 os.length ++ ids)) on)) w'∧(∀ i,gx.K i→keys p.m i ∨ keys (nameY os.length (mapO (toX (xsN 0 os.length ++ ids)) ok) (mapO (toX (xsN 0 os.length ++ ids)) on)) i) ∧
      Frame p.g p.m p.w gx (nameY os.length (mapO (toX (xsN 0 os.length ++ ids)) ok) (mapO (toX (xsN 0 os.length ++ ids)) on)) w'∧∀ o,o ∈ mapO (toX (xsN 0 os.length ++ ids)) ok ∨ o ∈ mapO (toX (xsN 0 os.length ++ ids)) on→inO (KX nW) o:=by
  subst hnW
  generalize hns:xsN 0 os.length ++ ids=nsP at *
  have hnP:nsP.length=os.length+ids.length:=by rw [← hns];simp [xsN_len]
  have hx:∀ {k:Nat},k < os.length→nsP[k]?=some (.x k):=fun {k} hk=>by
    rw [← hns,List.getElem?_append_left (by rw [xsN_len];exact hk),xsN_get hk,Nat.zero_add]
  have hi':∀ {k:Nat} {i:Id},ids[k]?=some i→nsP[os.length+k]?=some i:=fun {k i} h=>by
    rw [← hns,List.getElem?_append_right (by rw [xsN_len];omega),xsN_len,Nat.add_sub_cancel_left];exact h
  have same:∀ i,KX os.length i→ofX nsP i=i:=fun i ⟨k,hk,e⟩=>by subst e;exact ofX_x (hx hk)
  have hlink:Link (ofX nsP) (KX nsP.length) (pull (ofX nsP) (KX nsP.length) g') g':=pull_link
  have kx:∀ i,keys p.m i ↔ KX os.length i:=fun i=>by rw [hm,keys_mX]
  have hokl:(mapO (toX nsP) ok).length≤os.length:=by rw [mapO_len];exact hok
  have memb:∀ {l:List MObj} {k:Nat} {o:MObj},lsOs nsP l=true→(mapO (toX nsP) l)[k]?=some o→∃ x,l[k]?=some x∧o=renO (toX nsP) x∧renO (ofX nsP) o=x∧inO (KX nsP.length) o:=fun {l k o} hl h=>by
    rw [mapO_get] at h
    obtain ⟨x,e3,rfl⟩:=Option.map_eq_some_iff.1 h
    obtain ⟨q1,q2⟩:=lsO_ok (lsOs_get hl e3)
    exact ⟨x,e3,rfl,q1,q2⟩
  have get:∀ i o,mget (nameY os.length (mapO (toX nsP) ok) (mapO (toX nsP) on)) i=some o→KX nsP.length i∧mget m'.o (ofX nsP i)=some (renO (ofX nsP) o)∧inO (KX nsP.length) o:=fun i o hi=>by
    rcases (mget_nameY hokl).1 hi with ⟨k,rfl,h⟩ | ⟨k,rfl,h⟩
    · obtain ⟨x,e1,e2,e3,e4⟩:=memb hls h
      have hk:=(List.getElem?_eq_some_iff.1 e1).1
      refine ⟨⟨k,by omega,rfl⟩,?_,e4⟩
      rw [same _ ⟨k,by omega,rfl⟩,e3]
      exact hgk k x e1
    · obtain ⟨x,e1,e2,e3,e4⟩:=memb hls2 h
      have hk:=(List.getElem?_eq_some_iff.1 e1).1
      obtain ⟨i,h1,h2⟩:=hgn k x e1
      refine ⟨⟨os.length+k,by omega,rfl⟩,?_,e4⟩
      rw [ofX_x (hi' h1),e3]
      exact h2
  have key:∀ i,KX nsP.length i→keys p.m i ∨ keys (nameY os.length (mapO (toX nsP) ok) (mapO (toX nsP) on)) i:=fun i ⟨k,hk,e⟩=>by
    by_cases h:k < os.length
    · exact .inl ((kx i).2 ⟨k,h,e⟩)
    · have hk2:k - os.length < (mapO (toX nsP) on).length:=by rw [mapO_len];omega
      exact .inr ⟨_,(mget_nameY hokl).2 (.inr ⟨k - os.length,by rw [e];congr 1;omega,List.getElem?_eq_getElem hk2⟩)⟩
  refine ⟨pull (ofX nsP) (KX nsP.length) g',rfl,⟨fun i hi=>?_,fun i hi=>?_,fun i hi=>?_,hI.ext.F,hI.ext.cell⟩,⟨fun i o hi=>?_,fun i j oi oj b hi hj hij hbi hbj=>?_,hI.flt⟩,fun i hi=>key i hi.1,?_,?_⟩
  · have h1:=(kx i).1 (hK i hi)
    exact ⟨by obtain ⟨k,h2,e⟩:=h1;exact ⟨k,by omega,e⟩,by rw [same i h1];exact hI.ext.K i hi⟩
  · show g'.β (ofX nsP i)=_
    rw [same i ((kx i).1 (hK i hi))];exact hI.ext.β i hi
  · show g'.sz (ofX nsP i)=_
    rw [same i ((kx i).1 (hK i hi))];exact hI.ext.sz i hi
  · obtain ⟨h1,h2,h3⟩:=get i o hi
    obtain ⟨h4,h5⟩:=hI.ok _ _ h2
    have hk:(pull (ofX nsP) (KX nsP.length) g').K i:=⟨h1,h4⟩
    exact ⟨hk,hlink.pullO h1 hk h5 h3⟩
  · obtain ⟨h1,h2,_⟩:=get i oi hi
    obtain ⟨h3,h4,_⟩:=get j oj hj
    refine hI.apart _ _ _ _ b h2 h4 (fun e=>hij ?_) hbi hbj
    obtain ⟨a,ha,rfl⟩:=h1
    obtain ⟨c,hc,rfl⟩:=h3
    rw [ofX_x (List.getElem?_eq_getElem ha),ofX_x (List.getElem?_eq_getElem hc)] at e
    rw [nodup_get hnd (List.getElem?_eq_getElem ha) (by rw [e];exact List.getElem?_eq_getElem hc)]
  · exact ⟨hI.os,hI.tape,hI.output,hI.size,fun b hb ht=>hI.block b hb fun hx=>hx.elim ht fun h=>by have:p.w.heap.size≤b:=h;omega,fun b o hF=>by
      rcases hI.fnew b o hF with h | h | h | h
      · exact .inl h
      · exact .inr (.inl h)
      · exact .inr (.inr h)
      · exact .inr (.inl h),fun i o b hi hb=>by
      rcases hI.own _ _ b (get i o hi).2.1 hb with h | h | h
      · exact .inl h
      · exact .inr h
      · exact .inl h⟩
  · rw [← hnP]
    rintro o (ho | ho)
    · obtain ⟨k,hk⟩:=List.mem_iff_getElem?.1 ho
      exact (memb hls hk).choose_spec.2.2.2
    · obtain ⟨k,hk⟩:=List.mem_iff_getElem?.1 ho
      exact (memb hls2 hk).choose_spec.2.2.2
end Part
end Go.Abs
