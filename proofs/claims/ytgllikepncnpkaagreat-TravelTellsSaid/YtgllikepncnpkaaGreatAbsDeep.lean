/- Proved here: what functions of the given program come to, and the plain laws of it; no condition but those in the theorems. -/
import Derived.Test.YtgllikepncnpkaaGreatAbsRv
import Derived.Test.YtgllikepncnpkaaGreatAbsP
import Derived.Deep.Fields
/- Functions with ranges over functions whose contracts name a small memory. -/
namespace Go.Abs
open Go.RowKit
set_option linter.unusedVariables false
set_option linter.unusedSimpArgs false
section
variable {P:Program} {τ:List (Nat × TI)} {N:Nat} {qc:Nat→Bool}
theorem spec_ofT {np : NPT} {CK : Nat → KT} {RC : Operand → Array Tmp → Code → Code → (Exit → TK) → TK} {f : Nat} {fn : Func} {c : Code} (hm : P.follows .mixedOrders = true) (hf : P.funcs[f]? = some fn) (hname : (fn.name == "runtime.NumGoroutine") = false) (hb : fn.body = some c) (hn : fn.ntmps = N) (hτ : TyOk P τ) (hcode : codeOk qc np N c = true) {args : List AV} {r : AV} {m m' : List (Id × MObj)}
    (hx:∀ i,keys m i→∃ n,i=.x n) (hCK:∀ f args d m k,CK f args d m k→callK P qc f args d m k) (hRC:RCOk P N RC) (hsz:args.length≤N) {Q:Exit→TK}
    (hQ:∀ e t mm,Q e t mm→(e=.normal ∨ e=.ret)∧∃ ns,RetS P ns fn ⟨t,mm⟩ (fun rf mf=>∃ ρ,LeafM ρ m m' r mf.o rf))
    (h:awpT P τ np CK RC c Q (initT args 0) ⟨m,0,[]⟩):DoesM P f args m r m':=by
  subst hn
  refine ⟨callable hf hname hb,fun g w vals hK hM hl hr=>?_⟩
  let B:Base:={ w0:=w,X:=touches g m,g0:=g,N:=fn.ntmps,gx:=fun i hi=>hx i (hK i hi) }
  have hI:Inv B g ⟨m,0,[]⟩ w:={ ok:=hM.ok,apart:=hM.apart,fresh:=fun s k _ hk=>(by obtain ⟨n,hn⟩:=hx _ (hK _ hk);cases hn),flt:=hM.flt,ext:=.refl _ _,fnew:=fun b o h=>.inl h,own:=fun i o b hi hb=>.inr ⟨i,o,hi,hb⟩,os:=rfl,tape:=rfl,output:=rfl,size:=Nat.le_refl _,block:=fun _ _ _=>rfl }
  have hR:RS B (tget (initT args 0)) ⟨m,0,[]⟩ { tmps:=vals.toArray ++ Array.replicate (fn.ntmps - vals.toArray.size) undef,defers:=[] } w:=by
    refine ⟨⟨g,fun t x hx=>?_,hI⟩,rfl,by simp [B];omega⟩
    obtain ⟨_,h2⟩:=initT_get args 0 t hx
    rw [Nat.sub_zero] at h2
    have ht:t < vals.length:=by rw [hl];exact (List.getElem?_eq_some_iff.1 h2).1
    refine ⟨vals[t],?_,hr t x _ h2 (List.getElem?_eq_getElem ht)⟩
    rw [Array.getElem?_append,if_pos (by simpa using ht)]
    simp [ht]
  refine calls_of_T (B:=B) hf hb (awpT_ok hτ hCK hm hRC rfl c hcode _ _ _ _ _ (rsm_of hR rfl) h) fun e t mm hq=>?_
  obtain ⟨he,ns,hret⟩:=hQ e t mm hq
  refine ⟨he,fun g1 a w' hs hI'=>?_⟩
  obtain ⟨v,rf,g2,mf,q1,q2,q3,q4,ρ,hL⟩:=resultsS_ok hs hI' hret
  let D:Id→Prop:=fun i=>keys m i ∨ keys m' i
  let g':=pull ρ D g2
  have hlink:Link ρ D g' g2:=pull_link
  have hext:Ext g w g2 w':=q3.ext
  have hext':Ext g w g' w':=⟨fun i hi=>⟨.inl (hK i hi),by rw [hL.same i (hK i hi)];exact hext.K i hi⟩,fun i hi=>by show g2.β (ρ i)=_;rw [hL.same i (hK i hi)];exact hext.β i hi,
    fun i hi=>by show g2.sz (ρ i)=_;rw [hL.same i (hK i hi)];exact hext.sz i hi,hext.F,hext.cell⟩
  refine ⟨v,q1,v,g',rfl,hext',hlink.pullA q4 r hL.res hL.resIn,⟨fun i o hi=>?_,fun i j oi oj b hi hj hij hbi hbj=>?_,q3.flt⟩,fun i hi=>hi.1,⟨q3.os,q3.tape,q3.output,q3.size,fun b hb hX=>q3.block b hb hX,fun b o hF=>q3.fnew b o hF,fun i o b hi hb=>?_⟩⟩
  · obtain ⟨h1,h2⟩:=hL.mem i o hi
    obtain ⟨h3,h4⟩:=q3.ok _ _ h1
    have hk:g'.K i:=⟨.inr ⟨o,hi⟩,h3⟩
    exact ⟨hk,hlink.pullO (.inr ⟨o,hi⟩) hk h4 h2⟩
  · exact q3.apart (ρ i) (ρ j) _ _ b (hL.mem i oi hi).1 (hL.mem j oj hj).1 (fun e=>hij (hL.inj i j ⟨oi,hi⟩ ⟨oj,hj⟩ e)) hbi hbj
  · exact q3.own (ρ i) _ b (hL.mem i o hi).1 hb
theorem doesTG_of {np : NPT} {CK : Nat → KT} {RC : Operand → Array Tmp → Code → Code → (Exit → TK) → TK} {f : Nat} {fn : Func} {c : Code} {rs : Array ResultVar} (hm : P.follows .mixedOrders = true) (hf : P.funcs[f]? = some fn) (hname : (fn.name == "runtime.NumGoroutine") = false) (hb : fn.body = some c) (hn : fn.ntmps = N) (hrs : fn.results = rs) (hτ : TyOk P τ) (hcode : codeOk qc np N c = true)
    {args:List AV} {os:List MObj} {r:AV} {os':List MObj} (hCK:∀ f args d m k,CK f args d m k→callK P qc f args d m k) (hRC:RCOk P N RC) (hsz:args.length≤N)
    (wf:WfG args os r os')
    (h:initK args fun t=>awpT P τ np CK RC c (fun e t mm=>match e with
      | .normal=>resK τ t mm rs.toList fun l=>selAsK (xsN 0 os.length) mm l fun l mf=>getsK (xsN 0 os.length) mf.o fun os2=>r=oneOf l∧os'=os2
      | .ret=>resK τ t mm rs.toList fun l=>selAsK (xsN 0 os.length) mm l fun l mf=>getsK (xsN 0 os.length) mf.o fun os2=>r=oneOf l∧os'=os2
      | _=>False) t ⟨mX os,0,[]⟩):DoesG P f args os r os':=by
  refine ⟨wf,spec_ofT hm hf hname hb hn hτ hcode (fun i hi=>by obtain ⟨n,_,e⟩:=keys_mX.1 hi;exact ⟨n,e⟩) hCK hRC hsz (fun e t mm hq=>?_) (initK_go h)⟩
  have hD:KX os.length=fun i=>keys (mX os) i ∨ keys (mX os') i:=funext fun i=>propext ⟨fun h=>.inl (keys_mX.2 h),fun h=>h.elim keys_mX.1 (fun h=>by have:=keys_mX.1 h;rwa [wf.len] at this)⟩
  have fin:(resK τ t mm rs.toList fun l=>selAsK (xsN 0 os.length) mm l fun l mf=>getsK (xsN 0 os.length) mf.o fun os2=>r=oneOf l∧os'=os2)→∃ ns,RetS P ns fn ⟨t,mm⟩ (fun rf mf=>∃ ρ,LeafM ρ (mX os) (mX os') r mf.o rf):=fun hr=>by
    subst hrs
    obtain ⟨l,h1,h2⟩:=resK_ok hτ hr
    obtain ⟨l',m',h3,h4⟩:=selAsK_ok h2
    obtain ⟨os2,g1,g2,e1,e2⟩:=getsK_ok h4
    subst e2
    refine ⟨_,l,l',m',h1,h3,id,?_⟩
    refine ⟨by rw [e1];exact renA_id _,by rw [← hD];exact xsA_ok wf.r,fun i o hi=>?_,fun i j _ _ e=>e,fun _ _=>rfl⟩
    obtain ⟨n,e3,e4⟩:=mget_nameX.1 hi
    have hnl:n < os.length:=by rw [← wf.len];exact (List.getElem?_eq_some_iff.1 e4).1
    obtain ⟨x,e5,e6⟩:=g2 n _ (xsN_get hnl)
    rw [e4] at e5
    cases e5
    rw [renO_id,e3]
    exact ⟨e6,by rw [← hD];exact xsO_ok (xsOs_get wf.o' e4)⟩
  cases e with
  | normal=>exact ⟨.inl rfl,fin hq⟩
  | ret=>exact ⟨.inr rfl,fin hq⟩
  | _=>exact hq.elim
/-- Two contracts of one function. -/
def cOr (K1 K2:KT):KT:=fun args d m k=>K1 args d m k ∨ K2 args d m k
theorem cOr_ok {f:Nat} {K1 K2:KT} (h1:KOk P qc f K1) (h2:KOk P qc f K2):KOk P qc f (cOr K1 K2):=fun args d m k h=>h.elim (h1 args d m k) (h2 args d m k)
end
end Go.Abs

/- Arguments that come in: slices of numbers, truth values or flat structs, and structs of such. -/
namespace Go.Abs
open Go.RowKit Go.ChangeShapes Go.WideShapes Go.Deep
section
variable {H:Type} {enc:TypeId × Value→H} {P:Program} {w:World} {base:Nat} {spare:Nat→Bool} {held:Bool}
end
end Go.Abs

/- Arguments that come in, of any depth: numbers, truth values, structs and slices of such. -/
namespace Go.Abs
open Go.RowKit Go.ChangeShapes Go.WideShapes Go.Deep
set_option linter.unusedVariables false
set_option linter.unusedSimpArgs false
inductive Sh where
  | i (k:IntKind)
  | b
  | l (e:List Sh)
mutual
def okS:Sh→Cell→Prop
  | .i k,.sc (.int k' _)=>k'=k
  | .b,.sc (.bool _)=>True
  | .l e,.lst es=>es.length≤maxLen∧∀ y ∈ es,okSs e y
  | _,_=>False
def okSs:List Sh→List Cell→Prop
  | [],[]=>True
  | s :: ss,c :: cs=>okS s c∧okSs ss cs
  | _,_=>False
end
theorem okSs_app:∀ {s t:List Sh} {c d:List Cell},okSs s c→okSs t d→okSs (s ++ t) (c ++ d)
  | [],_,[],_,_,h=>h
  | _ :: s,t,_ :: c,d,h,k=>by
    simp only [okSs] at h
    simp only [List.cons_append,okSs]
    exact ⟨h.1,okSs_app h.2 k⟩
  | [],_,_ :: _,_,h,_=>by simp [okSs] at h
  | _ :: _,_,[],_,h,_=>by simp [okSs] at h
def shFs (P:Program) (F:TypeId→Option (List Sh)):Nat→List Field→Option (List Sh)
  | _,[]=>some []
  | i,f :: r=>match F f.type with
    | some s=>if f.offset=i∧P.cellsOf f.type=s.length then (shFs P F (i+s.length) r).map (s ++ ·) else none
    | none=>none
def shT (P:Program):Nat→TypeId→Option (List Sh)
  | 0,_=>none
  | n+1,t=>match P.underlying t with
    | some (.int k)=>some [.i k]
    | some .bool=>some [.b]
    | some (.slice e)=>match shT P n e with
      | some s=>if P.cellsOf e=s.length∧0 < s.length then some [.l s] else none
      | none=>none
    | some (.struct fs)=>shFs P (shT P n) 0 fs.toList
    | _=>none
theorem cell_none {w:World} {a:Addr} {v:Value} (h:w.cell? a=some v):a.spot=none:=World.cell?_spot h
section
variable {H:Type} {enc:TypeId × Value→H} {P:Program} {w:World} {base:Nat} {spare:Nat→Bool} {held:Bool}
def Comes (w:World) (s:List Sh) (cs:List Value):Prop:=∃ ys:List Cell,okSs s ys∧ys.length=cs.length∧∀ (j:Nat) c u,ys[j]?=some c→cs[j]?=some u→RepP (FIn w) w c u
theorem shFs_ok {n:Nat} (IH:∀ (t:TypeId) (s:List Sh) (cs:List Value) (x:DataW H × List MemPlace) (fuel:Nat),shT P n t=some s→DataW.trod enc P w base spare held fuel t cs=some x→cs.length=s.length→Comes w s cs) :
    ∀ (l:List Field) (i m:Nat) (cs:List Value) (ss:List Sh),shFs P (shT P n) i l=some ss→cs.length=i+ss.length →
      (∀ (j:Nat) f,l[j]?=some f→∃ y,DataW.trod enc P w base spare held m f.type ((cs.drop f.offset).take (P.cellsOf f.type))=some y)→Comes w ss (cs.drop i)
  | [],i,m,cs,ss,h,hl,_=>by
    simp [shFs] at h
    subst h
    exact ⟨[],trivial,by simp at hl ⊢;omega,fun j c u h=>by simp at h⟩
  | f :: r,i,m,cs,ss,h,hl,ht=>by
    simp only [shFs] at h
    split at h
    case h_2=>cases h
    rename_i s hs
    split at h
    case isFalse=>cases h
    rename_i hf
    obtain ⟨s2,h2,rfl⟩:=Option.map_eq_some_iff.1 h
    obtain ⟨y,hy⟩:=ht 0 f rfl
    rw [hf.1,hf.2] at hy
    rw [List.length_append] at hl
    have hlt:((cs.drop i).take s.length).length=s.length:=by rw [List.length_take,List.length_drop];omega
    obtain ⟨ys1,a1,a2,a3⟩:=IH _ _ _ _ _ hs hy hlt
    obtain ⟨ys2,b1,b2,b3⟩:=shFs_ok IH r (i+s.length) m cs s2 h2 (by omega) fun j f' hj=>ht (j+1) f' (by simpa using hj)
    refine ⟨ys1 ++ ys2,okSs_app a1 b1,by rw [List.length_append,a2,b2,hlt,List.length_drop,List.length_drop];omega,fun j c u hc hu=>?_⟩
    by_cases hj:j < ys1.length
    · rw [List.getElem?_append_left hj] at hc
      refine a3 j c u hc ?_
      rw [List.getElem?_take,if_pos (by omega)]
      exact hu
    · rw [List.getElem?_append_right (by omega)] at hc
      refine b3 _ c u hc ?_
      rw [List.getElem?_drop] at hu ⊢
      rw [← hu]
      congr 1
      omega
theorem shT_ok:∀ (n:Nat) (t:TypeId) (s:List Sh) (cs:List Value) (x:DataW H × List MemPlace) (fuel:Nat),shT P n t=some s→DataW.trod enc P w base spare held fuel t cs=some x→cs.length=s.length→Comes w s cs
  | 0,_,_,_,_,_,h,_,_=>by simp [shT] at h
  | n+1,t,s,cs,x,fuel,h,ht,hcl=>by
    simp only [shT] at h
    split at h
    · rename_i k hd
      simp at h;subst h
      obtain ⟨m,rfl,_⟩:=DataW.trod_int hd ht
      exact ⟨[.sc (.int k m)],⟨rfl,trivial⟩,rfl,fun j c u hc hu=>by
        cases j with
        | zero=>simp at hc hu;subst hc hu;exact .sc rfl
        | succ j=>simp at hc⟩
    · rename_i hd
      simp at h;subst h
      obtain ⟨m,rfl,_⟩:=DataW.trod_bool hd ht
      exact ⟨[.sc (.bool m)],⟨trivial,trivial⟩,rfl,fun j c u hc hu=>by
        cases j with
        | zero=>simp at hc hu;subst hc hu;exact .sc rfl
        | succ j=>simp at hc⟩
    · rename_i e hd
      split at h
      case h_2=>cases h
      rename_i s' hs'
      split at h
      case isFalse=>cases h
      rename_i hC
      obtain ⟨hC,hpos⟩:=hC
      simp at h;subst h
      have one:∀ {es:List (List Cell)} {v:Value},cs=[v]→es.length≤maxLen→(∀ y ∈ es,okSs s' y)→RepP (FIn w) w (.lst es) v→Comes w [.l s'] cs:=fun {es v} hcs h1 h2 h3=>by
        subst hcs
        exact ⟨[.lst es],⟨⟨h1,h2⟩,trivial⟩,rfl,fun j c u hc hu=>by
          cases j with
          | zero=>simp at hc hu;subst hc hu;exact h3
          | succ j=>simp at hc⟩
      rcases open_slice hd ht with ⟨h0,_⟩ | ⟨a,len,cap,m,n',D,Pl,hcs,hb,hl,hm,hmm,hx,hi⟩
      · exact one h0 (Nat.zero_le _) (fun y hy=>by simp at hy) .nil
      · have hlm:len≤m:=by rw [hmm];split <;> omega
        rcases Nat.eq_zero_or_pos len with h0 | hpl
        · subst h0
          exact one hcs (Nat.zero_le _) (fun y hy=>by simp at hy) (.emp hm fun e=>by cases e)
        have hE:∀ i,∃ q:List Value × List Cell,i < len→(q.1.length=s'.length∧(∀ j,j < s'.length→w.cell? (a.add (i * s'.length+j))=q.1[j]?)∧okSs s' q.2∧q.2.length=q.1.length∧∀ (j:Nat) c u,q.2[j]?=some c→q.1[j]?=some u→RepP (FIn w) w c u):=fun i=>by
          by_cases hi':i < len
          · obtain ⟨cs',h1,h2⟩:=hi i (by omega)
            rw [hC] at h1
            obtain ⟨_,hcl',hat⟩:=World.cells?_some h1
            obtain ⟨ys,q1,q2,q3⟩:=shT_ok n _ _ _ _ _ hs' h2 hcl'
            exact ⟨(cs',ys),fun _=>⟨hcl',fun j hj=>by rw [← add_add];exact hat j hj,q1,q2,q3⟩⟩
          · exact ⟨([],[]),fun h=>absurd h hi'⟩
        obtain ⟨E,hE⟩:=Classical.axiomOfChoice hE
        have hs:a.spot=none:=by
          obtain ⟨e1,e2,_⟩:=hE 0 hpl
          have h1:=e2 0 hpos
          have h2:(E 0).1[0]?=some (E 0).1[0]:=List.getElem?_eq_getElem (by omega)
          rw [h2] at h1
          simpa [Addr.add] using cell_none h1
        have hget:∀ (i:Nat) z,((List.range len).map fun i=>(E i).2)[i]?=some z→i < len∧z=(E i).2:=fun i z hz=>by
          rw [List.getElem?_map] at hz
          obtain ⟨i',h1,rfl⟩:=Option.map_eq_some_iff.1 hz
          obtain ⟨h2,h3⟩:=List.getElem?_eq_some_iff.1 h1
          simp at h2 h3
          subst h3
          exact ⟨h2,rfl⟩
        have hax:a=⟨a.block,a.off,none⟩:=by cases a;simp only at hs;subst hs;rfl
        refine one (es:=(List.range len).map fun i=>(E i).2) hcs (by simp;omega) (fun y hy=>?_) ?_
        · obtain ⟨i,hi',rfl⟩:=List.mem_map.1 hy
          exact (hE i (by simpa using hi')).2.2.1
        · have key:=RepP.lst (F:=FIn w) (w:=w) (es:=(List.range len).map fun i=>(E i).2) (b:=a.block) (off:=a.off) (cap:=cap) (sz:=s'.length) (fun i j=>(E i).1.getD j (.bool false))
            (fun i z hz=>by
              obtain ⟨h1,rfl⟩:=hget i z hz
              obtain ⟨e1,_,_,e4,_⟩:=hE i h1
              rw [e4,e1])
            (fun i z hz j c hj=>by
              obtain ⟨h1,rfl⟩:=hget i z hz
              obtain ⟨e1,e2,_,e4,_⟩:=hE i h1
              have hjl:j < s'.length:=by rw [← e1,← e4];exact (List.getElem?_eq_some_iff.1 hj).1
              have hu:(E i).1[j]?=some (E i).1[j]:=List.getElem?_eq_getElem (by omega)
              have hc:=e2 j hjl
              rw [addr_add hs,hu] at hc
              rw [List.getD_eq_getElem?_getD,hu,Nat.add_assoc]
              exact ⟨cell_lt (a:=⟨a.block,a.off+(i * s'.length+j),none⟩) hc,hc⟩)
            (fun i z hz j c hj=>by
              obtain ⟨h1,rfl⟩:=hget i z hz
              obtain ⟨e1,e2,_,e4,e5⟩:=hE i h1
              have hjl:j < (E i).1.length:=by rw [← e4];exact (List.getElem?_eq_some_iff.1 hj).1
              have hu:(E i).1[j]?=some (E i).1[j]:=List.getElem?_eq_getElem hjl
              rw [List.getD_eq_getElem?_getD,hu]
              exact e5 j c _ hj hu) (by simp;exact hl) hm
          rw [show ((List.range len).map fun i=>(E i).2).length=len by simp] at key
          rw [hax]
          exact key
    · rename_i fs hd
      obtain ⟨xs,m,_,_,hlen,hxl,hf⟩:=DataW.trod_struct hd ht
      have:=shFs_ok (fun t s cs x fuel a b c=>shT_ok n t s cs x fuel a b c) fs.toList 0 m cs s h (by omega) (fun j f hj=>by
        have hj':fs[j]?=some f:=by simpa using hj
        have hjl:j < xs.length:=by rw [hxl];exact (Array.getElem?_eq_some_iff.1 hj').1
        exact ⟨xs[j],by rw [hf j f hj'];exact List.getElem?_eq_getElem hjl⟩)
      simpa using this
    · cases h
end
/-- A slice that came in. -/
theorem deep_slice {H:Type} {enc:TypeId × Value→H} {P:Program} {w:World} {base:Nat} {spare:Nat→Bool} {held:Bool} {t e:TypeId} (n:Nat) (s:List Sh) (ht:P.underlying t=some (.slice e)) (hs:shT P (n+1) t=some [.l s])
    {a:Option Addr} {len cap:Nat} {d:DataW H} {p:List MemPlace} (h:DataW.Trod enc P w base spare held t (.slice a len cap) d p) :
    ∃ es,(es.length≤maxLen∧∀ y ∈ es,okSs s y)∧RepA (g0 (FIn w)) w (.c (.lst es)) (.slice a len cap):=by
  obtain ⟨fuel,hf⟩:=h
  have hf:DataW.trod enc P w base spare held fuel t [.slice a len cap]=some (d,p):=by simpa [Value.cells] using hf
  obtain ⟨ys,h1,h2,h3⟩:=shT_ok (n+1) t _ _ _ fuel hs hf rfl
  match ys,h1 with
  | [.lst es],h1=>exact ⟨es,h1.1,.c (.pure (h3 0 _ _ rfl rfl))⟩
/-- Elements of one form are a list's. -/
theorem all_formQ {α:Type} {f:α→List Cell} {p:List Cell→Prop} {q:α→Prop} (hf:∀ y,p y→∃ a,y=f a∧q a):∀ {es:List (List Cell)},(∀ y ∈ es,p y)→∃ l:List α,es=l.map f∧∀ a ∈ l,q a
  | [],_=>⟨[],rfl,fun a h=>by simp at h⟩
  | y :: r,h=>by
    obtain ⟨a,rfl,ha⟩:=hf y (h y (by simp))
    obtain ⟨l,rfl,hl⟩:=all_formQ (es:=r) hf (fun z hz=>h z (List.mem_cons_of_mem _ hz))
    exact ⟨a :: l,rfl,fun b hb=>(List.mem_cons.1 hb).elim (fun e=>e ▸ ha) (hl b)⟩
end Go.Abs
