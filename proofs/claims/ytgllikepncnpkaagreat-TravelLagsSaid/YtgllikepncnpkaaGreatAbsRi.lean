/- Proved here: what functions of the given program come to, and the plain laws of it; no condition but those in the theorems. -/
import Derived.Test.YtgllikepncnpkaaGreatAbsRg
namespace Go.Abs
open Go.RowKit
set_option linter.unusedVariables false
set_option linter.unusedSimpArgs false
abbrev yV (l:Nat):AV:=.c (.sc (.func (.yield l) #[] #[]))
section
variable {P:Program} {B:Base} {N:Nat} {qc:Nat→Bool} {CK:Nat→KT}
abbrev YT:=List AV→Mem→(Mem→Prop)→Prop
def YOk (P:Program) (B:Base) (l:Nat) (Stop:World→Prop) (Y:YT):Prop:=∀ (args:List AV) (m:Mem) (k:Mem→Prop),Y args m k→∀ (g:G) (w:World) (vals:List Value),Inv B g m w→vals.length=args.length →
  (∀ (j:Nat) x v,args[j]?=some x→vals[j]?=some v→RepA g w x v) →
  YieldAt Fence.wide 0 P l vals.toArray w fun e w'=>(e=.returned (.bool true)∧∃ g' m',Ext { B.g0 with F:=g.F } w g' w'∧Inv B g' m' w'∧k m') ∨ (e=.returned (.bool false)∧Stop w')
theorem wpOpsIn_pre {ops:Array Oper} {Q Q1:Exit→Act→World→Prop} {rest:List Nat} (h1:∀ a w,Q1 .normal a w→wpOpsIn Fence.wide 0 P ops Q rest a w) (h2:¬ LetsOut Q1) (h3:∀ c a w,¬ Q1 (.panic c) a w) :
    ∀ (pre:List Oper) (k:Nat) (a:Act) (w:World),(∀ j o,pre[j]?=some o→ops[k+j]?=some o)→wpList P ops Q1 pre a w→wpOpsIn Fence.wide 0 P ops Q (List.range' k pre.length ++ rest) a w
  | [],k,a,w,_,h=>h1 a w h
  | o :: pre,k,a,w,ho,h=>by
    have h0:ops[k]?=some o:=by simpa using ho 0 o rfl
    have ho':∀ j x,pre[j]?=some x→ops[k+1+j]?=some x:=fun j x hj=>by
      have:=ho (j+1) x (by simpa using hj)
      rwa [show k+(j+1)=k+1+j by omega] at this
    have ih:=fun a w=>wpOpsIn_pre h1 h2 h3 pre (k+1) a w ho'
    rw [List.length_cons,List.range'_succ,List.cons_append]
    unfold wpList at h
    unfold wpOpsIn
    simp only [h0]
    split at h
    · rename_i hw
      rw [if_pos hw]
      rcases h with h | ⟨_,h⟩
      · refine ⟨fun _ _=>trivial,?_⟩
        rw [show Fence.wide.round=none from rfl,Oper.semAt_none]
        unfold Oper.wp at h
        revert h
        generalize (execOp a.eval o).run P w=res
        intro h
        unfold Oper.upon at h
        unfold Oper.uponIn
        split at h
        · exact ih _ _ h
        · exact ih _ _ h
        · exact ih _ _ h
        · refine ⟨fun h=>by simp [Fence.wide] at h,callsIn_wide.2 (h.mono fun e w' hr=>?_)⟩
          cases e with
          | returned v=>exact ih _ _ hr
          | panicked c=>exact absurd hr (h3 _ _ _)
          | outgrown=>exact absurd hr h2
        · refine ⟨fun h=>by simp [Fence.wide] at h,fun c cs _=>?_⟩
          obtain ⟨v,w',r,s⟩:=h c cs
          exact ⟨v,w',ih _ _ r,stepsIn_wide.2 s⟩
        · exact absurd h (h3 _ _ _)
        · exact h.elim
      · exact absurd h h2
    · rename_i hw
      rw [if_neg hw]
      exact ⟨fun _ _=>trivial,ih _ _ h⟩
structure YEnd (ops:Array Oper) (pre:List Oper) (q d u:Nat) (args:Array Operand):Prop where
  ex:∃ oc on ats T,ops.toList=pre ++ [oc,on]∧oc.op=.call { callee:=.value (.tmp q),args:=args,argTypes:=ats }∧oc.dst=some d∧oc.guard=none∧on.op=.unOp .not T (.tmp d)∧on.dst=some u∧on.guard=none
def cleanT (n:Nat):List (Nat × AV)→List (Nat × AV)
  | []=>[]
  | (t,x) :: r=>match xsA n x with
    | true=>(t,x) :: cleanT n r
    | false=>tdel (cleanT n r) t
theorem cleanT_get {n:Nat}:∀ {l:List (Nat × AV)} {t:Nat} {x:AV},tget (cleanT n l) t=some x→tget l t=some x∧xsA n x=true
  | [],_,_,h=>by cases h
  | (s,y) :: r,t,x,h=>by
    unfold cleanT at h
    split at h
    · rename_i e
      simp only [tget] at h ⊢
      split at h
      · rename_i e2;simp at h;subst h;rw [if_pos e2];exact ⟨rfl,e⟩
      · rename_i e2;rw [if_neg e2];exact cleanT_get h
    · rw [tget_tdel] at h
      split at h
      · cases h
      · rename_i e2;simp only [tget,if_neg e2];exact cleanT_get h
def cleanK (n:Nat):List (Nat × AV)→(List (Nat × AV)→Prop)→Prop
  | [],k=>k []
  | (t,x) :: r,k=>cleanK n r fun r'=>match xsA n x with
    | true=>k ((t,x) :: r')
    | false=>tdelK t r' k
theorem cleanK_ok {n:Nat}:∀ {l:List (Nat × AV)} {k:List (Nat × AV)→Prop},cleanK n l k→k (cleanT n l)
  | [],k,h=>h
  | (t,x) :: r,k,h=>by
    have h:(match xsA n x with
      | true=>k ((t,x) :: cleanT n r)
      | false=>tdelK t (cleanT n r) k):=cleanK_ok (l:=r) h
    rw [cleanT]
    cases e:xsA n x with
    | true=>rw [e] at h;exact h
    | false=>rw [e] at h;exact tdelK_ok h
def yEnd (pre:List Oper) (K:St→Prop) (l:Nat) (Y:YT) (kx N q d u:Nat) (args:Array Operand) (σ:St):Prop :=
  (Nat.blt d N=true∧Nat.blt u N=true)∧tget σ.t q=some (yV l)∧∃ xs k,evs (tget σ.t) args.toList=some xs∧Y xs σ.m k∧∀ m',k m'→K ⟨tset (tset (cleanT kx σ.t) d (.c (.sc (.bool true)))) u (.c (.sc (.bool false))),m'⟩
theorem idiom_ok {l kx:Nat} {Stop:World→Prop} {Y:YT} (hY:YOk P B l Stop Y) (hKx:∀ i,KX kx i→B.g0.K i) (hCK:∀ f args d m k,CK f args d m k→callK P qc f args d m k) (hN:B.N=N) {id:Nat} {ops:Array Oper} {pre:List Oper} {q d u:Nat} {args:Array Operand} (hE:YEnd ops pre q d u args) {K:St→Prop} {σ:St} {a:Act} {w:World}
    (hR:RS B (tget σ.t) σ.m a w) (h:evalOps P CK N ops false 0 pre [] σ fun _ σ1=>yEnd pre K l Y kx N q d u args σ1) :
    (Code.seq (.region id ops false) (.cond (.tmp u) .ret .skip)).wpIn Fence.wide 0 P (fun e a w=>(e=.normal∧∃ σ':St,RS B (tget σ'.t) σ'.m a w∧K σ') ∨ (e=.ret∧a.defers=B.ds∧a.tmps.size=B.N∧Stop w)) a w:=by
  obtain ⟨oc,on,ats,T,hops,c1,c2,c3,n1,n2,n3⟩:=hE.ex
  have hsz:ops.size=pre.length+2:=by rw [← Array.length_toList,hops];simp
  have hget:∀ j:Nat,ops[j]?=(pre ++ [oc,on])[j]?:=fun j=>by rw [← hops];simp
  have hoc:ops[pre.length]?=some oc:=by rw [hget];simp
  have hon:ops[pre.length+1]?=some on:=by rw [hget,List.getElem?_append_right (by omega),show pre.length+1 - pre.length=1 by omega];rfl
  refine wpIn_seq (wpIn_region ?_)
  have hrange:List.range ops.size=List.range' 0 pre.length ++ [pre.length,pre.length+1]:=by
    rw [hsz,List.range_eq_range',← List.range'_append_1 (s:=0) (m:=pre.length) (n:=2)]
    simp [List.range']
  rw [hrange]
  refine wpOpsIn_pre (Q1:=fun e a w=>e=.normal∧∃ σ1:St,RS B (tget σ1.t) σ1.m a w∧yEnd pre K l Y kx N q d u args σ1) ?_ (by rintro ⟨_,_,h,_⟩;cases h) (fun c a w h=>by cases h.1) pre 0 a w (fun j o hj=>by rw [Nat.zero_add,hget,List.getElem?_append_left (List.getElem?_eq_some_iff.1 hj).1];exact hj) (evalOps_wp hCK hN pre 0 [] σ _ a w (fun ls σ' a w hR' hk=>⟨rfl,σ',hR',hk⟩) hR h)
  rintro a w ⟨_,σ1,hR1,⟨hd,hu⟩,hq,xs,k,hxs,hy,hkK⟩
  have hd:d < N:=Nat.le_of_ble_eq_true hd
  have hu:u < N:=Nat.le_of_ble_eq_true hu
  obtain ⟨⟨g,hs,hI⟩,hds,hz⟩:=hR1
  have hqv:a.eval (.tmp q)=.func (.yield l) #[] #[]:=by
    obtain ⟨v,h1,h2⟩:=hs q _ hq
    obtain ⟨rfl,_⟩:=isSc h2
    simp [Act.eval,h1]
  obtain ⟨hll,hlr⟩:=evs_rep hs hxs
  have hYA:=hY xs σ1.m _ hy g w (args.toList.map a.eval) hI (by rw [List.length_map,hll]) hlr
  obtain ⟨fn,tmps,assign,body,hy1,hy2⟩:=hYA
  have hrun:(execOp a.eval oc).run P w=.ok (.round l fn tmps assign body) w:=by
    have e:args.map a.eval=(args.toList.map a.eval).toArray:=by apply Array.ext';simp
    simp only [execOp,c1,resolve,Deferred.ofValue,hqv,Sem.run_bind,Sem.run_pure,Result.andThen_ok,invoke,Array.empty_append]
    rw [e]
    simpa using hy1
  have hnot:∀ (b:Bool) (a':Act) (w':World) (Q:Exit→Act→World→Prop),a'.eval (.tmp d)=.bool b→Q .normal (a'.put (some u) (.bool (!b))) w'→wpOpsIn Fence.wide 0 P ops Q [pre.length+1] a' w':=fun b a' w' Q hv hQ=>by
    unfold wpOpsIn
    simp only [hon]
    rw [if_pos (by simp [Region.wanted,n3])]
    refine ⟨fun _ _=>trivial,?_⟩
    rw [show Fence.wide.round=none from rfl,Oper.semAt_none]
    have hr:(execOp a'.eval on).run P w'=.ok (.value (.bool (!b))) w':=by
      obtain ⟨r1,_⟩:=unV_ok (P:=P) (w:=w') (op:=.not) (x:=.bool b) (v:=.bool (!b)) rfl
      simp [execOp,n1,hv,r1]
    rw [hr,Oper.uponIn_value,n2]
    exact hQ
  have hdd:∀ v,(a.put (some d) v).eval (.tmp d)=v:=fun v=>by
    have:d < a.tmps.size:=by omega
    simp [Act.put,Act.eval,this]
  unfold wpOpsIn
  simp only [hoc]
  rw [if_pos (by simp [Region.wanted,c3])]
  refine ⟨fun _ _=>trivial,?_⟩
  rw [show Fence.wide.round=none from rfl,Oper.semAt_none,hrun,Oper.uponIn_round]
  refine ⟨fun h=>by simp [Fence.wide] at h,hy2.mono fun e w' hr=>?_⟩
  have huu:∀ v x,((a.put (some d) v).put (some u) x).eval (.tmp u)=x:=fun v x=>by
    have h1:∀ (a1:Act),u < a1.tmps.size→(a1.put (some u) x).eval (.tmp u)=x:=fun a1 h=>by simp [Act.put,Act.eval,h]
    exact h1 _ (by rw [size_put];omega)
  rcases hr with ⟨rfl,g',m',he,hI',hk⟩ | ⟨rfl,hst⟩
  · show wpOpsIn _ _ _ _ _ _ (a.put oc.dst _) _
    rw [c2]
    refine hnot true _ _ _ (hdd _) ?_
    refine wpIn_cond_false (huu _ _) (wpIn_skip (.inl ⟨rfl,_,?_,hkK m' hk⟩))
    refine ⟨⟨g',?_,hI'⟩,by rw [defers_put,defers_put];exact hds,by rw [size_put,size_put];exact hz⟩
    have hcl:Slots g' w' (tget (cleanT kx σ1.t)) a:=fun t x hx=>by
      obtain ⟨h1,h2⟩:=cleanT_get hx
      obtain ⟨v,h3,h4⟩:=hs t x h1
      have hlk:Link (_root_.id) (KX kx) { B.g0 with F:=g.F } g:=⟨fun i hi=>⟨fun h=>hI.ext.K i h,fun _=>hKx i hi⟩,fun i hi hk=>(hI.ext.β i hk).symm,fun i hi hk=>(hI.ext.sz i hk).symm,rfl⟩
      exact ⟨v,h3,(hlk.pullA h4 x (renA_id x) (xsA_ok h2)).ext he⟩
    have e1:tget (tset (tset (cleanT kx σ1.t) d (.c (.sc (.bool true)))) u (.c (.sc (.bool false))))=put (some u) (some (.c (.sc (.bool false)))) (put (some d) (some (.c (.sc (.bool true)))) (tget (cleanT kx σ1.t))):=by
      funext k;simp [put,tget_tset]
    rw [e1]
    refine slots_put (slots_put hcl fun k y h1 h2=>?_) fun k y h1 h2=>?_
    · cases h1;cases h2;exact ⟨by omega,.c (.pure (.sc rfl))⟩
    · cases h1;cases h2;exact ⟨by rw [size_put];omega,.c (.pure (.sc rfl))⟩
  · show wpOpsIn _ _ _ _ _ _ (a.put oc.dst _) _
    rw [c2]
    refine hnot false _ _ _ (hdd _) ?_
    exact wpIn_cond_true (huu _ _) (wpIn_ret (.inr ⟨rfl,by rw [defers_put,defers_put];exact hds,by rw [size_put,size_put];exact hz,hst⟩))
structure YEnd2 (N0:Nat) (ops:Array Oper) (pre:List Oper) (q d u:Nat) (args:Array Operand) (tl:List Oper) (c:Nat):Prop where
  ex:∃ oc on om op ats T v x gs,ops.toList=pre ++ ([oc,on] ++ tl)∧oc.op=.call { callee:=.value (.tmp q),args:=args,argTypes:=ats }∧oc.dst=some d∧oc.guard=none∧on.op=.unOp .not T (.tmp d)∧on.dst=some u∧on.guard=none ∧
    tl=om :: (gs ++ [op])∧om.op=.move (.tmp u)∧om.dst=some v∧om.guard=none∧(∀ o ∈ gs,o.guard=some (pre.length+2,false)∧o.dst ≠ some v)∧op.op=.pick (.tmp v) (.const (.bool true)) x∧op.dst=some c∧op.guard=none∧v < N0∧c < N0
theorem stop_tail {ops:Array Oper} {v n0:Nat} {om:Oper} {Q:Exit→Act→World→Prop} {rest:List Nat} {w:World} (h0:ops[n0]?=some om) (hv:om.dst=some v) :
    ∀ (gs:List Oper) (k:Nat) (a:Act),(∀ j o,gs[j]?=some o→ops[k+j]?=some o)→(∀ o ∈ gs,o.guard=some (n0,false)∧o.dst ≠ some v)→a.tmps[v]?=some (.bool true) →
    (∀ a':Act,a'.tmps[v]?=some (.bool true)→a'.defers=a.defers→a'.tmps.size=a.tmps.size→wpOpsIn Fence.wide 0 P ops Q rest a' w)→wpOpsIn Fence.wide 0 P ops Q (List.range' k gs.length ++ rest) a w
  | [],k,a,_,_,he,h=>h a he rfl rfl
  | o :: gs,k,a,ho,hg,he,h=>by
    have h1:ops[k]?=some o:=by simpa using ho 0 o rfl
    have ho':∀ j x,gs[j]?=some x→ops[k+1+j]?=some x:=fun j x hj=>by
      have:=ho (j+1) x (by simpa using hj)
      rwa [show k+(j+1)=k+1+j by omega] at this
    rw [List.length_cons,List.range'_succ,List.cons_append]
    unfold wpOpsIn
    simp only [h1]
    obtain ⟨g1,g2⟩:=hg o (by simp)
    have hw:Region.wanted o (yielded ops a.tmps)=false:=by
      simp [Region.wanted,g1,yielded,h0,hv,he]
    rw [if_neg (by simp [hw])]
    refine ⟨fun _ _=>trivial,stop_tail h0 hv gs (k+1) _ ho' (fun o ho=>hg o (by simp [ho])) ?_ fun a' h1 h2 h3=>h a' h1 (by rw [h2,defers_put]) (by rw [h3,size_put])⟩
    cases hd:o.dst with
    | none=>exact he
    | some t =>
      have:t ≠ v:=fun e=>g2 (by rw [hd,e])
      simp [Act.put,Array.getElem?_setIfInBounds,this,he]
def yEnd2 (P:Program) (CK:Nat→KT) (ops:Array Oper) (tl:List Oper) (n0:Nat) (K:St→Prop) (l:Nat) (Y:YT) (kx N q d u:Nat) (args:Array Operand) (σ:St):Prop :=
  (Nat.blt d N=true∧Nat.blt u N=true)∧tget σ.t q=some (yV l)∧∃ xs k,evs (tget σ.t) args.toList=some xs∧Y xs σ.m k∧∀ m',k m'→evalOps P CK N ops false n0 tl [] ⟨tset (tset (cleanT kx σ.t) d (.c (.sc (.bool true)))) u (.c (.sc (.bool false))),m'⟩ fun _ σ2=>K σ2
theorem idiom2_ok {l kx:Nat} {Stop:World→Prop} {Y:YT} (hY:YOk P B l Stop Y) (hKx:∀ i,KX kx i→B.g0.K i) (hCK:∀ f args d m k,CK f args d m k→callK P qc f args d m k) (hN:B.N=N) {id:Nat} {ops:Array Oper} {pre tl:List Oper} {q d u c:Nat} {args:Array Operand} (hE:YEnd2 N ops pre q d u args tl c) {K:St→Prop} {σ:St} {a:Act} {w:World}
    (hR:RS B (tget σ.t) σ.m a w) (h:evalOps P CK N ops false 0 pre [] σ fun _ σ1=>yEnd2 P CK ops tl (pre.length+2) K l Y kx N q d u args σ1) :
    (Code.region id ops false).wpIn Fence.wide 0 P (fun e a w=>e=.normal∧((∃ σ':St,RS B (tget σ'.t) σ'.m a w∧K σ') ∨ (a.eval (.tmp c)=.bool true∧a.defers=B.ds∧a.tmps.size=B.N∧Stop w))) a w:=by
  obtain ⟨oc,on,om,op,ats,T,v,px,gs,hops,c1,c2,c3,n1,n2,n3,ht,m1,m2,m3,hgs,p1,p2,p3,hvN,hcN⟩:=hE.ex
  have hsz:ops.size=pre.length+(2+tl.length):=by rw [← Array.length_toList,hops];simp;omega
  have hget:∀ j:Nat,ops[j]?=(pre ++ ([oc,on] ++ tl))[j]?:=fun j=>by rw [← hops];simp
  have hoc:ops[pre.length]?=some oc:=by rw [hget];simp
  have hon:ops[pre.length+1]?=some on:=by rw [hget,List.getElem?_append_right (by omega),show pre.length+1 - pre.length=1 by omega];rfl
  have htl:∀ j o,tl[j]?=some o→ops[pre.length+2+j]?=some o:=fun j o hj=>by
    rw [hget,List.getElem?_append_right (by omega),show pre.length+2+j - pre.length=j+2 by omega]
    simpa using hj
  refine wpIn_region ?_
  have hrange:List.range ops.size=List.range' 0 pre.length ++ (pre.length :: (pre.length+1) :: List.range' (pre.length+2) tl.length):=by
    rw [hsz,List.range_eq_range',← List.range'_append_1 (s:=0) (m:=pre.length) (n:=2+tl.length)]
    rw [show 2+tl.length=tl.length+1+1 by omega,List.range'_succ,List.range'_succ]
    simp
  rw [hrange]
  refine wpOpsIn_pre (Q1:=fun e a w=>e=.normal∧∃ σ1:St,RS B (tget σ1.t) σ1.m a w∧yEnd2 P CK ops tl (pre.length+2) K l Y kx N q d u args σ1) ?_ (by rintro ⟨_,_,h,_⟩;cases h) (fun c a w h=>by cases h.1) pre 0 a w (fun j o hj=>by rw [Nat.zero_add,hget,List.getElem?_append_left (List.getElem?_eq_some_iff.1 hj).1];exact hj) (evalOps_wp hCK hN pre 0 [] σ _ a w (fun ls σ' a w hR' hk=>⟨rfl,σ',hR',hk⟩) hR h)
  rintro a w ⟨_,σ1,hR1,⟨hd,hu⟩,hq,xs,k,hxs,hy,hkK⟩
  have hd:d < N:=Nat.le_of_ble_eq_true hd
  have hu:u < N:=Nat.le_of_ble_eq_true hu
  obtain ⟨⟨g,hs,hI⟩,hds,hz⟩:=hR1
  have hqv:a.eval (.tmp q)=.func (.yield l) #[] #[]:=by
    obtain ⟨v,h1,h2⟩:=hs q _ hq
    obtain ⟨rfl,_⟩:=isSc h2
    simp [Act.eval,h1]
  obtain ⟨hll,hlr⟩:=evs_rep hs hxs
  have hYA:=hY xs σ1.m _ hy g w (args.toList.map a.eval) hI (by rw [List.length_map,hll]) hlr
  obtain ⟨fn,tmps,assign,body,hy1,hy2⟩:=hYA
  have hrun:(execOp a.eval oc).run P w=.ok (.round l fn tmps assign body) w:=by
    have e:args.map a.eval=(args.toList.map a.eval).toArray:=by apply Array.ext';simp
    simp only [execOp,c1,resolve,Deferred.ofValue,hqv,Sem.run_bind,Sem.run_pure,Result.andThen_ok,invoke,Array.empty_append]
    rw [e]
    simpa using hy1
  have hnot:∀ (b:Bool) (a':Act) (w':World) (Q:Exit→Act→World→Prop) (rest:List Nat),a'.eval (.tmp d)=.bool b→wpOpsIn Fence.wide 0 P ops Q rest (a'.put (some u) (.bool (!b))) w'→wpOpsIn Fence.wide 0 P ops Q ((pre.length+1) :: rest) a' w':=fun b a' w' Q rest hv hQ=>by
    unfold wpOpsIn
    simp only [hon]
    rw [if_pos (by simp [Region.wanted,n3])]
    refine ⟨fun _ _=>trivial,?_⟩
    rw [show Fence.wide.round=none from rfl,Oper.semAt_none]
    have hr:(execOp a'.eval on).run P w'=.ok (.value (.bool (!b))) w':=by
      obtain ⟨r1,_⟩:=unV_ok (P:=P) (w:=w') (op:=.not) (x:=.bool b) (v:=.bool (!b)) rfl
      simp [execOp,n1,hv,r1]
    rw [hr,Oper.uponIn_value,n2]
    exact hQ
  have hdd:∀ v,(a.put (some d) v).eval (.tmp d)=v:=fun v=>by
    have:d < a.tmps.size:=by omega
    simp [Act.put,Act.eval,this]
  unfold wpOpsIn
  simp only [hoc]
  rw [if_pos (by simp [Region.wanted,c3])]
  refine ⟨fun _ _=>trivial,?_⟩
  rw [show Fence.wide.round=none from rfl,Oper.semAt_none,hrun,Oper.uponIn_round]
  refine ⟨fun h=>by simp [Fence.wide] at h,hy2.mono fun e w' hr=>?_⟩
  have hput:∀ (s:Nat) (x:Value) (a1:Act),s < a1.tmps.size→(a1.put (some s) x).eval (.tmp s)=x:=fun s x a1 h=>by simp [Act.put,Act.eval,h]
  rcases hr with ⟨rfl,g',m',he,hI',hk⟩ | ⟨rfl,hst⟩
  · show wpOpsIn _ _ _ _ _ _ (a.put oc.dst _) _
    rw [c2]
    refine hnot true _ _ _ _ (hdd _) ?_
    have hcl:Slots g' w' (tget (cleanT kx σ1.t)) a:=fun t x hx=>by
      obtain ⟨h1,h2⟩:=cleanT_get hx
      obtain ⟨v,h3,h4⟩:=hs t x h1
      have hlk:Link (_root_.id) (KX kx) { B.g0 with F:=g.F } g:=⟨fun i hi=>⟨fun h=>hI.ext.K i h,fun _=>hKx i hi⟩,fun i hi hk=>(hI.ext.β i hk).symm,fun i hi hk=>(hI.ext.sz i hk).symm,rfl⟩
      exact ⟨v,h3,(hlk.pullA h4 x (renA_id x) (xsA_ok h2)).ext he⟩
    have e1:tget (tset (tset (cleanT kx σ1.t) d (.c (.sc (.bool true)))) u (.c (.sc (.bool false))))=put (some u) (some (.c (.sc (.bool false)))) (put (some d) (some (.c (.sc (.bool true)))) (tget (cleanT kx σ1.t))):=by
      funext k;simp [put,tget_tset]
    have hRS:RS B (tget (tset (tset (cleanT kx σ1.t) d (.c (.sc (.bool true)))) u (.c (.sc (.bool false))))) m' ((a.put (some d) (.bool true)).put (some u) (.bool (!true))) w':=by
      refine ⟨⟨g',?_,hI'⟩,by rw [defers_put,defers_put];exact hds,by rw [size_put,size_put];exact hz⟩
      rw [e1]
      refine slots_put (slots_put hcl fun k y h1 h2=>?_) fun k y h1 h2=>?_
      · cases h1;cases h2;exact ⟨by omega,.c (.pure (.sc rfl))⟩
      · cases h1;cases h2;exact ⟨by rw [size_put];omega,.c (.pure (.sc rfl))⟩
    have:=wpOpsIn_pre (P:=P) (ops:=ops) (Q:=fun e a w=>e=.normal∧((∃ σ':St,RS B (tget σ'.t) σ'.m a w∧K σ') ∨ (a.eval (.tmp c)=.bool true∧a.defers=B.ds∧a.tmps.size=B.N∧Stop w))) (rest:=[]) (Q1:=fun e a w=>e=.normal∧∃ σ':St,RS B (tget σ'.t) σ'.m a w∧K σ') (fun a w h=>⟨rfl,.inl h.2⟩) (by rintro ⟨_,_,h,_⟩;cases h) (fun c a w h=>by cases h.1) tl (pre.length+2) _ _ htl (evalOps_wp hCK hN tl (pre.length+2) [] _ _ _ _ (fun ls σ' a w hR' hk=>⟨rfl,σ',hR',hk⟩) hRS (hkK m' hk))
    rw [List.append_nil] at this
    exact this
  · show wpOpsIn _ _ _ _ _ _ (a.put oc.dst _) _
    rw [c2]
    refine hnot false _ _ _ _ (hdd _) ?_
    have hom:ops[pre.length+2]?=some om:=by simpa using htl 0 om (by rw [ht];rfl)
    rw [ht,List.length_cons,List.range'_succ]
    unfold wpOpsIn
    simp only [hom]
    rw [if_pos (by simp [Region.wanted,m3])]
    refine ⟨fun _ _=>trivial,?_⟩
    rw [show Fence.wide.round=none from rfl,Oper.semAt_none]
    have hsz1:((a.put (some d) (.bool false)).put (some u) (.bool (!false))).tmps.size=N:=by rw [size_put,size_put,hz,hN]
    have hr:(execOp ((a.put (some d) (.bool false)).put (some u) (.bool (!false))).eval om).run P w'=.ok (.value (.bool true)) w':=by
      simp [execOp,m1,hput u _ (a.put (some d) (.bool false)) (by rw [size_put];omega)]
    rw [hr,Oper.uponIn_value,m2]
    have hgl:List.range' (pre.length+2+1) (gs ++ [op]).length=List.range' (pre.length+3) gs.length ++ [pre.length+3+gs.length]:=by
      rw [List.length_append,show ([op]:List Oper).length=1 from rfl,← List.range'_append_1];simp
    rw [hgl]
    refine stop_tail hom m2 gs (pre.length+3) _ (fun j o hj=>?_) hgs ?_ ?_
    · have:=htl (j+1) o (by rw [ht,List.getElem?_cons_succ,List.getElem?_append_left (List.getElem?_eq_some_iff.1 hj).1];exact hj)
      rwa [show pre.length+2+(j+1)=pre.length+3+j by omega] at this
    · simp only [Act.put]
      have:v < a.tmps.size:=by rw [hz,hN];exact hvN
      simp [this]
    · intro a' h1 h2 h3
      have hop:ops[pre.length+3+gs.length]?=some op:=by
        have:=htl (gs.length+1) op (by rw [ht,List.getElem?_cons_succ,List.getElem?_append_right (by omega)];simp)
        rwa [show pre.length+2+(gs.length+1)=pre.length+3+gs.length by omega] at this
      have hz':a'.tmps.size=N:=by rw [h3,size_put];exact hsz1
      unfold wpOpsIn
      simp only [hop]
      rw [if_pos (by simp [Region.wanted,p3])]
      refine ⟨fun _ _=>trivial,?_⟩
      rw [show Fence.wide.round=none from rfl,Oper.semAt_none]
      have hr:(execOp a'.eval op).run P w'=.ok (.value (.bool true)) w':=by
        have:a'.eval (.tmp v)=.bool true:=by simp [Act.eval,h1]
        have h2:a'.eval (.const (.bool true))=.bool true:=rfl
        simp [execOp,p1,this,h2,asBool]
      rw [hr,Oper.uponIn_value,p2]
      refine ⟨rfl,.inr ⟨hput c _ _ (by omega),by rw [defers_put,h2,defers_put,defers_put,defers_put];exact hds,by rw [size_put,hz',hN],hst⟩⟩
end
end Go.Abs

namespace Go.Abs
open Go.RowKit
set_option linter.unusedVariables false
set_option linter.unusedSimpArgs false
structure YD where
  ops:Array Oper
  pre:List Oper
  q:Nat
  d:Nat
  u:Nat
  args:Array Operand
def last2:List Oper→Option (List Oper × Oper × Oper)
  | []=>none
  | [_]=>none
  | [x,y]=>some ([],x,y)
  | x :: y :: z :: r=>match last2 (y :: z :: r) with
    | some (p,a,b)=>some (x :: p,a,b)
    | none=>none
theorem last2_ok:∀ {l p:List Oper} {a b:Oper},last2 l=some (p,a,b)→l=p ++ [a,b]
  | [],_,_,_,h=>by cases h
  | [_],_,_,_,h=>by cases h
  | [x,y],_,_,_,h=>by simp [last2] at h;obtain ⟨rfl,rfl,rfl⟩:=h;rfl
  | x :: y :: z :: r,p,a,b,h=>by
    simp only [last2] at h
    split at h
    · rename_i p' a' b' e
      simp at h
      obtain ⟨rfl,rfl,rfl⟩:=h
      rw [last2_ok e];rfl
    · cases h
def yCall (o:Oper):Option (Nat × Nat × Array Operand):=match o.op,o.dst,o.guard with
  | .call c,some d,none=>match c.callee with
    | .value (.tmp q)=>some (q,d,c.args)
    | _=>none
  | _,_,_=>none
theorem yCall_ok {o:Oper} {q d:Nat} {args:Array Operand} (h:yCall o=some (q,d,args)):∃ ats,o.op=.call { callee:=.value (.tmp q),args:=args,argTypes:=ats }∧o.dst=some d∧o.guard=none:=by
  unfold yCall at h
  split at h
  · rename_i c d' h1 h2 h3
    split at h
    · rename_i q' h4
      simp at h
      obtain ⟨rfl,rfl,rfl⟩:=h
      refine ⟨c.argTypes,?_,h2,h3⟩
      rw [h1]
      obtain ⟨ce,ca,ct⟩:=c
      simp only at h4
      rw [h4]
    · cases h
  · cases h
def yNot (d u:Nat) (o:Oper):Bool:=match o.op,o.dst,o.guard with
  | .unOp .not _ (.tmp d'),some u',none=>match Nat.beq d' d with
    | true=>Nat.beq u' u
    | false=>false
  | _,_,_=>false
theorem yNot_ok {d u:Nat} {o:Oper} (h:yNot d u o=true):∃ T,o.op=.unOp .not T (.tmp d)∧o.dst=some u∧o.guard=none:=by
  unfold yNot at h
  split at h
  · rename_i T d' u' h1 h2 h3
    split at h
    · rename_i e
      have e1:=natBeq e
      have e2:=natBeq h
      subst e1;subst e2
      exact ⟨T,h1,h2,h3⟩
    · cases h
  · cases h
def yOf (a b:Code):Option YD:=match a,b with
  | .region _ ops false,.cond (.tmp u) .ret .skip=>match last2 ops.toList with
    | some (pre,oc,on)=>match yCall oc with
      | some (q,d,args)=>match yNot d u on with
        | true=>some ⟨ops,pre,q,d,u,args⟩
        | false=>none
      | none=>none
    | none=>none
  | _,_=>none
theorem yOf_ok {a b:Code} {y:YD} (h:yOf a b=some y):∃ id,a=.region id y.ops false∧b=.cond (.tmp y.u) .ret .skip∧YEnd y.ops y.pre y.q y.d y.u y.args:=by
  unfold yOf at h
  split at h
  · rename_i id ops u
    split at h
    · rename_i pre oc on h1
      split at h
      · rename_i q d args h2
        split at h
        · rename_i h3
          simp at h
          subst h
          obtain ⟨ats,c1,c2,c3⟩:=yCall_ok h2
          obtain ⟨T,n1,n2,n3⟩:=yNot_ok h3
          exact ⟨id,rfl,rfl,⟨oc,on,ats,T,last2_ok h1,c1,c2,c3,n1,n2,n3⟩⟩
        · cases h
      · cases h
    · cases h
  · cases h
structure YD2 where
  ops:Array Oper
  pre:List Oper
  q:Nat
  d:Nat
  u:Nat
  args:Array Operand
  tl:List Oper
  c:Nat
def last1:List Oper→Option (List Oper × Oper)
  | []=>none
  | [x]=>some ([],x)
  | x :: y :: r=>match last1 (y :: r) with
    | some (p,a)=>some (x :: p,a)
    | none=>none
theorem last1_ok:∀ {l p:List Oper} {a:Oper},last1 l=some (p,a)→l=p ++ [a]
  | [],_,_,h=>by cases h
  | [x],_,_,h=>by simp [last1] at h;obtain ⟨rfl,rfl⟩:=h;rfl
  | x :: y :: r,p,a,h=>by
    simp only [last1] at h
    split at h
    · rename_i p' a' e
      simp at h
      obtain ⟨rfl,rfl⟩:=h
      rw [last1_ok e];rfl
    · cases h
def splitY:List Oper→Option (List Oper × Oper × List Oper)
  | []=>none
  | o :: r=>match yCall o with
    | some _=>some ([],o,r)
    | none=>match splitY r with
      | some (p,a,t)=>some (o :: p,a,t)
      | none=>none
theorem splitY_ok:∀ {l p t:List Oper} {a:Oper},splitY l=some (p,a,t)→l=p ++ a :: t
  | [],_,_,_,h=>by cases h
  | o :: r,p,t,a,h=>by
    simp only [splitY] at h
    split at h
    · simp at h;obtain ⟨rfl,rfl,rfl⟩:=h;rfl
    · split at h
      · rename_i p' a' t' e
        simp at h
        obtain ⟨rfl,rfl,rfl⟩:=h
        rw [splitY_ok e];rfl
      · cases h
def yMv (u:Nat) (o:Oper):Option Nat:=match o.op,o.dst,o.guard with
  | .move (.tmp u'),some v,none=>match Nat.beq u' u with
    | true=>some v
    | false=>none
  | _,_,_=>none
theorem yMv_ok {u v:Nat} {o:Oper} (h:yMv u o=some v):o.op=.move (.tmp u)∧o.dst=some v∧o.guard=none:=by
  unfold yMv at h
  split at h
  · rename_i u' v' h1 h2 h3
    split at h
    · rename_i e
      have e:=natBeq e
      simp at h
      subst e;subst h
      exact ⟨h1,h2,h3⟩
    · cases h
  · cases h
def yDst (v:Nat):Option Nat→Bool
  | none=>true
  | some t=>match Nat.beq t v with
    | true=>false
    | false=>true
def yGs (n0 v:Nat):List Oper→Bool
  | []=>true
  | o :: r=>match o.guard with
    | some (j,false)=>match Nat.beq j n0,yDst v o.dst with
      | true,true=>yGs n0 v r
      | _,_=>false
    | _=>false
theorem yGs_ok {n0 v:Nat}:∀ {l:List Oper},yGs n0 v l=true→∀ o ∈ l,o.guard=some (n0,false)∧o.dst ≠ some v
  | [],_,_,h=>by cases h
  | x :: r,h,o,ho=>by
    unfold yGs at h
    split at h
    · rename_i j hg
      split at h
      · rename_i h1 h2
        rcases List.mem_cons.1 ho with rfl | ho
        · refine ⟨by rw [hg,natBeq h1],fun e=>?_⟩
          rw [e] at h2
          simp [yDst] at h2
        · exact yGs_ok h o ho
      · cases h
    · cases h
def yPk (v c:Nat) (o:Oper):Bool:=match o.op,o.dst,o.guard with
  | .pick (.tmp v') (.const (.bool true)) _,some c',none=>match Nat.beq v' v with
    | true=>Nat.beq c' c
    | false=>false
  | _,_,_=>false
theorem yPk_ok {v c:Nat} {o:Oper} (h:yPk v c o=true):∃ x,o.op=.pick (.tmp v) (.const (.bool true)) x∧o.dst=some c∧o.guard=none:=by
  unfold yPk at h
  split at h
  · rename_i v' x c' h1 h2 h3
    split at h
    · rename_i e
      have e1:=natBeq e
      have e2:=natBeq h
      subst e1;subst e2
      exact ⟨x,h1,h2,h3⟩
    · cases h
  · cases h
def yOf2 (a b:Code):Option YD2:=match a,b with
  | .region _ ops false,.cond (.tmp c) .ret .skip=>match splitY ops.toList with
    | some (pre,oc,on :: om :: r)=>match yCall oc,on.dst,last1 r with
      | some (q,d,args),some u,some (gs,op)=>match yNot d u on,yMv u om with
        | true,some v=>match yGs (pre.length+2) v gs,yPk v c op with
          | true,true=>some ⟨ops,pre,q,d,u,args,om :: r,c⟩
          | _,_=>none
        | _,_=>none
      | _,_,_=>none
    | _=>none
  | _,_=>none
theorem yOf2_ok {a b:Code} {y:YD2} {N:Nat} (h:yOf2 a b=some y):∃ id,a=.region id y.ops false∧b=.cond (.tmp y.c) .ret .skip∧((∀ o ∈ y.ops.toList,okO o.dst N=true)→YEnd2 N y.ops y.pre y.q y.d y.u y.args y.tl y.c):=by
  unfold yOf2 at h
  split at h
  · rename_i id ops c
    split at h
    · rename_i pre oc on om r h1
      split at h
      · rename_i q d args u gs op h2 h3 h4
        split at h
        · rename_i v h5 h6
          split at h
          · rename_i h7 h8
            simp at h
            subst h
            obtain ⟨ats,c1,c2,c3⟩:=yCall_ok h2
            obtain ⟨T,n1,n2,n3⟩:=yNot_ok h5
            obtain ⟨m1,m2,m3⟩:=yMv_ok h6
            obtain ⟨x,p1,p2,p3⟩:=yPk_ok h8
            have e:=splitY_ok h1
            have e2:=last1_ok h4
            refine ⟨id,rfl,rfl,fun hok=>⟨oc,on,om,op,ats,T,v,x,gs,by rw [e];rfl,c1,c2,c3,n1,n2,n3,by rw [e2],m1,m2,m3,yGs_ok h7,p1,p2,p3,?_,?_⟩⟩
            · have:=hok om (by rw [e];simp)
              rw [m2] at this
              exact okO_lt this v rfl
            · have:=hok op (by rw [e,e2];simp)
              rw [p2] at this
              exact okO_lt this c rfl
          · cases h
        · cases h
      · cases h
    · cases h
  · cases h
section
variable {P:Program} {B:Base} {N:Nat} {τ:List (Nat × TI)} {np:NPT} {qc:Nat→Bool} {CK:Nat→KT}
def yEndC (kx N l:Nat) (Y:YT) (y:YD) (Q:TK):TK:=fun t m=>match Nat.blt y.d N,Nat.blt y.u N with
  | true,true=>evK t (.tmp y.q) fun x=>x=yV l∧evsK t y.args.toList fun xs=>Y xs m fun m'=>cleanK kx t fun t0=>tsetK y.d (.c (.sc (.bool true))) t0 fun t1=>tsetK y.u (.c (.sc (.bool false))) t1 fun t2=>Q t2 m'
  | _,_=>False
theorem yEndC_ok {kx l:Nat} {Y:YT} {y:YD} {Q:TK} {t:List (Nat × AV)} {m:Mem} (h:yEndC kx N l Y y Q t m):yEnd y.pre (fun σ=>Q σ.t σ.m) l Y kx N y.q y.d y.u y.args ⟨t,m⟩:=by
  unfold yEndC at h
  split at h
  · rename_i h1 h2
    obtain ⟨x,h3,rfl,h4⟩:=evK_ok h
    obtain ⟨xs,h5,h6⟩:=evsK_ok h4
    exact ⟨⟨h1,h2⟩,h3,xs,_,h5,h6,fun m' h=>tsetK_ok (tsetK_ok (cleanK_ok h))⟩
  · exact h.elim
def yEndC2 (τ:List (Nat × TI)) (CK:Nat→KT) (kx N l:Nat) (Y:YT) (y:YD2) (K:TK):TK:=fun t m=>match Nat.blt y.d N,Nat.blt y.u N with
  | true,true=>evK t (.tmp y.q) fun x=>x=yV l∧evsK t y.args.toList fun xs=>Y xs m fun m'=>cleanK kx t fun t0=>tsetK y.d (.c (.sc (.bool true))) t0 fun t1=>tsetK y.u (.c (.sc (.bool false))) t1 fun t2=>runC τ CK y.ops false K y.tl [] t2 m'
  | _,_=>False
theorem yEndC2_ok (hτ:TyOk P τ) (hCK:∀ f args d m k,CK f args d m k→callK P qc f args d m k) {kx l:Nat} {Y:YT} {y:YD2} {K:TK} {t:List (Nat × AV)} {m:Mem} (hsub:∀ o ∈ y.tl,okO o.dst N=true) (h:yEndC2 τ CK kx N l Y y K t m):yEnd2 P (callK P qc) y.ops y.tl (y.pre.length+2) (fun σ=>K σ.t σ.m) l Y kx N y.q y.d y.u y.args ⟨t,m⟩:=by
  unfold yEndC2 at h
  split at h
  · rename_i h1 h2
    obtain ⟨x,h3,rfl,h4⟩:=evK_ok h
    obtain ⟨xs,h5,h6⟩:=evsK_ok h4
    exact ⟨⟨h1,h2⟩,h3,xs,_,h5,h6,fun m' h=>runC_ok hτ hCK hsub (tsetK_ok (tsetK_ok (cleanK_ok h)))⟩
  · exact h.elim
def awpYC (τ:List (Nat × TI)) (np:NPT) (CK:Nat→KT) (kx N l:Nat) (Y:YT):Code→(Exit→TK)→TK
  | .skip,Q=>Q .normal
  | .label _,Q=>Q .normal
  | .region id ops draw,Q=>awpC τ np CK (.region id ops draw) Q
  | .seq a b,Q=>match yOf a b with
    | some y=>runC τ CK y.ops false (yEndC kx N l Y y (Q .normal)) y.pre []
    | none=>match yOf2 a b with
      | some y=>runC τ CK y.ops false (yEndC2 τ CK kx N l Y y (condK (.tmp y.c) (Q .ret) (Q .normal))) y.pre []
      | none=>awpYC τ np CK kx N l Y a (seqQ (awpYC τ np CK kx N l Y b Q) Q)
  | .cond c a b,Q=>condK c (awpYC τ np CK kx N l Y a Q) (awpYC τ np CK kx N l Y b Q)
  | .block id c,Q=>awpYC τ np CK kx N l Y c (blockQ id Q)
  | .loop c,Q=>fun t m=>∃ (X:Type) (I:X→List (Nat × AV) × Mem) (inv:X→Prop) (μ:X→Nat) (x0:X),inv x0∧Shift ⟨(I x0).1,(I x0).2⟩ ⟨t,m⟩ ∧
      ∀ x,inv x→awpYC τ np CK kx N l Y c (fun e t m=>match e with | .normal=>∃ x',inv x'∧Shift ⟨(I x').1,(I x').2⟩ ⟨t,m⟩∧μ x' < μ x | e=>Q e t m) (I x).1 (I x).2
  | .exit id,Q=>Q (.exit id)
  | .ret,Q=>Q .ret
  | _,_=>fun _ _=>False
def concY (B:Base) (Q:Exit→TK) (Stop:World→Prop):Exit→Act→World→Prop:=fun e a w=>(∃ t m,RS B (tget t) m a w∧Q e t m) ∨ (e=.ret∧a.defers=B.ds∧a.tmps.size=B.N∧Stop w)
theorem awpYC_ok (hτ:TyOk P τ) {kx l:Nat} {Stop:World→Prop} {Y:YT} (hY:YOk P B l Stop Y) (hKx:∀ i,KX kx i→B.g0.K i) (hCK:∀ f args d m k,CK f args d m k→callK P qc f args d m k) (hm:P.follows .mixedOrders=true) (hN:B.N=N) :
    ∀ (c:Code) (_:codeOk qc np N c=true) (Q:Exit→TK) (t:List (Nat × AV)) (m:Mem) (a:Act) (w:World),RS B (tget t) m a w→awpYC τ np CK kx N l Y c Q t m→c.wpIn Fence.wide 0 P (concY B Q Stop) a w:=by
  have hCC:∀ f args d m k,callK P qc f args d m k→callK P qc f args d m k:=fun _ _ _ _ _ h=>h
  intro c
  induction c with
  | skip=>intro _ Q t m a w hR h;exact wpIn_skip (.inl ⟨t,m,hR,h⟩)
  | label l=>intro _ Q t m a w hR h;exact wpIn_label (.inl ⟨t,m,hR,h⟩)
  | exit id=>intro _ Q t m a w hR h;exact wpIn_exit (.inl ⟨t,m,hR,h⟩)
  | ret=>intro _ Q t m a w hR h;exact wpIn_ret (.inl ⟨t,m,hR,h⟩)
  | region id ops draw =>
    intro hc Q t m a w hR h
    refine wpIn_mono (wpIn_wide.2 (awp_ok hCC hm hN _ _ ⟨t,m⟩ a w hR (awpC_ok hτ hCK hc h))) fun e a w ⟨σ,h1,h2⟩=>.inl ⟨σ.t,σ.m,h1,h2⟩
  | seq x y ihx ihy =>
    intro hc Q t m a w hR h
    have hc0:=hc
    simp only [codeOk,Bool.and_eq_true] at hc
    have h:(match yOf x y with
      | some y=>runC τ CK y.ops false (yEndC kx N l Y y (Q .normal)) y.pre []
      | none=>match yOf2 x y with
        | some y=>runC τ CK y.ops false (yEndC2 τ CK kx N l Y y (condK (.tmp y.c) (Q .ret) (Q .normal))) y.pre []
        | none=>awpYC τ np CK kx N l Y x (seqQ (awpYC τ np CK kx N l Y y Q) Q)) t m:=h
    cases hy:yOf x y with
    | some yd =>
      rw [hy] at h
      obtain ⟨id,rfl,rfl,hE⟩:=yOf_ok hy
      obtain ⟨hc1,_⟩:=hc
      simp only [codeOk,Bool.and_eq_true,List.all_eq_true] at hc1
      have hsub:∀ o ∈ yd.pre,okO o.dst N=true:=fun o ho=>by
        obtain ⟨oc,on,_,_,e,_⟩:=hE.ex
        exact hc1.2 o (by rw [e];simp [ho])
      refine wpIn_mono (idiom_ok hY hKx hCC hN hE (K:=fun σ=>Q .normal σ.t σ.m) (σ:=⟨t,m⟩) hR (evalOps_mono _ (fun ls σ h=>yEndC_ok h) (runC_ok hτ hCK hsub h))) fun e a w hq=>?_
      rcases hq with ⟨rfl,σ,h1,h2⟩ | h2
      · exact .inl ⟨σ.t,σ.m,h1,h2⟩
      · exact .inr h2
    | none =>
      rw [hy] at h
      cases hy2:yOf2 x y with
      | some yd =>
        rw [hy2] at h
        obtain ⟨id,rfl,rfl,hE⟩:=yOf2_ok (N:=N) hy2
        obtain ⟨hc1,_⟩:=hc
        simp only [codeOk,Bool.and_eq_true,List.all_eq_true] at hc1
        have hE:=hE hc1.2
        have hops:∃ oc on,yd.ops.toList=yd.pre ++ ([oc,on] ++ yd.tl):=by
          obtain ⟨oc,on,_,_,_,_,_,_,_,e,_⟩:=hE.ex
          exact ⟨oc,on,e⟩
        obtain ⟨oc,on,hops⟩:=hops
        have hsub:∀ o ∈ yd.pre,okO o.dst N=true:=fun o ho=>hc1.2 o (by rw [hops];simp [ho])
        have hsub2:∀ o ∈ yd.tl,okO o.dst N=true:=fun o ho=>hc1.2 o (by rw [hops];simp [ho])
        refine wpIn_seq (wpIn_mono (idiom2_ok hY hKx hCC hN hE (K:=fun σ=>condK (.tmp yd.c) (Q .ret) (Q .normal) σ.t σ.m) (σ:=⟨t,m⟩) hR (evalOps_mono _ (fun ls σ h=>yEndC2_ok hτ hCK hsub2 h) (runC_ok hτ hCK hsub h))) fun e a w hq=>?_)
        obtain ⟨rfl,hq⟩:=hq
        rcases hq with ⟨σ,h1,h2⟩ | ⟨h1,h2⟩
        · obtain ⟨v,h3,h4⟩:=evK_ok h2
          split at h4
          · obtain ⟨g,hs,_⟩:=h1.ex
            have hv:=isBool (ev_rep hs h3)
            exact wpIn_cond_split hv (fun e=>wpIn_ret (.inl ⟨σ.t,σ.m,h1,h4.yes e⟩)) (fun e=>wpIn_skip (.inl ⟨σ.t,σ.m,h1,h4.no e⟩))
          · exact h4.elim
        · exact wpIn_cond_true h1 (wpIn_ret (.inr ⟨rfl,h2⟩))
      | none =>
        rw [hy2] at h
        refine wpIn_seq (wpIn_mono (ihx hc.1 _ t m a w hR h) fun e a w hq=>?_)
        rcases hq with ⟨t',m',h1,h2⟩ | ⟨rfl,h2⟩
        · cases e with
          | normal=>exact ihy hc.2 Q t' m' a w h1 h2
          | _=>exact .inl ⟨t',m',h1,h2⟩
        · exact .inr ⟨rfl,h2⟩
  | cond c x y iha ihb =>
    intro hc Q t m a w hR h
    simp only [codeOk,Bool.and_eq_true] at hc
    unfold awpYC condK at h
    obtain ⟨v,h1,h2⟩:=evK_ok h
    split at h2
    · obtain ⟨g,hs,_⟩:=hR.ex
      have hv:=isBool (ev_rep hs h1)
      exact wpIn_cond_split hv (fun e=>iha hc.1 Q t m a w hR (h2.yes e)) (fun e=>ihb hc.2 Q t m a w hR (h2.no e))
    · exact h2.elim
  | block id c ih =>
    intro hc Q t m a w hR h
    refine wpIn_block (wpIn_mono (ih hc _ t m a w hR h) fun e a w hq=>?_)
    rcases hq with ⟨t',m',h1,h2⟩ | ⟨rfl,h2⟩
    · cases e with
      | exit i =>
        simp only [blockQ] at h2
        simp only [Exit.inBlock]
        cases hi:Nat.beq i id with
        | true=>rw [hi] at h2;rw [if_pos (natBeq hi)];exact .inl ⟨t',m',h1,h2⟩
        | false=>rw [hi] at h2;rw [if_neg (natBeqF hi)];exact .inl ⟨t',m',h1,h2⟩
      | _=>exact .inl ⟨t',m',h1,h2⟩
    · exact .inr ⟨rfl,h2⟩
  | loop c ih =>
    intro hc Q t m a w hR h
    obtain ⟨X,I,inv,μ,x0,h0,hs,hround⟩:=h
    refine wpIn_loop_ghost (fun n a w=>∃ x,inv x∧RS B (tget (I x).1) (I x).2 a w∧μ x=n) (μ x0) ⟨x0,h0,hs B a w hR,rfl⟩ ?_
    intro n a w ⟨x,hx,hRx,hn⟩
    refine wpIn_mono (ih hc _ (I x).1 (I x).2 a w hRx (hround x hx)) fun e a' w' hq=>?_
    rcases hq with ⟨t',m',h1,h2⟩ | ⟨rfl,h2⟩
    · cases e with
      | normal =>
        obtain ⟨x',hx',hsh,hlt⟩:=h2
        exact ⟨μ x',by omega,x',hx',hsh B a' w' h1,rfl⟩
      | _=>exact .inl ⟨t',m',h1,h2⟩
    · exact .inr ⟨rfl,h2⟩
  | rangeFunc f p a b _ _=>intro _ Q t m a w hR h;exact h.elim
  | scope c ih=>intro _ Q t m a w hR h;exact h.elim
  | goto l=>intro _ Q t m a w hR h;exact h.elim
  | refuse s=>intro _ Q t m a w hR h;exact h.elim
end
end Go.Abs
