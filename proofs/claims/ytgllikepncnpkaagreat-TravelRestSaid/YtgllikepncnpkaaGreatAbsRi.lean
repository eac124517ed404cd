/- The evaluator over the code of a function ranged over. -/
import Derived.Test.YtgllikepncnpkaaGreatAbsRh
namespace Go.Abs
open Go.RowKit
set_option linter.unusedVariables false
set_option linter.unusedSimpArgs false
structure YD where
  ops:Array Oper
  pre:List Oper
  q:Nat
  d:Nat
  u:Nat
  args:Array Operand
def last2:List Oper→Option (List Oper × Oper × Oper)
  | []=>none
  | [_]=>none
  | [x,y]=>some ([],x,y)
  | x :: y :: z :: r=>match last2 (y :: z :: r) with
    | some (p,a,b)=>some (x :: p,a,b)
    | none=>none
theorem last2_ok:∀ {l p:List Oper} {a b:Oper},last2 l=some (p,a,b)→l=p ++ [a,b]
  | [],_,_,_,h=>by cases h
  | [_],_,_,_,h=>by cases h
  | [x,y],_,_,_,h=>by simp [last2] at h;obtain ⟨rfl,rfl,rfl⟩:=h;rfl
  | x :: y :: z :: r,p,a,b,h=>by
    simp only [last2] at h
    split at h
    · rename_i p' a' b' e
      simp at h
      obtain ⟨rfl,rfl,rfl⟩:=h
      rw [last2_ok e];rfl
    · cases h
def yCall (o:Oper):Option (Nat × Nat × Array Operand):=match o.op,o.dst,o.guard with
  | .call c,some d,none=>match c.callee with
    | .value (.tmp q)=>some (q,d,c.args)
    | _=>none
  | _,_,_=>none
theorem yCall_ok {o:Oper} {q d:Nat} {args:Array Operand} (h:yCall o=some (q,d,args)):∃ ats,o.op=.call { callee:=.value (.tmp q),args:=args,argTypes:=ats }∧o.dst=some d∧o.guard=none:=by
  unfold yCall at h
  split at h
  · rename_i c d' h1 h2 h3
    split at h
    · rename_i q' h4
      simp at h
      obtain ⟨rfl,rfl,rfl⟩:=h
      refine ⟨c.argTypes,?_,h2,h3⟩
      rw [h1]
      obtain ⟨ce,ca,ct⟩:=c
      simp only at h4
      rw [h4]
    · cases h
  · cases h
def yNot (d u:Nat) (o:Oper):Bool:=match o.op,o.dst,o.guard with
  | .unOp .not _ (.tmp d'),some u',none=>match Nat.beq d' d with
    | true=>Nat.beq u' u
    | false=>false
  | _,_,_=>false
theorem yNot_ok {d u:Nat} {o:Oper} (h:yNot d u o=true):∃ T,o.op=.unOp .not T (.tmp d)∧o.dst=some u∧o.guard=none:=by
  unfold yNot at h
  split at h
  · rename_i T d' u' h1 h2 h3
    split at h
    · rename_i e
      have e1:=natBeq e
      have e2:=natBeq h
      subst e1;subst e2
      exact ⟨T,h1,h2,h3⟩
    · cases h
  · cases h
def yOf (a b:Code):Option YD:=match a,b with
  | .region _ ops false,.cond (.tmp u) .ret .skip=>match last2 ops.toList with
    | some (pre,oc,on)=>match yCall oc with
      | some (q,d,args)=>match yNot d u on with
        | true=>some ⟨ops,pre,q,d,u,args⟩
        | false=>none
      | none=>none
    | none=>none
  | _,_=>none
theorem yOf_ok {a b:Code} {y:YD} (h:yOf a b=some y):∃ id,a=.region id y.ops false∧b=.cond (.tmp y.u) .ret .skip∧YEnd y.ops y.pre y.q y.d y.u y.args:=by
  unfold yOf at h
  split at h
  · rename_i id ops u
    split at h
    · rename_i pre oc on h1
      split at h
      · rename_i q d args h2
        split at h
        · rename_i h3
          simp at h
          subst h
          obtain ⟨ats,c1,c2,c3⟩:=yCall_ok h2
          obtain ⟨T,n1,n2,n3⟩:=yNot_ok h3
          exact ⟨id,rfl,rfl,⟨oc,on,ats,T,last2_ok h1,c1,c2,c3,n1,n2,n3⟩⟩
        · cases h
      · cases h
    · cases h
  · cases h
/-! ### The second form: the answer is one part of a larger question. -/
structure YD2 where
  ops:Array Oper
  pre:List Oper
  q:Nat
  d:Nat
  u:Nat
  args:Array Operand
  tl:List Oper
  c:Nat
def last1:List Oper→Option (List Oper × Oper)
  | []=>none
  | [x]=>some ([],x)
  | x :: y :: r=>match last1 (y :: r) with
    | some (p,a)=>some (x :: p,a)
    | none=>none
theorem last1_ok:∀ {l p:List Oper} {a:Oper},last1 l=some (p,a)→l=p ++ [a]
  | [],_,_,h=>by cases h
  | [x],_,_,h=>by simp [last1] at h;obtain ⟨rfl,rfl⟩:=h;rfl
  | x :: y :: r,p,a,h=>by
    simp only [last1] at h
    split at h
    · rename_i p' a' e
      simp at h
      obtain ⟨rfl,rfl⟩:=h
      rw [last1_ok e];rfl
    · cases h
def splitY:List Oper→Option (List Oper × Oper × List Oper)
  | []=>none
  | o :: r=>match yCall o with
    | some _=>some ([],o,r)
    | none=>match splitY r with
      | some (p,a,t)=>some (o :: p,a,t)
      | none=>none
theorem splitY_ok:∀ {l p t:List Oper} {a:Oper},splitY l=some (p,a,t)→l=p ++ a :: t
  | [],_,_,_,h=>by cases h
  | o :: r,p,t,a,h=>by
    simp only [splitY] at h
    split at h
    · simp at h;obtain ⟨rfl,rfl,rfl⟩:=h;rfl
    · split at h
      · rename_i p' a' t' e
        simp at h
        obtain ⟨rfl,rfl,rfl⟩:=h
        rw [splitY_ok e];rfl
      · cases h
def yMv (u:Nat) (o:Oper):Option Nat:=match o.op,o.dst,o.guard with
  | .move (.tmp u'),some v,none=>match Nat.beq u' u with
    | true=>some v
    | false=>none
  | _,_,_=>none
theorem yMv_ok {u v:Nat} {o:Oper} (h:yMv u o=some v):o.op=.move (.tmp u)∧o.dst=some v∧o.guard=none:=by
  unfold yMv at h
  split at h
  · rename_i u' v' h1 h2 h3
    split at h
    · rename_i e
      have e:=natBeq e
      simp at h
      subst e;subst h
      exact ⟨h1,h2,h3⟩
    · cases h
  · cases h
def yDst (v:Nat):Option Nat→Bool
  | none=>true
  | some t=>match Nat.beq t v with
    | true=>false
    | false=>true
def yGs (n0 v:Nat):List Oper→Bool
  | []=>true
  | o :: r=>match o.guard with
    | some (j,false)=>match Nat.beq j n0,yDst v o.dst with
      | true,true=>yGs n0 v r
      | _,_=>false
    | _=>false
theorem yGs_ok {n0 v:Nat}:∀ {l:List Oper},yGs n0 v l=true→∀ o ∈ l,o.guard=some (n0,false)∧o.dst ≠ some v
  | [],_,_,h=>by cases h
  | x :: r,h,o,ho=>by
    unfold yGs at h
    split at h
    · rename_i j hg
      split at h
      · rename_i h1 h2
        rcases List.mem_cons.1 ho with rfl | ho
        · refine ⟨by rw [hg,natBeq h1],fun e=>?_⟩
          rw [e] at h2
          simp [yDst] at h2
        · exact yGs_ok h o ho
      · cases h
    · cases h
def yPk (v c:Nat) (o:Oper):Bool:=match o.op,o.dst,o.guard with
  | .pick (.tmp v') (.const (.bool true)) _,some c',none=>match Nat.beq v' v with
    | true=>Nat.beq c' c
    | false=>false
  | _,_,_=>false
theorem yPk_ok {v c:Nat} {o:Oper} (h:yPk v c o=true):∃ x,o.op=.pick (.tmp v) (.const (.bool true)) x∧o.dst=some c∧o.guard=none:=by
  unfold yPk at h
  split at h
  · rename_i v' x c' h1 h2 h3
    split at h
    · rename_i e
      have e1:=natBeq e
      have e2:=natBeq h
      subst e1;subst e2
      exact ⟨x,h1,h2,h3⟩
    · cases h
  · cases h
def yOf2 (a b:Code):Option YD2:=match a,b with
  | .region _ ops false,.cond (.tmp c) .ret .skip=>match splitY ops.toList with
    | some (pre,oc,on :: om :: r)=>match yCall oc,on.dst,last1 r with
      | some (q,d,args),some u,some (gs,op)=>match yNot d u on,yMv u om with
        | true,some v=>match yGs (pre.length+2) v gs,yPk v c op with
          | true,true=>some ⟨ops,pre,q,d,u,args,om :: r,c⟩
          | _,_=>none
        | _,_=>none
      | _,_,_=>none
    | _=>none
  | _,_=>none
theorem yOf2_ok {a b:Code} {y:YD2} {N:Nat} (h:yOf2 a b=some y):∃ id,a=.region id y.ops false∧b=.cond (.tmp y.c) .ret .skip∧((∀ o ∈ y.ops.toList,okO o.dst N=true)→YEnd2 N y.ops y.pre y.q y.d y.u y.args y.tl y.c):=by
  unfold yOf2 at h
  split at h
  · rename_i id ops c
    split at h
    · rename_i pre oc on om r h1
      split at h
      · rename_i q d args u gs op h2 h3 h4
        split at h
        · rename_i v h5 h6
          split at h
          · rename_i h7 h8
            simp at h
            subst h
            obtain ⟨ats,c1,c2,c3⟩:=yCall_ok h2
            obtain ⟨T,n1,n2,n3⟩:=yNot_ok h5
            obtain ⟨m1,m2,m3⟩:=yMv_ok h6
            obtain ⟨x,p1,p2,p3⟩:=yPk_ok h8
            have e:=splitY_ok h1
            have e2:=last1_ok h4
            refine ⟨id,rfl,rfl,fun hok=>⟨oc,on,om,op,ats,T,v,x,gs,by rw [e];rfl,c1,c2,c3,n1,n2,n3,by rw [e2],m1,m2,m3,yGs_ok h7,p1,p2,p3,?_,?_⟩⟩
            · have:=hok om (by rw [e];simp)
              rw [m2] at this
              exact okO_lt this v rfl
            · have:=hok op (by rw [e,e2];simp)
              rw [p2] at this
              exact okO_lt this c rfl
          · cases h
        · cases h
      · cases h
    · cases h
  · cases h
section
variable {P:Program} {B:Base} {N:Nat} {τ:List (Nat × TI)} {np:NPT} {qc:Nat→Bool} {CK:Nat→KT}
def yEndC (kx N l:Nat) (Y:YT) (y:YD) (Q:TK):TK:=fun t m=>match Nat.blt y.d N,Nat.blt y.u N with
  | true,true=>evK t (.tmp y.q) fun x=>x=yV l∧evsK t y.args.toList fun xs=>Y xs m fun m'=>cleanK kx t fun t0=>tsetK y.d (.c (.sc (.bool true))) t0 fun t1=>tsetK y.u (.c (.sc (.bool false))) t1 fun t2=>Q t2 m'
  | _,_=>False
theorem yEndC_ok {kx l:Nat} {Y:YT} {y:YD} {Q:TK} {t:List (Nat × AV)} {m:Mem} (h:yEndC kx N l Y y Q t m):yEnd y.pre (fun σ=>Q σ.t σ.m) l Y kx N y.q y.d y.u y.args ⟨t,m⟩:=by
  unfold yEndC at h
  split at h
  · rename_i h1 h2
    obtain ⟨x,h3,rfl,h4⟩:=evK_ok h
    obtain ⟨xs,h5,h6⟩:=evsK_ok h4
    exact ⟨⟨h1,h2⟩,h3,xs,_,h5,h6,fun m' h=>tsetK_ok (tsetK_ok (cleanK_ok h))⟩
  · exact h.elim
def yEndC2 (τ:List (Nat × TI)) (CK:Nat→KT) (kx N l:Nat) (Y:YT) (y:YD2) (K:TK):TK:=fun t m=>match Nat.blt y.d N,Nat.blt y.u N with
  | true,true=>evK t (.tmp y.q) fun x=>x=yV l∧evsK t y.args.toList fun xs=>Y xs m fun m'=>cleanK kx t fun t0=>tsetK y.d (.c (.sc (.bool true))) t0 fun t1=>tsetK y.u (.c (.sc (.bool false))) t1 fun t2=>runC τ CK y.ops false K y.tl [] t2 m'
  | _,_=>False
theorem yEndC2_ok (hτ:TyOk P τ) (hCK:∀ f args d m k,CK f args d m k→callK P qc f args d m k) {kx l:Nat} {Y:YT} {y:YD2} {K:TK} {t:List (Nat × AV)} {m:Mem} (hsub:∀ o ∈ y.tl,okO o.dst N=true) (h:yEndC2 τ CK kx N l Y y K t m):yEnd2 P (callK P qc) y.ops y.tl (y.pre.length+2) (fun σ=>K σ.t σ.m) l Y kx N y.q y.d y.u y.args ⟨t,m⟩:=by
  unfold yEndC2 at h
  split at h
  · rename_i h1 h2
    obtain ⟨x,h3,rfl,h4⟩:=evK_ok h
    obtain ⟨xs,h5,h6⟩:=evsK_ok h4
    exact ⟨⟨h1,h2⟩,h3,xs,_,h5,h6,fun m' h=>runC_ok hτ hCK hsub (tsetK_ok (tsetK_ok (cleanK_ok h)))⟩
  · exact h.elim
def awpYC (τ:List (Nat × TI)) (np:NPT) (CK:Nat→KT) (kx N l:Nat) (Y:YT):Code→(Exit→TK)→TK
  | .skip,Q=>Q .normal
  | .label _,Q=>Q .normal
  | .region id ops draw,Q=>awpC τ np CK (.region id ops draw) Q
  | .seq a b,Q=>match yOf a b with
    | some y=>runC τ CK y.ops false (yEndC kx N l Y y (Q .normal)) y.pre []
    | none=>match yOf2 a b with
      | some y=>runC τ CK y.ops false (yEndC2 τ CK kx N l Y y (condK (.tmp y.c) (Q .ret) (Q .normal))) y.pre []
      | none=>awpYC τ np CK kx N l Y a (seqQ (awpYC τ np CK kx N l Y b Q) Q)
  | .cond c a b,Q=>condK c (awpYC τ np CK kx N l Y a Q) (awpYC τ np CK kx N l Y b Q)
  | .block id c,Q=>awpYC τ np CK kx N l Y c (blockQ id Q)
  | .loop c,Q=>fun t m=>∃ (X:Type) (I:X→List (Nat × AV) × Mem) (inv:X→Prop) (μ:X→Nat) (x0:X),inv x0∧Shift ⟨(I x0).1,(I x0).2⟩ ⟨t,m⟩ ∧
      ∀ x,inv x→awpYC τ np CK kx N l Y c (fun e t m=>match e with | .normal=>∃ x',inv x'∧Shift ⟨(I x').1,(I x').2⟩ ⟨t,m⟩∧μ x' < μ x | e=>Q e t m) (I x).1 (I x).2
  | .exit id,Q=>Q (.exit id)
  | .ret,Q=>Q .ret
  | _,_=>fun _ _=>False
def concY (B:Base) (Q:Exit→TK) (Stop:World→Prop):Exit→Act→World→Prop:=fun e a w=>(∃ t m,RS B (tget t) m a w∧Q e t m) ∨ (e=.ret∧a.defers=B.ds∧a.tmps.size=B.N∧Stop w)
theorem awpYC_ok (hτ:TyOk P τ) {kx l:Nat} {Stop:World→Prop} {Y:YT} (hY:YOk P B l Stop Y) (hKx:∀ i,KX kx i→B.g0.K i) (hCK:∀ f args d m k,CK f args d m k→callK P qc f args d m k) (hm:P.follows .mixedOrders=true) (hN:B.N=N) :
    ∀ (c:Code) (_:codeOk qc np N c=true) (Q:Exit→TK) (t:List (Nat × AV)) (m:Mem) (a:Act) (w:World),RS B (tget t) m a w→awpYC τ np CK kx N l Y c Q t m→c.wpIn Fence.wide 0 P (concY B Q Stop) a w:=by
  have hCC:∀ f args d m k,callK P qc f args d m k→callK P qc f args d m k:=fun _ _ _ _ _ h=>h
  intro c
  induction c with
  | skip=>intro _ Q t m a w hR h;exact wpIn_skip (.inl ⟨t,m,hR,h⟩)
  | label l=>intro _ Q t m a w hR h;exact wpIn_label (.inl ⟨t,m,hR,h⟩)
  | exit id=>intro _ Q t m a w hR h;exact wpIn_exit (.inl ⟨t,m,hR,h⟩)
  | ret=>intro _ Q t m a w hR h;exact wpIn_ret (.inl ⟨t,m,hR,h⟩)
  | region id ops draw =>
    intro hc Q t m a w hR h
    refine wpIn_mono (wpIn_wide.2 (awp_ok hCC hm hN _ _ ⟨t,m⟩ a w hR (awpC_ok hτ hCK hc h))) fun e a w ⟨σ,h1,h2⟩=>.inl ⟨σ.t,σ.m,h1,h2⟩
  | seq x y ihx ihy =>
    intro hc Q t m a w hR h
    have hc0:=hc
    simp only [codeOk,Bool.and_eq_true] at hc
    have h:(match yOf x y with
      | some y=>runC τ CK y.ops false (yEndC kx N l Y y (Q .normal)) y.pre []
      | none=>match yOf2 x y with
        | some y=>runC τ CK y.ops false (yEndC2 τ CK kx N l Y y (condK (.tmp y.c) (Q .ret) (Q .normal))) y.pre []
        | none=>awpYC τ np CK kx N l Y x (seqQ (awpYC τ np CK kx N l Y y Q) Q)) t m:=h
    cases hy:yOf x y with
    | some yd =>
      rw [hy] at h
      obtain ⟨id,rfl,rfl,hE⟩:=yOf_ok hy
      obtain ⟨hc1,_⟩:=hc
      simp only [codeOk,Bool.and_eq_true,List.all_eq_true] at hc1
      have hsub:∀ o ∈ yd.pre,okO o.dst N=true:=fun o ho=>by
        obtain ⟨oc,on,_,_,e,_⟩:=hE.ex
        exact hc1.2 o (by rw [e];simp [ho])
      refine wpIn_mono (idiom_ok hY hKx hCC hN hE (K:=fun σ=>Q .normal σ.t σ.m) (σ:=⟨t,m⟩) hR (evalOps_mono _ (fun ls σ h=>yEndC_ok h) (runC_ok hτ hCK hsub h))) fun e a w hq=>?_
      rcases hq with ⟨rfl,σ,h1,h2⟩ | h2
      · exact .inl ⟨σ.t,σ.m,h1,h2⟩
      · exact .inr h2
    | none =>
      rw [hy] at h
      cases hy2:yOf2 x y with
      | some yd =>
        rw [hy2] at h
        obtain ⟨id,rfl,rfl,hE⟩:=yOf2_ok (N:=N) hy2
        obtain ⟨hc1,_⟩:=hc
        simp only [codeOk,Bool.and_eq_true,List.all_eq_true] at hc1
        have hE:=hE hc1.2
        have hops:∃ oc on,yd.ops.toList=yd.pre ++ ([oc,on] ++ yd.tl):=by
          obtain ⟨oc,on,_,_,_,_,_,_,_,e,_⟩:=hE.ex
          exact ⟨oc,on,e⟩
        obtain ⟨oc,on,hops⟩:=hops
        have hsub:∀ o ∈ yd.pre,okO o.dst N=true:=fun o ho=>hc1.2 o (by rw [hops];simp [ho])
        have hsub2:∀ o ∈ yd.tl,okO o.dst N=true:=fun o ho=>hc1.2 o (by rw [hops];simp [ho])
        refine wpIn_seq (wpIn_mono (idiom2_ok hY hKx hCC hN hE (K:=fun σ=>condK (.tmp yd.c) (Q .ret) (Q .normal) σ.t σ.m) (σ:=⟨t,m⟩) hR (evalOps_mono _ (fun ls σ h=>yEndC2_ok hτ hCK hsub2 h) (runC_ok hτ hCK hsub h))) fun e a w hq=>?_)
        obtain ⟨rfl,hq⟩:=hq
        rcases hq with ⟨σ,h1,h2⟩ | ⟨h1,h2⟩
        · obtain ⟨v,h3,h4⟩:=evK_ok h2
          split at h4
          · obtain ⟨g,hs,_⟩:=h1.ex
            have hv:=isBool (ev_rep hs h3)
            exact wpIn_cond_split hv (fun e=>wpIn_ret (.inl ⟨σ.t,σ.m,h1,h4.yes e⟩)) (fun e=>wpIn_skip (.inl ⟨σ.t,σ.m,h1,h4.no e⟩))
          · exact h4.elim
        · exact wpIn_cond_true h1 (wpIn_ret (.inr ⟨rfl,h2⟩))
      | none =>
        rw [hy2] at h
        refine wpIn_seq (wpIn_mono (ihx hc.1 _ t m a w hR h) fun e a w hq=>?_)
        rcases hq with ⟨t',m',h1,h2⟩ | ⟨rfl,h2⟩
        · cases e with
          | normal=>exact ihy hc.2 Q t' m' a w h1 h2
          | _=>exact .inl ⟨t',m',h1,h2⟩
        · exact .inr ⟨rfl,h2⟩
  | cond c x y iha ihb =>
    intro hc Q t m a w hR h
    simp only [codeOk,Bool.and_eq_true] at hc
    unfold awpYC condK at h
    obtain ⟨v,h1,h2⟩:=evK_ok h
    split at h2
    · obtain ⟨g,hs,_⟩:=hR.ex
      have hv:=isBool (ev_rep hs h1)
      exact wpIn_cond_split hv (fun e=>iha hc.1 Q t m a w hR (h2.yes e)) (fun e=>ihb hc.2 Q t m a w hR (h2.no e))
    · exact h2.elim
  | block id c ih =>
    intro hc Q t m a w hR h
    refine wpIn_block (wpIn_mono (ih hc _ t m a w hR h) fun e a w hq=>?_)
    rcases hq with ⟨t',m',h1,h2⟩ | ⟨rfl,h2⟩
    · cases e with
      | exit i =>
        simp only [blockQ] at h2
        simp only [Exit.inBlock]
        cases hi:Nat.beq i id with
        | true=>rw [hi] at h2;rw [if_pos (natBeq hi)];exact .inl ⟨t',m',h1,h2⟩
        | false=>rw [hi] at h2;rw [if_neg (natBeqF hi)];exact .inl ⟨t',m',h1,h2⟩
      | _=>exact .inl ⟨t',m',h1,h2⟩
    · exact .inr ⟨rfl,h2⟩
  | loop c ih =>
    intro hc Q t m a w hR h
    obtain ⟨X,I,inv,μ,x0,h0,hs,hround⟩:=h
    refine wpIn_loop_ghost (fun n a w=>∃ x,inv x∧RS B (tget (I x).1) (I x).2 a w∧μ x=n) (μ x0) ⟨x0,h0,hs B a w hR,rfl⟩ ?_
    intro n a w ⟨x,hx,hRx,hn⟩
    refine wpIn_mono (ih hc _ (I x).1 (I x).2 a w hRx (hround x hx)) fun e a' w' hq=>?_
    rcases hq with ⟨t',m',h1,h2⟩ | ⟨rfl,h2⟩
    · cases e with
      | normal =>
        obtain ⟨x',hx',hsh,hlt⟩:=h2
        exact ⟨μ x',by omega,x',hx',hsh B a' w' h1,rfl⟩
      | _=>exact .inl ⟨t',m',h1,h2⟩
    · exact .inr ⟨rfl,h2⟩
  | rangeFunc f p a b _ _=>intro _ Q t m a w hR h;exact h.elim
  | scope c ih=>intro _ Q t m a w hR h;exact h.elim
  | goto l=>intro _ Q t m a w hR h;exact h.elim
  | refuse s=>intro _ Q t m a w hR h;exact h.elim
end
end Go.Abs
