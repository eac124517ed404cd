/- Proved here: what functions of the given program come to, and the plain laws of it; no condition but those in the theorems. -/
import Derived.Test.YtgllikepncnpkaaGreatAbsS
import Derived.RangeFuncLeaves
import Derived.RangeFuncKeeps
import Derived.RangeFuncCalls
import Derived.TacticsIn
namespace Go.Abs
open Go.RowKit
set_option linter.unusedVariables false
theorem Shift.purT {b:St} {t:Nat} {c c':Cell} {m':Mem} (ht:tget b.t t=some (.c c)) (hp:pur b.m c=some (c',m')):Shift ⟨tset b.t t (.c c'),m'⟩ b:=fun B act w hR=>by
  obtain ⟨⟨g,hs,hI⟩,hd,hz⟩:=hR
  obtain ⟨v,h1,h2⟩:=hs t _ ht
  cases h2 with
  | c h2 =>
    obtain ⟨g',he,hI',hP⟩:=pur_ok hI h2 hp
    refine ⟨⟨g',fun k x hx=>?_,hI'⟩,hd,hz⟩
    simp only [tget_tset] at hx
    split at hx
    · rename_i hk
      simp at hx
      subst hx
      rw [hk]
      exact ⟨v,h1,.c (.pure hP)⟩
    · obtain ⟨u,q1,q2⟩:=hs k x hx
      exact ⟨u,q1,q2.ext he⟩
theorem Shift.purV {b:St} {t:Nat} {i:Id} {e sz n:Nat} {es:List (List Cell)} {f:Bool} (ht:tget b.t t=some (.c (.view i 0 n))) (hm:mget b.m.o i=some (.arr e sz es f)) (hn:n=es.length) :
    Shift ⟨tset b.t t (.c (.lst es)),{ b.m with o:=mset b.m.o i (.arr e sz es true) }⟩ b:=Shift.purT ht (by simp [pur,hm,hn])
end Go.Abs

namespace Go.Abs
open Go.RowKit
set_option linter.unusedVariables false
section
variable {P:Program} {τ:List (Nat × TI)} {qc:Nat→Bool} {np:NPT}
def postR (τ:List (Nat × TI)) (rs:List ResultVar) (r:AV):Exit→List (Nat × AV)→Mem→Prop:=fun e t m=>match e with
  | .normal=>resK τ t m rs fun l=>purAsK m l fun l _=>oneOf l=r
  | .ret=>resK τ t m rs fun l=>purAsK m l fun l _=>oneOf l=r
  | _=>False
theorem does_nilcmp {f:Nat} {fn:Func} {i0 i1:Nat} {ops0:Array Oper} {c rest:Code} {rs:Array ResultVar} {CK:Nat→KT} {T T0 T1 T2:TypeId} {p0 p1:String} {a1:Array Edge}
    (hm : P.follows .mixedOrders = true) (hf : P.funcs[f]? = some fn) (hname : (fn.name == "runtime.NumGoroutine") = false)
    (hb:fn.body=some ((Code.region i0 ops0 false).seq (((Code.region i1 #[{ dst:=some 3,op:=.move (.tmp 0),type:=T0,pos:=p0,after:=#[],guard:=none },{ dst:=some 4,op:=.binOp .eql T (.tmp 3) (.const (.slice none 0 0)) T2,type:=T1,pos:=p1,after:=a1,guard:=none }] false).seq c).seq rest)))
    {N:Nat} (hn:fn.ntmps=N) (hN:5≤N) (hrs:fn.results=rs) (hτ:TyOk P τ) {e:TypeId} (hT:P.underlying T=some (.slice e))
    (hc0:codeOk qc np N (.region i0 ops0 false)=true) (hc1:codeOk qc np N (c.seq rest)=true) (hCK:∀ f args d m k,CK f args d m k→callK P qc f args d m k) {r:AV}
    (h:initK [.c (.lst [])] fun t=>awpC τ np CK (.region i0 ops0 false) (fun e t m=>e=.normal∧tget t 0=some (.c (.lst [])) ∧
      awpC τ np CK (c.seq rest) (postR τ rs.toList r) (tset (tset t 3 (.c (.lst []))) 4 (.c (.sc (.bool true)))) m∧awpC τ np CK (c.seq rest) (postR τ rs.toList r) (tset (tset t 3 (.c (.lst []))) 4 (.c (.sc (.bool false)))) m) t ⟨[],0,[]⟩):Does P f [.c (.lst [])] r:=by
  subst hn
  refine ⟨callable hf hname hb,fun F w vals hF hl hr=>?_⟩
  refine calls_of_wp hf hb ?_
  let B:Base:={ w0:=w,X:=fun _=>False,g0:=g0 F,N:=fn.ntmps,gx:=fun _ h=>h.elim }
  have hI:Inv B (g0 F) ⟨[],0,[]⟩ w:={ ok:=fun i o h=>(by cases h),apart:=fun i j oi oj b h=>(by cases h),fresh:=fun _ _ _ h=>h.elim,flt:=hF,ext:=.refl _ _,fnew:=fun b o h=>.inl h,own:=fun i o b h=>(by cases h),os:=rfl,tape:=rfl,output:=rfl,size:=Nat.le_refl _,block:=fun _ _ _=>rfl }
  have hR:RS B (tget (initT [.c (.lst [])] 0)) ⟨[],0,[]⟩ { tmps:=vals.toArray ++ Array.replicate (fn.ntmps - vals.toArray.size) undef,defers:=[] } w:=by
    refine ⟨⟨g0 F,fun t x hx=>?_,hI⟩,rfl,by have:vals.length=1:=hl;simp [B,this];omega⟩
    obtain ⟨_,h2⟩:=initT_get _ 0 t hx
    rw [Nat.sub_zero] at h2
    have ht:t < vals.length:=by rw [hl];exact (List.getElem?_eq_some_iff.1 h2).1
    refine ⟨vals[t],?_,hr t x _ h2 (List.getElem?_eq_getElem ht)⟩
    rw [Array.getElem?_append,if_pos (by simpa using ht)]
    simp [ht]
  have hCK':∀ f args d m k,callK P qc f args d m k→callK P qc f args d m k:=fun _ _ _ _ _ h=>h
  have fin:∀ (e:Exit) (σ:St) (a:Act) (w':World),RS B (tget σ.t) σ.m a w'→postR τ rs.toList r e σ.t σ.m →
      ((e=.normal ∨ e=.ret)∧a.defers=[]∧∃ v',(results fn a.tmps).run P w'=.ok v' w'∧∃ v F',(Ending.returned v')=.returned v∧(∀ b o,F b o→F' b o)∧(∀ b o,F' b o→F b o ∨ w.heap.size≤b)∧(∀ b o,F' b o→b < w'.heap.size)∧RepA (g0 F') w' r v∧Below w.heap.size w w'):=by
    intro e σ a w' hR' hp
    have he:(e=.normal ∨ e=.ret)∧resK τ σ.t σ.m rs.toList fun l=>purAsK σ.m l fun l _=>oneOf l=r:=by
      cases e with
      | normal=>exact ⟨.inl rfl,hp⟩
      | ret=>exact ⟨.inr rfl,hp⟩
      | _=>exact hp.elim
    obtain ⟨l,h3,h4⟩:=resK_ok hτ he.2
    obtain ⟨l',m',h5,h6⟩:=purAsK_ok h4
    obtain ⟨⟨g,hs,hI'⟩,hd,_⟩:=hR'
    obtain ⟨v,g',m'',q1,q2,q3,q4⟩:=results_ok hs hI' (fn:=fn) (r:=r) ⟨l,l',m',by rw [hrs];exact h3,h5,h6.symm⟩
    exact ⟨he.1,hd,v,q1,v,g'.F,rfl,q3.ext.F,fun b o hF'=>by rcases q3.fnew b o hF' with h | h | h;exact .inl h;exact .inr h;exact h.elim,q3.flt,q4,⟨q3.os,q3.tape,q3.output,q3.size,fun k hk=>q3.block k hk (fun h=>h)⟩⟩
  have h0:=awp_ok hCK' (B:=B) (N:=fn.ntmps) hm rfl _ _ _ _ _ hR (awpC_ok hτ hCK hc0 (initK_go h))
  refine wp_seq (wp_mono h0 fun e a w1 hq=>?_)
  obtain ⟨σ,hR1,rfl,ht0,hT1,hF1⟩:=hq
  obtain ⟨⟨g,hs,hI1⟩,hd1,hz1⟩:=hR1
  obtain ⟨v,hv,hrv⟩:=hs 0 _ ht0
  have hvs:∃ ao cap,v=.slice ao 0 cap:=by
    cases hrv with
    | c hx=>cases hx with
      | pure hx=>cases hx with
        | emp _ _=>exact ⟨_,_,rfl⟩
        | lst _ _ _ _ _ _=>exact ⟨_,_,rfl⟩
  obtain ⟨ao,cap,rfl⟩:=hvs
  have hk:awpC τ np CK (c.seq rest) (postR τ rs.toList r) (tset (tset σ.t 3 (.c (.lst []))) 4 (.c (.sc (.bool ao.isNone)))) σ.m:=by
    cases ao with
    | none=>exact hT1
    | some _=>exact hF1
  have hR2:RS B (tget (tset (tset σ.t 3 (.c (.lst []))) 4 (.c (.sc (.bool ao.isNone))))) σ.m ((a.put (some 3) (.slice ao 0 cap)).put (some 4) (.bool ao.isNone)) w1:=by
    have s3:=slots_put hs (d:=some 3) (x:=some (.c (.lst []))) (v:=.slice ao 0 cap) (fun k y hk hy=>by simp at hk hy;subst hk;subst hy;exact ⟨by rw [hz1];show 3 < fn.ntmps;omega,hrv⟩)
    have s4:=slots_put s3 (d:=some 4) (x:=some (.c (.sc (.bool ao.isNone)))) (v:=.bool ao.isNone) (fun k y hk hy=>by simp at hk hy;subst hk;subst hy;exact ⟨by rw [size_put,hz1];show 4 < fn.ntmps;omega,.c (.pure (.sc rfl))⟩)
    refine ⟨⟨g,fun t x hx=>s4 t x ?_,hI1⟩,by rw [defers_put,defers_put];exact hd1,by rw [size_put,size_put];exact hz1⟩
    simp only [tget_tset] at hx
    simp only [put]
    exact hx
  have h1:awp P qc np (callK P qc) fn.ntmps (c.seq rest) (fun e σ=>postR τ rs.toList r e σ.t σ.m) ⟨tset (tset σ.t 3 (.c (.lst []))) 4 (.c (.sc (.bool ao.isNone))),σ.m⟩:=awpC_ok hτ hCK hc1 hk
  refine wp_seq (wp_seq (wp_region_list (wpList_plain rfl fun K hK=>?_)))
  have x0:a.eval (.tmp 0)=.slice ao 0 cap:=by simp [Act.eval,hv]
  unfold Oper.wp
  simp only [execOp,Sem.run_map,Sem.run_pure,x0,Result.andThen_ok,Oper.upon_value]
  refine hK _ _ (wpList_plain rfl fun K' hK'=>?_)
  have x3:(a.put (some 3) (.slice ao 0 cap)).eval (.tmp 3)=.slice ao 0 cap:=by
    have:3 < a.tmps.size:=by rw [hz1];show 3 < fn.ntmps;omega
    simp [Act.eval,Act.put,this]
  have xn:(a.put (some 3) (.slice ao 0 cap)).eval (.const (.slice none 0 0))=.slice none 0 0:=rfl
  unfold Oper.wp
  simp only [execOp,x3,xn]
  have hr:(do eqGuard .eql T (.tmp 3) (.const (.slice none 0 0)) (.slice ao 0 cap) (.slice none 0 0);binOp .eql T (.slice ao 0 cap) (.slice none 0 0):Sem Value).run P w1=.ok (.bool ao.isNone) w1:=by
    simp [eqGuard,binOp,run_equal_slice_nil w1 T e ao 0 cap hT]
  rw [Sem.run_bind,hr]
  simp only [Result.andThen_ok,Sem.run_pure,Oper.upon_value]
  refine hK' _ _ ?_
  have done:∀ (e:Exit) (a:Act) (w3:World),conc B (fun e σ=>postR τ rs.toList r e σ.t σ.m) e a w3→bodyPost P fn (fun e w'=>∃ v F',e=.returned v∧(∀ b o,F b o→F' b o)∧(∀ b o,F' b o→F b o ∨ w.heap.size≤b)∧(∀ b o,F' b o→b < w'.heap.size)∧RepA (g0 F') w' r v∧Below w.heap.size w w') e a w3:=by
    rintro e a w3 ⟨σ3,hR3,hp⟩
    obtain ⟨he,hd,hfin⟩:=fin e σ3 a w3 hR3 hp
    rcases he with rfl | rfl <;> exact ⟨hd,hfin⟩
  show c.wp P _ _ _
  refine wp_mono (awp_ok hCK' (B:=B) (N:=fn.ntmps) hm rfl c _ _ _ _ hR2 h1) fun e a w2 hq=>?_
  obtain ⟨σ2,hR3,hq⟩:=hq
  cases e with
  | normal=>exact wp_mono (awp_ok hCK' (B:=B) (N:=fn.ntmps) hm rfl rest _ _ _ _ hR3 hq) fun e a w3 hq=>done e a w3 hq
  | _=>exact done _ _ _ ⟨σ2,hR3,hq⟩
end
end Go.Abs

namespace Go.Abs
open Go.RowKit
set_option linter.unusedVariables false
set_option linter.unusedSimpArgs false
section
variable {P:Program} {τ:List (Nat × TI)}
end
end Go.Abs

namespace Go.Abs
open Go.RowKit
set_option linter.unusedVariables false
set_option linter.unusedSimpArgs false
def plainOp (o:Oper):Bool:=match o.op with
  | .defer _=>false
  | _=>true
def plainL:List Oper→Bool
  | []=>true
  | o :: r=>match plainOp o with
    | true=>plainL r
    | false=>false
theorem plainL_mem:∀ {l:List Oper},plainL l=true→∀ o ∈ l,∀ c,o.op ≠ .defer c
  | [],_,_,h,_=>by cases h
  | x :: l,h,o,ho,c=>by
    simp only [plainL] at h
    split at h
    · rename_i e
      rcases List.mem_cons.1 ho with rfl | ho
      · intro e2;simp [plainOp,e2] at e
      · exact plainL_mem h o ho c
    · cases h
def plainC:Code→Bool
  | .skip=>true
  | .label _=>true
  | .region _ ops _=>plainL ops.toList
  | .seq a b=>match plainC a with
    | true=>plainC b
    | false=>false
  | .cond _ a b=>match plainC a with
    | true=>plainC b
    | false=>false
  | .block _ c=>plainC c
  | .loop c=>plainC c
  | .exit _=>true
  | .ret=>true
  | _=>false
section
variable {P:Program} {B:Base} {N:Nat} {qc:Nat→Bool} {CK:Nat→KT}
abbrev rF (L:Nat):Fence:=Fence.wide.inRound L
theorem callsIn_r {L n:Nat} {f:FuncId} {args:Array Value} {w:World} {R:Ending→World→Prop} (h:Calls P f args w R):CallsIn (rF L) n P f args w R:=CallsIn.inRound L (callsIn_wide.2 h)
theorem rowsIn_r {L n:Nat} {row:String} {args:Array Value} {w:World} {R:Value→World→Prop} (h:Rows P row args w R):RowsIn (rF L) n P row args w R:=fun c cs _=>by
  obtain ⟨v,w',r,s⟩:=h c cs
  exact ⟨v,w',r,stepsIn_wide.2 s⟩
theorem wpOps_in {L:Nat} {ops:Array Oper} {Q:Exit→Act→World→Prop} (hp:plainL ops.toList=true) (hQ:¬ LetsOut Q):∀ (l:List Nat) (a:Act) (w:World),wpOps P ops Q l a w→wpOpsIn (rF L) 0 P ops Q l a w
  | [],a,w,h=>h
  | i :: rest,a,w,h=>by
    unfold wpOps at h
    unfold wpOpsIn
    cases ho:ops[i]? with
    | none=>simp only [ho] at h;exact wpOps_in hp hQ rest a w h
    | some o =>
      simp only [ho] at h ⊢
      split at h
      · rename_i hw
        rw [if_pos hw]
        rcases h with h | ⟨_,h⟩
        · have hnd:=plainL_mem hp o (by
            obtain ⟨h1,h2⟩:=Array.getElem?_eq_some_iff.1 ho
            rw [← h2];simp)
          refine ⟨fun _ _=>trivial,?_⟩
          rw [show (rF L).round=some L from rfl,Oper.semAt_some L _ _ hnd]
          unfold Oper.wp at h
          revert h
          generalize (execOp a.eval o).run P w=res
          intro h
          unfold Oper.upon at h
          unfold Oper.uponIn
          split at h
          · exact wpOps_in hp hQ rest _ _ h
          · exact wpOps_in hp hQ rest _ _ h
          · exact wpOps_in hp hQ rest _ _ h
          · refine ⟨fun h=>by simp [rF,Fence.wide] at h,callsIn_r (h.mono fun e w' hr=>?_)⟩
            cases e with
            | returned v=>exact wpOps_in hp hQ rest _ _ hr
            | panicked c=>exact hr
            | outgrown=>exact hr
          · exact ⟨fun h=>by simp [rF,Fence.wide] at h,rowsIn_r (h.mono fun v w' hr=>wpOps_in hp hQ rest _ _ hr)⟩
          · exact h
          · exact h.elim
        · exact absurd h hQ
      · rename_i hw
        rw [if_neg hw]
        exact ⟨fun _ _=>trivial,wpOps_in hp hQ rest _ _ h⟩
theorem wpIn_loop_ghost {F:Fence} {n:Nat} {c:Code} {Q:Exit→Act→World→Prop} {a:Act} {w:World} (I:Nat→Act→World→Prop) (j:Nat) (h₀:I j a w)
    (round:∀ j a w,I j a w→c.wpIn F n P (Exit.then (fun a' w'=>∃ i,i < j∧I i a' w') Q) a w):(Code.loop c).wpIn F n P Q a w:=by
  intro b k cs hro hb hr
  have key:∀ j a w,I j a w →
      ∃ e a' w',Q e a' w'∧ArrivesIn (Machine.fenced P F) P (lone (b.atR a (.code c :: .inLoop c :: k)) cs w) b k cs e a' w':=by
    intro j
    induction j using Nat.strongRecOn with
    | _ j ih =>
      intro a w hI
      obtain ⟨e,a₁,w₁,hq,harr⟩:=round j a w hI b (.inLoop c :: k) cs hro hb hr
      cases e with
      | normal =>
        obtain ⟨i,hlt,hI₁⟩:=hq
        obtain ⟨e₂,a₂,w₂,hq₂,harr₂⟩:=ih i hlt a₁ w₁ hI₁
        exact ⟨e₂,a₂,w₂,hq₂,.of_steps (StepsIn.trans harr (.one (fenced_calm hb hr rfl) stepR_inLoop)) harr₂⟩
      | exit id=>exact ⟨_,a₁,w₁,hq,.pass (x:=.inLoop c) rfl (fun _ _=>.inl (by simp)) harr⟩
      | goto l=>exact ⟨_,a₁,w₁,hq,.pass (x:=.inLoop c) rfl (fun _ _=>.inl (by simp)) harr⟩
      | ret=>exact ⟨_,a₁,w₁,hq,.pass (x:=.inLoop c) rfl (fun _ _=>.inl (by simp)) harr⟩
      | panic ch=>exact ⟨_,a₁,w₁,hq,.pass (x:=.inLoop c) rfl (fun _ _=>.inl (by simp)) harr⟩
      | outgrown=>exact ⟨_,a₁,w₁,hq,.pass (x:=.inLoop c) rfl (fun _ _=>.inl (by simp)) harr⟩
  obtain ⟨e,a',w',hq,harr⟩:=key _ a w h₀
  exact ⟨e,a',w',hq,.of_steps (.one (fenced_calm hb hr rfl) stepR_loop) harr⟩
abbrev concN (B:Base) (Q:St→Prop):Exit→Act→World→Prop:=fun e a w=>e=.normal∧∃ σ:St,RS B (tget σ.t) σ.m a w∧Q σ
theorem concN_out {Q:St→Prop}:¬ LetsOut (concN B Q):=by rintro ⟨a,w,h,_⟩;cases h
theorem awpIn_ok {L:Nat} {np:NPT} (hCK:∀ f args d m k,CK f args d m k→callK P qc f args d m k) (hm:P.follows .mixedOrders=true) (hN:B.N=N):∀ (c:Code) (Q:Exit→St→Prop) (σ:St) (a:Act) (w:World),plainC c=true→RS B (tget σ.t) σ.m a w→awp P qc np CK N c Q σ→c.wpIn (rF L) 0 P (conc B Q) a w:=by
  intro c
  induction c with
  | skip=>intro Q σ a w _ hR h;exact wpIn_skip ⟨σ,hR,h⟩
  | label l=>intro Q σ a w _ hR h;exact wpIn_label ⟨σ,hR,h⟩
  | exit id=>intro Q σ a w _ hR h;exact wpIn_exit ⟨σ,hR,h⟩
  | ret=>intro Q σ a w _ hR h;exact wpIn_ret ⟨σ,hR,h⟩
  | region id ops draw =>
    intro Q σ a w hp hR h
    have hp:plainL ops.toList=true:=hp
    have fin:∀ e a w,concN B (Q .normal) e a w→conc B Q e a w:=fun e a w ⟨he,σ,h1,h2⟩=>by subst he;exact ⟨σ,h1,h2⟩
    cases draw with
    | false =>
      refine wpIn_mono (wpIn_region (wpOps_in hp (concN_out (B:=B) (Q:=Q .normal)) _ _ _ ?_)) fin
      rw [List.range_eq_range',← Array.length_toList,wpOps_eq_wpList ops.toList 0 (by simp)]
      exact evalOps_wp hCK hN _ _ _ _ _ a w (fun ls σ' a w hR' hk=>⟨rfl,σ',hR',hk⟩) hR h
    | true =>
      obtain ⟨h1,h2⟩:=h
      obtain ⟨ls,q1,q2,q3⟩:=evalOps_listS hCK ops.toList 0 [] _ _ (by simp) ⟨fun _ _=>rfl,fun _ _ _ _=>rfl,fun _ _ _ _=>rfl⟩ h2
      by_cases hn:npOk ls (npF np id)=true
      · have hl:LabOk qc (npF np id) ops (labAt ls):=⟨q2.c0,q2.c1,npOk_spec hn⟩
        refine wpIn_mono (wpIn_region_draw fun t=>wpOps_in hp (concN_out (B:=B) (Q:=Q .normal)) _ _ _ ?_) fin
        simp only [Region.schedule,hm,Bool.true_or,if_true]
        refine wpAny_sound ops.size t _ a _ (wpAny_of_anyS (lab:=labAt ls) hN (K:=fun φ F=>∃ σ':St,φ=tget σ'.t∧F=fm σ'.m∧npOk ls (npF np id)=true∧Q .normal σ') (fun φ m a w hR' hk=>?_) _ _ (tget σ.t) (fm (bump σ.m)) a _ ⟨bump σ.m,rfl,hR.bump.drew⟩ ?_)
        · obtain ⟨σ',e1,e2,_,hk⟩:=hk
          subst e1
          exact ⟨rfl,σ',hR'.fm e2,hk⟩
        · have:=anyS_lex (P:=P) (N:=N) h1 hl ops.toList 0 (Array.replicate ops.size false) (tget σ.t) (fm (bump σ.m)) (by simp) (by simp) (fun j hj=>by simp [hj]) (by simp) q3
          simpa using this
      · exfalso
        have key:∀ (l:List Oper) (k:Nat) (φ:Nat→Option AV) (F:FM),listS P N ops (labAt ls) (fun φ F=>∃ σ':St,φ=tget σ'.t∧F=fm σ'.m∧npOk ls (npF np id)=true∧Q .normal σ') k l φ F→False:=by
          intro l
          induction l with
          | nil=>intro k φ F h;obtain ⟨_,_,_,h,_⟩:=h;exact hn h
          | cons o l ih=>intro k φ F h;obtain ⟨_,_,_,h⟩:=h;exact ih _ _ _ h
        exact key _ _ _ _ q3
  | seq x y ihx ihy =>
    intro Q σ a w hp hR h
    simp only [plainC] at hp
    split at hp
    · rename_i hpx
      refine wpIn_seq (wpIn_mono (ihx _ σ a w hpx hR h) fun e a w hq=>?_)
      obtain ⟨σ',hR',hq⟩:=hq
      cases e with
      | normal=>exact ihy Q σ' a w hp hR' hq
      | _=>exact ⟨σ',hR',hq⟩
    · cases hp
  | cond c t e iht ihe =>
    intro Q σ a w hp hR h
    simp only [plainC] at hp
    split at hp
    · rename_i hpt
      unfold awp at h
      split at h
      · rename_i b hb
        obtain ⟨g,hs,_⟩:=hR.ex
        have hv:=isBool (ev_rep hs hb)
        exact wpIn_cond_split hv (fun ht=>iht Q σ a w hpt hR (h.1 ht)) (fun hf=>ihe Q σ a w hp hR (h.2 hf))
      · exact h.elim
    · cases hp
  | block id c ih =>
    intro Q σ a w hp hR h
    refine wpIn_block (wpIn_mono (ih _ σ a w hp hR h) fun e a w hq=>?_)
    obtain ⟨σ',hR',hq⟩:=hq
    cases e with
    | exit i =>
      simp only at hq
      simp only [Exit.inBlock]
      split
      · rename_i hi;rw [if_pos hi] at hq;exact ⟨σ',hR',hq⟩
      · rename_i hi;rw [if_neg hi] at hq;exact ⟨σ',hR',hq⟩
    | _=>exact ⟨σ',hR',hq⟩
  | loop c ih =>
    intro Q σ a w hp hR h
    obtain ⟨X,I,inv,μ,x0,h0,hs,hround⟩:=h
    refine wpIn_loop_ghost (fun n a w=>∃ x,inv x∧RS B (tget (I x).t) (I x).m a w∧μ x=n) (μ x0) ⟨x0,h0,hs B a w hR,rfl⟩ ?_
    intro n a w ⟨x,hx,hRx,hn⟩
    refine wpIn_mono (ih _ (I x) a w hp hRx (hround x hx)) fun e a' w' hq=>?_
    obtain ⟨σ',hR',hq⟩:=hq
    cases e with
    | normal =>
      obtain ⟨x',hx',hsh,hlt⟩:=hq
      exact ⟨μ x',by omega,x',hx',hsh B a' w' hR',rfl⟩
    | _=>exact ⟨σ',hR',hq⟩
  | rangeFunc f p a b _ _=>intro Q σ a w hp hR h;exact h.elim
  | scope c ih=>intro Q σ a w hp;cases hp
  | goto l=>intro Q σ a w _ hR h;exact h.elim
  | refuse s=>intro Q σ a w _ hR h;exact h.elim
end
end Go.Abs

namespace Go.Abs
open Go.RowKit
set_option linter.unusedVariables false
set_option linter.unusedSimpArgs false
section
variable {B:Base} {g:G} {m:Mem} {w w':World}
structure Over (B:Base) (W:World):Prop where
  cell:∀ b o,B.g0.F b o→W.cell? ⟨b,o,none⟩=B.w0.cell? ⟨b,o,none⟩
  os:W.os=B.w0.os
  tape:W.tape=B.w0.tape
  output:W.output=B.w0.output
  size:B.w0.heap.size≤W.heap.size
  block:∀ b,b < B.w0.heap.size→¬ B.X b→W.heap[b]?=B.w0.heap[b]?
theorem Inv.over (h:Inv B g m w):Over B w:=⟨h.ext.cell,h.os,h.tape,h.output,h.size,h.block⟩
def reB (B:Base) (W:World) (N:Nat) (ds:List Deferred) (Z:Nat→Prop):Base:={ w0:=W,X:=fun b=>¬ Z b∧(B.X b ∨ B.w0.heap.size≤b),g0:=B.g0,N:=N,gx:=B.gx,ds:=ds }
theorem Inv.out {W:World} {N:Nat} {ds:List Deferred} {Z:Nat→Prop} (hO:Over B W) (h:Inv (reB B W N ds Z) g m w):Inv B g m w where
  ok:=h.ok
  apart:=h.apart
  fresh:=h.fresh
  flt:=h.flt
  ext:=⟨h.ext.K,h.ext.β,h.ext.sz,h.ext.F,fun b o hF=>(h.ext.cell b o hF).trans (hO.cell b o hF)⟩
  fnew:=fun b o hF=>by
    rcases h.fnew b o hF with h1 | h1 | ⟨_,h1⟩
    · exact .inl h1
    · exact .inr (.inl (Nat.le_trans hO.size h1))
    · exact .inr h1.symm
  own:=fun i o b hi hb=>by
    rcases h.own i o b hi hb with h1 | ⟨_,h1⟩
    · exact .inl (Nat.le_trans hO.size h1)
    · exact h1.symm
  os:=h.os.trans hO.os
  tape:=h.tape.trans hO.tape
  output:=h.output.trans hO.output
  size:=Nat.le_trans hO.size h.size
  block:=fun b hb hX=>(h.block b (Nat.lt_of_lt_of_le hb hO.size) (fun ⟨_,h1⟩=>h1.elim hX (fun h=>by omega))).trans (hO.block b hb hX)
theorem Inv.back {W:World} {N:Nat} {ds:List Deferred} {Z:Nat→Prop} (hO:Over B W) (h:Inv B g m w) (hs:W.heap.size≤w.heap.size) (hZ:∀ b,b < W.heap.size→Z b→w.heap[b]?=W.heap[b]?)
    (hF:∀ b o,g.F b o→B.g0.F b o ∨ W.heap.size≤b ∨ ¬ Z b) (hown:∀ i o b,mget m.o i=some o→blockOf (g.β i)=some b→W.heap.size≤b ∨ ¬ Z b):Inv (reB B W N ds Z) g m w where
  ok:=h.ok
  apart:=h.apart
  fresh:=h.fresh
  flt:=h.flt
  ext:=⟨h.ext.K,h.ext.β,h.ext.sz,h.ext.F,fun b o hF=>(h.ext.cell b o hF).trans (hO.cell b o hF).symm⟩
  fnew:=fun b o hf=>by
    rcases hF b o hf with h1 | h1 | h1
    · exact .inl h1
    · exact .inr (.inl h1)
    · rcases h.fnew b o hf with h2 | h2 | h2
      · exact .inl h2
      · exact .inr (.inr ⟨h1,.inr h2⟩)
      · exact .inr (.inr ⟨h1,.inl h2⟩)
  own:=fun i o b hi hb=>by
    rcases hown i o b hi hb with h1 | h1
    · exact .inl h1
    · exact .inr ⟨h1,(h.own i o b hi hb).symm⟩
  os:=h.os.trans hO.os.symm
  tape:=h.tape.trans hO.tape.symm
  output:=h.output.trans hO.output.symm
  size:=hs
  block:=fun b hb hX=>by
    by_cases hz:Z b
    · exact hZ b hb hz
    · have h1:¬ B.X b:=fun h1=>hX ⟨hz,.inl h1⟩
      have h2:b < B.w0.heap.size:=Nat.lt_of_not_le fun h2=>hX ⟨hz,.inr h2⟩
      exact (h.block b h2 h1).trans (hO.block b h2 h1).symm
theorem Inv.foreign (hI:Inv B g m w) {l:Nat} (hg:w.grownBy w' (some l)) (hl:B.w0.heap.size≤l ∨ B.X l) (hF:∀ o,¬ g.F l o) (hown:∀ i o,mget m.o i=some o→blockOf (g.β i) ≠ some l):Ext g w g w'∧Inv B g m w':=by
  have he:Ext g w g w':=⟨fun _ h=>h,fun _ _=>rfl,fun _ _=>rfl,fun _ _ h=>h,fun b x h=>World.cell?_of_block (w:=w) (a:=⟨b,x,none⟩) (hg.block b (hI.flt b x h) (fun e=>by cases e;exact hF x h))⟩
  refine ⟨he,?_⟩
  refine { ok := ?_, apart := hI.apart, fresh := hI.fresh, flt := fun b x h => Nat.lt_of_lt_of_le (hI.flt b x h) hg.size, ext := hI.ext.trans he, fnew := hI.fnew, own := hI.own, os := hg.os.trans hI.os,
           tape:=hg.tape.trans hI.tape,output:=hg.output.trans hI.output,size:=Nat.le_trans hI.size hg.size,block:=?_ }
  · intro j oj hj
    obtain ⟨hk,ho⟩:=hI.ok j oj hj
    exact ⟨hk,ho.keep hk he fun b hb=>⟨hg.block b (ho.lt hb) (fun e=>by cases e;exact hown j oj hj hb),fun _ h=>h⟩⟩
  · intro b hb hX
    rw [hg.block b (Nat.lt_of_lt_of_le hb hI.size) (fun e=>by cases e;rcases hl with h | h;omega;exact hX h)]
    exact hI.block b hb hX
end
end Go.Abs
