/- Proved here: what functions of the given program come to, and the plain laws of it; no condition but those in the theorems. -/
import Derived.Test.YtgllikepncnpkaaGreatAbsX
namespace Go.Abs
set_option linter.unusedSimpArgs false
open Go.RowKit
def noC:Cell→Bool
  | .sc _=>true
  | .lst _=>true
  | .full _=>true
  | _=>false
def noCs:List Cell→Bool
  | []=>true
  | c :: r=>match noC c with
    | true=>noCs r
    | false=>false
def noA:AV→Bool
  | .c x=>noC x
  | .agg cs=>noCs cs
  | .tup l=>go l
where go:List AV→Bool
  | []=>true
  | .c x :: r=>(match noC x with
    | true=>go r
    | false=>false)
  | .agg cs :: r=>(match noCs cs with
    | true=>go r
    | false=>false)
  | .tup _ :: _=>false
theorem noC_ren {ρ:Id→Id} {c:Cell} (h:noC c=true):renC ρ c=c:=by cases c <;> first | rfl | cases h
theorem noC_in {D:Id→Prop} {c:Cell} (h:noC c=true):inC D c:=by cases c <;> first | trivial | cases h
theorem noCs_ren {ρ:Id→Id}:∀ {l:List Cell},noCs l=true→renCs ρ l=l
  | [],_=>rfl
  | c :: r,h=>by
    unfold noCs at h
    split at h
    · rename_i h1;simp only [renCs,noC_ren h1,noCs_ren h]
    · cases h
theorem noCs_in {D:Id→Prop}:∀ {l:List Cell},noCs l=true→inCs D l
  | [],_=>trivial
  | c :: r,h=>by
    unfold noCs at h
    split at h
    · rename_i h1;exact ⟨noC_in h1,noCs_in h⟩
    · cases h
theorem noA_go {ρ:Id→Id} {D:Id→Prop}:∀ {l:List AV},noA.go l=true→renAs ρ l=l∧inAs D l
  | [],_=>⟨rfl,trivial⟩
  | .c x :: r,h=>by
    unfold noA.go at h
    split at h
    · rename_i h1
      obtain ⟨h2,h3⟩:=noA_go (ρ:=ρ) (D:=D) h
      exact ⟨by simp only [renAs,renA,noC_ren h1,h2],noC_in h1,h3⟩
    · cases h
  | .agg cs :: r,h=>by
    unfold noA.go at h
    split at h
    · rename_i h1
      obtain ⟨h2,h3⟩:=noA_go (ρ:=ρ) (D:=D) h
      exact ⟨by simp only [renAs,renA,noCs_ren h1,h2],noCs_in h1,h3⟩
    · cases h
  | .tup _ :: _,h=>by simp [noA.go] at h
theorem noA_ren {ρ:Id→Id} {x:AV} (h:noA x=true):renA ρ x=x:=by
  cases x with
  | c x=>simp only [renA,noC_ren (ρ:=ρ) h]
  | agg cs=>simp only [renA,noCs_ren (ρ:=ρ) h]
  | tup l=>simp only [renA,(noA_go (ρ:=ρ) (D:=fun _=>True) h).1]
theorem noA_in {D:Id→Prop} {x:AV} (h:noA x=true):inA D x:=by
  cases x with
  | c x=>exact noC_in h
  | agg cs=>exact noCs_in h
  | tup l=>exact (noA_go (ρ:=id) (D:=D) h).2
def noAs:List AV→Bool
  | []=>true
  | x :: r=>match noA x with
    | true=>noAs r
    | false=>false
theorem noAs_ren {ρ:Id→Id}:∀ {l:List AV},noAs l=true→renAs ρ l=l
  | [],_=>rfl
  | c :: r,h=>by
    unfold noAs at h
    split at h
    · rename_i h1;simp only [renAs,noA_ren h1,noAs_ren h]
    · cases h
theorem noAs_in {D:Id→Prop}:∀ {l:List AV},noAs l=true→inAs D l
  | [],_=>trivial
  | c :: r,h=>by
    unfold noAs at h
    split at h
    · rename_i h1;exact ⟨noA_in h1,noAs_in h⟩
    · cases h
def outAK (own:Bool) (m:Mem) (x:AV) (k:AV→Mem→Prop):Prop :=
  match x with
  | .c (.ptr i off)=>k (.c (.ptr i off)) m
  | x=>match own with
    | true=>k x m
    | false=>purA1K m x k
theorem outAK_ok {own:Bool} {m:Mem} {x:AV} {k:AV→Mem→Prop} (h:outAK own m x k):∃ y m',outA own m x=some (y,m')∧k y m':=by
  unfold outAK at h
  unfold outA
  split at h
  · exact ⟨_,_,rfl,h⟩
  · rename_i hne
    split
    · rename_i i off;exact absurd rfl (hne i off)
    · cases own with
      | true=>exact ⟨_,_,rfl,h⟩
      | false =>
        obtain ⟨y,m',h1,h2⟩:=purA1K_ok h
        exact ⟨y,m',h1,h2⟩
def outAsK (own:Bool) (m:Mem):List AV→(List AV→Mem→Prop)→Prop
  | [],k=>k [] m
  | x :: r,k=>outAK own m x fun y m1=>outAsK own m1 r fun l m2=>k (y :: l) m2
theorem outAsK_ok {own:Bool}:∀ {l:List AV} {m:Mem} {k:List AV→Mem→Prop},outAsK own m l k→∃ l' m',outAs own m l=some (l',m')∧k l' m'
  | [],m,k,h=>⟨[],m,rfl,h⟩
  | x :: r,m,k,h=>by
    obtain ⟨y,m1,h1,h2⟩:=outAK_ok h
    obtain ⟨l,m2,h3,h4⟩:=outAsK_ok h2
    exact ⟨_,_,by simp only [outAs,h1,h3],h4⟩
section
variable {P:Program} {τ:List (Nat × TI)}
abbrev m1 (cs:List Cell):List (Id × MObj):=[(.x 0,.blk cs)]
theorem keys_m1 {cs:List Cell} {i:Id}:keys (m1 cs) i ↔ i=.x 0:=by
  constructor
  · rintro ⟨o,h⟩
    simp only [m1,mget] at h
    split at h
    · assumption
    · cases h
  · rintro rfl;exact ⟨.blk cs,by simp [m1,mget]⟩
def DoesB (P:Program) (f:Nat) (cs:List Cell) (args:List AV) (r:AV) (cs':List Cell):Prop :=
  (noCs cs=true∧noAs args=true∧noA r=true∧noCs cs'=true)∧DoesM P f (.c (.ptr (.x 0) 0) :: args) (m1 cs) r (m1 cs')
theorem callSem_out {own:Bool} {f:Nat} {args args':List AV} {m m1 m2:Mem} {r:AV} (hp:outAs own m args=some (args',m1)) (h:CallSem P f args' m1 r m2):CallSem P f args m r m2:=by
  refine ⟨h.1,fun B g w vals hI hl hrep=>?_⟩
  obtain ⟨hl',g1,e1,i1,p1⟩:=outAs_ok hI hl hrep hp
  refine (h.2 B g1 w vals i1 (by omega) p1).mono fun e w' ⟨v,g',he,h1,h2,h3⟩=>⟨v,g',he,e1.trans h1,h2,h3⟩
theorem outA_loc {own:Bool} {m m':Mem} {x y:AV} (h:outA own m x=some (y,m')):Loc (idsA x) m m' y (outA own · x):=by
  by_cases hp:∃ i off,x=.c (.ptr i off)
  · obtain ⟨i,off,rfl⟩:=hp
    simp [outA] at h
    obtain ⟨rfl,rfl⟩:=h
    exact (Loc.refl fun _=>rfl).mono (fun i hi=>by cases hi)
  · have hu:∀ M,outA own M x=if own=true then some (x,M) else purA1 M x:=fun M=>by
      unfold outA
      split
      · rename_i i off;exact absurd ⟨i,off,rfl⟩ hp
      · cases own <;> rfl
    rw [hu] at h
    cases own with
    | true =>
      simp at h
      obtain ⟨rfl,rfl⟩:=h
      exact (Loc.refl fun M=>by rw [hu];rfl).mono (fun i hi=>by cases hi)
    | false=>exact (purA1_loc (m:=m) h).map fun M M1 g=>by rw [hu];exact g
theorem outAs_loc {own:Bool}:∀ {l l':List AV} {m m':Mem},outAs own m l=some (l',m')→Loc (idsAs l) m m' l' (outAs own · l)
  | [],_,m,m',h=>by simp [outAs] at h;obtain ⟨rfl,rfl⟩:=h;exact .refl fun _=>rfl
  | x :: r,l',m,m',h=>by
    unfold outAs at h
    split at h
    · rename_i e1
      split at h
      · rename_i e2
        simp at h
        obtain ⟨rfl,rfl⟩:=h
        exact (outA_loc e1).bind (outAs_loc e2) fun M M1 M2 h1 h2=>by simp only [outAs,h1,h2]
      · cases h
    · cases h
abbrev RB:=List Cell→List AV→(AV→List Cell→Prop)→Prop
def FunB (P:Program) (f:Nat) (R:RB):Prop:=∀ cs args k,R cs args k→∃ r cs',DoesB P f cs args r cs'∧k r cs'
def cB (R:RB):KT:=fun args _ m k=>match args with
  | .c (.ptr i 0) :: rest=>outAsK false m rest fun rest' m1=>mgetK i (fun o=>match o with
    | .blk cs=>R cs rest' fun r cs'=>msetK i (.blk cs') m1.o fun o'=>setOK m1 o' fun m'=>k r m' ⟨[],i :: idsAs rest,false⟩
    | .arr ..=>False) m1.o
  | _=>False
theorem updW_then {W:List Id} {i:Id} {o:MObj} {m2 M M2:Mem} (u:UpdW W m2 M M2):UpdW (i :: W) { m2 with o:=mset m2.o i o } M { M2 with o:=mset M2.o i o }:=by
  refine ⟨fun j=>?_,u.nx,u.us⟩
  simp only [mget_mset]
  by_cases e:j=i
  · rw [if_pos e,if_pos (inI_cons.2 (.inl e)),if_pos e]
  · rw [if_neg e,u.o j]
    by_cases e2:inI j W=true
    · rw [if_pos e2,if_pos (inI_cons.2 (.inr e2)),if_neg e]
    · rw [if_neg e2,if_neg (fun h=>(inI_cons.1 h).elim e e2)]
theorem cB_ok {f:Nat} {qc:Nat→Bool} {R:RB} (h:FunB P f R) (hq:qc f=false):KOk P qc f (cB R):=fun args d m k hk=>by
  unfold cB at hk
  split at hk
  · rename_i i rest
    obtain ⟨rest',m2,h1,h2⟩:=outAsK_ok hk
    obtain ⟨o,h3,h4⟩:=mgetK_ok h2
    split at h4
    · rename_i cs
      obtain ⟨r,cs',⟨hno,hd⟩,h5⟩:=h _ _ _ h4
      have h6:=setOK_ok (msetK_ok h5)
      have hl:=outAs_loc h1
      have hu:=updW_then (i:=i) (o:=.blk cs') hl.self
      refine ⟨r,{ o:=mset m2.o i (.blk cs'),nx:=m2.nx,us:=m2.us },_,⟨fm_updW hu,fun M hM _=>?_⟩,(fun e=>by rw [hq] at e;cases e),h6⟩
      obtain ⟨M2,g1,g2⟩:=hl.all M fun j hj=>hM.1 j (.inr (inI_cons.2 (.inr hj)))
      have h3':mget M2.o i=some (.blk cs):=by
        rw [g2.o i,← h3]
        by_cases e:inI i (idsAs rest)=true
        · rw [if_pos e]
        · rw [if_neg e,hl.self.o i,if_neg e];exact hM.1 i (.inr (inI_cons.2 (.inl rfl)))
      refine ⟨{ o:=mset M2.o i (.blk cs'),nx:=M2.nx,us:=M2.us },?_,fm_updW (updW_then g2)⟩
      refine callSem_out (own:=false) (args':=.c (.ptr i 0) :: rest') (m1:=M2) (by simp only [outAs,outA,g1]) ?_
      have hc:=callM (ρ:=fun _=>i) (M:=M2) (M':={ o:=mset M2.o i (.blk cs'),nx:=M2.nx,us:=M2.us }) hd ⟨fun j o hj=>?_,fun j o hj=>?_,fun j h1 h2=>?_,fun a b ha hb _=>?_,fun _ _ h=>h⟩ ⟨keys_m1.2 rfl,noAs_in hno.2.1⟩ (noA_in hno.2.2.1)
      · simp only [renAs,renA,renC,noAs_ren hno.2.1,noA_ren hno.2.2.1] at hc
        exact hc
      · have hj0:=keys_m1.1 ⟨o,hj⟩
        subst hj0
        simp [m1,mget] at hj
        subst hj
        exact ⟨by rw [h3'];simp only [renO,noCs_ren hno.1],noCs_in hno.1⟩
      · simp only [mget_mset] at hj
        split at hj
        · rename_i e
          simp at hj
          subst hj
          exact .inl ⟨.x 0,.blk cs',by simp [m1,mget],e.symm,by simp only [renO,noCs_ren hno.2.2.2],noCs_in hno.2.2.2⟩
        · rename_i e
          exact .inr ⟨hj,fun _ _ e'=>e e'.symm⟩
      · exact absurd (keys_m1.2 (keys_m1.1 h1)) h2
      · have ea:a=.x 0:=by rcases ha with ha | ha <;> exact keys_m1.1 ha
        have eb:b=.x 0:=by rcases hb with hb | hb <;> exact keys_m1.1 hb
        rw [ea,eb]
    · exact h4.elim
  · exact hk.elim
def DoesN (P:Program) (f:Nat) (args:List AV) (cs:List Cell):Prop:=(noAs args=true∧noCs cs=true)∧DoesM P f args [] (.c (.ptr (.x 0) 0)) (m1 cs)
theorem doesN_of {f : Nat} {fn : Func} {c : Code} {rs : Array ResultVar} {qc : Nat → Bool} {np : NPT} {CK : Nat → KT} (hm : P.follows .mixedOrders = true) (hf : P.funcs[f]? = some fn) (hname : (fn.name == "runtime.NumGoroutine") = false) (hb : fn.body = some c) {N : Nat} (hn : fn.ntmps = N) (hrs : fn.results = rs) (hτ : TyOk P τ)
    (hcode:codeOk qc np N c=true) {args:List AV} {cs:List Cell} (hCK:∀ f args d m k,CK f args d m k→callK P qc f args d m k) (hsz:args.length≤N)
    (hno:noAs args=true∧noCs cs=true)
    (h:initK args fun t=>awpC τ np CK c (fun e t mm=>match e with
      | .normal=>resK τ t mm rs.toList fun l=>outAsK false mm l fun l mf=>(match l with
        | [.c (.ptr i 0)]=>mgetK i (fun o=>MObj.blk cs=o) mf.o
        | _=>False)
      | .ret=>resK τ t mm rs.toList fun l=>outAsK false mm l fun l mf=>(match l with
        | [.c (.ptr i 0)]=>mgetK i (fun o=>MObj.blk cs=o) mf.o
        | _=>False)
      | _=>False) t ⟨[],0,[]⟩):DoesN P f args cs:=by
  refine ⟨hno,?_⟩
  have leaf : ∀ (l : List AV) (mf : Mem), (match l with
        | [.c (.ptr i 0)]=>mgetK i (fun o=>MObj.blk cs=o) mf.o
        | _=>False)→∃ ρ,LeafM ρ [] (m1 cs) (.c (.ptr (.x 0) 0)) mf.o (oneOf l):=fun l mf hg=>by
    split at hg
    · rename_i i
      obtain ⟨o,h1,h2⟩:=mgetK_ok hg
      refine ⟨fun _=>i,rfl,.inr (keys_m1.2 rfl),fun j o' hj=>?_,fun a b ha hb _=>by rw [keys_m1.1 ha,keys_m1.1 hb],fun j ⟨o,hj⟩=>by cases hj⟩
      have hj0:=keys_m1.1 ⟨o',hj⟩
      subst hj0
      simp [m1,mget] at hj
      subst hj
      exact ⟨by rw [h1,← h2];simp only [renO,noCs_ren hno.2],noCs_in hno.2⟩
    · exact hg.elim
  refine spec_ofM (qc:=qc) (np:=np) (CK:=callK P qc) (own:=false) hm hf hname hb hn (fun i ⟨o,hi⟩=>by cases hi) (fun _ _ _ _ _ h=>h) hsz ?_
  refine awp_mono (fun e σ h=>?_) (awpC_ok hτ hCK hcode (initK_go h))
  subst hrs
  cases e with
  | normal =>
    obtain ⟨l,h1,h2⟩:=resK_ok hτ h
    obtain ⟨l',m',h3,h4⟩:=outAsK_ok h2
    exact ⟨trivial,l,l',m',h1,h3,leaf _ _ h4⟩
  | ret =>
    obtain ⟨l,h1,h2⟩:=resK_ok hτ h
    obtain ⟨l',m',h3,h4⟩:=outAsK_ok h2
    exact ⟨trivial,l,l',m',h1,h3,leaf _ _ h4⟩
  | _=>exact h.elim
abbrev RN:=List AV→(List Cell→Prop)→Prop
def FunN (P:Program) (f:Nat) (R:RN):Prop:=∀ args k,R args k→∃ cs,DoesN P f args cs∧k cs
def cN (R:RN):KT:=fun args d m k=>match d with
  | none=>False
  | some d=>outAsK false m args fun args' m1=>R args' fun cs=>addK d m1 (.blk cs) fun i m'=>k (.c (.ptr i 0)) m' ⟨[],i :: idsAs args,true⟩
theorem fm_add {R W:List Id} {d:Nat} {m m1 M M1:Mem} {obj:MObj} (hs:UpdW W m1 m m1) (u:UpdW W m1 M M1) (hn:M.nx=m.nx) (he:mget M.o (.l d m.nx)=mget m.o (.l d m.nx)) :
    fm (addObj d M1 obj)=updF ⟨R,.l d m.nx :: W,true⟩ (some d) (fm (addObj d m1 obj)) (fm M):=by
  have hid:newId d M1=.l d m.nx:=by simp [newId,u.nx,hn]
  have hid1:newId d m1=.l d m.nx:=by simp [newId,hs.nx]
  refine fm_ext (fun i=>?_) (by simp [fm,updF,addObj,u.nx]) (fun s=>?_)
  · simp only [fm,updF,addObj,mget_snoc,hid,hid1]
    by_cases e:i=.l d m.nx
    · rw [if_pos (inI_cons.2 (.inl e)),u.o i,hs.o i,e]
      by_cases e2:inI (.l d m.nx) W=true
      · rw [if_pos e2]
      · rw [if_neg e2,if_neg e2,he]
    · simp only [if_neg e]
      by_cases e2:inI i W=true
      · rw [if_pos (inI_cons.2 (.inr e2)),u.o i,if_pos e2]
      · rw [if_neg (fun h=>(inI_cons.1 h).elim e e2),u.o i,if_neg e2]
        cases mget M.o i <;> rfl
  · simp only [fm,updF,addObj,memU,isD,u.us,Bool.true_and]
    cases Nat.beq s d <;> simp
theorem cN_ok {f:Nat} {qc:Nat→Bool} {R:RN} (h:FunN P f R) (hq:qc f=false):KOk P qc f (cN R):=fun args d m k hk=>by
  unfold cN at hk
  split at hk
  · exact hk.elim
  rename_i d
  obtain ⟨args',m2,h1,h2⟩:=outAsK_ok hk
  obtain ⟨cs,⟨hno,hd⟩,h3⟩:=h _ _ h2
  have h4:=addK_ok h3
  have hl:=outAs_loc h1
  have hn0:m2.nx=m.nx:=hl.self.nx
  rw [show newId d m2=.l d m.nx by simp [newId,hn0]] at h4
  refine ⟨_,addObj d m2 (.blk cs),_,⟨fm_add hl.self hl.self rfl rfl,fun M hM hf=>?_⟩,(fun e=>by rw [hq] at e;cases e),h4⟩
  obtain ⟨M2,g1,g2⟩:=hl.all M fun j hj=>hM.1 j (.inr (inI_cons.2 (.inr hj)))
  have hM2:M2.nx=m.nx:=g2.nx.trans hM.2
  refine ⟨addObj d M2 (.blk cs),?_,fm_add hl.self g2 hM.2 (hM.1 _ (.inr (inI_cons.2 (.inl rfl))))⟩
  refine callSem_out (own:=false) g1 ?_
  have hus:memU d M2.us=false:=by rw [g2.us];exact hf
  have hU:Used (addObj d M2 (.blk cs)) d m.nx:=.inr ⟨by simp [addObj,hM2],by simp only [addObj];exact usd_self hus⟩
  have hN:∀ s k,Used M2 s k→Used (addObj d M2 (.blk cs)) s k:=fun s k hh=>by
    rcases hh with h | ⟨h,h'⟩
    · exact .inl h
    · refine .inr ⟨h,?_⟩
      simp only [addObj]
      exact usd_cons h'
  have key:∀ M':Mem,(∀ j,mget M'.o j=if j=.l d m.nx then some (.blk cs) else mget M2.o j)→(∀ s k,Used M2 s k→Used M' s k)→Used M' d m.nx→CallSem P f args' M2 (.c (.ptr (.l d m.nx) 0)) M':=fun M' hM' hN hU=>by
    have hc:=callM (ρ:=fun _=>.l d m.nx) (M:=M2) (M':=M') hd ⟨fun j o hj=>(by cases hj),fun j o hj=>?_,fun j h1 h2=>⟨d,m.nx,rfl,by rw [← hM2];exact not_used hus,hU⟩,fun a b ha hb _=>?_,hN⟩ (noAs_in hno.1) (.inr (keys_m1.2 rfl))
    · simp only [noAs_ren hno.1,renA,renC] at hc
      exact hc
    · rw [hM'] at hj
      split at hj
      · rename_i e
        simp at hj
        subst hj
        exact .inl ⟨.x 0,.blk cs,by simp [m1,mget],e.symm,by simp only [renO,noCs_ren hno.2],noCs_in hno.2⟩
      · rename_i e
        exact .inr ⟨hj,fun _ ⟨o,hi⟩=>by cases hi⟩
    · rcases ha with ⟨o,ha⟩ | ha
      · cases ha
      · rcases hb with ⟨o,hb⟩ | hb
        · cases hb
        · rw [keys_m1.1 ha,keys_m1.1 hb]
  -- a name that is in the memory is in use: the new one is not
  refine ⟨hd.1,fun B g w vals hI=>?_⟩
  have hnone:mget M2.o (.l d m.nx)=none:=by
    cases e:mget M2.o (.l d m.nx) with
    | none=>rfl
    | some o=>exact absurd (hI.ok _ _ e).1 (hI.fresh d m.nx (by rw [← hM2];exact not_used hus))
  refine (key (addObj d M2 (.blk cs)) (fun j=>?_) hN hU).2 B g w vals hI
  have hid:newId d M2=.l d m.nx:=by simp [newId,hM2]
  simp only [addObj,mget_snoc,hid]
  by_cases e:j=.l d m.nx
  · rw [e,hnone]
  · rw [if_neg e,if_neg e]
    cases mget M2.o j <;> rfl
end
end Go.Abs

namespace Go.Abs
set_option linter.unusedVariables false
theorem wrap_in {z:Int} (h1:-9223372036854775808≤z) (h2:z≤9223372036854775807):IntKind.i64.wrap z=z:=Go.IntWalk.i64_in z ⟨h1,h2⟩
set_option linter.unusedSimpArgs false
open Go.RowKit
section
variable {P:Program} {qc:Nat→Bool} {np:NPT} {N:Nat} {τ:List (Nat × TI)}
theorem stepK_det {o:Oper} {σ:St} {k:St→Lab→Prop} (h:stepK P (callK P qc) N o σ k):∃ σ' ℓ',k σ' ℓ'∧stepK P (callK P qc) N o σ (fun σ ℓ=>σ=σ'∧ℓ=ℓ'):=by
  unfold stepK at h ⊢
  split at h
  · rename_i ho
    split at h
    · rename_i hd
      split at h
      · rename_i h1 h2 h3
        split at h
        · rename_i h4
          exact ⟨_,_,h,by simp only [hd,h1,h2,h3,h4,and_self]⟩
        · exact h.elim
      · exact h.elim
    · exact h.elim
  · split at h
    · obtain ⟨h0,r,m',ℓ,h1,h2,h3⟩:=h
      exact ⟨_,_,h3,h0,r,m',ℓ,h1,h2,rfl,rfl⟩
    · exact h.elim
  · rename_i op ha hb
    split at h
    · rename_i d hd
      split at h
      · exact ⟨_,_,h,rfl,rfl⟩
      · exact h.elim
    · exact h.elim
theorem evalOps_det {ops:Array Oper} {dr:Bool}:∀ (l:List Oper) {n:Nat} {ls:List (Nat × Lab)} {σ:St} {k:List (Nat × Lab)→St→Prop},evalOps P (callK P qc) N ops dr n l ls σ k→∃ ls' σ',k ls' σ'∧evalOps P (callK P qc) N ops dr n l ls σ (fun l s=>l=ls'∧s=σ')
  | [],n,ls,σ,k,h=>⟨ls,σ,h,rfl,rfl⟩
  | o :: l,n,ls,σ,k,h=>by
    unfold evalOps at h ⊢
    have go:∀ {σ:St},(memO o.dst σ.m.us=false∧stepK P (callK P qc) N o σ fun σ' ℓ=>evalOps P (callK P qc) N ops dr (n+1) l (recL n ℓ ls) σ' k)→∃ ls' σ',k ls' σ'∧(memO o.dst σ.m.us=false∧stepK P (callK P qc) N o σ fun σ'' ℓ=>evalOps P (callK P qc) N ops dr (n+1) l (recL n ℓ ls) σ'' (fun l s=>l=ls'∧s=σ')):=fun h=>by
      obtain ⟨σ1,ℓ,h1,h2⟩:=stepK_det h.2
      obtain ⟨ls2,σ2,h3,h4⟩:=evalOps_det l h1
      exact ⟨ls2,σ2,h3,h.1,stepK_mono (fun σ ℓ' e=>by rw [e.1,e.2];exact h4) h2⟩
    generalize hσ:(⟨σ.t,bumpIf dr σ.m⟩:St)=σb at h ⊢
    unfold guardK at h ⊢
    split at h
    · obtain ⟨ls',σ',h1,h2⟩:=go h
      exact ⟨ls',σ',h1,h2⟩
    · rename_i j want hg
      split at h
      · rename_i d hd
        split at h
        · rename_i b hb
          simp only [hd,hb]
          by_cases hbw:b=want
          · obtain ⟨ls',σ',h1,h2⟩:=go (h.1 hbw)
            exact ⟨ls',σ',h1,fun _=>h2,fun e=>by rw [hbw] at e;cases want <;> simp at e⟩
          · have hbn:b=!want:=by cases b <;> cases want <;> simp_all
            obtain ⟨ls',σ',h1,h2⟩:=evalOps_det l (h.2 hbn).2
            exact ⟨ls',σ',h1,fun e=>absurd e hbw,fun _=>⟨(h.2 hbn).1,h2⟩⟩
        · rename_i hb
          simp only [hd,hb]
          obtain ⟨ls',σ',h1,h2⟩:=evalOps_det l h.2
          exact ⟨ls',σ',h1,h.1,h2⟩
        · exact h.elim
      · exact h.elim
theorem awp_loop_det {c:Code} {σf:St} {ef:Exit} {σ σ1:St} (hround:awp P qc np (callK P qc) N c (fun e s=>match e with | .normal=>s=σ1 | e=>False) σ) {σ2:St} (hs:Shift σ2 σ1)
    (h:awp P qc np (callK P qc) N (.loop c) (fun e s=>e=ef∧s=σf) σ2):awp P qc np (callK P qc) N (.loop c) (fun e s=>e=ef∧s=σf) σ:=by
  obtain ⟨X,I,inv,μ,x0,h0,hs0,hr⟩:=h
  refine ⟨Option X,fun x=>match x with | none=>σ | some x=>I x,fun x=>match x with | none=>True | some x=>inv x,fun x=>match x with | none=>μ x0+1 | some x=>μ x,none,trivial,Shift.refl _,fun x hx=>?_⟩
  cases x with
  | none =>
    refine awp_mono (fun e s h=>?_) hround
    cases e with
    | normal =>
      simp only at h
      subst h
      exact ⟨some x0,h0,hs0.trans hs,Nat.lt_succ_self _⟩
    | _=>exact h.elim
  | some x =>
    refine awp_mono (fun e s h=>?_) (hr x hx)
    cases e with
    | normal =>
      obtain ⟨x',h1,h2,h3⟩:=h
      exact ⟨some x',h1,h2,h3⟩
    | _=>exact h
theorem awp_det:∀ {c:Code} {Q:Exit→St→Prop} {σ:St},awp P qc np (callK P qc) N c Q σ→∃ ef σf,Q ef σf∧awp P qc np (callK P qc) N c (fun e s=>e=ef∧s=σf) σ:=by
  intro c
  induction c with
  | skip=>intro Q σ h;exact ⟨_,_,h,rfl,rfl⟩
  | label l=>intro Q σ h;exact ⟨_,_,h,rfl,rfl⟩
  | exit id=>intro Q σ h;exact ⟨_,_,h,rfl,rfl⟩
  | ret=>intro Q σ h;exact ⟨_,_,h,rfl,rfl⟩
  | region id ops draw =>
    intro Q σ h
    cases draw with
    | true =>
      obtain ⟨ls,σ',h1,h2⟩:=evalOps_det _ h.2
      exact ⟨.normal,σ',h1.2,h.1,evalOps_mono _ (fun l s e=>⟨by rw [e.1];exact h1.1,rfl,e.2⟩) h2⟩
    | false =>
      obtain ⟨ls,σ',h1,h2⟩:=evalOps_det _ h
      exact ⟨.normal,σ',h1,evalOps_mono _ (fun l s e=>⟨rfl,e.2⟩) h2⟩
  | seq x y ihx ihy =>
    intro Q σ h
    obtain ⟨e1,σ1,h1,h2⟩:=ihx h
    cases e1 with
    | normal =>
      obtain ⟨e2,σ2,h3,h4⟩:=ihy h1
      refine ⟨e2,σ2,h3,?_⟩
      show awp P qc np (callK P qc) N x _ σ
      exact awp_mono (fun e s ⟨he,hs⟩=>by subst he;subst hs;exact h4) h2
    | _ =>
      refine ⟨_,σ1,h1,?_⟩
      show awp P qc np (callK P qc) N x _ σ
      exact awp_mono (fun e s ⟨he,hs⟩=>by subst he;subst hs;exact ⟨rfl,rfl⟩) h2
  | cond c t e iht ihe =>
    intro Q σ h
    unfold awp at h ⊢
    split at h
    · rename_i b hb
      cases b with
      | true =>
        obtain ⟨e2,σ2,h3,h4⟩:=iht (h.1 rfl)
        exact ⟨e2,σ2,h3,by simp only [hb];exact ⟨fun _=>h4,fun e=>by cases e⟩⟩
      | false =>
        obtain ⟨e2,σ2,h3,h4⟩:=ihe (h.2 rfl)
        exact ⟨e2,σ2,h3,by simp only [hb];exact ⟨(fun e=>by cases e),fun _=>h4⟩⟩
    · exact h.elim
  | block id c ih =>
    intro Q σ h
    obtain ⟨e1,σ1,h1,h2⟩:=ih h
    cases e1 with
    | exit i =>
      simp only at h1
      by_cases hi:i=id
      · rw [if_pos hi] at h1
        refine ⟨.normal,σ1,h1,?_⟩
        show awp P qc np (callK P qc) N c _ σ
        exact awp_mono (fun e s ⟨he,hs⟩=>by subst he;subst hs;simp only [if_pos hi];exact ⟨trivial,trivial⟩) h2
      · rw [if_neg hi] at h1
        refine ⟨.exit i,σ1,h1,?_⟩
        show awp P qc np (callK P qc) N c _ σ
        exact awp_mono (fun e s ⟨he,hs⟩=>by subst he;subst hs;simp only [if_neg hi];exact ⟨trivial,trivial⟩) h2
    | _ =>
      refine ⟨_,σ1,h1,?_⟩
      show awp P qc np (callK P qc) N c _ σ
      exact awp_mono (fun e s ⟨he,hs⟩=>by subst he;subst hs;exact ⟨rfl,rfl⟩) h2
  | loop c ih =>
    intro Q σ h
    obtain ⟨X,I,inv,μ,x0,h0,hs,hround⟩:=h
    have key:∀ (n:Nat) (x:X),μ x=n→inv x→∃ ef σf,Q ef σf∧awp P qc np (callK P qc) N (.loop c) (fun e s=>e=ef∧s=σf) (I x):=by
      intro n
      induction n using Nat.strongRecOn with
      | ind n ihn =>
        intro x hn hx
        obtain ⟨e1,σ1,h1,h2⟩:=ih (hround x hx)
        cases e1 with
        | normal =>
          obtain ⟨x',h3,h4,h5⟩:=h1
          obtain ⟨ef,σf,h6,h7⟩:=ihn (μ x') (by omega) x' rfl h3
          exact ⟨ef,σf,h6,awp_loop_det (σ1:=σ1) (awp_mono (fun e s ⟨he,hs⟩=>by subst he;exact hs) h2) h4 h7⟩
        | _ =>
          refine ⟨_,σ1,h1,Unit,fun _=>I x,fun _=>True,fun _=>0,(),trivial,Shift.refl _,fun _ _=>awp_mono (fun e s ⟨he,hs⟩=>?_) h2⟩
          subst he
          exact ⟨rfl,hs⟩
    obtain ⟨ef,σf,h6,X',I',inv',μ',x0',h0',hs',hr'⟩:=key _ x0 rfl h0
    exact ⟨ef,σf,h6,X',I',inv',μ',x0',h0',hs'.trans hs,hr'⟩
  | rangeFunc f p a b _ _=>intro Q σ h;exact h.elim
  | scope c ih =>
    intro Q σ h
    obtain ⟨e1,σ1,h1,h2⟩:=ih h
    refine ⟨e1,σ1,?_,?_⟩
    · cases e1 with
      | goto l=>exact h1.elim
      | _=>exact h1
    · show awp P qc np (callK P qc) N c _ σ
      refine awp_mono (fun e s ⟨he,hs⟩=>?_) h2
      subst he;subst hs
      cases e with
      | goto l=>exact h1.elim
      | _=>exact ⟨rfl,rfl⟩
  | goto l=>intro Q σ h;exact h.elim
  | refuse s=>intro Q σ h;exact h.elim
theorem does_ex {f : Nat} {fn : Func} {c : Code} {rs : Array ResultVar} {CK : Nat → KT} (hm : P.follows .mixedOrders = true) (hf : P.funcs[f]? = some fn) (hname : (fn.name == "runtime.NumGoroutine") = false) (hb : fn.body = some c) {N : Nat} (hn : fn.ntmps = N) (hrs : fn.results = rs) (hτ : TyOk P τ)
    (hcode:codeOk qc np N c=true) {args:List AV} {k:AV→Prop} (hCK:∀ f args d m k,CK f args d m k→callK P qc f args d m k) (hsz:args.length≤N)
    (h:initK args fun t=>awpC τ np CK c (fun e t m=>match e with
      | .normal=>resK τ t m rs.toList fun l=>purAsK m l fun l _=>k (oneOf l)
      | .ret=>resK τ t m rs.toList fun l=>purAsK m l fun l _=>k (oneOf l)
      | _=>False) t ⟨[],0,[]⟩):∃ r,Does P f args r∧k r:=by
  obtain ⟨ef,σf,h1,h2⟩:=awp_det (awpC_ok hτ hCK hcode (initK_go h))
  have hef:(ef=.normal ∨ ef=.ret)∧resK τ σf.t σf.m rs.toList fun l=>purAsK σf.m l fun l _=>k (oneOf l):=by
    cases ef with
    | normal=>exact ⟨.inl rfl,h1⟩
    | ret=>exact ⟨.inr rfl,h1⟩
    | _=>exact h1.elim
  obtain ⟨l,h3,h4⟩:=resK_ok hτ hef.2
  obtain ⟨l',m',h5,h6⟩:=purAsK_ok h4
  have hh:awp P qc np (callK P qc) N c (fun e σ=>(match e with | .normal=>True | .ret=>True | _=>False)∧RetIs P fn σ (oneOf l')) ⟨initT args 0,⟨[],0,[]⟩⟩:=by
    refine awp_mono ?_ h2
    rintro e σ ⟨rfl,rfl⟩
    refine ⟨?_,l,l',m',by rw [hrs];exact h3,h5,rfl⟩
    rcases hef.1 with rfl | rfl <;> trivial
  exact ⟨oneOf l',spec_of (qc:=qc) (np:=np) (CK:=callK P qc) hm hf hname hb hn (fun _ _ _ _ _ h=>h) hsz hh,h6⟩
theorem doesB_ex {f : Nat} {fn : Func} {c : Code} {rs : Array ResultVar} {CK : Nat → KT} (hm : P.follows .mixedOrders = true) (hf : P.funcs[f]? = some fn) (hname : (fn.name == "runtime.NumGoroutine") = false) (hb : fn.body = some c) {N : Nat} (hn : fn.ntmps = N) (hrs : fn.results = rs) (hτ : TyOk P τ)
    (hcode:codeOk qc np N c=true) {args:List AV} {cs:List Cell} {k:AV→List Cell→Prop} (hCK:∀ f args d m k,CK f args d m k→callK P qc f args d m k) (hsz:args.length+1≤N)
    (hno:noCs cs=true) (hna:noAs args=true)
    (h:initK (.c (.ptr (.x 0) 0) :: args) fun t=>awpC τ np CK c (fun e t mm=>match e with
      | .normal=>resK τ t mm rs.toList fun l=>outAsK false mm l fun l mf=>mgetK (.x 0) (fun o=>match o with
        | .blk cs'=>noA (oneOf l)=true∧noCs cs'=true∧k (oneOf l) cs'
        | .arr ..=>False) mf.o
      | .ret=>resK τ t mm rs.toList fun l=>outAsK false mm l fun l mf=>mgetK (.x 0) (fun o=>match o with
        | .blk cs'=>noA (oneOf l)=true∧noCs cs'=true∧k (oneOf l) cs'
        | .arr ..=>False) mf.o
      | _=>False) t ⟨m1 cs,0,[]⟩):∃ r cs',DoesB P f cs args r cs'∧k r cs':=by
  obtain ⟨ef,σf,h1,h2⟩:=awp_det (awpC_ok hτ hCK hcode (initK_go h))
  have hef : (ef = .normal ∨ ef = .ret) ∧ resK τ σf.t σf.m rs.toList fun l => outAsK false σf.m l fun l mf => mgetK (.x 0) (fun o => match o with
        | .blk cs'=>noA (oneOf l)=true∧noCs cs'=true∧k (oneOf l) cs'
        | .arr ..=>False) mf.o:=by
    cases ef with
    | normal=>exact ⟨.inl rfl,h1⟩
    | ret=>exact ⟨.inr rfl,h1⟩
    | _=>exact h1.elim
  obtain ⟨l,h3,h4⟩:=resK_ok hτ hef.2
  obtain ⟨l',m',h5,h6⟩:=outAsK_ok h4
  obtain ⟨o,h7,h8⟩:=mgetK_ok h6
  split at h8
  · rename_i cs'
    obtain ⟨n1,n2,hk⟩:=h8
    have hh:awp P qc np (callK P qc) N c (fun e σ=>(match e with | .normal=>True | .ret=>True | _=>False)∧RetM P false fn σ (fun rf mf=>∃ ρ,LeafM ρ (m1 cs) (m1 cs') (oneOf l') mf.o rf)) ⟨initT (.c (.ptr (.x 0) 0) :: args) 0,⟨m1 cs,0,[]⟩⟩:=by
      refine awp_mono ?_ h2
      rintro e σ ⟨rfl,rfl⟩
      refine ⟨?_,l,l',m',by rw [hrs];exact h3,h5,id,?_⟩
      · rcases hef.1 with rfl | rfl <;> trivial
      · refine ⟨noA_ren n1,noA_in n1,fun i o' hi=>?_,fun i j _ _ e=>e,fun _ _=>rfl⟩
        have hi0:=keys_m1.1 ⟨o',hi⟩
        subst hi0
        simp [m1,mget] at hi
        subst hi
        exact ⟨by rw [id,h7];simp only [renO,noCs_ren n2],noCs_in n2⟩
    exact ⟨oneOf l',cs',⟨⟨hno,hna,n1,n2⟩,spec_ofM (qc:=qc) (np:=np) (CK:=callK P qc) (own:=false) hm hf hname hb hn (fun i hi=>⟨0,keys_m1.1 hi⟩) (fun _ _ _ _ _ h=>h) (by simpa using hsz) hh⟩,hk⟩
  · exact h8.elim
end
end Go.Abs
