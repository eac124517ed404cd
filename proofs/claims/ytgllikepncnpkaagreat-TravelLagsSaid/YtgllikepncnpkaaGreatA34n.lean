/- Proved here: what functions of the given program come to, and the plain laws of it; no condition but those in the theorems. -/
import Derived.Test.YtgllikepncnpkaaGreatA34k
namespace Go.Proofs
open Go Go.Abs
set_option linter.unusedSimpArgs false
set_option linter.unusedVariables false
set_option maxRecDepth 20000
theorem mkFl_ok:FunB Tryz.prog 26 R_mkFl:=by
  intro cs args k h
  obtain ⟨d,c,l,rfl,rfl,hd,hc,hk⟩:=h
  have hva:=hc.va
  have hck:=csE_of hc.k
  have hcf:=hc.fin
  have hrn:=hc.r.n
  have hc3:=hc.n
  have hln:=hc.ln
  have hlb:∀ x ∈ l,x.us.length≤1000∧x.gs.length≤1000:=fun x hx=>by
    obtain ⟨i,hi⟩:=List.getElem?_of_mem hx
    have hil:=(List.getElem?_eq_some_iff.1 hi).1
    have hv:=(hc.d i _ x (List.getElem?_eq_getElem (show i < c.si.length by omega)) hi).v
    obtain ⟨k1,_,_,k4,k5,_⟩:=validD_at hv
    have:=(ckD_ok k1).n
    have:=(ckD_ok k1).m
    omega
  have hS:staF c l=(fl1 c l,0):=by
    have h2:=vaB_of hva
    unfold fl1 at h2 ⊢
    rw [staF,if_neg (by simp [hck]),if_neg (by simp [h2])]
  refine doesB_ex (qc:=qc1) (np:=[(5,[(0,4),(0,10),(0,11),(1,4),(1,10),(1,11),(3,10),(3,11),(4,10),(4,11),(5,10),(5,11),(10,11)])]) (CK:=ckK [(53,cPu R_start),(14,cB R_next),(37,cB R_mkSu),(40,cPu R_stC)]) mixed Tryz.func26 rfl rfl Tryz.ntmps26 Tryz.results26 τ_ok (by kernel_rfl) (ckK_ok ⟨cPu_ok start_ok rfl,cB_ok next_ok rfl,cB_ok mkSu_ok rfl,cPu_ok stC_ok rfl,trivial⟩) (by simp) rfl rfl ?_
  conv=>whnf
  refine ⟨c,l,rfl,hcf,by omega,hlb,?_⟩
  rw [hS]
  dsimp only
  conv=>whnf
  refine ⟨d,rfl,hd,by omega,fun k0 d hd hk1 hk2=>?_⟩
  conv=>whnf
  refine ⟨Fl × Nat × Int × Dk,fun y=>([(0,.c (.ptr (.x 0) 0)),(4,.c (.ptr (.l 4 0) 0)),(6,.c (.ptr (.l 6 1) 0)),(7,.c (.ptr (.l 7 2) 0)),(9,I y.2.2.1)],⟨[(.x 0,.blk (dkC y.2.2.2)),(.l 4 0,.blk (csC c)),(.l 6 1,.blk [IC 0,.sc (.slice none 0 0),.sc (.slice none 0 0)]),(.l 7 2,.blk (flC y.1))],9,[]⟩),
    fun y=>y.2.2.2.ok∧stepsC c (fl1 c l) y.2.1 y.1∧0≤y.2.2.1∧y.2.1+y.2.2.1≤5,fun y=>y.2.2.1.toNat,(fl1 c l,0,k0,d),⟨hd,.zero,by dsimp only;omega,by dsimp only;omega⟩,Shift.reset ⟨rfl,rfl,rfl,rfl,rfl,trivial⟩ ⟨rfl,rfl,rfl,rfl,trivial⟩ rfl rfl,fun y hy=>?_⟩
  obtain ⟨w,n,kk,d⟩:=y
  obtain ⟨hd,hst,hk3,hk4⟩:=hy
  dsimp only at hd hst hk3 hk4 ⊢
  have hwf:=vaB_fin (vaB_of (hst.va hc))
  conv=>whnf
  refine Fork.mk (fun h=>?_) (fun h=>?_)
  · have hkk:0 < kk:=by simpa using h
    clear h
    have e1:IntKind.i64.wrap (kk - 1)=kk - 1:=wrap_in (by omega) (by omega)
    conv=>whnf
    refine ⟨d,c,rfl,rfl,hd,by omega,by omega,fun p d hd hp=>?_⟩
    have hp1:=hp.n1
    have hp2:=hp.n2
    have hp3:=hp.n3
    conv=>whnf
    refine ⟨c,w,p,rfl,hcf,hwf,by omega,by omega,by omega,fun s' x e hsf _ hE=>?_⟩
    conv=>whnf
    refine Fork.mk (fun h=>?_) (fun h=>?_)
    · have he:e=0:=by simpa using h
      clear h
      conv=>whnf
      rw [e1]
      exact ⟨(s',n+1,kk - 1,d),⟨hd,.succ hst hp (hE he),by dsimp only;omega,by dsimp only;omega⟩,Shift.reset ⟨rfl,rfl,rfl,rfl,rfl,trivial⟩ ⟨rfl,rfl,rfl,rfl,trivial⟩ rfl rfl,by show (kk - 1).toNat < kk.toNat;omega⟩
    · clear h
      conv=>whnf
      rw [e1]
      exact ⟨(w,n,kk - 1,d),⟨hd,hst,by dsimp only;omega,by dsimp only;omega⟩,Shift.reset ⟨rfl,rfl,rfl,rfl,rfl,trivial⟩ ⟨rfl,rfl,rfl,rfl,trivial⟩ rfl rfl,by show (kk - 1).toNat < kk.toNat;omega⟩
  clear h
  conv=>whnf
  exact ⟨rfl,rfl,hk w n d hd (by omega) hst⟩
theorem mkRi_ok:FunB Tryz.prog 12 R_mkRi:=by
  intro cs args k h
  obtain ⟨d,rfl,rfl,hd,hk⟩:=h
  refine doesB_ex (qc:=qc1) (np:=[(2,[(0,4)])]) (CK:=ckK [(25,cB R_mkCs),(26,cB R_mkFl)]) mixed Tryz.func12 rfl rfl Tryz.ntmps12 Tryz.results12 τ_ok (by kernel_rfl) (ckK_ok ⟨cB_ok mkCs_ok rfl,cB_ok mkFl_ok rfl,trivial⟩) (by simp) rfl rfl ?_
  conv=>whnf
  refine ⟨d,rfl,rfl,hd,fun c l d hd hc=>?_⟩
  conv=>whnf
  refine ⟨d,c,l,rfl,rfl,hd,hc,fun w n d hd hn hst=>?_⟩
  conv=>whnf
  exact ⟨rfl,rfl,hk c l w n d hd hc hn hst⟩
end Go.Proofs

namespace Go.Proofs
open Go Go.Abs
set_option linter.unusedSimpArgs false
set_option linter.unusedVariables false
def qGo (lv:Int→Option Int) (l:Lk) (a:Ls):Int:=(lv l.fr).getD (gA a l.fr)
def cGo (lv:Int→Option Int):List Lk→List Ls→Ls→Option (List Ls × Ls)
  | l :: r,w :: ws,a=>if stG l w (qGo lv l a)=true then
      (cGo lv r ws (a.set l.to.toNat (gA a l.to+outF l.ws l.den w (qGo lv l a)))).map fun x=>(stepF l.ws l.den w (qGo lv l a) :: x.1,x.2)
    else none
  | _,_,a=>some ([],a)
theorem cGo_cons (lv : Int → Option Int) (l : Lk) (r : List Lk) (w : Ls) (ws : List Ls) (a : Ls) : cGo lv (l :: r) (w :: ws) a = if stG l w (qGo lv l a) = true then
      (cGo lv r ws (a.set l.to.toNat (gA a l.to+outF l.ws l.den w (qGo lv l a)))).map fun x=>(stepF l.ws l.den w (qGo lv l a) :: x.1,x.2)
    else none:=rfl
theorem cGo_nil (lv:Int→Option Int) (ws:List Ls) (a:Ls):cGo lv [] ws a=some ([],a):=by cases ws <;> rfl
def lvF (si:List Si) (l:Ls) (x:Int):Option Int:=if 0≤snA si x then l[(snA si x).toNat]? else none
def stX (c:Cs) (ws:List Ls) (lv loc:Ls):Except Int (List Ls × Ls) :=
  if lv.length ≠ c.si.length then .error 3 else if (loc.length:Int) ≠ c.rv.n then .error 3 else if lv.any badX=true then .error 1 else if loc.any badX=true then .error 1 else match cGo (lvF c.si lv) c.rv.ls ws loc with
    | none=>.error 1
    | some x=>.ok x
theorem stX_no {c:Cs} {ws:List Ls} {lv loc:Ls} (h:cGo (lvF c.si lv) c.rv.ls ws loc=none) (h1:lv.length=c.si.length) (h2:(loc.length:Int)=c.rv.n):stX c ws lv loc=.error 1:=by
  unfold stX
  rw [if_neg (by omega),if_neg (by omega)]
  split
  · rfl
  split
  · rfl
  rw [h]
theorem stX_ok {c:Cs} {ws:List Ls} {lv loc:Ls} {x:List Ls × Ls} (h:cGo (lvF c.si lv) c.rv.ls ws loc=some x) (h1:lv.length=c.si.length) (h2:(loc.length:Int)=c.rv.n) (h3:lv.any badX=false) (h4:loc.any badX=false):stX c ws lv loc=.ok x:=by
  unfold stX
  rw [if_neg (by omega),if_neg (by omega),if_neg (by simp [h3]),if_neg (by simp [h4]),h]
theorem stX_err {c:Cs} {ws:List Ls} {lv loc:Ls} {e:Int} (h:stX c ws lv loc=.error e):e=3 ∨ e=1:=by
  unfold stX at h
  split at h
  · cases h;exact .inl rfl
  split at h
  · cases h;exact .inl rfl
  split at h
  · cases h;exact .inr rfl
  split at h
  · cases h;exact .inr rfl
  split at h
  · cases h;exact .inr rfl
  · cases h
structure trI (c:Cs) (lv:Int→Option Int) (W:List Ls) (loc A:Ls) (w:List Ls) (i:Nat):Prop where
  e:cGo lv c.rv.ls W loc=(cGo lv (c.rv.ls.drop i) (w.drop i) A).map fun x=>(w.take i ++ x.1,x.2)
  la:A.length=loc.length
  w:WvOk c.rv w
  b:∀ j:Int,0≤gA A j∧gA A j≤1073741824+1125899906842624 * i
theorem gA_b {a:Ls} {B:Int} (hB:0≤B) (h:∀ x ∈ a,0≤x∧x≤B) (j:Int):0≤gA a j∧gA a j≤B:=by
  unfold gA
  rw [List.getD_eq_getElem?_getD]
  cases e:a[j.toNat]? with
  | none=>simp;omega
  | some v=>exact h v (List.mem_of_getElem? e)
theorem bad_in {l:Ls} (h:l.any badX=false):∀ x ∈ l,0≤x∧x≤1073741824:=fun x hx=>by
  have:badX x=false:=by
    cases e:badX x with
    | false=>rfl
    | true=>exact absurd (List.any_eq_true.2 ⟨x,hx,e⟩) (by simp [h])
  simp [badX] at this
  omega
theorem trI.zero {c:Cs} {lv:Int→Option Int} {W:List Ls} {loc:Ls} (hw:WvOk c.rv W) (hl:loc.any badX=false):trI c lv W loc loc W 0 :=
  ⟨by simp,rfl,hw,fun j=>by have:=gA_b (by omega) (bad_in hl) j;omega⟩
theorem trI.done {c:Cs} {lv:Int→Option Int} {W:List Ls} {loc A:Ls} {w:List Ls} {i:Nat} (h:trI c lv W loc A w i) (hi:i=c.rv.ls.length):cGo lv c.rv.ls W loc=some (w,A):=by
  have hl:=h.w.l
  rw [h.e,hi,List.drop_length,cGo_nil]
  simp [List.take_of_length_le,hl]
theorem gA_setT {a:Ls} {i j:Int} {v:Int} (hi:0≤i):gA (a.set i.toNat v) j=gA a j ∨ gA (a.set i.toNat v) j=v:=by
  unfold gA
  rw [List.getD_eq_getElem?_getD,List.getD_eq_getElem?_getD,List.getElem?_set]
  split
  · split
    · exact .inr rfl
    · rename_i e1 e2
      left
      rw [List.getElem?_eq_none (by omega)]
  · exact .inl rfl
theorem trI.step {c:Cs} {lv:Int→Option Int} {W:List Ls} {loc A:Ls} {w:List Ls} {i:Nat} {l:Lk} {p:Ls} (hr:RvOk c.rv) (h:trI c lv W loc A w i) (hl:c.rv.ls[i]?=some l) (hp:w[i]?=some p) :
    (stG l p (qGo lv l A)=true→trI c lv W loc (A.set l.to.toNat (gA A l.to+outF l.ws l.den p (qGo lv l A))) (w.set i (stepF l.ws l.den p (qGo lv l A))) (i+1))∧(stG l p (qGo lv l A)=false→cGo lv c.rv.ls W loc=none):=by
  have hk:=hr.l l (List.mem_of_getElem? hl)
  have hf:=h.w.f i l p hl hp
  have he:=h.e
  rw [dropC hl,dropC hp,cGo_cons] at he
  constructor
  · intro hg
    rw [if_pos hg] at he
    obtain ⟨a1,a2,a3⟩:=stG_ok hg
    have ho:=out_in hk.r hf hg
    have hpl:=(List.getElem?_eq_some_iff.1 hp).1
    refine ⟨?_,by rw [List.length_set];exact h.la,⟨by rw [List.length_set];exact h.w.l,fun k a z ha hz=>?_⟩,fun j=>?_⟩
    · rw [he,List.drop_set_of_lt (by omega),show (w.set i (stepF l.ws l.den p (qGo lv l A))).take (i+1)=w.take i ++ [stepF l.ws l.den p (qGo lv l A)] by
        rw [List.take_add_one,List.getElem?_set_self hpl,List.take_set_of_le (Nat.le_refl _)];rfl]
      cases cGo lv (c.rv.ls.drop (i+1)) (w.drop (i+1)) (A.set l.to.toNat (gA A l.to+outF l.ws l.den p (qGo lv l A))) <;> simp
    · by_cases e:k=i
      · subst e
        rw [List.getElem?_set_self hpl] at hz
        rw [hl] at ha
        cases ha;cases hz
        exact step_fits hk.r hf a1 a2 a3
      · rw [List.getElem?_set_ne (Ne.symm e)] at hz
        exact h.w.f k a z ha hz
    · have hb1:=h.b j
      have hb2:=h.b l.to
      have ho1:=hk.o
      have ho2:=hk.f
      rcases gA_setT (a:=A) (j:=j) (v:=gA A l.to+outF l.ws l.den p (qGo lv l A)) (show 0≤l.to by omega) with e | e <;> rw [e] <;> omega
  · intro hg
    rw [if_neg (by simp [hg])] at he
    rw [he];rfl
theorem trI_all {c:Cs} {lv:Int→Option Int} {W:List Ls} {loc:Ls} {x:List Ls × Ls} (hr:RvOk c.rv) (hw:WvOk c.rv W) (hl:loc.any badX=false) (hx:cGo lv c.rv.ls W loc=some x):∀ i,i≤c.rv.ls.length→∃ A w,trI c lv W loc A w i
  | 0,_=>⟨_,_,trI.zero hw hl⟩
  | i+1,hi=>by
    obtain ⟨A,w,h⟩:=trI_all hr hw hl hx i (by omega)
    have hlw:=h.w.l
    obtain ⟨h1,h2⟩:=h.step hr (List.getElem?_eq_getElem (show i < c.rv.ls.length by omega)) (List.getElem?_eq_getElem (show i < w.length by omega))
    cases hg:stG c.rv.ls[i] w[i] (qGo lv c.rv.ls[i] A) with
    | true=>exact ⟨_,_,h1 hg⟩
    | false=>rw [h2 hg] at hx;cases hx
theorem stX_fit {c:Cs} {w:List Ls} {lv loc:Ls} {x:List Ls × Ls} (hr:RvOk c.rv) (hw:WvOk c.rv w) (h:stX c w lv loc=.ok x):WvOk c.rv x.1∧x.2.length=loc.length∧(loc.length:Int)=c.rv.n∧lv.length=c.si.length∧lv.any badX=false∧loc.any badX=false∧cGo (lvF c.si lv) c.rv.ls w loc=some x:=by
  unfold stX at h
  split at h
  · cases h
  rename_i h1
  split at h
  · cases h
  rename_i h2
  split at h
  · cases h
  rename_i h3
  split at h
  · cases h
  rename_i h4
  split at h
  · cases h
  rename_i y hy
  cases h
  obtain ⟨A,w',hI⟩:=trI_all hr hw (by simpa using h4) hy _ (Nat.le_refl _)
  have e:=hI.done rfl
  rw [hy] at e
  cases e
  exact ⟨hI.w,hI.la,by omega,by omega,by simpa using h3,by simpa using h4,hy⟩
def flG (c:Cs):List Ls→List Ls→List Ls→Except Int (List Ls)
  | ws,l :: ls,m :: ms=>match stX c ws l m with
    | .error e=>.error e
    | .ok x=>match flG c x.1 ls ms with
      | .error e=>.error e
      | .ok r=>.ok (x.2 :: r)
  | _,_,_=>.ok []
def preL (o:List Ls):Except Int (List Ls)→Except Int (List Ls)
  | .error e=>.error e
  | .ok r=>.ok (o ++ r)
theorem preL_nil (x:Except Int (List Ls)):x=preL [] x:=by cases x <;> rfl
theorem preL_app (a b:List Ls) (x:Except Int (List Ls)):preL a (preL b x)=preL (a ++ b) x:=by cases x <;> simp [preL]
theorem flG_ok {c:Cs} {ws:List Ls} {l m:Ls} {ls ms:List Ls} {x:List Ls × Ls} (h:stX c ws l m=.ok x):flG c ws (l :: ls) (m :: ms)=preL [x.2] (flG c x.1 ls ms):=by
  rw [flG,h]
  dsimp only
  cases flG c x.1 ls ms <;> rfl
theorem flG_err {c:Cs} {ws:List Ls} {l m:Ls} {ls ms:List Ls} {e:Int} (h:stX c ws l m=.error e):flG c ws (l :: ls) (m :: ms)=.error e:=by rw [flG,h]
def foX (c:Cs) (s:Fl) (lvs locs:List Ls):Except Int (List Ls):=if rdyE c s ≠ 0 then .error (rdyE c s) else if lvs.length ≠ locs.length then .error 3 else if 400 < lvs.length then .error 10 else flG c s.ws lvs locs
def foA:Except Int (List Ls)→AV
  | .error e=>.tup [.c (.lst []),I e]
  | .ok r=>.tup [.c (.lst (eLw r)),I 0]
theorem kFo {k:AV→Prop} {x y:Except Int (List Ls)} (h:k (foA x)) (e:x=y):k (foA y):=by subst e;exact h
def R_fo:RT:=fun args k=>∃ (c:Cs) (s:Fl) (lvs locs:List Ls),args=[.agg (csC c),.agg (flC s),.c (.lst (eLw lvs)),.c (.lst (eLw locs))]∧c.fin∧s.fin∧vfin lvs∧vfin locs∧k (foA (foX c s lvs locs))
def R_stT (tw:Nat):RG:=fun args os K=>∃ (c:Cs) (lv loc:Ls) (w:List Ls),args=[.agg (csC c),.c (.view (.x 0) 0 w.length),.c (.lst (eL lv)),.c (.lst (eL loc))]∧os=[.arr tw 1 (eV w) false]∧CsOk c∧WvOk c.rv w∧lv.length≤9223372036854775807∧loc.length≤9223372036854775807 ∧
  (∀ x,stX c w lv loc=.ok x→K (.tup [.c (.lst (eL x.2)),I 0]) [.arr tw 1 (eV x.1) false]) ∧
  (∀ e,stX c w lv loc=.error e→∀ w':List Ls,w'.length=w.length→K (.tup [.c (.lst []),I e]) [.arr tw 1 (eV w') false])
def R_stT0:RT:=fun args k=>∃ (c:Cs) (lv loc:Ls),args=[.agg (csC c),.c (.lst []),.c (.lst (eL lv)),.c (.lst (eL loc))]∧CsOk c∧c.rv.ls=[]∧lv.length≤9223372036854775807∧loc.length≤9223372036854775807 ∧
  (∀ x,stX c [] lv loc=.ok x→k (.tup [.c (.lst (eL x.2)),I 0]))∧(∀ e,stX c [] lv loc=.error e→k (.tup [.c (.lst []),I e]))
end Go.Proofs

namespace Go.Proofs
open Go Go.Abs
set_option linter.unusedSimpArgs false
set_option linter.unusedVariables false
set_option maxRecDepth 20000
def R_bez:RT:=fun args k=>∃ x:Int,args=[I x]∧k (Bo (badX x))
theorem bez_ok:FunR Tryz.prog 69 R_bez:=by
  intro args k h
  obtain ⟨x,rfl,hk⟩:=h
  refine does_ex (qc:=qc1) (np:=[]) (CK:=ckK []) mixed Tryz.func69 rfl rfl Tryz.ntmps69 Tryz.results69 τ_ok (by kernel_rfl) (ckK_ok trivial) (by simp) ?_
  conv=>whnf
  unfold badX at hk
  refine Fork.mk (fun h=>?_) (fun h=>?_)
  · rw [h] at hk
    conv=>whnf
    repeat' ((first | refine fork_t ?_ | refine fork_f ?_ | (refine Fork.mk (fun h=>?_) (fun h=>?_);focus (simp at h;done)) | fail) <;> (conv=>whnf))
    exact hk
  rw [h] at hk
  conv=>whnf
  exact hk
def ixG:Nat→Ls→Int
  | _,[]=>-1
  | i,x :: r=>if badX x=true then i else ixG (i+1) r
def R_ixF:RT:=fun args k=>∃ l:Ls,args=[.c (.lst (eL l)),.c (.fn 69 [])]∧l.length≤9223372036854775807∧k (I (ixG 0 l))
theorem ixF_ok:FunR Tryz.prog 89 R_ixF:=by
  intro args k h
  obtain ⟨l,rfl,hl,hk⟩:=h
  have hm:=eL_len l
  refine does_ex (qc:=qc1) (np:=[]) (CK:=ckK [(69,cSc R_bez)]) mixed Tryz.func89 rfl rfl Tryz.ntmps89 Tryz.results89 τ_ok (by kernel_rfl) (ckK_ok ⟨cSc_ok bez_ok,trivial⟩) (by simp) ?_
  conv=>whnf
  refine ⟨Nat,fun i=>([(0,.c (.lst (eL l))),(1,.c (.fn 69 [])),(7,I (eL l).length),(8,I i)],⟨[],9,[]⟩),
    fun i=>i≤l.length∧ixG 0 l=ixG i (l.drop i),fun i=>l.length - i,0,⟨Nat.zero_le _,rfl⟩,Shift.reset ⟨rfl,rfl,rfl,rfl,trivial⟩ trivial rfl rfl,fun i hi=>?_⟩
  obtain ⟨hi1,hi2⟩:=hi
  dsimp only
  conv=>whnf
  refine Fork.mk (fun h=>?_) (fun h=>?_)
  rotate_left
  · have hie:i=l.length:=by simp at h;omega
    rw [hie,List.drop_length] at hi2
    rw [hi2] at hk
    conv=>whnf
    exact hk
  have hi:i < l.length:=by simp at h;omega
  clear h
  have hci:=List.getElem?_eq_getElem hi
  generalize l[i]=x at hci
  rw [drop_of hci,ixG] at hi2
  have hw1:=wr_succ (i:=i) (by omega)
  conv=>whnf
  refine ⟨by omega,eI x,by rw [Int.toNat_natCast,List.getElem?_map,hci];rfl,rfl,?_⟩
  conv=>whnf
  refine ⟨x,rfl,?_⟩
  conv=>whnf
  refine Fork.mk (fun h=>?_) (fun h=>?_)
  · rw [if_pos h] at hi2
    rw [hi2] at hk
    conv=>whnf
    exact hk
  rw [if_neg (by simp [h])] at hi2
  conv=>whnf
  rw [hw1]
  exact ⟨i+1,⟨hi,hi2⟩,Shift.reset ⟨rfl,rfl,rfl,rfl,trivial⟩ trivial rfl rfl,by omega⟩
theorem ixG_any:∀ {l:Ls} {i:Nat},(0≤ixG i l ↔ l.any badX=true)
  | [],i=>by simp [ixG]
  | x :: r,i=>by
    rw [ixG,List.any_cons]
    split
    · rename_i h;simp [h]
    · rename_i h;rw [ixG_any (l:=r)];simp [h]
def R_cnF:RT:=fun args k=>∃ l:Ls,args=[.c (.lst (eL l)),.c (.fn 69 [])]∧l.length≤9223372036854775807∧k (Bo (l.any badX))
theorem cnF_ok:FunR Tryz.prog 68 R_cnF:=by
  intro args k h
  obtain ⟨l,rfl,hl,hk⟩:=h
  refine does_ex (qc:=qc1) (np:=[]) (CK:=ckK [(89,cSc R_ixF)]) mixed Tryz.func68 rfl rfl Tryz.ntmps68 Tryz.results68 τ_ok (by kernel_rfl) (ckK_ok ⟨cSc_ok ixF_ok,trivial⟩) (by simp) ?_
  conv=>whnf
  refine ⟨l,rfl,hl,?_⟩
  conv=>whnf
  have e:l.any badX=decide (0≤ixG 0 l):=by
    have:=ixG_any (l:=l) (i:=0)
    cases h:l.any badX <;> simp_all
  rw [e] at hk
  exact hk
def R_clA:RA:=fun args k=>∃ l:Ls,args=[.c (.lst (eL l))]∧1≤l.length∧l.length≤1000000∧k (.c (.view (.x 0) 0 l.length)) (.arr 3 1 (eL l) false)
theorem clA_ok:FunA Tryz.prog 70 R_clA:=by
  intro args k h
  obtain ⟨l,rfl,h1,hl,hk⟩:=h
  rcases l with _ | ⟨x,l⟩
  · simp at h1
  have hm:=eL_len (x :: l)
  refine doesA_ex (qc:=qc1) (np:=[]) (CK:=ckK []) mixed Tryz.func70 rfl rfl Tryz.ntmps70 Tryz.results70 τ_ok (by kernel_rfl) (ckK_ok trivial) (by simp) rfl ?_
  conv=>whnf
  (repeat ((first | refine fork_t ?_ | refine fork_f ?_);(conv=>whnf)))
  refine ⟨eL_all _,?_⟩
  conv=>whnf
  refine ⟨⟨rfl,rfl,rfl,rfl,by show (0+(eL (x :: l)).length) * 8≤_;omega⟩,?_⟩
  conv=>whnf
  refine ⟨.l 7 1,?_⟩
  conv=>whnf
  have e:([]:List (List Cell)).length+(eL (x :: l)).length=(x :: l).length:=by rw [hm];simp
  refine ⟨rfl,rfl,rfl,?_⟩
  show k (.c (.view (.x 0) 0 (([]:List (List Cell)).length+(eL (x :: l)).length))) (.arr 3 1 ([] ++ eL (x :: l)) false)
  rw [e,List.nil_append]
  exact hk
theorem eV_all (l:List Ls):(eV l).all (fun e=>e.length == 1)=true:=by simp [List.all_eq_true,wvC]
def R_clW1:RA:=fun args k=>∃ l:List Ls,args=[.c (.lst (eV l))]∧1≤l.length∧l.length≤1000000∧k (.c (.view (.x 0) 0 l.length)) (.arr 85 1 (eV l) false)
def R_clW0:RT:=fun args k=>args=[.c (.lst [])]∧k (.c (.lst []))
theorem clW1_ok:FunA Tryz.prog 42 R_clW1:=by
  intro args k h
  obtain ⟨l,rfl,h1,hl,hk⟩:=h
  rcases l with _ | ⟨x,l⟩
  · simp at h1
  have hm:=eV_len (x :: l)
  refine doesA_ex (qc:=qc1) (np:=[]) (CK:=ckK []) mixed Tryz.func42 rfl rfl Tryz.ntmps42 Tryz.results42 τ_ok (by kernel_rfl) (ckK_ok trivial) (by simp) rfl ?_
  conv=>whnf
  (repeat ((first | refine fork_t ?_ | refine fork_f ?_);(conv=>whnf)))
  refine ⟨eV_all _,?_⟩
  conv=>whnf
  refine ⟨⟨rfl,rfl,rfl,rfl,by show (0+(eV (x :: l)).length) * 24≤_;omega⟩,?_⟩
  conv=>whnf
  refine ⟨.l 7 1,?_⟩
  conv=>whnf
  have e:([]:List (List Cell)).length+(eV (x :: l)).length=(x :: l).length:=by rw [hm];simp
  refine ⟨rfl,rfl,rfl,?_⟩
  show k (.c (.view (.x 0) 0 (([]:List (List Cell)).length+(eV (x :: l)).length))) (.arr 85 1 ([] ++ eV (x :: l)) false)
  rw [e,List.nil_append]
  exact hk
theorem clW0_ok:FunR Tryz.prog 42 R_clW0:=by
  intro args k h
  obtain ⟨rfl,hk⟩:=h
  refine ⟨.c (.lst []),?_,hk⟩
  refine does_nilcmp (qc:=qc1) (np:=[]) (CK:=ckK []) mixed Tryz.func42 rfl rfl Tryz.ntmps42 (by omega) Tryz.results42 τ_ok (e:=85) (by kernel_rfl) (by kernel_rfl) (by kernel_rfl) (ckK_ok trivial) ?_
  conv=>whnf
  refine ⟨rfl,rfl,?_,?_⟩
  · conv=>whnf
    (repeat ((first | refine fork_t ?_ | refine fork_f ?_);(conv=>whnf)))
    rfl
  · conv=>whnf
    (repeat ((first | refine fork_t ?_ | refine fork_f ?_);(conv=>whnf)))
    refine ⟨rfl,?_⟩
    conv=>whnf
    refine ⟨⟨rfl,rfl,rfl,rfl,by simp⟩,?_⟩
    conv=>whnf
    refine ⟨by simp,?_⟩
    rfl
end Go.Proofs

namespace Go.Proofs
open Go Go.Abs
set_option linter.unusedSimpArgs false
set_option linter.unusedVariables false
set_option maxRecDepth 20000
theorem stT_ok:FunG Tryz.prog 43 (R_stT 85):=by
  intro args os k h
  obtain ⟨c,lv,loc,w0,rfl,rfl,hc,hw,hll,hlc,hok,her⟩:=h
  have hwl:=hw.l
  have hml:=eL_len lv
  have hmc:=eL_len loc
  have hmx:=eX_len c.si
  have hmk:=eK_len c.rv.ls
  have hr:=hc.r
  have hrl:=hr.len
  have hrn:=hr.n
  have hcn:=hc.n
  have hcm:=hc.m
  refine doesG_ex (qc:=qc1) (np:=[(13,[(1,12),(4,12),(5,12),(7,12)])]) (CK:=ckK [(68,cSc R_cnF),(70,cA R_clA),(71,cSc R_siA),(72,cPu R_stepA)]) mixed Tryz.func43 rfl rfl Tryz.ntmps43 Tryz.results43 τ_ok (by kernel_rfl) (ckK_ok ⟨cSc_ok cnF_ok,cA_ok clA_ok rfl,cSc_ok siA_ok,cPu_ok stepA_ok rfl,trivial⟩) (by simp) rfl rfl ?_
  conv=>whnf
  refine Fork.mk (fun h=>?_) (fun h=>?_)
  · have e:stX c w0 lv loc=.error 3:=by rw [stX,if_pos (by simp at h;omega)]
    conv=>whnf
    repeat' ((first | refine fork_t ?_ | refine fork_f ?_ | (refine Fork.mk (fun h=>?_) (fun h=>?_);focus (simp at h;done)) | fail) <;> (conv=>whnf))
    exact ⟨rfl,rfl,her 3 e w0 rfl⟩
  have h1:lv.length=c.si.length:=by simp at h;omega
  clear h
  conv=>whnf
  refine Fork.mk (fun h=>?_) (fun h=>?_)
  · have e:stX c w0 lv loc=.error 3:=by rw [stX,if_neg (by omega),if_pos (by simp at h;omega)]
    conv=>whnf
    exact ⟨rfl,rfl,her 3 e w0 rfl⟩
  have h2:(loc.length:Int)=c.rv.n:=by simp at h;omega
  clear h
  conv=>whnf
  refine ⟨lv,rfl,hll,?_⟩
  conv=>whnf
  refine Fork.mk (fun h=>?_) (fun h=>?_)
  · have e:stX c w0 lv loc=.error 1:=by rw [stX,if_neg (by omega),if_neg (by omega),if_pos h]
    conv=>whnf
    repeat' ((first | refine fork_t ?_ | refine fork_f ?_ | (refine Fork.mk (fun h=>?_) (fun h=>?_);focus (simp at h;done)) | fail) <;> (conv=>whnf))
    exact ⟨rfl,rfl,her 1 e w0 rfl⟩
  have h3:lv.any badX=false:=h
  clear h
  conv=>whnf
  refine ⟨loc,rfl,hlc,?_⟩
  conv=>whnf
  refine Fork.mk (fun h=>?_) (fun h=>?_)
  · have e:stX c w0 lv loc=.error 1:=by rw [stX,if_neg (by omega),if_neg (by omega),if_neg (by simp [h3]),if_pos h]
    conv=>whnf
    exact ⟨rfl,rfl,her 1 e w0 rfl⟩
  have h4:loc.any badX=false:=h
  clear h
  conv=>whnf
  refine ⟨loc,rfl,by omega,by omega,?_⟩
  conv=>whnf
  refine ⟨Nat × Ls × List Ls,fun y=>([(1,.c (.view (.x 0) 0 w0.length)),(2,.c (.lst (eL lv))),(4,.c (.ptr (.l 4 0) 0)),(10,.c (.view (.l 39 1) 0 loc.length)),(42,.c (.lst (eK c.rv.ls))),(43,I (eK c.rv.ls).length),(44,I y.1)],⟨[(.x 0,.arr 85 1 (eV y.2.2) false),(.l 4 0,.blk (csC c)),(.l 39 1,.arr 3 1 (eL y.2.1) false)],9,[]⟩),
    fun y=>y.1≤c.rv.ls.length∧trI c (lvF c.si lv) w0 loc y.2.1 y.2.2 y.1,fun y=>c.rv.ls.length - y.1,(0,loc,w0),⟨Nat.zero_le _,trI.zero hw h4⟩,Shift.reset ⟨rfl,rfl,rfl,rfl,rfl,rfl,rfl,trivial⟩ ⟨rfl,rfl,rfl,trivial⟩ rfl rfl,fun y hy=>?_⟩
  obtain ⟨i,A,w⟩:=y
  obtain ⟨hi,hI⟩:=hy
  dsimp only at hi hI ⊢
  have hmA:=eL_len A
  have hmw:=eV_len w
  have hlA:=hI.la
  have hlw:=hI.w.l
  have tA:List.take loc.length (List.drop 0 (eL A))=eL A:=by rw [List.drop_zero,List.take_of_length_le (by omega)]
  conv=>whnf
  refine Fork.mk (fun h=>?_) (fun h=>?_)
  rotate_left
  · have hie:i=c.rv.ls.length:=by simp at h;omega
    have hx:=stX_ok (hI.done hie) h1 h2 h3 h4
    conv=>whnf
    refine ⟨by omega,?_⟩
    conv=>whnf
    rw [tA]
    exact ⟨rfl,rfl,hok _ hx⟩
  have hi2:i < c.rv.ls.length:=by simp at h;omega
  clear h
  have hci:=List.getElem?_eq_getElem hi2
  have hcw:=List.getElem?_eq_getElem (show i < w.length by omega)
  generalize c.rv.ls[i]=l at hci
  generalize w[i]=p at hcw
  have hk:=hr.l l (List.mem_of_getElem? hci)
  have hf:=hI.w.f i l p hci hcw
  have hpl:=(fits_facts hf).1
  have hlw5:=(rk_facts hk.r).2.1
  have hk1:=hk.f
  have hk2:=hk.o
  have hk3:=hk.t
  have hw1:=wr_succ (i:=i) (by omega)
  have hcell:∀ j:Int,0≤j→j < c.rv.n→(eL A)[0+j.toNat]?=some (eI (gA A j)):=fun j j1 j2=>by
    obtain ⟨J,rfl⟩:=Int.eq_ofNat_of_zero_le j1
    have:A[J]?=some (gA A J):=by rw [gA_nat];exact gN_get (by omega)
    rw [Nat.zero_add,Int.toNat_natCast,List.getElem?_map,this];rfl
  have hb:=hI.b l.to
  obtain ⟨hS1,hS2⟩:=hI.step hr hci hcw
  have key:∀ q,q=qGo (lvF c.si lv) l A→rkStep l.ws l.den p q=if stG l p (qGo (lvF c.si lv) l A)=true then (stepF l.ws l.den p (qGo (lvF c.si lv) l A),outF l.ws l.den p (qGo (lvF c.si lv) l A),0) else ([],0,1):=fun q hq=>by rw [hq];exact step_eq hk.r hf
  conv=>whnf
  refine ⟨by omega,lkC l,by rw [Int.toNat_natCast,List.getElem?_map,hci];rfl,rfl,?_⟩
  conv=>whnf
  refine ⟨by omega,rfl,?_⟩
  conv=>whnf
  refine ⟨eI (gA A l.fr),hcell _ (by omega) (by omega),?_⟩
  conv=>whnf
  refine ⟨c,l.fr,rfl,by omega,?_⟩
  conv=>whnf
  refine Fork.mk (fun h=>?_) (fun h=>?_)
  · have hsn:0≤snA c.si l.fr:=by simpa using h
    clear h
    obtain ⟨J,s,hJ1,hJ2,hJ3⟩:∃ (j:Nat) (s:Si),c.si[j]?=some s∧s.nd=l.fr∧snA c.si l.fr=(j:Int):=by
      rcases snA_is c.si l.fr with ⟨h,_⟩ | h
      · omega
      · exact h
    have hJl:=(List.getElem?_eq_some_iff.1 hJ1).1
    have hcq:=List.getElem?_eq_getElem (show J < lv.length by omega)
    generalize lv[J]=q at hcq
    have hq:q=qGo (lvF c.si lv) l A:=by
      unfold qGo lvF
      rw [if_pos hsn,hJ3,Int.toNat_natCast,hcq];rfl
    conv=>whnf
    rw [hJ3]
    refine ⟨by omega,eI q,by rw [Int.toNat_natCast,List.getElem?_map,hcq];rfl,rfl,?_⟩
    conv=>whnf
    refine ⟨by omega,rfl,?_⟩
    conv=>whnf
    refine ⟨wvC p,by rw [Nat.zero_add,Int.toNat_natCast,List.getElem?_map,hcw];rfl,?_⟩
    conv=>whnf
    refine ⟨l.ws,p,rfl,rfl,by omega,by omega,?_⟩
    rw [key q hq]
    by_cases hg:stG l p (qGo (lvF c.si lv) l A)=true
    · rw [if_pos hg]
      have hI2:=hS1 hg
      have ho:=out_in hk.r hf hg
      generalize stepF l.ws l.den p (qGo (lvF c.si lv) l A)=u at hI2
      generalize outF l.ws l.den p (qGo (lvF c.si lv) l A)=v at hI2 ho
      have e5:IntKind.i64.wrap (gA A l.to+v)=gA A l.to+v:=wrap_in (by omega) (by omega)
      conv=>whnf
      repeat' ((first | refine fork_t ?_ | refine fork_f ?_ | (refine Fork.mk (fun h=>?_) (fun h=>?_);focus (simp at h;done)) | fail) <;> (conv=>whnf))
      refine ⟨by omega,rfl,?_⟩
      conv=>whnf
      refine ⟨wvC p,by rw [Nat.zero_add,Int.toNat_natCast,List.getElem?_map,hcw];rfl,Nat.le_refl _,?_⟩
      conv=>whnf
      refine ⟨by omega,rfl,?_⟩
      conv=>whnf
      refine ⟨eI (gA A l.to),hcell _ (by omega) (by omega),?_⟩
      conv=>whnf
      refine ⟨by omega,rfl,?_⟩
      conv=>whnf
      refine ⟨eI (gA A l.to),hcell _ (by omega) (by omega),Nat.le_refl _,?_⟩
      conv=>whnf
      rw [hw1,e5]
      have q1:(eV w).set (0+((i:Int)).toNat) (wvC u)=eV (w.set i u):=by rw [Nat.zero_add,Int.toNat_natCast,eV_set]
      have q4:(eL A).set (0+l.to.toNat) (eI (gA A l.to+v))=eL (A.set l.to.toNat (gA A l.to+v)):=by rw [Nat.zero_add,eL_set]
      refine ⟨(i+1,A.set l.to.toNat (gA A l.to+v),w.set i u),⟨hi2,hI2⟩,Shift.reset ⟨rfl,rfl,rfl,rfl,rfl,rfl,rfl,trivial⟩ ⟨?_,rfl,?_,trivial⟩ rfl rfl,by dsimp only;omega⟩
      · dsimp only;rw [← q1];rfl
      · dsimp only;rw [← q4];rfl
    have hx:=stX_no (hS2 (by simpa using hg)) h1 h2
    rw [if_neg hg]
    conv=>whnf
    repeat' ((first | refine fork_t ?_ | refine fork_f ?_ | (refine Fork.mk (fun h=>?_) (fun h=>?_);focus (simp at h;done)) | fail) <;> (conv=>whnf))
    exact ⟨rfl,rfl,her 1 hx w (by omega)⟩
  have hsn:¬ 0≤snA c.si l.fr:=by simpa using h
  clear h
  obtain ⟨q,hqA⟩:∃ q,q=gA A l.fr:=⟨_,rfl⟩
  have hq:q=qGo (lvF c.si lv) l A:=by
    unfold qGo lvF
    rw [if_neg hsn,hqA];rfl
  rw [← hqA]
  conv=>whnf
  refine ⟨by omega,rfl,?_⟩
  conv=>whnf
  refine ⟨wvC p,by rw [Nat.zero_add,Int.toNat_natCast,List.getElem?_map,hcw];rfl,?_⟩
  conv=>whnf
  refine ⟨l.ws,p,rfl,rfl,by omega,by omega,?_⟩
  rw [key q hq]
  by_cases hg:stG l p (qGo (lvF c.si lv) l A)=true
  · rw [if_pos hg]
    have hI2:=hS1 hg
    have ho:=out_in hk.r hf hg
    generalize stepF l.ws l.den p (qGo (lvF c.si lv) l A)=u at hI2
    generalize outF l.ws l.den p (qGo (lvF c.si lv) l A)=v at hI2 ho
    have e5:IntKind.i64.wrap (gA A l.to+v)=gA A l.to+v:=wrap_in (by omega) (by omega)
    conv=>whnf
    repeat' ((first | refine fork_t ?_ | refine fork_f ?_ | (refine Fork.mk (fun h=>?_) (fun h=>?_);focus (simp at h;done)) | fail) <;> (conv=>whnf))
    refine ⟨by omega,rfl,?_⟩
    conv=>whnf
    refine ⟨wvC p,by rw [Nat.zero_add,Int.toNat_natCast,List.getElem?_map,hcw];rfl,Nat.le_refl _,?_⟩
    conv=>whnf
    refine ⟨by omega,rfl,?_⟩
    conv=>whnf
    refine ⟨eI (gA A l.to),hcell _ (by omega) (by omega),?_⟩
    conv=>whnf
    refine ⟨by omega,rfl,?_⟩
    conv=>whnf
    refine ⟨eI (gA A l.to),hcell _ (by omega) (by omega),Nat.le_refl _,?_⟩
    conv=>whnf
    rw [hw1,e5]
    have q1:(eV w).set (0+((i:Int)).toNat) (wvC u)=eV (w.set i u):=by rw [Nat.zero_add,Int.toNat_natCast,eV_set]
    have q4:(eL A).set (0+l.to.toNat) (eI (gA A l.to+v))=eL (A.set l.to.toNat (gA A l.to+v)):=by rw [Nat.zero_add,eL_set]
    refine ⟨(i+1,A.set l.to.toNat (gA A l.to+v),w.set i u),⟨hi2,hI2⟩,Shift.reset ⟨rfl,rfl,rfl,rfl,rfl,rfl,rfl,trivial⟩ ⟨?_,rfl,?_,trivial⟩ rfl rfl,by dsimp only;omega⟩
    · dsimp only;rw [← q1];rfl
    · dsimp only;rw [← q4];rfl
  have hx:=stX_no (hS2 (by simpa using hg)) h1 h2
  rw [if_neg hg]
  conv=>whnf
  repeat' ((first | refine fork_t ?_ | refine fork_f ?_ | (refine Fork.mk (fun h=>?_) (fun h=>?_);focus (simp at h;done)) | fail) <;> (conv=>whnf))
  exact ⟨rfl,rfl,her 1 hx w (by omega)⟩
theorem stT0_ok:FunR Tryz.prog 43 R_stT0:=by
  intro args k h
  obtain ⟨c,lv,loc,rfl,hc,hls,hll,hlc,hok,her⟩:=h
  have hw:WvOk c.rv []:=⟨by rw [hls];rfl,fun i a p h=>by rw [hls] at h;simp at h⟩
  have hml:=eL_len lv
  have hmc:=eL_len loc
  have hmx:=eX_len c.si
  have hmk:=eK_len c.rv.ls
  have hr:=hc.r
  have hrl:=hr.len
  have hrn:=hr.n
  have hcn:=hc.n
  have hcm:=hc.m
  refine does_ex (qc:=qc1) (np:=[(13,[(1,12),(4,12),(5,12),(7,12)])]) (CK:=ckK [(68,cSc R_cnF),(70,cA R_clA),(71,cSc R_siA),(72,cPu R_stepA)]) mixed Tryz.func43 rfl rfl Tryz.ntmps43 Tryz.results43 τ_ok (by kernel_rfl) (ckK_ok ⟨cSc_ok cnF_ok,cA_ok clA_ok rfl,cSc_ok siA_ok,cPu_ok stepA_ok rfl,trivial⟩) (by simp) ?_
  conv=>whnf
  refine Fork.mk (fun h=>?_) (fun h=>?_)
  · have e:stX c [] lv loc=.error 3:=by rw [stX,if_pos (by simp at h;omega)]
    conv=>whnf
    repeat' ((first | refine fork_t ?_ | refine fork_f ?_ | (refine Fork.mk (fun h=>?_) (fun h=>?_);focus (simp at h;done)) | fail) <;> (conv=>whnf))
    exact her 3 e
  have h1:lv.length=c.si.length:=by simp at h;omega
  clear h
  conv=>whnf
  refine Fork.mk (fun h=>?_) (fun h=>?_)
  · have e:stX c [] lv loc=.error 3:=by rw [stX,if_neg (by omega),if_pos (by simp at h;omega)]
    conv=>whnf
    exact her 3 e
  have h2:(loc.length:Int)=c.rv.n:=by simp at h;omega
  clear h
  conv=>whnf
  refine ⟨lv,rfl,hll,?_⟩
  conv=>whnf
  refine Fork.mk (fun h=>?_) (fun h=>?_)
  · have e:stX c [] lv loc=.error 1:=by rw [stX,if_neg (by omega),if_neg (by omega),if_pos h]
    conv=>whnf
    repeat' ((first | refine fork_t ?_ | refine fork_f ?_ | (refine Fork.mk (fun h=>?_) (fun h=>?_);focus (simp at h;done)) | fail) <;> (conv=>whnf))
    exact her 1 e
  have h3:lv.any badX=false:=h
  clear h
  conv=>whnf
  refine ⟨loc,rfl,hlc,?_⟩
  conv=>whnf
  refine Fork.mk (fun h=>?_) (fun h=>?_)
  · have e:stX c [] lv loc=.error 1:=by rw [stX,if_neg (by omega),if_neg (by omega),if_neg (by simp [h3]),if_pos h]
    conv=>whnf
    exact her 1 e
  have h4:loc.any badX=false:=h
  clear h
  conv=>whnf
  refine ⟨loc,rfl,by omega,by omega,?_⟩
  conv=>whnf
  rw [hls]
  have hx:=stX_ok (ws:=[]) (by rw [hls];exact cGo_nil _ _ _) h1 h2 h3 h4
  have tA:List.take loc.length (List.drop 0 (eL loc))=eL loc:=by rw [List.drop_zero,List.take_of_length_le (by omega)]
  refine ⟨Nat,fun i=>([(10,.c (.view (.l 39 1) 0 loc.length)),(43,I 0),(44,I 0)],⟨[(.l 39 1,.arr 3 1 (eL loc) false)],9,[]⟩),
    fun i=>True,fun i=>i,0,trivial,Shift.reset ⟨rfl,rfl,rfl,trivial⟩ ⟨rfl,trivial⟩ rfl rfl,fun i hi=>?_⟩
  dsimp only
  conv=>whnf
  refine Fork.mk (fun h=>by simp at h) (fun h=>?_)
  conv=>whnf
  refine ⟨by omega,?_⟩
  conv=>whnf
  rw [tA]
  exact hok _ hx
end Go.Proofs
