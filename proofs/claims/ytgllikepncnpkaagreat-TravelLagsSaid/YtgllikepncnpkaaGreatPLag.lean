/- Proved here: what functions of the given program come to, and the plain laws of it; no condition but those in the theorems. -/
import Derived.Test.YtgllikepncnpkaaGreatPTrav2
import Derived.Test.YtgllikepncnpkaaGreatA34x
namespace Go.Proofs
open Go Go.Abs
set_option linter.unusedSimpArgs false
set_option linter.unusedVariables false
def addL:List Lk→Ls→Ls→Ls
  | l :: r,v :: t,a=>addL r t (a.set l.to.toNat (gA a l.to+v))
  | _,_,a=>a
theorem addL_cons (l:Lk) (r:List Lk) (v:Int) (t:Ls) (a:Ls):addL (l :: r) (v :: t) a=addL r t (a.set l.to.toNat (gA a l.to+v)):=rfl
theorem addL_nil (t:Ls) (a:Ls):addL [] t a=a:=by cases t <;> rfl
theorem inS_low {j:Int}:∀ {ls:List Lk} {cm:Ls},(∀ l ∈ ls,j < l.to)→inS ls cm j=0
  | [],cm,_=>by cases cm <;> rfl
  | l :: r,[],_=>rfl
  | l :: r,c :: t,h=>by
    have:=h l (by simp)
    rw [inS_cons,if_neg (by omega),inS_low fun x hx=>h x (by simp [hx])]
    rfl
theorem go_of {n:Int} {lv:Int→Option Int} {Qf:Int→Int}:∀ {ls:List Lk} {ws ws':List Ls} {cm a:Ls},(∀ l ∈ ls,LkOk n l)→ls.Pairwise (fun a b=>a.fr < b.fr)→(n=a.length)→ws.length=ls.length→ws'.length=ls.length→cm.length=ls.length →
    (∀ (i:Nat) l p,ls[i]?=some l→ws[i]?=some p→fitsB l.ws.length p=true)→(∀ (i:Nat) l q w v,ls[i]?=some l→ws[i]?=some q→ws'[i]?=some w→cm[i]?=some v→rkStep l.ws l.den q (Qf l.fr)=(w,v,0)) →
    (∀ l ∈ ls,(lv l.fr).getD (gA a l.fr+inS ls cm l.fr)=Qf l.fr)→cGo lv ls ws a=some (ws',addL ls cm a)
  | [],ws,ws',cm,a,_,_,_,_,h5,_,_,_,_=>by
    have:ws'=[]:=List.eq_nil_of_length_eq_zero h5
    rw [cGo_nil,addL_nil,this]
  | l :: ls,[],_,_,_,_,_,_,h,_,_,_,_,_=>by simp at h
  | l :: ls,_ :: _,[],_,_,_,_,_,_,h,_,_,_,_=>by simp at h
  | l :: ls,_ :: _,_ :: _,[],_,_,_,_,_,_,h,_,_,_=>by simp at h
  | l :: ls,w :: ws,w' :: ws',v :: cm,a,h1,h2,h3,h4,h5,h6,h7,h8,h9=>by
    have hl:=h1 l (by simp)
    have ho:=hl.o
    have ht:=hl.t
    have hf0:=hl.f
    obtain ⟨p1,p2⟩:=List.pairwise_cons.1 h2
    have hfit:=h7 0 l w rfl rfl
    have hstep:=h8 0 l w w' v rfl rfl rfl rfl
    have hq:=h9 l (by simp)
    have h0:inS (l :: ls) (v :: cm) l.fr=0:=inS_low fun y hy=>by
      rcases List.mem_cons.1 hy with rfl | hy
      · exact ho
      · have:=p1 y hy;have:=(h1 y (by simp [hy])).o;omega
    rw [h0,Int.add_zero] at hq
    have hqq:qGo lv l a=Qf l.fr:=hq
    rw [step_eq hl.r hfit] at hstep
    by_cases hg:(inQ (Qf l.fr) && stepB l.ws w (Qf l.fr))=true
    · rw [if_pos hg] at hstep
      simp only [Prod.mk.injEq] at hstep
      obtain ⟨e1,e2,_⟩:=hstep
      rw [cGo_cons,hqq,if_pos (show stG l w (Qf l.fr)=true from hg),e1,e2,addL_cons]
      rw [go_of (fun y hy=>h1 y (by simp [hy])) p2 (by rw [List.length_set];exact h3) (by simpa using h4) (by simpa using h5) (by simpa using h6) (fun i y p e1 e2=>h7 (i+1) y p (by simpa using e1) (by simpa using e2)) (fun i y q u z e1 e2 e3 e4=>h8 (i+1) y q u z (by simpa using e1) (by simpa using e2) (by simpa using e3) (by simpa using e4)) (fun y hy=>?_)]
      · rfl
      · have hy0:=(h1 y (by simp [hy])).f
        have hc:=h9 y (by simp [hy])
        rw [inS_cons] at hc
        rw [gA_set (by omega) (by omega) hy0]
        by_cases e:y.fr=l.to
        · rw [if_pos e]
          rw [if_pos e.symm] at hc
          rw [← e]
          rw [← hc]
          congr 1
          omega
        · rw [if_neg e]
          rw [if_neg (Ne.symm e)] at hc
          rw [← hc]
          congr 1
          omega
    · rw [if_neg hg] at hstep
      simp at hstep
theorem gA_map {l:List Rc} {j:Nat} {r:Rc} (h:l[j]?=some r):(l.map floR)[j]?=some (floR r):=by rw [List.getElem?_map,h];rfl
theorem stepC_go {c:Cs} {s:Fl} {p:Su} {s':Fl} {x:Pd} (h:stepC c s p s' x):cGo (lvF c.si (x.re.map floR)) c.rv.ls s.ws p.inf=some (s'.ws,addL c.rv.ls x.came p.inf):=by
  have hr:=h.va.k.r
  have hwl:=h.va.w.l
  refine go_of (Qf:=gA x.left) hr.l hr.p h.n1.symm hwl h.lw h.lc h.va.w.f (fun i l q w v e1 e2 e3 e4=>?_) (fun l hl=>?_)
  · obtain ⟨w2,v2,f1,f2,f3⟩:=h.lk i l q e1 e2
    rw [f1] at e3
    rw [f2] at e4
    cases e3;cases e4
    exact f3
  · have hk:=hr.l l hl
    have:=hk.f
    have:=hk.o
    have:=hk.t
    rcases snA_is c.si l.fr with ⟨e1,e2⟩ | ⟨j,y,e1,e2,e3⟩
    · rw [lvF,if_neg (by omega),Option.getD_none]
      exact (h.no l.fr (by omega) (by omega) e2).symm
    · have hj:=(List.getElem?_eq_some_iff.1 e1).1
      have hd:=h.va.n
      obtain ⟨z',r,g1,g2,_,g4⟩:=h.st j y _ e1 (List.getElem?_eq_getElem (show j < s.ds.length by omega))
      rw [lvF,e3,if_pos (by omega),Int.toNat_natCast,gA_map g2,Option.getD_some,← g4,e2]
end Go.Proofs

namespace Go.Proofs
open Go Go.Abs
set_option linter.unusedSimpArgs false
set_option linter.unusedVariables false
theorem cGo_low {lv:Int→Option Int} {j:Int} (hj:0≤j):∀ {ls:List Lk} {ws:List Ls} {a:Ls} {wf:List Ls} {xf:Ls},(∀ l ∈ ls,j < l.to∧l.to < a.length)→cGo lv ls ws a=some (wf,xf)→gA xf j=gA a j
  | [],ws,a,wf,xf,_,h=>by
    rw [cGo_nil] at h
    cases h
    rfl
  | l :: ls,[],a,wf,xf,_,h=>by
    cases h
    rfl
  | l :: ls,w :: ws,a,wf,xf,hl,h=>by
    rw [cGo_cons] at h
    split at h
    · obtain ⟨h1,h2⟩:=hl l (by simp)
      cases hc:cGo lv ls ws (a.set l.to.toNat (gA a l.to+outF l.ws l.den w (qGo lv l a))) with
      | none=>rw [hc] at h;cases h
      | some y =>
        rw [hc] at h
        obtain ⟨y1,y2⟩:=y
        simp at h
        have:=cGo_low hj (fun x hx=>by rw [List.length_set];exact hl x (by simp [hx])) hc
        rw [← h.2,this,gA_set (by omega) (by omega) hj,if_neg (by omega)]
    · cases h
theorem cGo_keep {lv:Int→Option Int} {B:Int} (hB:0≤B) {xf:Ls} {K:Int} (hK:K≤1000000000):∀ {ls:List Lk} {ws:List Ls} {a v:Ls} {n:Int} (k:Nat),(∀ l ∈ ls,LkOk n l∧(k:Int)≤l.fr)→ls.Pairwise (fun a b=>a.fr < b.fr)→(n=a.length)→ws.length=ls.length →
    (∀ (i:Nat) l p,ls[i]?=some l→ws[i]?=some p→fitsB l.ws.length p=true)→volOk ls ws v→(∀ l ∈ ls,∀ q,lv l.fr=some q→0≤q∧q≤gA xf l.fr+B)→(∃ wf,cGo lv ls ws a=some (wf,xf))→(∀ x ∈ a,0≤x)→tailS a k+v.sum+B * ls.length≤K →
    ∃ x v',cGo lv ls ws a=some x∧volOk ls x.1 v'∧(∀ y ∈ x.2,0≤y)∧v'.sum≤K∧(∀ j,k≤j→gN x.2 j≤K)∧(∀ j,j < k→gN x.2 j=gN a j)
  | [],ws,a,v,n,k,_,_,_,_,_,hv,_,_,hnn,hs=>by
    rw [List.length_nil] at hs
    have hvn:v=[]:=List.eq_nil_of_length_eq_zero hv.l
    subst hvn
    refine ⟨([],a),[],by cases ws <;> rfl,⟨rfl,fun i l p x h=>by simp at h⟩,hnn,?_,fun j hj=>?_,fun _ _=>rfl⟩
    · have:=nn_tail hnn k;simp at hs ⊢;omega
    · have:=le_tail hnn hj;simp at hs;dsimp only;omega
  | l :: ls,[],a,v,n,k,_,_,_,hl,_,_,_,_,_,_=>by simp at hl
  | l :: ls,w :: ws,a,[],n,k,_,_,_,_,_,hv,_,_,_,_=>by have:=hv.l;simp at this
  | l :: ls,w :: ws,a,x :: v,n,k,hl,hp,hn,hwl,hf,hv,hlv,hX,hnn,hs=>by
    obtain ⟨hlo,hkf⟩:=hl l (by simp)
    have hfit:=hf 0 l w rfl rfl
    obtain ⟨hx0,hxs⟩:=hv.b 0 l w x rfl rfl rfl
    obtain ⟨f,hfr⟩:∃ f:Nat,l.fr=f:=⟨l.fr.toNat,by have:=hlo.f;omega⟩
    obtain ⟨t,hto⟩:∃ t:Nat,l.to=t:=⟨l.to.toNat,by have:=hlo.f;have:=hlo.o;omega⟩
    have ho:=hlo.o
    have ht:=hlo.t
    have hft:f < t:=by omega
    have hta:t < a.length:=by omega
    have hkf':k≤f:=by omega
    have hgq:gA a l.fr=gN a f:=by rw [hfr,gA_nat]
    have hgt:gA a l.to=gN a t:=by rw [hto,gA_nat]
    have hA0:=gN_nn hnn f
    obtain ⟨Q,hQ⟩:∃ Q,qGo lv l a=Q:=⟨_,rfl⟩
    have hQb:0≤Q∧Q≤gN a f+B:=by
      rw [← hQ]
      unfold qGo
      cases e:lv l.fr with
      | none=>rw [Option.getD_none,hgq];omega
      | some q =>
        have h1:=hlv l (by simp) q e
        obtain ⟨wf,hwf⟩:=hX
        have h2:=cGo_low (j:=l.fr) hlo.f (fun y hy=>by
          rcases List.mem_cons.1 hy with rfl | hy
          · exact ⟨ho,by omega⟩
          · have h3:=(List.pairwise_cons.1 hp).1 y hy
            have h4:=(hl y (by simp [hy])).1
            have h5:=h4.o
            have h6:=h4.t
            exact ⟨by omega,by omega⟩) hwf
        rw [Option.getD_some]
        rw [h2,hgq] at h1
        exact h1
    have hq0:=hQb.1
    have hBl:B * (((l :: ls).length:Nat):Int)=B * ls.length+B:=by rw [List.length_cons,Int.natCast_add,Int.mul_add];simp
    have hBn:0≤B * (ls.length:Int):=Int.mul_nonneg hB (by omega)
    rw [hBl] at hs
    have hvn:0≤v.sum:=(sum_nn fun y hy=>by
      obtain ⟨i,hi⟩:=List.getElem?_of_mem hy
      have h1:=(List.getElem?_eq_some_iff.1 hi).1
      have hvl:=hv.l
      simp at hvl hwl
      have c1:=List.getElem?_eq_getElem (show i < ls.length by omega)
      have c2:=List.getElem?_eq_getElem (show i < ws.length by omega)
      exact (hv.b (i+1) _ _ y (by rw [List.getElem?_cons_succ];exact c1) (by rw [List.getElem?_cons_succ];exact c2) (by rw [List.getElem?_cons_succ];exact hi)).1).1
    have htk:=tail_mono hnn hkf'
    have htf:=tail_cons (gN_get (show f < a.length by omega))
    have htf1:=nn_tail hnn (f+1)
    rw [List.sum_cons] at hs
    obtain ⟨a1,a2,a3,a4,a5,a6,_⟩:=rk_facts hlo.r
    -- the step goes well
    have hdq:l.den * (x+Q)≤240000 * 1000000000:=Int.mul_le_mul a5 (by omega) (by omega) (by omega)
    rw [Int.mul_add] at hdq
    have hqd:Q * l.den=l.den * Q:=Int.mul_comm _ _
    have hok:=(step_ok_of hlo.r hfit hq0 (by omega) (by omega)).1
    have hst:stG l w (Q)=true:=by
      simp only [stG,inQ,Bool.and_eq_true,decide_eq_true_eq]
      exact ⟨⟨hq0,by omega⟩,stepB_iff.2 hok⟩
    have hsum:=step_sum (q:=Q) hlo.r hfit
    have hfit2:=step_fits hlo.r hfit hq0 (by omega) hok
    have hs0:=fits_sum hfit2
    have hout:=out_in hlo.r hfit hst
    rw [cGo_cons,hQ,hgt,if_pos hst]
    have hXe:cGo lv (l :: ls) (w :: ws) a=(cGo lv ls ws (a.set t (gN a t+outF l.ws l.den w Q))).map fun x=>(stepF l.ws l.den w Q :: x.1,x.2):=by rw [cGo_cons,hQ,hgt,if_pos hst,show l.to.toNat=t by omega]
    generalize outF l.ws l.den w (Q)=o at *
    generalize stepF l.ws l.den w (Q)=w' at *
    -- the link's new bound
    have hxn:0≤x+Q - o:=by
      rcases Int.lt_or_le (x+Q - o) 0 with h | h
      · have h1:l.den * (x+Q - o)≤l.den * (-1):=Int.mul_le_mul_of_nonneg_left (by omega) (by omega)
        rw [Int.mul_sub,Int.mul_add] at h1
        omega
      · exact h
    have hnn2:∀ y ∈ a.set t (gN a t+o),0≤y:=fun y hy=>by
      rcases List.mem_or_eq_of_mem_set hy with hy | rfl
      · exact hnn y hy
      · have:=gN_nn hnn t;omega
    have hts:=tail_set (v:=o) hta (f+1)
    rw [if_pos (by omega)] at hts
    have hvl:=hv.l
    simp at hvl hwl
    have hl':∀ y ∈ ls,LkOk n y∧((f+1:Nat):Int)≤y.fr:=fun y hy=>⟨(hl y (by simp [hy])).1,by have:=(List.pairwise_cons.1 hp).1 y hy;omega⟩
    have hv':volOk ls ws v:=⟨hvl,fun i l p y e1 e2 e3=>hv.b (i+1) l p y (by simpa using e1) (by simpa using e2) (by simpa using e3)⟩
    have hX2:∃ wf,cGo lv ls ws (a.set t (gN a t+o))=some (wf,xf):=by
      obtain ⟨wf,hwf⟩:=hX
      cases hc:cGo lv ls ws (a.set t (gN a t+o)) with
      | none=>exact absurd (hwf.symm.trans (hXe.trans (by rw [hc]))) (by simp)
      | some y =>
        have:=hwf.symm.trans (hXe.trans (by rw [hc]))
        simp at this
        exact ⟨y.1,by rw [this.2]⟩
    obtain ⟨z,v',z1,z2,z3,z4,z5,z6⟩:=cGo_keep hB (xf:=xf) (K:=K - (x+Q - o)) (by omega) (a:=a.set t (gN a t+o)) (v:=v) (f+1) hl' (List.pairwise_cons.1 hp).2 (by rw [List.length_set];exact hn) hwl (fun i l p e1 e2=>hf (i+1) l p (by simpa using e1) (by simpa using e2)) hv' (fun y hy=>hlv y (by simp [hy])) hX2 hnn2 (by omega)
    rw [show l.to.toNat=t by omega,z1]
    refine ⟨(w' :: z.1,z.2),(x+Q - o) :: v',rfl,⟨by simp [z2.l],fun i b p y e1 e2 e3=>?_⟩,z3,by rw [List.sum_cons];omega,fun j hj=>?_,fun j hj=>?_⟩
    · cases i with
      | zero =>
        simp at e1 e2 e3
        subst e1;subst e2;subst e3
        refine ⟨hxn,?_⟩
        rw [Int.mul_sub,Int.mul_add]
        omega
      | succ i=>exact z2.b i b p y (by simpa using e1) (by simpa using e2) (by simpa using e3)
    · by_cases e:f+1≤j
      · have:=z5 j e;dsimp only;omega
      · dsimp only
        rw [z6 j (by omega),gN_set hta,if_neg (by omega)]
        have:=le_tail hnn hj
        omega
    · dsimp only
      rw [z6 j (by omega),gN_set hta,if_neg (by omega)]
end Go.Proofs

namespace Go.Proofs
open Go Go.Abs
set_option linter.unusedSimpArgs false
set_option linter.unusedVariables false
theorem addL_get {j:Int} (hj:0≤j):∀ {ls:List Lk} {cm a:Ls},cm.length=ls.length→(∀ l ∈ ls,0≤l.to∧l.to < a.length)→gA (addL ls cm a) j=gA a j+inS ls cm j
  | [],cm,a,_,_=>by rw [addL_nil];cases cm <;> simp [inS]
  | l :: ls,[],a,h,_=>by simp at h
  | l :: ls,v :: cm,a,h,hl=>by
    obtain ⟨h1,h2⟩:=hl l (by simp)
    rw [addL_cons,addL_get hj (by simpa using h) (fun y hy=>by rw [List.length_set];exact hl y (by simp [hy])),gA_set h1 (by omega) hj,inS_cons]
    by_cases e:j=l.to
    · rw [if_pos e,if_pos e.symm,← e];omega
    · rw [if_neg e,if_neg (Ne.symm e)];omega
theorem step_vol {c:Cs} {l:List Dt} (h:mkCs c l) {a b:Fl} {p:Su} {x:Pd} (h2:mkSu c p) (h3:stepC c a p b x) {v:Ls} {V:Int} (hv:volOk c.rv.ls a.ws v) (hvs:v.sum≤V) (hV:V≤100000000) :
    (∃ v',volOk c.rv.ls b.ws v'∧v'.sum≤V+6100)∧∀ r ∈ x.re,0≤floR r∧floR r≤V+7200:=by
  have hr:=h.k.r
  have hrn:=h.r.n
  have hrl:=h.r.l
  have hva:=h3.va
  have hgo:=stepC_go h3
  have hn1:=h3.n1
  have hnn:∀ y ∈ p.inf,0≤y:=fun y hy=>(h2.r1 y hy).1
  have hsum:=sum_in (l:=p.inf) (a:=14) (by omega) (fun q hq=>by have:=h2.r1 q hq;omega)
  have hdl:=h.ln
  have hto:∀ u ∈ c.rv.ls,0≤u.to∧u.to < p.inf.length:=fun u hu=>by have g:=hr.l u hu;have:=g.f;have:=g.o;have:=g.t;omega
  have hfl:∀ (j:Nat) s r,c.si[j]?=some s→x.re[j]?=some r→0≤floR r∧floR r≤gA (addL c.rv.ls x.came p.inf) s.nd+1000:=fun j s r e1 g2'=>by
    have hj:=(List.getElem?_eq_some_iff.1 e1).1
    have hd:=hva.n
    obtain ⟨z',r',g1,g2,g3,g4⟩:=h3.st j s _ e1 (List.getElem?_eq_getElem (show j < a.ds.length by omega))
    rw [g2] at g2'
    cases g2'
    have hm:=h.d j s _ e1 (List.getElem?_eq_getElem (show j < l.length by omega))
    have hc:=hm.c
    have hvv:=(validD_at g3.v0).2.1
    have hvv2:=(validD_at g3.v).2.1
    have hw:=g3.w
    have hs0:=(h.k.s s (List.mem_of_getElem? e1)).1
    rw [addL_get hs0.1 h3.lc hto]
    exact ⟨g3.q,by omega⟩
  obtain ⟨z,v',z1,z2,_,z4,z5,_⟩:=cGo_keep (B:=1000) (by omega) (xf:=addL c.rv.ls x.came p.inf) (K:=v.sum+p.inf.sum+1000 * c.rv.ls.length) (by omega) (ls:=c.rv.ls) (ws:=a.ws) (a:=p.inf) (v:=v) (n:=c.rv.n) 0 (fun l hl=>⟨hr.l l hl,(hr.l l hl).f⟩) hr.p hn1.symm hva.w.l hva.w.f hv
    (fun y hy q hq=>by
      unfold lvF at hq
      split at hq
      · rename_i e0
        rcases snA_is c.si y.fr with ⟨e1,_⟩ | ⟨j,s,e1,e2,e3⟩
        · omega
        · rw [e3,Int.toNat_natCast,List.getElem?_map] at hq
          cases hre:x.re[j]? with
          | none=>rw [hre] at hq;cases hq
          | some r =>
            rw [hre] at hq
            cases hq
            have:=hfl j s r e1 hre
            rw [e2] at this
            exact this
      · cases hq) ⟨_,hgo⟩ hnn (by show (p.inf.drop 0).sum+v.sum+_≤_;rw [List.drop_zero];omega)
  rw [hgo] at z1
  cases z1
  refine ⟨⟨v',z2,by omega⟩,fun r hr'=>?_⟩
  obtain ⟨j,hj⟩:=List.getElem?_of_mem hr'
  have hjl:=(List.getElem?_eq_some_iff.1 hj).1
  have hlr:=h3.lr
  have e1:=List.getElem?_eq_getElem (show j < c.si.length by omega)
  have g:=hfl j _ r e1 hj
  have hz:=z5 (c.si[j]'(by omega)).nd.toNat (Nat.zero_le _)
  have hgg:gA (addL c.rv.ls x.came p.inf) (c.si[j]'(by omega)).nd=gN (addL c.rv.ls x.came p.inf) (c.si[j]'(by omega)).nd.toNat:=rfl
  rw [hgg] at g
  dsimp only at hz
  omega
theorem stepsC_vol {c:Cs} {l:List Dt} (h:mkCs c l):∀ {n:Nat} {w:Fl},stepsC c (fl1 c l) n w→n≤1000→∃ v,volOk c.rv.ls w.ws v∧v.sum≤6100 * n:=by
  intro n w hs
  induction hs with
  | zero =>
    intro _
    refine ⟨List.replicate c.rv.ls.length 0,⟨by simp,fun i a p x h1 h2 h3=>?_⟩,by simp⟩
    have e1:p=[]:=(List.mem_replicate.1 (List.mem_of_getElem? h2)).2
    have e2:x=0:=(List.mem_replicate.1 (List.mem_of_getElem? h3)).2
    rw [e1,e2]
    simp
  | @succ n a b p x h1 h2 h3 ih =>
    intro hn
    obtain ⟨v,hv,hvs⟩:=ih (by omega)
    obtain ⟨⟨v',z1,z2⟩,_⟩:=step_vol h h2 h3 hv hvs (by omega)
    refine ⟨v',z1,?_⟩
    rw [Int.natCast_add,Int.mul_add]
    simp only [Int.natCast_one]
    omega
end Go.Proofs

namespace Go.Proofs
open Go Go.Abs
set_option linter.unusedSimpArgs false
set_option linter.unusedVariables false
theorem runsC.len {c:Cs} {s:Fl} {l:List Su} {xs:List Pd} {b:Fl} (h:runsC c s l xs b):xs.length=l.length:=by
  induction h with
  | nil=>rfl
  | snoc _ _ ih=>simp [ih]
end Go.Proofs

namespace Go.Proofs
open Go Go.Abs
set_option linter.unusedSimpArgs false
set_option linter.unusedVariables false
end Go.Proofs

namespace Go.Proofs
open Go Go.Abs
set_option linter.unusedSimpArgs false
set_option linter.unusedVariables false
set_option maxRecDepth 40000
end Go.Proofs

namespace Go.Proofs
open Go Go.Abs
set_option linter.unusedSimpArgs false
set_option linter.unusedVariables false
theorem cutS_pre (si:List Si):∀ l:Ls,cutS si l=l.take (cutS si l).length
  | []=>rfl
  | x :: r=>by
    rw [cutS]
    split
    · simp
    · rw [List.length_cons,List.take_succ_cons,← cutS_pre si r]
theorem bel_path {c:Cs} (hc:CsOk c) {i:Nat} {x:Si} (hx:c.si[i]?=some x):belF c i=((pathR c.rv x.nd).drop 1).take (belF c i).length∧(belF c i).length≤(pathR c.rv x.nd).length - 1:=by
  have e:belF c i=cutS c.si (pathR c.rv x.nd).tail:=by unfold belF;rw [hx];rfl
  rw [e]
  have h1:=cutS_pre c.si (pathR c.rv x.nd).tail
  have h2:=cutS_len c.si (pathR c.rv x.nd).tail
  rw [List.length_tail] at h2
  refine ⟨?_,h2⟩
  rw [List.drop_one]
  exact h1
end Go.Proofs

namespace Go.Proofs
open Go Go.Abs
set_option linter.unusedSimpArgs false
set_option linter.unusedVariables false
def posG:Nat→Ls→Int
  | _,[]=>-1
  | i,x :: r=>if decide (0 < x)=true then (i:Int) else posG (i+1) r
abbrev pos (ws:Ls):Int:=posG 0 ws
theorem posG_spec:∀ {l:Ls} {i:Nat},(posG i l=-1∧∀ x ∈ l,x≤0) ∨ ∃ (j:Nat) (x:Int),l[j]?=some x∧0 < x∧posG i l=((i+j:Nat):Int)∧∀ (k:Nat) y,k < j→l[k]?=some y→y≤0
  | [],i=>.inl ⟨rfl,fun x h=>by simp at h⟩
  | x :: r,i=>by
    rw [posG]
    by_cases h:0 < x
    · rw [if_pos (by simp [h])]
      exact .inr ⟨0,x,rfl,h,rfl,fun k y h=>by omega⟩
    · rw [if_neg (by simp [h])]
      rcases posG_spec (l:=r) (i:=i+1) with ⟨h1,h2⟩ | ⟨j,y,h1,h2,h3,h4⟩
      · exact .inl ⟨h1,fun z hz=>by
          rcases List.mem_cons.1 hz with rfl | hz
          · omega
          · exact h2 z hz⟩
      · refine .inr ⟨j+1,y,by simpa using h1,h2,by rw [h3];congr 1;omega,fun k z hk hz=>?_⟩
        cases k with
        | zero=>simp at hz;omega
        | succ k=>exact h4 k z (by omega) (by simpa using hz)
theorem sum_np {l:Ls} (h:∀ x ∈ l,x≤0):l.sum≤0:=by
  induction l with
  | nil=>simp
  | cons x r ih =>
    have:=h x (by simp)
    have:=ih fun y hy=>h y (by simp [hy])
    rw [List.sum_cons]
    omega
theorem pos_ok {ws:Ls} {den:Int} (h:rkCheck ws den=0):∃ (j:Nat) (x:Int),ws[j]?=some x∧0 < x∧pos ws=j∧j < ws.length∧ws.length≤24∧∀ (k:Nat) y,k < j→ws[k]?=some y→y=0:=by
  obtain ⟨h1,h2,h3,h4,h5,h6,h7⟩:=rk_facts h
  rcases posG_spec (l:=ws) (i:=0) with ⟨_,g⟩ | ⟨j,x,g1,g2,g3,g4⟩
  · have:=sum_np g;omega
  · refine ⟨j,x,g1,g2,by rw [pos,g3,Nat.zero_add],(List.getElem?_eq_some_iff.1 g1).1,h2,fun k y hk hy=>?_⟩
    have:=g4 k y hk hy
    have:=(h7 y (List.mem_of_getElem? hy)).1
    omega
def lagW (ls:List Lk) (t:Int):List Nat→Int→Option (Int × Int)
  | [],f=>if f=t then some (0,0) else none
  | i :: w,f=>if f=t then some (0,0) else match ls[i]? with
    | none=>none
    | some l=>(lagW ls t w l.to).map fun x=>(pos l.ws+x.1,(l.ws.length:Int) - 1+x.2)
def lagR (r:Rv) (f t:Int):Option (Int × Int):=lagW r.ls t (wayR r f) f
theorem lagR_eq (r:Rv) (t:Int):lagR r t t=some (0,0):=by
  unfold lagR
  cases wayR r t <;> simp [lagW]
theorem lagR_end {r:Rv} {f t:Int} (h:lnk r.ls f < 0) (hne:f ≠ t):lagR r f t=none:=by
  unfold lagR
  rw [wayR_end h,lagW,if_neg hne]
theorem lagR_step {r:Rv} (hr:RvOk r) {f t:Int} (hf0:0≤f) (hne:f ≠ t) {i:Nat} {l:Lk} (h:lnk r.ls f=i) (hl:r.ls[i]?=some l) (hf:l.fr=f):lagR r f t=(lagR r l.to t).map fun x=>(pos l.ws+x.1,(l.ws.length:Int) - 1+x.2):=by
  unfold lagR
  rw [wayR_step hr hf0 h hl hf,lagW,if_neg hne,hl]
theorem lnk_at (ls:List Lk) (f:Int):lnk ls f < 0 ∨ ∃ (i:Nat) (l:Lk),lnk ls f=i∧ls[i]?=some l∧l.fr=f:=by
  rcases lnk_spec ls f with ⟨h,_⟩ | ⟨j,a,h1,h2,h3⟩
  · exact .inl (by omega)
  · exact .inr ⟨j,a,h3,h1,h2⟩
theorem lagR_past {r:Rv} (hr:RvOk r) {t:Int}:∀ (m:Nat) (f:Int),(r.n - f).toNat≤m→0≤f→t < f→f < r.n→lagR r f t=none
  | 0,f,h,h0,ht,hn=>by omega
  | m+1,f,h,h0,ht,hn=>by
    rcases lnk_at r.ls f with hl | ⟨i,l,h1,h2,h3⟩
    · exact lagR_end hl (by omega)
    · have hk:=hr.l l (List.mem_of_getElem? h2)
      have k2:=hk.o
      have k3:=hk.t
      rw [lagR_step hr h0 (by omega) h1 h2 h3,lagR_past hr m l.to (by omega) (by omega) (by omega) k3]
      rfl
def trvM:Option (Int × Int)→Int × Int × Bool × Int
  | some x=>(x.1,x.2,true,0)
  | none=>(0,0,false,0)
def trvS (r:Rv) (f t:Int):Int × Int × Bool × Int:=if rvE r ≠ 0 then (0,0,false,rvE r) else if inN r.n f=false then (0,0,false,11) else if inN r.n t=false then (0,0,false,11) else trvM (lagR r f t)
def R_trv:RT:=fun args k=>∃ (r:Rv) (f t:Int),args=[.agg (rvC r),I f,I t]∧r.fin∧k (.tup [I (trvS r f t).1,I (trvS r f t).2.1,Bo (trvS r f t).2.2.1,I (trvS r f t).2.2.2])
theorem kTrv {k:AV→Prop} {x y:Int × Int × Bool × Int} (h:k (.tup [I x.1,I x.2.1,Bo x.2.2.1,I x.2.2.2])) (e:x=y):k (.tup [I y.1,I y.2.1,Bo y.2.2.1,I y.2.2.2]):=by subst e;exact h
structure lgI (r:Rv) (f0 t f a b:Int):Prop where
  hf:0≤f∧f < r.n
  ha:0≤a∧a≤24 * f
  hb:0≤b∧b≤24 * f
  he:lagR r f0 t=(lagR r f t).map fun x=>(a+x.1,b+x.2)
theorem lgI.zero {r:Rv} {f t:Int} (h:0≤f∧f < r.n):lgI r f t f 0 0:=⟨h,by omega,by omega,by cases lagR r f t <;> simp⟩
theorem lgI.done {r:Rv} {f0 t a b:Int} (h:lgI r f0 t t a b):lagR r f0 t=some (a,b):=by
  rw [h.he,lagR_eq]
  simp
theorem lgI.no {r:Rv} {f0 t f a b:Int} (h:lgI r f0 t f a b) (hl:lagR r f t=none):lagR r f0 t=none:=by
  rw [h.he,hl]
  rfl
theorem lgI.next {r:Rv} (hr:RvOk r) {f0 t f a b:Int} (h:lgI r f0 t f a b) (hne:f ≠ t) {i:Nat} {l:Lk} (h1:lnk r.ls f=i) (h2:r.ls[i]?=some l) (h3:l.fr=f):lgI r f0 t l.to (a+pos l.ws) (b+((l.ws.length:Int) - 1)):=by
  have hk:=hr.l l (List.mem_of_getElem? h2)
  have k2:=hk.o
  have k3:=hk.t
  obtain ⟨j,x,p1,p2,p3,p4,p5,p6⟩:=pos_ok hk.r
  have ha:=h.ha
  have hb:=h.hb
  have hf:=h.hf
  refine ⟨by omega,by omega,by omega,?_⟩
  rw [h.he,lagR_step hr hf.1 hne h1 h2 h3]
  cases lagR r l.to t with
  | none=>rfl
  | some x=>simp;omega
def lagsS (c:Cs) (i m:Int):Int × Int × Int:=if csE c ≠ 0 then (0,0,csE c) else if i < 0 then (0,0,40) else if (c.si.length:Int)≤i then (0,0,40) else if (belF c i.toNat).any (fun y=>decide (y=m))=false then (0,0,41) else match c.si[i.toNat]? with
  | none=>(0,0,0)
  | some x=>match lagR c.rv x.nd m with
    | some z=>(z.1,z.2,0)
    | none=>(0,0,0)
def R_lags:RT:=fun args k=>∃ (c:Cs) (i m:Int),args=[.agg (csC c),I i,I m]∧c.fin∧k (.tup [I (lagsS c i m).1,I (lagsS c i m).2.1,I (lagsS c i m).2.2])
theorem kLg {k:AV→Prop} {x y:Int × Int × Int} (h:k (.tup [I x.1,I x.2.1,I x.2.2])) (e:x=y):k (.tup [I y.1,I y.2.1,I y.2.2]):=by subst e;exact h
theorem bel_in {c:Cs} (hc:CsOk c) {i:Nat} {x:Si} (hx:c.si[i]?=some x) {m:Int} (h:(belF c i).any (fun y=>decide (y=m))=true):0≤m∧m < c.rv.n:=by
  obtain ⟨y,hy,hm⟩:=List.any_eq_true.1 h
  have hm:y=m:=by simpa using hm
  subst hm
  have hxn:=(hc.s x (List.mem_of_getElem? hx)).1
  rw [(bel_path hc hx).1] at hy
  have h1:=List.mem_of_mem_drop (List.mem_of_mem_take hy)
  have:=(path_facts hc.r _ x.nd (Nat.le_refl _) hxn).1 y h1
  omega
end Go.Proofs
