/- Proved here: what functions of the given program come to, and the plain laws of it; no condition but those in the theorems. -/
import Derived.Test.YtgllikepncnpkaaGreatPTrav2
/- What arrives in a step of a cascade is what is told for what left its sites. No program. -/
namespace Go.Proofs
open Go Go.Abs
set_option linter.unusedSimpArgs false
set_option linter.unusedVariables false
def addL : List Lk→Ls→Ls→Ls
  | l :: r,v :: t,a=>addL r t (a.set l.to.toNat (gA a l.to + v))
  | _,_,a=>a
theorem addL_cons (l : Lk) (r : List Lk) (v : Int) (t : Ls) (a : Ls) : addL (l :: r) (v :: t) a = addL r t (a.set l.to.toNat (gA a l.to + v)):=rfl
theorem addL_nil (t : Ls) (a : Ls) : addL [] t a = a:=by cases t <;> rfl
theorem inS_low {j : Int} : ∀ {ls : List Lk} {cm : Ls},(∀ l ∈ ls,j < l.to)→inS ls cm j = 0
  | [],cm,_=>by cases cm <;> rfl
  | l :: r,[],_=>rfl
  | l :: r,c :: t,h=>by
    have:=h l (by simp)
    rw [inS_cons,if_neg (by omega),inS_low fun x hx=>h x (by simp [hx])]
    rfl
theorem go_of {n : Int} {lv : Int→Option Int} {Qf : Int→Int} : ∀ {ls : List Lk} {ws ws' : List Ls} {cm a : Ls},(∀ l ∈ ls,LkOk n l)→ls.Pairwise (fun a b=>a.fr < b.fr)→(n = a.length)→ws.length = ls.length→ws'.length = ls.length→cm.length = ls.length →
    (∀ (i : Nat) l p,ls[i]? = some l→ws[i]? = some p→fitsB l.ws.length p = true)→(∀ (i : Nat) l q w v,ls[i]? = some l→ws[i]? = some q→ws'[i]? = some w→cm[i]? = some v→rkStep l.ws l.den q (Qf l.fr) = (w,v,0)) →
    (∀ l ∈ ls,(lv l.fr).getD (gA a l.fr + inS ls cm l.fr) = Qf l.fr)→cGo lv ls ws a = some (ws',addL ls cm a)
  | [],ws,ws',cm,a,_,_,_,_,h5,_,_,_,_=>by
    have : ws' = []:=List.eq_nil_of_length_eq_zero h5
    rw [cGo_nil,addL_nil,this]
  | l :: ls,[],_,_,_,_,_,_,h,_,_,_,_,_=>by simp at h
  | l :: ls,_ :: _,[],_,_,_,_,_,_,h,_,_,_,_=>by simp at h
  | l :: ls,_ :: _,_ :: _,[],_,_,_,_,_,_,h,_,_,_=>by simp at h
  | l :: ls,w :: ws,w' :: ws',v :: cm,a,h1,h2,h3,h4,h5,h6,h7,h8,h9=>by
    have hl:=h1 l (by simp)
    have ho:=hl.o
    have ht:=hl.t
    have hf0:=hl.f
    obtain ⟨p1,p2⟩:=List.pairwise_cons.1 h2
    have hfit:=h7 0 l w rfl rfl
    have hstep:=h8 0 l w w' v rfl rfl rfl rfl
    have hq:=h9 l (by simp)
    have h0 : inS (l :: ls) (v :: cm) l.fr = 0:=inS_low fun y hy=>by
      rcases List.mem_cons.1 hy with rfl | hy
      · exact ho
      · have:=p1 y hy;have:=(h1 y (by simp [hy])).o;omega
    rw [h0,Int.add_zero] at hq
    have hqq : qGo lv l a = Qf l.fr:=hq
    rw [step_eq hl.r hfit] at hstep
    by_cases hg : (inQ (Qf l.fr) && stepB l.ws w (Qf l.fr)) = true
    · rw [if_pos hg] at hstep
      simp only [Prod.mk.injEq] at hstep
      obtain ⟨e1,e2,_⟩:=hstep
      rw [cGo_cons,hqq,if_pos (show stG l w (Qf l.fr) = true from hg),e1,e2,addL_cons]
      rw [go_of (fun y hy=>h1 y (by simp [hy])) p2 (by rw [List.length_set];exact h3) (by simpa using h4) (by simpa using h5) (by simpa using h6) (fun i y p e1 e2=>h7 (i + 1) y p (by simpa using e1) (by simpa using e2)) (fun i y q u z e1 e2 e3 e4=>h8 (i + 1) y q u z (by simpa using e1) (by simpa using e2) (by simpa using e3) (by simpa using e4)) (fun y hy=>?_)]
      · rfl
      · have hy0:=(h1 y (by simp [hy])).f
        have hc:=h9 y (by simp [hy])
        rw [inS_cons] at hc
        rw [gA_set (by omega) (by omega) hy0]
        by_cases e : y.fr = l.to
        · rw [if_pos e]
          rw [if_pos e.symm] at hc
          rw [← e]
          rw [← hc]
          congr 1
          omega
        · rw [if_neg e]
          rw [if_neg (Ne.symm e)] at hc
          rw [← hc]
          congr 1
          omega
    · rw [if_neg hg] at hstep
      simp at hstep
theorem gA_map {l : List Rc} {j : Nat} {r : Rc} (h : l[j]? = some r) : (l.map floR)[j]? = some (floR r):=by rw [List.getElem?_map,h];rfl
/-- What arrives in a step. -/
theorem stepC_go {c : Cs} {s : Fl} {p : Su} {s' : Fl} {x : Pd} (h : stepC c s p s' x) : cGo (lvF c.si (x.re.map floR)) c.rv.ls s.ws p.inf = some (s'.ws,addL c.rv.ls x.came p.inf):=by
  have hr:=h.va.k.r
  have hwl:=h.va.w.l
  refine go_of (Qf:=gA x.left) hr.l hr.p h.n1.symm hwl h.lw h.lc h.va.w.f (fun i l q w v e1 e2 e3 e4=>?_) (fun l hl=>?_)
  · obtain ⟨w2,v2,f1,f2,f3⟩:=h.lk i l q e1 e2
    rw [f1] at e3
    rw [f2] at e4
    cases e3;cases e4
    exact f3
  · have hk:=hr.l l hl
    have:=hk.f
    have:=hk.o
    have:=hk.t
    rcases snA_is c.si l.fr with ⟨e1,e2⟩ | ⟨j,y,e1,e2,e3⟩
    · rw [lvF,if_neg (by omega),Option.getD_none]
      exact (h.no l.fr (by omega) (by omega) e2).symm
    · have hj:=(List.getElem?_eq_some_iff.1 e1).1
      have hd:=h.va.n
      obtain ⟨z',r,g1,g2,_,g4⟩:=h.st j y _ e1 (List.getElem?_eq_getElem (show j < s.ds.length by omega))
      rw [lvF,e3,if_pos (by omega),Int.toNat_natCast,gA_map g2,Option.getD_some,← g4,e2]
end Go.Proofs

/- Little water stays little, also if dams let some of theirs go. No program. -/
namespace Go.Proofs
open Go Go.Abs
set_option linter.unusedSimpArgs false
set_option linter.unusedVariables false
theorem cGo_low {lv : Int→Option Int} {j : Int} (hj : 0≤j) : ∀ {ls : List Lk} {ws : List Ls} {a : Ls} {wf : List Ls} {xf : Ls},(∀ l ∈ ls,j < l.to∧l.to < a.length)→cGo lv ls ws a = some (wf,xf)→gA xf j = gA a j
  | [],ws,a,wf,xf,_,h=>by
    rw [cGo_nil] at h
    cases h
    rfl
  | l :: ls,[],a,wf,xf,_,h=>by
    cases h
    rfl
  | l :: ls,w :: ws,a,wf,xf,hl,h=>by
    rw [cGo_cons] at h
    split at h
    · obtain ⟨h1,h2⟩:=hl l (by simp)
      cases hc : cGo lv ls ws (a.set l.to.toNat (gA a l.to + outF l.ws l.den w (qGo lv l a))) with
      | none=>rw [hc] at h;cases h
      | some y =>
        rw [hc] at h
        obtain ⟨y1,y2⟩:=y
        simp at h
        have:=cGo_low hj (fun x hx=>by rw [List.length_set];exact hl x (by simp [hx])) hc
        rw [← h.2,this,gA_set (by omega) (by omega) hj,if_neg (by omega)]
    · cases h
theorem cGo_keep {lv : Int→Option Int} {B : Int} (hB : 0≤B) {xf : Ls} {K : Int} (hK : K≤1000000000) : ∀ {ls : List Lk} {ws : List Ls} {a v : Ls} {n : Int} (k : Nat),(∀ l ∈ ls,LkOk n l∧(k : Int)≤l.fr)→ls.Pairwise (fun a b=>a.fr < b.fr)→(n = a.length)→ws.length = ls.length →
    (∀ (i : Nat) l p,ls[i]? = some l→ws[i]? = some p→fitsB l.ws.length p = true)→volOk ls ws v→(∀ l ∈ ls,∀ q,lv l.fr = some q→0≤q∧q≤gA xf l.fr + B)→(∃ wf,cGo lv ls ws a = some (wf,xf))→(∀ x ∈ a,0≤x)→tailS a k + v.sum + B * ls.length≤K →
    ∃ x v',cGo lv ls ws a = some x∧volOk ls x.1 v'∧(∀ y ∈ x.2,0≤y)∧v'.sum≤K∧(∀ j,k≤j→gN x.2 j≤K)∧(∀ j,j < k→gN x.2 j = gN a j)
  | [],ws,a,v,n,k,_,_,_,_,_,hv,_,_,hnn,hs=>by
    rw [List.length_nil] at hs
    have hvn : v = []:=List.eq_nil_of_length_eq_zero hv.l
    subst hvn
    refine ⟨([],a),[],by cases ws <;> rfl,⟨rfl,fun i l p x h=>by simp at h⟩,hnn,?_,fun j hj=>?_,fun _ _=>rfl⟩
    · have:=nn_tail hnn k;simp at hs ⊢;omega
    · have:=le_tail hnn hj;simp at hs;dsimp only;omega
  | l :: ls,[],a,v,n,k,_,_,_,hl,_,_,_,_,_,_=>by simp at hl
  | l :: ls,w :: ws,a,[],n,k,_,_,_,_,_,hv,_,_,_,_=>by have:=hv.l;simp at this
  | l :: ls,w :: ws,a,x :: v,n,k,hl,hp,hn,hwl,hf,hv,hlv,hX,hnn,hs=>by
    obtain ⟨hlo,hkf⟩:=hl l (by simp)
    have hfit:=hf 0 l w rfl rfl
    obtain ⟨hx0,hxs⟩:=hv.b 0 l w x rfl rfl rfl
    obtain ⟨f,hfr⟩ : ∃ f : Nat,l.fr = f:=⟨l.fr.toNat,by have:=hlo.f;omega⟩
    obtain ⟨t,hto⟩ : ∃ t : Nat,l.to = t:=⟨l.to.toNat,by have:=hlo.f;have:=hlo.o;omega⟩
    have ho:=hlo.o
    have ht:=hlo.t
    have hft : f < t:=by omega
    have hta : t < a.length:=by omega
    have hkf' : k≤f:=by omega
    have hgq : gA a l.fr = gN a f:=by rw [hfr,gA_nat]
    have hgt : gA a l.to = gN a t:=by rw [hto,gA_nat]
    have hA0:=gN_nn hnn f
    obtain ⟨Q,hQ⟩ : ∃ Q,qGo lv l a = Q:=⟨_,rfl⟩
    have hQb : 0≤Q∧Q≤gN a f + B:=by
      rw [← hQ]
      unfold qGo
      cases e : lv l.fr with
      | none=>rw [Option.getD_none,hgq];omega
      | some q =>
        have h1:=hlv l (by simp) q e
        obtain ⟨wf,hwf⟩:=hX
        have h2:=cGo_low (j:=l.fr) hlo.f (fun y hy=>by
          rcases List.mem_cons.1 hy with rfl | hy
          · exact ⟨ho,by omega⟩
          · have h3:=(List.pairwise_cons.1 hp).1 y hy
            have h4:=(hl y (by simp [hy])).1
            have h5:=h4.o
            have h6:=h4.t
            exact ⟨by omega,by omega⟩) hwf
        rw [Option.getD_some]
        rw [h2,hgq] at h1
        exact h1
    have hq0:=hQb.1
    have hBl : B * (((l :: ls).length : Nat) : Int) = B * ls.length + B:=by rw [List.length_cons,Int.natCast_add,Int.mul_add];simp
    have hBn : 0≤B * (ls.length : Int):=Int.mul_nonneg hB (by omega)
    rw [hBl] at hs
    have hvn : 0≤v.sum:=(sum_nn fun y hy=>by
      obtain ⟨i,hi⟩:=List.getElem?_of_mem hy
      have h1:=(List.getElem?_eq_some_iff.1 hi).1
      have hvl:=hv.l
      simp at hvl hwl
      have c1:=List.getElem?_eq_getElem (show i < ls.length by omega)
      have c2:=List.getElem?_eq_getElem (show i < ws.length by omega)
      exact (hv.b (i + 1) _ _ y (by rw [List.getElem?_cons_succ];exact c1) (by rw [List.getElem?_cons_succ];exact c2) (by rw [List.getElem?_cons_succ];exact hi)).1).1
    have htk:=tail_mono hnn hkf'
    have htf:=tail_cons (gN_get (show f < a.length by omega))
    have htf1:=nn_tail hnn (f + 1)
    rw [List.sum_cons] at hs
    obtain ⟨a1,a2,a3,a4,a5,a6,_⟩:=rk_facts hlo.r
    -- the step goes well
    have hdq : l.den * (x + Q)≤240000 * 1000000000:=Int.mul_le_mul a5 (by omega) (by omega) (by omega)
    rw [Int.mul_add] at hdq
    have hqd : Q * l.den = l.den * Q:=Int.mul_comm _ _
    have hok:=(step_ok_of hlo.r hfit hq0 (by omega) (by omega)).1
    have hst : stG l w (Q) = true:=by
      simp only [stG,inQ,Bool.and_eq_true,decide_eq_true_eq]
      exact ⟨⟨hq0,by omega⟩,stepB_iff.2 hok⟩
    have hsum:=step_sum (q:=Q) hlo.r hfit
    have hfit2:=step_fits hlo.r hfit hq0 (by omega) hok
    have hs0:=fits_sum hfit2
    have hout:=out_in hlo.r hfit hst
    rw [cGo_cons,hQ,hgt,if_pos hst]
    have hXe : cGo lv (l :: ls) (w :: ws) a = (cGo lv ls ws (a.set t (gN a t + outF l.ws l.den w Q))).map fun x=>(stepF l.ws l.den w Q :: x.1,x.2):=by rw [cGo_cons,hQ,hgt,if_pos hst,show l.to.toNat = t by omega]
    generalize outF l.ws l.den w (Q) = o at *
    generalize stepF l.ws l.den w (Q) = w' at *
    -- the link's new bound
    have hxn : 0≤x + Q - o:=by
      rcases Int.lt_or_le (x + Q - o) 0 with h | h
      · have h1 : l.den * (x + Q - o)≤l.den * (-1):=Int.mul_le_mul_of_nonneg_left (by omega) (by omega)
        rw [Int.mul_sub,Int.mul_add] at h1
        omega
      · exact h
    have hnn2 : ∀ y ∈ a.set t (gN a t + o),0≤y:=fun y hy=>by
      rcases List.mem_or_eq_of_mem_set hy with hy | rfl
      · exact hnn y hy
      · have:=gN_nn hnn t;omega
    have hts:=tail_set (v:=o) hta (f + 1)
    rw [if_pos (by omega)] at hts
    have hvl:=hv.l
    simp at hvl hwl
    have hl' : ∀ y ∈ ls,LkOk n y∧((f + 1 : Nat) : Int)≤y.fr:=fun y hy=>⟨(hl y (by simp [hy])).1,by have:=(List.pairwise_cons.1 hp).1 y hy;omega⟩
    have hv' : volOk ls ws v:=⟨hvl,fun i l p y e1 e2 e3=>hv.b (i + 1) l p y (by simpa using e1) (by simpa using e2) (by simpa using e3)⟩
    have hX2 : ∃ wf,cGo lv ls ws (a.set t (gN a t + o)) = some (wf,xf):=by
      obtain ⟨wf,hwf⟩:=hX
      cases hc : cGo lv ls ws (a.set t (gN a t + o)) with
      | none=>exact absurd (hwf.symm.trans (hXe.trans (by rw [hc]))) (by simp)
      | some y =>
        have:=hwf.symm.trans (hXe.trans (by rw [hc]))
        simp at this
        exact ⟨y.1,by rw [this.2]⟩
    obtain ⟨z,v',z1,z2,z3,z4,z5,z6⟩:=cGo_keep hB (xf:=xf) (K:=K - (x + Q - o)) (by omega) (a:=a.set t (gN a t + o)) (v:=v) (f + 1) hl' (List.pairwise_cons.1 hp).2 (by rw [List.length_set];exact hn) hwl (fun i l p e1 e2=>hf (i + 1) l p (by simpa using e1) (by simpa using e2)) hv' (fun y hy=>hlv y (by simp [hy])) hX2 hnn2 (by omega)
    rw [show l.to.toNat = t by omega,z1]
    refine ⟨(w' :: z.1,z.2),(x + Q - o) :: v',rfl,⟨by simp [z2.l],fun i b p y e1 e2 e3=>?_⟩,z3,by rw [List.sum_cons];omega,fun j hj=>?_,fun j hj=>?_⟩
    · cases i with
      | zero =>
        simp at e1 e2 e3
        subst e1;subst e2;subst e3
        refine ⟨hxn,?_⟩
        rw [Int.mul_sub,Int.mul_add]
        omega
      | succ i=>exact z2.b i b p y (by simpa using e1) (by simpa using e2) (by simpa using e3)
    · by_cases e : f + 1≤j
      · have:=z5 j e;dsimp only;omega
      · dsimp only
        rw [z6 j (by omega),gN_set hta,if_neg (by omega)]
        have:=le_tail hnn hj
        omega
    · dsimp only
      rw [z6 j (by omega),gN_set hta,if_neg (by omega)]
end Go.Proofs

/- The water of a cascade that a deck makes is little. No program. -/
namespace Go.Proofs
open Go Go.Abs
set_option linter.unusedSimpArgs false
set_option linter.unusedVariables false
theorem addL_get {j : Int} (hj : 0≤j) : ∀ {ls : List Lk} {cm a : Ls},cm.length = ls.length→(∀ l ∈ ls,0≤l.to∧l.to < a.length)→gA (addL ls cm a) j = gA a j + inS ls cm j
  | [],cm,a,_,_=>by rw [addL_nil];cases cm <;> simp [inS]
  | l :: ls,[],a,h,_=>by simp at h
  | l :: ls,v :: cm,a,h,hl=>by
    obtain ⟨h1,h2⟩:=hl l (by simp)
    rw [addL_cons,addL_get hj (by simpa using h) (fun y hy=>by rw [List.length_set];exact hl y (by simp [hy])),gA_set h1 (by omega) hj,inS_cons]
    by_cases e : j = l.to
    · rw [if_pos e,if_pos e.symm,← e];omega
    · rw [if_neg e,if_neg (Ne.symm e)];omega
theorem step_vol {c : Cs} {l : List Dt} (h : mkCs c l) {a b : Fl} {p : Su} {x : Pd} (h2 : mkSu c p) (h3 : stepC c a p b x) {v : Ls} {V : Int} (hv : volOk c.rv.ls a.ws v) (hvs : v.sum≤V) (hV : V≤100000000) :
    (∃ v',volOk c.rv.ls b.ws v'∧v'.sum≤V + 6100)∧∀ r ∈ x.re,0≤floR r∧floR r≤V + 7200:=by
  have hr:=h.k.r
  have hrn:=h.r.n
  have hrl:=h.r.l
  have hva:=h3.va
  have hgo:=stepC_go h3
  have hn1:=h3.n1
  have hnn : ∀ y ∈ p.inf,0≤y:=fun y hy=>(h2.r1 y hy).1
  have hsum:=sum_in (l:=p.inf) (a:=14) (by omega) (fun q hq=>by have:=h2.r1 q hq;omega)
  have hdl:=h.ln
  have hto : ∀ u ∈ c.rv.ls,0≤u.to∧u.to < p.inf.length:=fun u hu=>by have g:=hr.l u hu;have:=g.f;have:=g.o;have:=g.t;omega
  have hfl : ∀ (j : Nat) s r,c.si[j]? = some s→x.re[j]? = some r→0≤floR r∧floR r≤gA (addL c.rv.ls x.came p.inf) s.nd + 1000:=fun j s r e1 g2'=>by
    have hj:=(List.getElem?_eq_some_iff.1 e1).1
    have hd:=hva.n
    obtain ⟨z',r',g1,g2,g3,g4⟩:=h3.st j s _ e1 (List.getElem?_eq_getElem (show j < a.ds.length by omega))
    rw [g2] at g2'
    cases g2'
    have hm:=h.d j s _ e1 (List.getElem?_eq_getElem (show j < l.length by omega))
    have hc:=hm.c
    have hvv:=(validD_at g3.v0).2.1
    have hvv2:=(validD_at g3.v).2.1
    have hw:=g3.w
    have hs0:=(h.k.s s (List.mem_of_getElem? e1)).1
    rw [addL_get hs0.1 h3.lc hto]
    exact ⟨g3.q,by omega⟩
  obtain ⟨z,v',z1,z2,_,z4,z5,_⟩:=cGo_keep (B:=1000) (by omega) (xf:=addL c.rv.ls x.came p.inf) (K:=v.sum + p.inf.sum + 1000 * c.rv.ls.length) (by omega) (ls:=c.rv.ls) (ws:=a.ws) (a:=p.inf) (v:=v) (n:=c.rv.n) 0 (fun l hl=>⟨hr.l l hl,(hr.l l hl).f⟩) hr.p hn1.symm hva.w.l hva.w.f hv
    (fun y hy q hq=>by
      unfold lvF at hq
      split at hq
      · rename_i e0
        rcases snA_is c.si y.fr with ⟨e1,_⟩ | ⟨j,s,e1,e2,e3⟩
        · omega
        · rw [e3,Int.toNat_natCast,List.getElem?_map] at hq
          cases hre : x.re[j]? with
          | none=>rw [hre] at hq;cases hq
          | some r =>
            rw [hre] at hq
            cases hq
            have:=hfl j s r e1 hre
            rw [e2] at this
            exact this
      · cases hq) ⟨_,hgo⟩ hnn (by show (p.inf.drop 0).sum + v.sum + _≤_;rw [List.drop_zero];omega)
  rw [hgo] at z1
  cases z1
  refine ⟨⟨v',z2,by omega⟩,fun r hr'=>?_⟩
  obtain ⟨j,hj⟩:=List.getElem?_of_mem hr'
  have hjl:=(List.getElem?_eq_some_iff.1 hj).1
  have hlr:=h3.lr
  have e1:=List.getElem?_eq_getElem (show j < c.si.length by omega)
  have g:=hfl j _ r e1 hj
  have hz:=z5 (c.si[j]'(by omega)).nd.toNat (Nat.zero_le _)
  have hgg : gA (addL c.rv.ls x.came p.inf) (c.si[j]'(by omega)).nd = gN (addL c.rv.ls x.came p.inf) (c.si[j]'(by omega)).nd.toNat:=rfl
  rw [hgg] at g
  dsimp only at hz
  omega
theorem stepsC_vol {c : Cs} {l : List Dt} (h : mkCs c l) : ∀ {n : Nat} {w : Fl},stepsC c (fl1 c l) n w→n≤1000→∃ v,volOk c.rv.ls w.ws v∧v.sum≤6100 * n:=by
  intro n w hs
  induction hs with
  | zero =>
    intro _
    refine ⟨List.replicate c.rv.ls.length 0,⟨by simp,fun i a p x h1 h2 h3=>?_⟩,by simp⟩
    have e1 : p = []:=(List.mem_replicate.1 (List.mem_of_getElem? h2)).2
    have e2 : x = 0:=(List.mem_replicate.1 (List.mem_of_getElem? h3)).2
    rw [e1,e2]
    simp
  | @succ n a b p x h1 h2 h3 ih =>
    intro hn
    obtain ⟨v,hv,hvs⟩:=ih (by omega)
    obtain ⟨⟨v',z1,z2⟩,_⟩:=step_vol h h2 h3 hv hvs (by omega)
    refine ⟨v',z1,?_⟩
    rw [Int.natCast_add,Int.mul_add]
    simp only [Int.natCast_one]
    omega
end Go.Proofs

/- A run of a cascade: what arrives is what is told for what left its sites. No program. -/
namespace Go.Proofs
open Go Go.Abs
set_option linter.unusedSimpArgs false
set_option linter.unusedVariables false
theorem runsC.len {c : Cs} {s : Fl} {l : List Su} {xs : List Pd} {b : Fl} (h : runsC c s l xs b) : xs.length = l.length:=by
  induction h with
  | nil=>rfl
  | snoc _ _ ih=>simp [ih]
end Go.Proofs

/- What passes in a run is little. No program. -/
namespace Go.Proofs
open Go Go.Abs
set_option linter.unusedSimpArgs false
set_option linter.unusedVariables false
structure pdOk (c : Cs) (x : Pd) : Prop where
  lr : x.re.length = c.si.length
  lc : x.came.length = c.rv.ls.length
  r : ∀ r ∈ x.re,(0≤r.tur∧0≤r.spi∧0≤r.ovr)∧floR r≤100000000
  c : ∀ v ∈ x.came,0≤v∧v≤1125899906842624
end Go.Proofs

namespace Go.Proofs
open Go Go.Abs
set_option linter.unusedSimpArgs false
set_option linter.unusedVariables false
set_option maxRecDepth 40000
end Go.Proofs

/- With more water never less has come up to any step, for a whole river with sites. No program. -/
namespace Go.Proofs
open Go Go.Abs
set_option linter.unusedSimpArgs false
set_option linter.unusedVariables false
/-- What of a list lies in its first m places. -/
def sF (l : Ls) (m : Nat) : Int:=(tab m (fP l)).sum
theorem sF_succ (l : Ls) (m : Nat) : sF l (m + 1) = sF l m + fP l m:=sum_succ m (fP l)
theorem sF_zero (l : Ls) : sF l 0 = 0:=rfl
theorem fP_step {ws : Ls} {den : Int} {ps : Ls} {q : Int} (h1 : 1≤ws.length) (hp : ps.length≤ws.length) (k : Nat) : fP (stepF ws den ps q) k = hP ws den ps q k:=by
  rw [stepF,fP_trim,fP_tab]
  split
  · rfl
  · rename_i h
    unfold hP gP
    rw [fP_out (by omega),fP_out (by omega),if_neg (by omega)]
    omega
theorem sF_one (l : Ls) : sF l 1 = fP l 0:=by rw [show (1 : Nat) = 0 + 1 from rfl,sF_succ,sF_zero,Int.zero_add]
theorem sF_two (l : Ls) : sF l 2 = fP l 0 + fP l 1:=by rw [show (2 : Nat) = 1 + 1 from rfl,sF_succ,sF_one]
theorem sF_step {ws : Ls} {den : Int} {ps : Ls} {q : Int} (h1 : 1≤ws.length) (hp : ps.length≤ws.length) (m : Nat) : sF (stepF ws den ps q) (m + 1) = sF ps (m + 1 + 1) + q * sF ws (m + 1 + 1) - den * outF ws den ps q:=by
  induction m with
  | zero =>
    show sF (stepF ws den ps q) 1 = sF ps 2 + q * sF ws 2 - den * outF ws den ps q
    rw [sF_one,sF_two,sF_two,fP_step h1 hp,Int.mul_add]
    have e:=Int.mul_ediv_add_emod (gP ws ps q 0) den
    unfold outF hP
    rw [if_pos rfl]
    have g0 : gP ws ps q 0 = fP ps 0 + q * fP ws 0:=rfl
    have g1 : gP ws ps q (0 + 1) = fP ps 1 + q * fP ws 1:=rfl
    omega
  | succ m ih =>
    rw [sF_succ,ih,fP_step h1 hp,sF_succ ps (m + 1 + 1),sF_succ ws (m + 1 + 1),Int.mul_add]
    unfold hP
    rw [if_neg (by omega)]
    have g1 : gP ws ps q (m + 1 + 1) = fP ps (m + 1 + 1) + q * fP ws (m + 1 + 1):=rfl
    omega
/-- Two waves of a link: D more has come out of the second, C more has gone in. -/
structure moreW (ws : Ls) (den : Int) (a b : Ls) (D C : Int) : Prop where
  la : a.length≤ws.length
  lb : b.length≤ws.length
  m : ∀ m : Nat,sF a (m + 1) + C * sF ws (m + 1)≤sF b (m + 1) + den * D
theorem moreW_refl {ws : Ls} {den : Int} {a : Ls} (h : a.length≤ws.length) : moreW ws den a a 0 0:=⟨h,h,fun m=>by omega⟩
theorem moreW_step {ws : Ls} {den : Int} {a b : Ls} {D C q r : Int} (hr : rkCheck ws den = 0) (h : moreW ws den a b D C) (hC : 0≤C + (r - q)) :
    moreW ws den (stepF ws den a q) (stepF ws den b r) (D + (outF ws den b r - outF ws den a q)) (C + (r - q))∧0≤D + (outF ws den b r - outF ws den a q):=by
  obtain ⟨h1,_,hw,hd,_⟩:=rk_facts hr
  refine ⟨⟨stepF_len ..,stepF_len ..,fun m=>?_⟩,?_⟩
  · rw [sF_step h1 h.la,sF_step h1 h.lb]
    have e:=h.m (m + 1)
    have e1 : (C + (r - q)) * sF ws (m + 1 + 1) = C * sF ws (m + 1 + 1) + r * sF ws (m + 1 + 1) - q * sF ws (m + 1 + 1):=by rw [Int.add_mul,Int.sub_mul];omega
    have e2 : (C + (r - q)) * sF ws (m + 1 + 1) = (C + (r - q)) * sF ws (m + 1) + (C + (r - q)) * fP ws (m + 1):=by rw [sF_succ ws (m + 1),Int.mul_add]
    have e3:=Int.mul_nonneg hC (hw (m + 1)).1
    have e4 : den * (D + (outF ws den b r - outF ws den a q)) = den * D + den * outF ws den b r - den * outF ws den a q:=by rw [Int.mul_add,Int.mul_sub];omega
    omega
  · have e:=h.m 0
    rw [sF_succ,sF_zero,sF_succ,sF_zero,sF_succ,sF_zero] at e
    have e1 : (C + (r - q)) * fP ws 0 = C * fP ws 0 + r * fP ws 0 - q * fP ws 0:=by rw [Int.add_mul,Int.sub_mul];omega
    have e2:=Int.mul_nonneg hC (hw 0).1
    have g0 : gP ws a q 0 = fP a 0 + q * fP ws 0:=rfl
    have g1 : gP ws b r 0 = fP b 0 + r * fP ws 0:=rfl
    have e3 : C * (0 + fP ws 0) = C * fP ws 0:=by rw [Int.zero_add]
    have e4 : gP ws a q 0≤gP ws b r 0 + den * D:=by omega
    have e5:=Int.ediv_le_ediv (show 0 < den by omega) e4
    rw [Int.add_mul_ediv_left _ _ (show den ≠ 0 by omega)] at e5
    unfold outF
    omega
/-- All links: cl what has left the sites more up to now, P what has come to the nodes more ahead of these links, F behind them. -/
def ML (cl : Int→Option Int) : List Lk→List Ls→List Ls→(Int→Int)→(Int→Int)→Prop
  | l :: r,w :: ws,v :: vs,P,F=>∃ D,0≤D∧moreW l.ws l.den w v D ((cl l.fr).getD (P l.fr))∧ML cl r ws vs (fun j=>if j = l.to then P j + D else P j) F
  | [],_,_,P,F=>P = F
  | _,_,_,_,_=>False
theorem ML_refl {cl : Int→Option Int} (hcl : ∀ x q,cl x = some q→q = 0) : ∀ {ls : List Lk} {ws : List Ls},ws.length = ls.length→(∀ (i : Nat) l w,ls[i]? = some l→ws[i]? = some w→w.length≤l.ws.length)→ML cl ls ws ws (fun _=>0) (fun _=>0)
  | [],ws,_,_=>by cases ws <;> rfl
  | l :: ls,[],h,_=>by simp at h
  | l :: ls,w :: ws,h,hw=>by
    refine ⟨0,Int.le_refl _,?_,?_⟩
    · have e : (cl l.fr).getD 0 = 0:=by
        cases e : cl l.fr with
        | none=>rfl
        | some q=>exact hcl _ _ e
      rw [e]
      exact moreW_refl (hw 0 l w rfl rfl)
    · have e : (fun j=>if j = l.to then (0 : Int) + 0 else 0) = fun _=>0:=by funext j;split <;> rfl
      rw [e]
      exact ML_refl hcl (by simpa using h) fun i l w h1 h2=>hw (i + 1) l w (by simpa using h1) (by simpa using h2)
theorem gA_set1 {a : Ls} {i j : Int} {v : Int} (hi : 1≤i) (h : i.toNat < a.length) : gA (a.set i.toNat v) j = if j = i then v else gA a j:=by
  by_cases hj : 0≤j
  · exact gA_set (by omega) h hj
  · rw [if_neg (by omega)]
    unfold gA
    rw [List.getD_eq_getElem?_getD,List.getD_eq_getElem?_getD,List.getElem?_set_ne (by omega)]
/-- How what leaves the sites grows in a step. -/
def clR (cl lv mv cm : Int→Option Int) : Prop:=∀ x,(cl x = none∧lv x = none∧mv x = none∧cm x = none) ∨ ∃ c q r,cl x = some c∧lv x = some q∧mv x = some r∧cm x = some (c + (r - q))∧0≤c + (r - q)
theorem ml_step {n : Int} {cl lv mv cm : Int→Option Int} (hcl : clR cl lv mv cm) : ∀ {ls : List Lk} {ws vs : List Ls} {a b : Ls} {P F : Int→Int} {x y : List Ls × Ls},(∀ l ∈ ls,LkOk n l)→n = a.length→n = b.length→ML cl ls ws vs P F→(∀ j,0≤P j + (gA b j - gA a j)) →
    cGo lv ls ws a = some x→cGo mv ls vs b = some y →
    ML cm ls x.1 y.1 (fun j=>P j + (gA b j - gA a j)) (fun j=>F j + (gA y.2 j - gA x.2 j))∧∀ j,0≤F j + (gA y.2 j - gA x.2 j)
  | [],ws,vs,a,b,P,F,x,y,_,_,_,hM,hP,h1,h2=>by
    rw [cGo_nil] at h1 h2
    cases h1;cases h2
    have hM : P = F:=by cases ws <;> cases vs <;> exact hM
    subst hM
    exact ⟨rfl,hP⟩
  | l :: ls,[],vs,a,b,P,F,x,y,_,_,_,hM,hP,h1,h2=>by cases vs <;> exact hM.elim
  | l :: ls,_ :: _,[],a,b,P,F,x,y,_,_,_,hM,hP,h1,h2=>hM.elim
  | l :: ls,w :: ws,v :: vs,a,b,P,F,x,y,hk,hna,hnb,hM,hP,h1,h2=>by
    obtain ⟨D,hD,hw,hM⟩:=hM
    have hl:=hk l (by simp)
    have k1:=hl.f
    have k2:=hl.o
    have k3:=hl.t
    rw [cGo_cons] at h1 h2
    split at h1
    case isFalse=>cases h1
    split at h2
    case isFalse=>cases h2
    obtain ⟨x1,hx1,rfl⟩:=Option.map_eq_some_iff.1 h1
    obtain ⟨y1,hy1,rfl⟩:=Option.map_eq_some_iff.1 h2
    have hC : 0≤(cl l.fr).getD (P l.fr) + (qGo mv l b - qGo lv l a)∧(cm l.fr).getD (P l.fr + (gA b l.fr - gA a l.fr)) = (cl l.fr).getD (P l.fr) + (qGo mv l b - qGo lv l a):=by
      unfold qGo
      rcases hcl l.fr with ⟨e1,e2,e3,e4⟩ | ⟨c,q,r,e1,e2,e3,e4,e5⟩
      · rw [e1,e2,e3,e4]
        exact ⟨hP _,rfl⟩
      · rw [e1,e2,e3,e4]
        exact ⟨e5,rfl⟩
    obtain ⟨m1,m2⟩:=moreW_step hl.r hw hC.1
    generalize outF l.ws l.den v (qGo mv l b) = ob at m1 m2 hy1 ⊢
    generalize outF l.ws l.den w (qGo lv l a) = oa at m1 m2 hx1 ⊢
    have ga : ∀ j,gA (a.set l.to.toNat (gA a l.to + oa)) j = if j = l.to then gA a l.to + oa else gA a j:=fun j=>gA_set1 (by omega) (by omega)
    have gb : ∀ j,gA (b.set l.to.toNat (gA b l.to + ob)) j = if j = l.to then gA b l.to + ob else gA b j:=fun j=>gA_set1 (by omega) (by omega)
    have eP : (fun j=>(if j = l.to then P j + D else P j) + (gA (b.set l.to.toNat (gA b l.to + ob)) j - gA (a.set l.to.toNat (gA a l.to + oa)) j)) = fun j=>if j = l.to then P j + (gA b j - gA a j) + (D + (ob - oa)) else P j + (gA b j - gA a j):=by
      funext j
      rw [ga,gb]
      by_cases h : j = l.to
      · subst h
        simp only [if_true]
        omega
      · simp only [if_neg h]
    obtain ⟨i1,i2⟩:=ml_step hcl (fun z hz=>hk z (by simp [hz])) (by rw [List.length_set];exact hna) (by rw [List.length_set];exact hnb) hM (fun j=>by
      have:=congrFun eP j
      rw [this]
      have:=hP j
      split <;> omega) hx1 hy1
    rw [eP] at i1
    refine ⟨⟨_,m2,?_,i1⟩,i2⟩
    rw [hC.2]
    exact m1
end Go.Proofs
