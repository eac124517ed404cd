/- Proved here: what functions of the given program come to, and the plain laws of it; no condition but those in the theorems. -/
import Derived.Test.YtgllikepncnpkaaGreatA34y
import Derived.Test.YtgllikepncnpkaaGreatA34w
namespace Go.Proofs
open Go Go.Abs
set_option linter.unusedSimpArgs false
set_option linter.unusedVariables false
set_option maxRecDepth 40000
def c0:Cs:=⟨⟨3,[⟨0,1,[0,1],1⟩,⟨1,2,[0,0,1],1⟩]⟩,[]⟩
def s0:Fl:=⟨0,[],[[],[]]⟩
set_option maxHeartbeats 4000000 in
theorem fo0:foX c0 s0 [[],[],[],[]] [[5,0,0],[0,0,0],[0,0,0],[0,0,0]]=.ok [[5,0,0],[0,5,0],[0,0,0],[0,0,5]]:=by rfl
theorem c0_fin:c0.fin:=⟨⟨by decide,by decide⟩,by decide,by simp [c0]⟩
theorem s0_fin:s0.fin:=⟨by decide,by simp [s0],by simp [vfin,s0]⟩
theorem ab0:abS c0 2=([],0):=by rfl
theorem bw0:bwS c0 0=([],40):=by rfl
set_option maxHeartbeats 4000000 in
theorem sane_ok:FunR Tryz.prog 9 R_tt:=by
  intro args k h
  obtain ⟨rfl,hk⟩:=h
  refine does_ex (qc:=qc1) (np:=[(2,[(0,1),(0,3),(0,4),(0,5),(0,6),(0,7),(0,8),(1,3),(1,4),(1,5),(1,6),(1,7),(1,8),(3,4),(3,5),(3,6),(3,7),(3,8),(4,5),(4,6),(4,7),(5,6),(5,7),(6,7)])]) (CK:=ckK [(17,cPu R_fo),(23,cPu R_abv),(20,cPu R_bw)]) mixed Tryz.func9 rfl rfl Tryz.ntmps9 Tryz.results9 τ_ok (by kernel_rfl) (ckK_ok ⟨cPu_ok follow_ok rfl,cPu_ok abv_ok rfl,cPu_ok bel_ok rfl,trivial⟩) (by simp) ?_
  conv=>whnf
  repeat (refine ⟨Nat.le_of_ble_eq_true rfl,?_⟩;conv=>whnf)
  refine ⟨⟨rfl,by decide,by decide⟩,?_⟩
  conv=>whnf
  repeat (refine ⟨Nat.le_of_ble_eq_true rfl,?_⟩;conv=>whnf)
  refine ⟨c0,s0,[[],[],[],[]],[[5,0,0],[0,0,0],[0,0,0],[0,0,0]],rfl,c0_fin,s0_fin,by simp [vfin],by simp [vfin],?_⟩
  rw [fo0]
  conv=>whnf
  repeat (refine ⟨Nat.le_of_ble_eq_true rfl,?_⟩;conv=>whnf)
  refine ⟨c0,2,rfl,c0_fin,?_⟩
  rw [ab0]
  conv=>whnf
  repeat (refine ⟨Nat.le_of_ble_eq_true rfl,?_⟩;conv=>whnf)
  refine ⟨c0,0,rfl,c0_fin,?_⟩
  rw [bw0]
  conv=>whnf
  repeat (first | (refine Fork.mk (fun _=>?_) (fun h=>absurd h (by decide));conv=>whnf) | (refine ⟨by decide,_,rfl,rfl,?_⟩;conv=>whnf))
  exact hk
end Go.Proofs

/- Little water travels well, also if some flows leave sites. No program. -/
namespace Go.Proofs
open Go Go.Abs
set_option linter.unusedSimpArgs false
set_option linter.unusedVariables false
theorem cGo_small {lv:Int→Option Int} {B:Int} (hB:0≤B) (hlv:∀ x q,lv x=some q→0≤q∧q≤B) {K:Int} (hK:K≤1000000000):∀ {ls:List Lk} {ws:List Ls} {a v:Ls} {n:Int} (k:Nat),(∀ l ∈ ls,LkOk n l∧(k:Int)≤l.fr)→ls.Pairwise (fun a b=>a.fr < b.fr)→(n=a.length)→ws.length=ls.length →
    (∀ (i:Nat) l p,ls[i]?=some l→ws[i]?=some p→fitsB l.ws.length p=true)→volOk ls ws v→(∀ x ∈ a,0≤x)→tailS a k+v.sum+B * ls.length≤K →
    ∃ x v',cGo lv ls ws a=some x∧volOk ls x.1 v'∧(∀ y ∈ x.2,0≤y)∧v'.sum≤K∧(∀ j,k≤j→gN x.2 j≤K)∧(∀ j,j < k→gN x.2 j=gN a j)
  | [],ws,a,v,n,k,_,_,_,_,_,hv,hnn,hs=>by
    rw [List.length_nil] at hs
    have hvn:v=[]:=List.eq_nil_of_length_eq_zero hv.l
    subst hvn
    refine ⟨([],a),[],by cases ws <;> rfl,⟨rfl,fun i l p x h=>by simp at h⟩,hnn,?_,fun j hj=>?_,fun _ _=>rfl⟩
    · have:=nn_tail hnn k;simp at hs ⊢;omega
    · have:=le_tail hnn hj;simp at hs;dsimp only;omega
  | l :: ls,[],a,v,n,k,_,_,_,hl,_,_,_,_=>by simp at hl
  | l :: ls,w :: ws,a,[],n,k,_,_,_,_,_,hv,_,_=>by have:=hv.l;simp at this
  | l :: ls,w :: ws,a,x :: v,n,k,hl,hp,hn,hwl,hf,hv,hnn,hs=>by
    obtain ⟨hlo,hkf⟩:=hl l (by simp)
    have hfit:=hf 0 l w rfl rfl
    obtain ⟨hx0,hxs⟩:=hv.b 0 l w x rfl rfl rfl
    obtain ⟨f,hfr⟩:∃ f:Nat,l.fr=f:=⟨l.fr.toNat,by have:=hlo.f;omega⟩
    obtain ⟨t,hto⟩:∃ t:Nat,l.to=t:=⟨l.to.toNat,by have:=hlo.f;have:=hlo.o;omega⟩
    have ho:=hlo.o
    have ht:=hlo.t
    have hft:f < t:=by omega
    have hta:t < a.length:=by omega
    have hkf':k≤f:=by omega
    have hgq:gA a l.fr=gN a f:=by rw [hfr,gA_nat]
    have hgt:gA a l.to=gN a t:=by rw [hto,gA_nat]
    have hA0:=gN_nn hnn f
    obtain ⟨Q,hQ⟩:∃ Q,qGo lv l a=Q:=⟨_,rfl⟩
    have hQb:0≤Q∧Q≤gN a f+B:=by
      rw [← hQ]
      unfold qGo
      cases e:lv l.fr with
      | none=>rw [Option.getD_none,hgq];omega
      | some q=>have:=hlv _ _ e;rw [Option.getD_some];omega
    have hq0:=hQb.1
    have hBl:B * (((l :: ls).length:Nat):Int)=B * ls.length+B:=by rw [List.length_cons,Int.natCast_add,Int.mul_add];simp
    have hBn:0≤B * (ls.length:Int):=Int.mul_nonneg hB (by omega)
    rw [hBl] at hs
    have hvn:0≤v.sum:=(sum_nn fun y hy=>by
      obtain ⟨i,hi⟩:=List.getElem?_of_mem hy
      have h1:=(List.getElem?_eq_some_iff.1 hi).1
      have hvl:=hv.l
      simp at hvl hwl
      have c1:=List.getElem?_eq_getElem (show i < ls.length by omega)
      have c2:=List.getElem?_eq_getElem (show i < ws.length by omega)
      exact (hv.b (i+1) _ _ y (by rw [List.getElem?_cons_succ];exact c1) (by rw [List.getElem?_cons_succ];exact c2) (by rw [List.getElem?_cons_succ];exact hi)).1).1
    have htk:=tail_mono hnn hkf'
    have htf:=tail_cons (gN_get (show f < a.length by omega))
    have htf1:=nn_tail hnn (f+1)
    rw [List.sum_cons] at hs
    obtain ⟨a1,a2,a3,a4,a5,a6,_⟩:=rk_facts hlo.r
    -- the step goes well
    have hdq:l.den * (x+Q)≤240000 * 1000000000:=Int.mul_le_mul a5 (by omega) (by omega) (by omega)
    rw [Int.mul_add] at hdq
    have hqd:Q * l.den=l.den * Q:=Int.mul_comm _ _
    have hok:=(step_ok_of hlo.r hfit hq0 (by omega) (by omega)).1
    have hst:stG l w (Q)=true:=by
      simp only [stG,inQ,Bool.and_eq_true,decide_eq_true_eq]
      exact ⟨⟨hq0,by omega⟩,stepB_iff.2 hok⟩
    have hsum:=step_sum (q:=Q) hlo.r hfit
    have hfit2:=step_fits hlo.r hfit hq0 (by omega) hok
    have hs0:=fits_sum hfit2
    have hout:=out_in hlo.r hfit hst
    rw [cGo_cons,hQ,hgt,if_pos hst]
    generalize outF l.ws l.den w (Q)=o at *
    generalize stepF l.ws l.den w (Q)=w' at *
    -- the link's new bound
    have hxn:0≤x+Q - o:=by
      rcases Int.lt_or_le (x+Q - o) 0 with h | h
      · have h1:l.den * (x+Q - o)≤l.den * (-1):=Int.mul_le_mul_of_nonneg_left (by omega) (by omega)
        rw [Int.mul_sub,Int.mul_add] at h1
        omega
      · exact h
    have hnn2:∀ y ∈ a.set t (gN a t+o),0≤y:=fun y hy=>by
      rcases List.mem_or_eq_of_mem_set hy with hy | rfl
      · exact hnn y hy
      · have:=gN_nn hnn t;omega
    have hts:=tail_set (v:=o) hta (f+1)
    rw [if_pos (by omega)] at hts
    have hvl:=hv.l
    simp at hvl hwl
    have hl':∀ y ∈ ls,LkOk n y∧((f+1:Nat):Int)≤y.fr:=fun y hy=>⟨(hl y (by simp [hy])).1,by have:=(List.pairwise_cons.1 hp).1 y hy;omega⟩
    have hv':volOk ls ws v:=⟨hvl,fun i l p y e1 e2 e3=>hv.b (i+1) l p y (by simpa using e1) (by simpa using e2) (by simpa using e3)⟩
    obtain ⟨z,v',z1,z2,z3,z4,z5,z6⟩:=cGo_small hB hlv (K:=K - (x+Q - o)) (by omega) (a:=a.set t (gN a t+o)) (v:=v) (f+1) hl' (List.pairwise_cons.1 hp).2 (by rw [List.length_set];exact hn) hwl (fun i l p e1 e2=>hf (i+1) l p (by simpa using e1) (by simpa using e2)) hv' hnn2 (by omega)
    rw [show l.to.toNat=t by omega,z1]
    refine ⟨(w' :: z.1,z.2),(x+Q - o) :: v',rfl,⟨by simp [z2.l],fun i b p y e1 e2 e3=>?_⟩,z3,by rw [List.sum_cons];omega,fun j hj=>?_,fun j hj=>?_⟩
    · cases i with
      | zero =>
        simp at e1 e2 e3
        subst e1;subst e2;subst e3
        refine ⟨hxn,?_⟩
        rw [Int.mul_sub,Int.mul_add]
        omega
      | succ i=>exact z2.b i b p y (by simpa using e1) (by simpa using e2) (by simpa using e3)
    · by_cases e:f+1≤j
      · have:=z5 j e;dsimp only;omega
      · dsimp only
        rw [z6 j (by omega),gN_set hta,if_neg (by omega)]
        have:=le_tail hnn hj
        omega
    · dsimp only
      rw [z6 j (by omega),gN_set hta,if_neg (by omega)]
theorem lvF_b {si:List Si} {l:Ls} {B:Int} (h:∀ x ∈ l,0≤x∧x≤B):∀ x q,lvF si l x=some q→0≤q∧q≤B:=fun x q e=>by
  unfold lvF at e
  split at e
  · exact h q (List.mem_of_getElem? e)
  · cases e
theorem bad_no {l:Ls} (h:∀ x ∈ l,0≤x∧x≤1073741824):l.any badX=false:=by
  cases e:l.any badX with
  | false=>rfl
  | true =>
    obtain ⟨x,hx,hx2⟩:=List.any_eq_true.1 e
    have:=h x hx
    simp [badX] at hx2
    omega
theorem vol_nn {ls:List Lk} {ws:List Ls} {v:Ls} (h:volOk ls ws v) (hl:ws.length=ls.length):0≤v.sum:=(sum_nn fun y hy=>by
  obtain ⟨i,hi⟩:=List.getElem?_of_mem hy
  have hil:=(List.getElem?_eq_some_iff.1 hi).1
  have e1:=h.l
  exact (h.b i _ _ y (List.getElem?_eq_getElem (by omega)) (List.getElem?_eq_getElem (show i < ws.length by omega)) hi).1).1
end Go.Proofs

/- What arrives in a step of a cascade is what is told for what left its sites. No program. -/
namespace Go.Proofs
open Go Go.Abs
set_option linter.unusedSimpArgs false
set_option linter.unusedVariables false
def addL:List Lk→Ls→Ls→Ls
  | l :: r,v :: t,a=>addL r t (a.set l.to.toNat (gA a l.to+v))
  | _,_,a=>a
theorem addL_cons (l:Lk) (r:List Lk) (v:Int) (t:Ls) (a:Ls):addL (l :: r) (v :: t) a=addL r t (a.set l.to.toNat (gA a l.to+v)):=rfl
theorem addL_nil (t:Ls) (a:Ls):addL [] t a=a:=by cases t <;> rfl
theorem inS_low {j:Int}:∀ {ls:List Lk} {cm:Ls},(∀ l ∈ ls,j < l.to)→inS ls cm j=0
  | [],cm,_=>by cases cm <;> rfl
  | l :: r,[],_=>rfl
  | l :: r,c :: t,h=>by
    have:=h l (by simp)
    rw [inS_cons,if_neg (by omega),inS_low fun x hx=>h x (by simp [hx])]
    rfl
theorem go_of {n:Int} {lv:Int→Option Int} {Qf:Int→Int}:∀ {ls:List Lk} {ws ws':List Ls} {cm a:Ls},(∀ l ∈ ls,LkOk n l)→ls.Pairwise (fun a b=>a.fr < b.fr)→(n=a.length)→ws.length=ls.length→ws'.length=ls.length→cm.length=ls.length →
    (∀ (i:Nat) l p,ls[i]?=some l→ws[i]?=some p→fitsB l.ws.length p=true)→(∀ (i:Nat) l q w v,ls[i]?=some l→ws[i]?=some q→ws'[i]?=some w→cm[i]?=some v→rkStep l.ws l.den q (Qf l.fr)=(w,v,0)) →
    (∀ l ∈ ls,(lv l.fr).getD (gA a l.fr+inS ls cm l.fr)=Qf l.fr)→cGo lv ls ws a=some (ws',addL ls cm a)
  | [],ws,ws',cm,a,_,_,_,_,h5,_,_,_,_=>by
    have:ws'=[]:=List.eq_nil_of_length_eq_zero h5
    rw [cGo_nil,addL_nil,this]
  | l :: ls,[],_,_,_,_,_,_,h,_,_,_,_,_=>by simp at h
  | l :: ls,_ :: _,[],_,_,_,_,_,_,h,_,_,_,_=>by simp at h
  | l :: ls,_ :: _,_ :: _,[],_,_,_,_,_,_,h,_,_,_=>by simp at h
  | l :: ls,w :: ws,w' :: ws',v :: cm,a,h1,h2,h3,h4,h5,h6,h7,h8,h9=>by
    have hl:=h1 l (by simp)
    have ho:=hl.o
    have ht:=hl.t
    have hf0:=hl.f
    obtain ⟨p1,p2⟩:=List.pairwise_cons.1 h2
    have hfit:=h7 0 l w rfl rfl
    have hstep:=h8 0 l w w' v rfl rfl rfl rfl
    have hq:=h9 l (by simp)
    have h0:inS (l :: ls) (v :: cm) l.fr=0:=inS_low fun y hy=>by
      rcases List.mem_cons.1 hy with rfl | hy
      · exact ho
      · have:=p1 y hy;have:=(h1 y (by simp [hy])).o;omega
    rw [h0,Int.add_zero] at hq
    have hqq:qGo lv l a=Qf l.fr:=hq
    rw [step_eq hl.r hfit] at hstep
    by_cases hg:(inQ (Qf l.fr) && stepB l.ws w (Qf l.fr))=true
    · rw [if_pos hg] at hstep
      simp only [Prod.mk.injEq] at hstep
      obtain ⟨e1,e2,_⟩:=hstep
      rw [cGo_cons,hqq,if_pos (show stG l w (Qf l.fr)=true from hg),e1,e2,addL_cons]
      rw [go_of (fun y hy=>h1 y (by simp [hy])) p2 (by rw [List.length_set];exact h3) (by simpa using h4) (by simpa using h5) (by simpa using h6) (fun i y p e1 e2=>h7 (i+1) y p (by simpa using e1) (by simpa using e2)) (fun i y q u z e1 e2 e3 e4=>h8 (i+1) y q u z (by simpa using e1) (by simpa using e2) (by simpa using e3) (by simpa using e4)) (fun y hy=>?_)]
      · rfl
      · have hy0:=(h1 y (by simp [hy])).f
        have hc:=h9 y (by simp [hy])
        rw [inS_cons] at hc
        rw [gA_set (by omega) (by omega) hy0]
        by_cases e:y.fr=l.to
        · rw [if_pos e]
          rw [if_pos e.symm] at hc
          rw [← e]
          rw [← hc]
          congr 1
          omega
        · rw [if_neg e]
          rw [if_neg (Ne.symm e)] at hc
          rw [← hc]
          congr 1
          omega
    · rw [if_neg hg] at hstep
      simp at hstep
theorem gA_map {l:List Rc} {j:Nat} {r:Rc} (h:l[j]?=some r):(l.map floR)[j]?=some (floR r):=by rw [List.getElem?_map,h];rfl
/-- What arrives in a step. -/
theorem stepC_go {c:Cs} {s:Fl} {p:Su} {s':Fl} {x:Pd} (h:stepC c s p s' x):cGo (lvF c.si (x.re.map floR)) c.rv.ls s.ws p.inf=some (s'.ws,addL c.rv.ls x.came p.inf):=by
  have hr:=h.va.k.r
  have hwl:=h.va.w.l
  refine go_of (Qf:=gA x.left) hr.l hr.p h.n1.symm hwl h.lw h.lc h.va.w.f (fun i l q w v e1 e2 e3 e4=>?_) (fun l hl=>?_)
  · obtain ⟨w2,v2,f1,f2,f3⟩:=h.lk i l q e1 e2
    rw [f1] at e3
    rw [f2] at e4
    cases e3;cases e4
    exact f3
  · have hk:=hr.l l hl
    have:=hk.f
    have:=hk.o
    have:=hk.t
    rcases snA_is c.si l.fr with ⟨e1,e2⟩ | ⟨j,y,e1,e2,e3⟩
    · rw [lvF,if_neg (by omega),Option.getD_none]
      exact (h.no l.fr (by omega) (by omega) e2).symm
    · have hj:=(List.getElem?_eq_some_iff.1 e1).1
      have hd:=h.va.n
      obtain ⟨z',r,g1,g2,_,g4⟩:=h.st j y _ e1 (List.getElem?_eq_getElem (show j < s.ds.length by omega))
      rw [lvF,e3,if_pos (by omega),Int.toNat_natCast,gA_map g2,Option.getD_some,← g4,e2]
end Go.Proofs

/- Little water stays little, also if dams let some of theirs go. No program. -/
namespace Go.Proofs
open Go Go.Abs
set_option linter.unusedSimpArgs false
set_option linter.unusedVariables false
theorem cGo_low {lv:Int→Option Int} {j:Int} (hj:0≤j):∀ {ls:List Lk} {ws:List Ls} {a:Ls} {wf:List Ls} {xf:Ls},(∀ l ∈ ls,j < l.to∧l.to < a.length)→cGo lv ls ws a=some (wf,xf)→gA xf j=gA a j
  | [],ws,a,wf,xf,_,h=>by
    rw [cGo_nil] at h
    cases h
    rfl
  | l :: ls,[],a,wf,xf,_,h=>by
    cases h
    rfl
  | l :: ls,w :: ws,a,wf,xf,hl,h=>by
    rw [cGo_cons] at h
    split at h
    · obtain ⟨h1,h2⟩:=hl l (by simp)
      cases hc:cGo lv ls ws (a.set l.to.toNat (gA a l.to+outF l.ws l.den w (qGo lv l a))) with
      | none=>rw [hc] at h;cases h
      | some y =>
        rw [hc] at h
        obtain ⟨y1,y2⟩:=y
        simp at h
        have:=cGo_low hj (fun x hx=>by rw [List.length_set];exact hl x (by simp [hx])) hc
        rw [← h.2,this,gA_set (by omega) (by omega) hj,if_neg (by omega)]
    · cases h
theorem cGo_keep {lv:Int→Option Int} {B:Int} (hB:0≤B) {xf:Ls} {K:Int} (hK:K≤1000000000):∀ {ls:List Lk} {ws:List Ls} {a v:Ls} {n:Int} (k:Nat),(∀ l ∈ ls,LkOk n l∧(k:Int)≤l.fr)→ls.Pairwise (fun a b=>a.fr < b.fr)→(n=a.length)→ws.length=ls.length →
    (∀ (i:Nat) l p,ls[i]?=some l→ws[i]?=some p→fitsB l.ws.length p=true)→volOk ls ws v→(∀ l ∈ ls,∀ q,lv l.fr=some q→0≤q∧q≤gA xf l.fr+B)→(∃ wf,cGo lv ls ws a=some (wf,xf))→(∀ x ∈ a,0≤x)→tailS a k+v.sum+B * ls.length≤K →
    ∃ x v',cGo lv ls ws a=some x∧volOk ls x.1 v'∧(∀ y ∈ x.2,0≤y)∧v'.sum≤K∧(∀ j,k≤j→gN x.2 j≤K)∧(∀ j,j < k→gN x.2 j=gN a j)
  | [],ws,a,v,n,k,_,_,_,_,_,hv,_,_,hnn,hs=>by
    rw [List.length_nil] at hs
    have hvn:v=[]:=List.eq_nil_of_length_eq_zero hv.l
    subst hvn
    refine ⟨([],a),[],by cases ws <;> rfl,⟨rfl,fun i l p x h=>by simp at h⟩,hnn,?_,fun j hj=>?_,fun _ _=>rfl⟩
    · have:=nn_tail hnn k;simp at hs ⊢;omega
    · have:=le_tail hnn hj;simp at hs;dsimp only;omega
  | l :: ls,[],a,v,n,k,_,_,_,hl,_,_,_,_,_,_=>by simp at hl
  | l :: ls,w :: ws,a,[],n,k,_,_,_,_,_,hv,_,_,_,_=>by have:=hv.l;simp at this
  | l :: ls,w :: ws,a,x :: v,n,k,hl,hp,hn,hwl,hf,hv,hlv,hX,hnn,hs=>by
    obtain ⟨hlo,hkf⟩:=hl l (by simp)
    have hfit:=hf 0 l w rfl rfl
    obtain ⟨hx0,hxs⟩:=hv.b 0 l w x rfl rfl rfl
    obtain ⟨f,hfr⟩:∃ f:Nat,l.fr=f:=⟨l.fr.toNat,by have:=hlo.f;omega⟩
    obtain ⟨t,hto⟩:∃ t:Nat,l.to=t:=⟨l.to.toNat,by have:=hlo.f;have:=hlo.o;omega⟩
    have ho:=hlo.o
    have ht:=hlo.t
    have hft:f < t:=by omega
    have hta:t < a.length:=by omega
    have hkf':k≤f:=by omega
    have hgq:gA a l.fr=gN a f:=by rw [hfr,gA_nat]
    have hgt:gA a l.to=gN a t:=by rw [hto,gA_nat]
    have hA0:=gN_nn hnn f
    obtain ⟨Q,hQ⟩:∃ Q,qGo lv l a=Q:=⟨_,rfl⟩
    have hQb:0≤Q∧Q≤gN a f+B:=by
      rw [← hQ]
      unfold qGo
      cases e:lv l.fr with
      | none=>rw [Option.getD_none,hgq];omega
      | some q =>
        have h1:=hlv l (by simp) q e
        obtain ⟨wf,hwf⟩:=hX
        have h2:=cGo_low (j:=l.fr) hlo.f (fun y hy=>by
          rcases List.mem_cons.1 hy with rfl | hy
          · exact ⟨ho,by omega⟩
          · have h3:=(List.pairwise_cons.1 hp).1 y hy
            have h4:=(hl y (by simp [hy])).1
            have h5:=h4.o
            have h6:=h4.t
            exact ⟨by omega,by omega⟩) hwf
        rw [Option.getD_some]
        rw [h2,hgq] at h1
        exact h1
    have hq0:=hQb.1
    have hBl:B * (((l :: ls).length:Nat):Int)=B * ls.length+B:=by rw [List.length_cons,Int.natCast_add,Int.mul_add];simp
    have hBn:0≤B * (ls.length:Int):=Int.mul_nonneg hB (by omega)
    rw [hBl] at hs
    have hvn:0≤v.sum:=(sum_nn fun y hy=>by
      obtain ⟨i,hi⟩:=List.getElem?_of_mem hy
      have h1:=(List.getElem?_eq_some_iff.1 hi).1
      have hvl:=hv.l
      simp at hvl hwl
      have c1:=List.getElem?_eq_getElem (show i < ls.length by omega)
      have c2:=List.getElem?_eq_getElem (show i < ws.length by omega)
      exact (hv.b (i+1) _ _ y (by rw [List.getElem?_cons_succ];exact c1) (by rw [List.getElem?_cons_succ];exact c2) (by rw [List.getElem?_cons_succ];exact hi)).1).1
    have htk:=tail_mono hnn hkf'
    have htf:=tail_cons (gN_get (show f < a.length by omega))
    have htf1:=nn_tail hnn (f+1)
    rw [List.sum_cons] at hs
    obtain ⟨a1,a2,a3,a4,a5,a6,_⟩:=rk_facts hlo.r
    -- the step goes well
    have hdq:l.den * (x+Q)≤240000 * 1000000000:=Int.mul_le_mul a5 (by omega) (by omega) (by omega)
    rw [Int.mul_add] at hdq
    have hqd:Q * l.den=l.den * Q:=Int.mul_comm _ _
    have hok:=(step_ok_of hlo.r hfit hq0 (by omega) (by omega)).1
    have hst:stG l w (Q)=true:=by
      simp only [stG,inQ,Bool.and_eq_true,decide_eq_true_eq]
      exact ⟨⟨hq0,by omega⟩,stepB_iff.2 hok⟩
    have hsum:=step_sum (q:=Q) hlo.r hfit
    have hfit2:=step_fits hlo.r hfit hq0 (by omega) hok
    have hs0:=fits_sum hfit2
    have hout:=out_in hlo.r hfit hst
    rw [cGo_cons,hQ,hgt,if_pos hst]
    have hXe:cGo lv (l :: ls) (w :: ws) a=(cGo lv ls ws (a.set t (gN a t+outF l.ws l.den w Q))).map fun x=>(stepF l.ws l.den w Q :: x.1,x.2):=by rw [cGo_cons,hQ,hgt,if_pos hst,show l.to.toNat=t by omega]
    generalize outF l.ws l.den w (Q)=o at *
    generalize stepF l.ws l.den w (Q)=w' at *
    -- the link's new bound
    have hxn:0≤x+Q - o:=by
      rcases Int.lt_or_le (x+Q - o) 0 with h | h
      · have h1:l.den * (x+Q - o)≤l.den * (-1):=Int.mul_le_mul_of_nonneg_left (by omega) (by omega)
        rw [Int.mul_sub,Int.mul_add] at h1
        omega
      · exact h
    have hnn2:∀ y ∈ a.set t (gN a t+o),0≤y:=fun y hy=>by
      rcases List.mem_or_eq_of_mem_set hy with hy | rfl
      · exact hnn y hy
      · have:=gN_nn hnn t;omega
    have hts:=tail_set (v:=o) hta (f+1)
    rw [if_pos (by omega)] at hts
    have hvl:=hv.l
    simp at hvl hwl
    have hl':∀ y ∈ ls,LkOk n y∧((f+1:Nat):Int)≤y.fr:=fun y hy=>⟨(hl y (by simp [hy])).1,by have:=(List.pairwise_cons.1 hp).1 y hy;omega⟩
    have hv':volOk ls ws v:=⟨hvl,fun i l p y e1 e2 e3=>hv.b (i+1) l p y (by simpa using e1) (by simpa using e2) (by simpa using e3)⟩
    have hX2:∃ wf,cGo lv ls ws (a.set t (gN a t+o))=some (wf,xf):=by
      obtain ⟨wf,hwf⟩:=hX
      cases hc:cGo lv ls ws (a.set t (gN a t+o)) with
      | none=>exact absurd (hwf.symm.trans (hXe.trans (by rw [hc]))) (by simp)
      | some y =>
        have:=hwf.symm.trans (hXe.trans (by rw [hc]))
        simp at this
        exact ⟨y.1,by rw [this.2]⟩
    obtain ⟨z,v',z1,z2,z3,z4,z5,z6⟩:=cGo_keep hB (xf:=xf) (K:=K - (x+Q - o)) (by omega) (a:=a.set t (gN a t+o)) (v:=v) (f+1) hl' (List.pairwise_cons.1 hp).2 (by rw [List.length_set];exact hn) hwl (fun i l p e1 e2=>hf (i+1) l p (by simpa using e1) (by simpa using e2)) hv' (fun y hy=>hlv y (by simp [hy])) hX2 hnn2 (by omega)
    rw [show l.to.toNat=t by omega,z1]
    refine ⟨(w' :: z.1,z.2),(x+Q - o) :: v',rfl,⟨by simp [z2.l],fun i b p y e1 e2 e3=>?_⟩,z3,by rw [List.sum_cons];omega,fun j hj=>?_,fun j hj=>?_⟩
    · cases i with
      | zero =>
        simp at e1 e2 e3
        subst e1;subst e2;subst e3
        refine ⟨hxn,?_⟩
        rw [Int.mul_sub,Int.mul_add]
        omega
      | succ i=>exact z2.b i b p y (by simpa using e1) (by simpa using e2) (by simpa using e3)
    · by_cases e:f+1≤j
      · have:=z5 j e;dsimp only;omega
      · dsimp only
        rw [z6 j (by omega),gN_set hta,if_neg (by omega)]
        have:=le_tail hnn hj
        omega
    · dsimp only
      rw [z6 j (by omega),gN_set hta,if_neg (by omega)]
end Go.Proofs
