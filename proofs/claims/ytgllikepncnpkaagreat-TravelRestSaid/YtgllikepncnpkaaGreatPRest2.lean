/- Proved here: what functions of the given program come to, and the plain laws of it; no condition but those in the theorems. -/
import Derived.Test.YtgllikepncnpkaaGreatPKeep
import Derived.Test.YtgllikepncnpkaaGreatH34
/- The water of a cascade that a deck makes is little. No program. -/
namespace Go.Proofs
open Go Go.Abs
set_option linter.unusedSimpArgs false
set_option linter.unusedVariables false
theorem addL_get {j:Int} (hj:0≤j):∀ {ls:List Lk} {cm a:Ls},cm.length=ls.length→(∀ l ∈ ls,0≤l.to∧l.to < a.length)→gA (addL ls cm a) j=gA a j+inS ls cm j
  | [],cm,a,_,_=>by rw [addL_nil];cases cm <;> simp [inS]
  | l :: ls,[],a,h,_=>by simp at h
  | l :: ls,v :: cm,a,h,hl=>by
    obtain ⟨h1,h2⟩:=hl l (by simp)
    rw [addL_cons,addL_get hj (by simpa using h) (fun y hy=>by rw [List.length_set];exact hl y (by simp [hy])),gA_set h1 (by omega) hj,inS_cons]
    by_cases e:j=l.to
    · rw [if_pos e,if_pos e.symm,← e];omega
    · rw [if_neg e,if_neg (Ne.symm e)];omega
theorem step_vol {c:Cs} {l:List Dt} (h:mkCs c l) {a b:Fl} {p:Su} {x:Pd} (h2:mkSu c p) (h3:stepC c a p b x) {v:Ls} {V:Int} (hv:volOk c.rv.ls a.ws v) (hvs:v.sum≤V) (hV:V≤100000000) :
    (∃ v',volOk c.rv.ls b.ws v'∧v'.sum≤V+6100)∧∀ r ∈ x.re,0≤floR r∧floR r≤V+7200:=by
  have hr:=h.k.r
  have hrn:=h.r.n
  have hrl:=h.r.l
  have hva:=h3.va
  have hgo:=stepC_go h3
  have hn1:=h3.n1
  have hnn:∀ y ∈ p.inf,0≤y:=fun y hy=>(h2.r1 y hy).1
  have hsum:=sum_in (l:=p.inf) (a:=14) (by omega) (fun q hq=>by have:=h2.r1 q hq;omega)
  have hdl:=h.ln
  have hto:∀ u ∈ c.rv.ls,0≤u.to∧u.to < p.inf.length:=fun u hu=>by have g:=hr.l u hu;have:=g.f;have:=g.o;have:=g.t;omega
  have hfl:∀ (j:Nat) s r,c.si[j]?=some s→x.re[j]?=some r→0≤floR r∧floR r≤gA (addL c.rv.ls x.came p.inf) s.nd+1000:=fun j s r e1 g2'=>by
    have hj:=(List.getElem?_eq_some_iff.1 e1).1
    have hd:=hva.n
    obtain ⟨z',r',g1,g2,g3,g4⟩:=h3.st j s _ e1 (List.getElem?_eq_getElem (show j < a.ds.length by omega))
    rw [g2] at g2'
    cases g2'
    have hm:=h.d j s _ e1 (List.getElem?_eq_getElem (show j < l.length by omega))
    have hc:=hm.c
    have hvv:=(validD_at g3.v0).2.1
    have hvv2:=(validD_at g3.v).2.1
    have hw:=g3.w
    have hs0:=(h.k.s s (List.mem_of_getElem? e1)).1
    rw [addL_get hs0.1 h3.lc hto]
    exact ⟨g3.q,by omega⟩
  obtain ⟨z,v',z1,z2,_,z4,z5,_⟩:=cGo_keep (B:=1000) (by omega) (xf:=addL c.rv.ls x.came p.inf) (K:=v.sum+p.inf.sum+1000 * c.rv.ls.length) (by omega) (ls:=c.rv.ls) (ws:=a.ws) (a:=p.inf) (v:=v) (n:=c.rv.n) 0 (fun l hl=>⟨hr.l l hl,(hr.l l hl).f⟩) hr.p hn1.symm hva.w.l hva.w.f hv
    (fun y hy q hq=>by
      unfold lvF at hq
      split at hq
      · rename_i e0
        rcases snA_is c.si y.fr with ⟨e1,_⟩ | ⟨j,s,e1,e2,e3⟩
        · omega
        · rw [e3,Int.toNat_natCast,List.getElem?_map] at hq
          cases hre:x.re[j]? with
          | none=>rw [hre] at hq;cases hq
          | some r =>
            rw [hre] at hq
            cases hq
            have:=hfl j s r e1 hre
            rw [e2] at this
            exact this
      · cases hq) ⟨_,hgo⟩ hnn (by show (p.inf.drop 0).sum+v.sum+_≤_;rw [List.drop_zero];omega)
  rw [hgo] at z1
  cases z1
  refine ⟨⟨v',z2,by omega⟩,fun r hr'=>?_⟩
  obtain ⟨j,hj⟩:=List.getElem?_of_mem hr'
  have hjl:=(List.getElem?_eq_some_iff.1 hj).1
  have hlr:=h3.lr
  have e1:=List.getElem?_eq_getElem (show j < c.si.length by omega)
  have g:=hfl j _ r e1 hj
  have hz:=z5 (c.si[j]'(by omega)).nd.toNat (Nat.zero_le _)
  have hgg:gA (addL c.rv.ls x.came p.inf) (c.si[j]'(by omega)).nd=gN (addL c.rv.ls x.came p.inf) (c.si[j]'(by omega)).nd.toNat:=rfl
  rw [hgg] at g
  dsimp only at hz
  omega
theorem stepsC_vol {c:Cs} {l:List Dt} (h:mkCs c l):∀ {n:Nat} {w:Fl},stepsC c (fl1 c l) n w→n≤1000→∃ v,volOk c.rv.ls w.ws v∧v.sum≤6100 * n:=by
  intro n w hs
  induction hs with
  | zero =>
    intro _
    refine ⟨List.replicate c.rv.ls.length 0,⟨by simp,fun i a p x h1 h2 h3=>?_⟩,by simp⟩
    have e1:p=[]:=(List.mem_replicate.1 (List.mem_of_getElem? h2)).2
    have e2:x=0:=(List.mem_replicate.1 (List.mem_of_getElem? h3)).2
    rw [e1,e2]
    simp
  | @succ n a b p x h1 h2 h3 ih =>
    intro hn
    obtain ⟨v,hv,hvs⟩:=ih (by omega)
    obtain ⟨⟨v',z1,z2⟩,_⟩:=step_vol h h2 h3 hv hvs (by omega)
    refine ⟨v',z1,?_⟩
    rw [Int.natCast_add,Int.mul_add]
    simp only [Int.natCast_one]
    omega
end Go.Proofs

/- A run of a cascade: what arrives is what is told for what left its sites. No program. -/
namespace Go.Proofs
open Go Go.Abs
set_option linter.unusedSimpArgs false
set_option linter.unusedVariables false
theorem runsC.len {c:Cs} {s:Fl} {l:List Su} {xs:List Pd} {b:Fl} (h:runsC c s l xs b):xs.length=l.length:=by
  induction h with
  | nil=>rfl
  | snoc _ _ ih=>simp [ih]
end Go.Proofs

/- What passes in a run is little. No program. -/
namespace Go.Proofs
open Go Go.Abs
set_option linter.unusedSimpArgs false
set_option linter.unusedVariables false
structure pdOk (c:Cs) (x:Pd):Prop where
  lr:x.re.length=c.si.length
  lc:x.came.length=c.rv.ls.length
  r:∀ r ∈ x.re,(0≤r.tur∧0≤r.spi∧0≤r.ovr)∧floR r≤100000000
  c:∀ v ∈ x.came,0≤v∧v≤1125899906842624
end Go.Proofs

namespace Go.Proofs
open Go Go.Abs
set_option linter.unusedSimpArgs false
set_option linter.unusedVariables false
set_option maxRecDepth 40000
def R_l34:RT:=fun args k=>∃ l:Ls,args=[.c (.lst (eL l))]∧l.length≤9223372036854775807∧k (Bo true)
end Go.Proofs

/- With more water never less has come up to any step, for a whole river with sites. No program. -/
namespace Go.Proofs
open Go Go.Abs
set_option linter.unusedSimpArgs false
set_option linter.unusedVariables false
/-- What of a list lies in its first m places. -/
def sF (l:Ls) (m:Nat):Int:=(tab m (fP l)).sum
theorem fP_step {ws:Ls} {den:Int} {ps:Ls} {q:Int} (h1:1≤ws.length) (hp:ps.length≤ws.length) (k:Nat):fP (stepF ws den ps q) k=hP ws den ps q k:=by
  rw [stepF,fP_trim,fP_tab]
  split
  · rfl
  · rename_i h
    unfold hP gP
    rw [fP_out (by omega),fP_out (by omega),if_neg (by omega)]
    omega
/-- Two waves of a link: D more has come out of the second, C more has gone in. -/
structure moreW (ws:Ls) (den:Int) (a b:Ls) (D C:Int):Prop where
  la:a.length≤ws.length
  lb:b.length≤ws.length
  m:∀ m:Nat,sF a (m+1)+C * sF ws (m+1)≤sF b (m+1)+den * D
theorem gA_set1 {a:Ls} {i j:Int} {v:Int} (hi:1≤i) (h:i.toNat < a.length):gA (a.set i.toNat v) j=if j=i then v else gA a j:=by
  by_cases hj:0≤j
  · exact gA_set (by omega) h hj
  · rw [if_neg (by omega)]
    unfold gA
    rw [List.getD_eq_getElem?_getD,List.getD_eq_getElem?_getD,List.getElem?_set_ne (by omega)]
end Go.Proofs

/- With more water never less has come up to any step: whole runs. No program. -/
namespace Go.Proofs
open Go Go.Abs
set_option linter.unusedSimpArgs false
set_option linter.unusedVariables false
/-- The same, with what the numbers are at most. -/
theorem fl_small2 {c:Cs} (hc:CsOk c) {B g:Int} (hB:0≤B∧B≤1000000) (hg:0≤g):∀ {lvs locs w:List Ls} {v:Ls} {K:Int},WvOk c.rv w→volOk c.rv.ls w v→lvs.length=locs.length →
    (∀ l ∈ lvs,l.length=c.si.length∧∀ x ∈ l,0≤x∧x≤B)→(∀ m ∈ locs,(m.length:Int)=c.rv.n∧(∀ x ∈ m,0≤x)∧m.sum≤g)→v.sum+(g+B * c.rv.ls.length) * lvs.length≤K→K≤1000000000 →
    ∃ r,flG c w lvs locs=.ok r∧r.length=lvs.length∧∀ a ∈ r,(a.length:Int)=c.rv.n∧∀ y ∈ a,0≤y∧y≤K
  | [],[],w,v,K,_,_,_,_,_,_,_=>⟨[],rfl,rfl,fun a h=>by simp at h⟩
  | [],_ :: _,_,_,_,_,_,h,_,_,_,_=>by simp at h
  | _ :: _,[],_,_,_,_,_,h,_,_,_,_=>by simp at h
  | l :: lvs,m :: locs,w,v,K,hw,hv,hn,h1,h2,hK,hK2=>by
    have hr:=hc.r
    obtain ⟨a1,a2⟩:=h1 l (by simp)
    obtain ⟨b1,b2,b3⟩:=h2 m (by simp)
    have hv0:=vol_nn hv hw.l
    have hBl:0≤B * (c.rv.ls.length:Int):=Int.mul_nonneg hB.1 (by omega)
    rw [List.length_cons,Int.natCast_add,Int.mul_add] at hK
    have hG:0≤(g+B * (c.rv.ls.length:Int)) * (lvs.length:Int):=Int.mul_nonneg (by omega) (by omega)
    simp only [Int.natCast_one,Int.mul_one] at hK
    obtain ⟨x,v',z1,z2,z3,z4,z5,z6⟩:=cGo_small (lv:=lvF c.si l) hB.1 (lvF_b a2) (K:=v.sum+m.sum+B * c.rv.ls.length) (by omega) (n:=c.rv.n) 0 (fun l hl=>⟨hr.l l hl,(hr.l l hl).f⟩) hr.p b1.symm hw.l hw.f hv b2 (by show (m.drop 0).sum+v.sum+_≤_;rw [List.drop_zero];omega)
    have hs:=stX_ok z1 a1 b1 (bad_no fun y hy=>by have:=a2 y hy;omega) (bad_no fun y hy=>by have:=(sum_nn b2).2 y hy;have:=b2 y hy;omega)
    obtain ⟨f1,f2,_⟩:=stX_fit hr hw hs
    obtain ⟨r,r1,r2,r3⟩:=fl_small2 hc hB hg (K:=K) f1 z2 (by simpa using hn) (fun y hy=>h1 y (by simp [hy])) (fun y hy=>h2 y (by simp [hy])) (by omega) hK2
    refine ⟨x.2 :: r,by rw [flG_ok hs,r1];rfl,by simp [r2],fun a ha=>?_⟩
    rcases List.mem_cons.1 ha with rfl | ha
    · refine ⟨by rw [f2];exact b1,fun y hy=>⟨z3 y hy,?_⟩⟩
      obtain ⟨i,hi⟩:=List.getElem?_of_mem hy
      have:=z5 i (Nat.zero_le _)
      unfold gN at this
      rw [List.getD_eq_getElem?_getD,hi,Option.getD_some] at this
      omega
    · exact r3 a ha
theorem stX_go {c:Cs} {ws:List Ls} {lv loc:Ls} {x:List Ls × Ls} (h:stX c ws lv loc=.ok x):cGo (lvF c.si lv) c.rv.ls ws loc=some x∧lv.length=c.si.length∧(loc.length:Int)=c.rv.n:=by
  unfold stX at h
  split at h
  · cases h
  split at h
  · cases h
  split at h
  · cases h
  split at h
  · cases h
  split at h
  · cases h
  · rename_i e
    cases h
    exact ⟨e,by omega,by omega⟩
def leq (a b:Ls):Prop:=a.length=b.length∧∀ (i:Nat) x y,a[i]?=some x→b[i]?=some y→x≤y
end Go.Proofs

/- What is in the links comes out if nothing more comes. No program. -/
namespace Go.Proofs
open Go Go.Abs
set_option linter.unusedSimpArgs false
set_option linter.unusedVariables false
/-- Weighed water of the nodes from the k-th on. -/
def vT (E:Int→Int) (a:Ls) (k:Nat):Nat→Int
  | 0=>0
  | m+1=>E k * gN a k+vT E a (k+1) m
theorem vT_low {E:Int→Int} {a:Ls} {t:Nat} {v:Int}:∀ {m k:Nat},t < k→vT E (a.set t v) k m=vT E a k m
  | 0,k,_=>rfl
  | m+1,k,h=>by
    have e:gN (a.set t v) k=gN a k:=by unfold gN;rw [List.getD_eq_getElem?_getD,List.getD_eq_getElem?_getD,List.getElem?_set_ne (by omega)]
    rw [vT,vT,e,vT_low (by omega)]
theorem vT_set {E:Int→Int} {a:Ls} {t:Nat} {v:Int} (ht:t < a.length):∀ {m k:Nat},k≤t→t < k+m→vT E (a.set t (gN a t+v)) k m=vT E a k m+E t * v
  | 0,k,h1,h2=>by omega
  | m+1,k,h1,h2=>by
    rw [vT,vT]
    by_cases e:k=t
    · subst e
      rw [vT_low (by omega)]
      have:gN (a.set k (gN a k+v)) k=gN a k+v:=by unfold gN;rw [List.getD_eq_getElem?_getD,List.getElem?_set_self ht];rfl
      rw [this,Int.mul_add]
      omega
    · have e2:gN (a.set t (gN a t+v)) k=gN a k:=by unfold gN;rw [List.getD_eq_getElem?_getD,List.getD_eq_getElem?_getD,List.getElem?_set_ne (by omega),List.getD_eq_getElem?_getD]
      rw [e2,vT_set ht (by omega) (by omega)]
      omega
theorem vT_zero {E:Int→Int} {a:Ls}:∀ {m k:Nat},(∀ j:Nat,k≤j→j < k+m→E j=0)→vT E a k m=0
  | 0,k,_=>rfl
  | m+1,k,h=>by rw [vT,h k (by omega) (by omega),vT_zero fun j h1 h2=>h j (by omega) (by omega)];omega
theorem vT_skip {E:Int→Int} {a:Ls}:∀ {d m k:Nat},(∀ j:Nat,k≤j→j < k+d→E j=0)→vT E a k (d+m)=vT E a (k+d) m
  | 0,m,k,_=>by rw [Nat.zero_add,Nat.add_zero]
  | d+1,m,k,h=>by
    rw [show d+1+m=(d+m)+1 by omega,vT,h k (by omega) (by omega),vT_skip fun j h1 h2=>h j (by omega) (by omega),show k+1+d=k+(d+1) by omega]
    omega
theorem vT_last {E:Int→Int} {a:Ls} {z:Nat}:∀ {m k:Nat},(∀ j:Nat,k≤j→j < k+m→E j=if j=z then 1 else 0)→k≤z→z < k+m→vT E a k m=gN a z
  | 0,k,_,h1,h2=>by omega
  | m+1,k,h,h1,h2=>by
    rw [vT,h k (by omega) (by omega)]
    by_cases e:k=z
    · subst e
      rw [if_pos rfl,vT_zero fun j h3 h4=>by rw [h j (by omega) (by omega),if_neg (by omega)]]
      omega
    · rw [if_neg e,vT_last (fun j h3 h4=>h j (by omega) (by omega)) (by omega) (by omega)]
      omega
/-- What has come out of the links less what has gone in, weighed. -/
def psE (E:Int→Int):List Lk→List Ls→List Ls→Int
  | l :: r,w :: ws,v :: vs=>E l.fr * ((w.sum - v.sum) / l.den)+psE E r ws vs
  | _,_,_=>0
theorem psE_refl (E:Int→Int):∀ (ls:List Lk) (ws:List Ls),psE E ls ws ws=0
  | [],ws=>by unfold psE;rfl
  | _ :: _,[]=>by unfold psE;rfl
  | l :: ls,w :: ws=>by rw [psE,psE_refl E ls ws,Int.sub_self];simp
theorem go_ps {E:Int→Int} {z:Nat}:∀ {ls:List Lk} {w0 ws:List Ls} {a:Ls} {x:List Ls × Ls} (k m:Nat),k+m=z+1→a.length=z+1→k≤z→(∀ l ∈ ls,LkOk ((z+1:Nat):Int) l∧(k:Int)≤l.fr∧E l.fr=E l.to)→ls.Pairwise (fun a b=>a.fr < b.fr) →
    w0.length=ls.length→ws.length=ls.length→(∀ (i:Nat) l p,ls[i]?=some l→ws[i]?=some p→fitsB l.ws.length p=true) →
    (∀ j:Nat,k≤j→j < k+m→(∀ l ∈ ls,l.fr ≠ j)→E j=if j=z then 1 else 0)→cGo (fun _=>none) ls ws a=some x→vT E a k m+(psE E ls w0 x.1 - psE E ls w0 ws)=gN x.2 z
  | [],w0,ws,a,x,k,m,hkm,ha,hkz,hl,hp,h0,hw,hf,hE,hx=>by
    rw [cGo_nil] at hx
    cases hx
    have e:∀ v,psE E [] w0 v=0:=fun v=>by unfold psE;rfl
    rw [e,e,vT_last (z:=z) (fun j h1 h2=>hE j h1 h2 fun l hl=>by simp at hl) hkz (by omega)]
    dsimp only
    omega
  | l :: ls,[],ws,a,x,k,m,hkm,ha,hkz,hl,hp,h0,hw,hf,hE,hx=>by simp at h0
  | l :: ls,_ :: _,[],a,x,k,m,hkm,ha,hkz,hl,hp,h0,hw,hf,hE,hx=>by simp at hw
  | l :: ls,u :: w0,w :: ws,a,x,k,m,hkm,ha,hkz,hl,hp,h0,hw,hf,hE,hx=>by
    obtain ⟨hk,hkf,hEl⟩:=hl l (by simp)
    have k2:=hk.o
    have k3:=hk.t
    obtain ⟨f,hfe⟩:=Int.eq_ofNat_of_zero_le hk.f
    obtain ⟨t,hte⟩:=Int.eq_ofNat_of_zero_le (show 0≤l.to by omega)
    obtain ⟨hp1,hp2⟩:=List.pairwise_cons.1 hp
    rw [cGo_cons] at hx
    split at hx
    case isFalse=>cases hx
    obtain ⟨x1,hx1,rfl⟩:=Option.map_eq_some_iff.1 hx
    have hq:qGo (fun _=>none) l a=gN a f:=by unfold qGo;rw [Option.getD_none,hfe];exact gA_nat ..
    rw [hq] at hx1 ⊢
    have hgt:gA a l.to=gN a t:=by rw [hte];exact gA_nat ..
    rw [hgt,hte,Int.toNat_natCast] at hx1
    have hr:=hk.r
    have hfw:=hf 0 l w rfl rfl
    have hss:=step_sum (q:=gN a f) hr hfw
    obtain ⟨_,_,_,hd,_⟩:=rk_facts hr
    generalize outF l.ws l.den w (gN a f)=o at hx1 hss
    have hD:(u.sum - (stepF l.ws l.den w (gN a f)).sum) / l.den=(u.sum - w.sum) / l.den+(o - gN a f):=by
      have e:u.sum - (stepF l.ws l.den w (gN a f)).sum=u.sum - w.sum+l.den * (o - gN a f):=by
        rw [hss,Int.mul_sub,Int.mul_comm l.den (gN a f)]
        omega
      rw [e,Int.add_mul_ediv_left _ _ (by omega)]
    have ih:=go_ps (E:=E) (z:=z) (w0:=w0) (f+1) (z - f) (by omega) (by rw [List.length_set];exact ha) (by omega) (fun y hy=>by
        obtain ⟨g1,g2,g3⟩:=hl y (by simp [hy])
        have:=hp1 y hy
        exact ⟨g1,by omega,g3⟩) hp2 (by simpa using h0) (by simpa using hw) (fun i y p e1 e2=>hf (i+1) y p (by simpa using e1) (by simpa using e2)) (fun j h1 h2 h3=>hE j (by omega) (by omega) fun y hy=>by
          rcases List.mem_cons.1 hy with rfl | hy
          · omega
          · exact h3 y hy) hx1
    rw [vT_set (by omega) (by omega) (by omega)] at ih
    have hsk:vT E a k m=vT E a f (z - f+1):=by
      have hm:m=(f - k)+(z - f+1):=by omega
      rw [hm,vT_skip fun j h1 h2=>by
        rw [hE j h1 (by omega) fun y hy=>by
          rcases List.mem_cons.1 hy with rfl | hy
          · omega
          · have:=hp1 y hy;omega,if_neg (by omega)],show k+(f - k)=f by omega]
    rw [hsk,vT,psE,psE,hD,Int.mul_add]
    have e1:E l.fr=E (f:Int):=by rw [hfe]
    have e2:E (t:Int)=E (f:Int):=by rw [← hte,← hEl,hfe]
    rw [e1]
    rw [e2] at ih
    have e3:E (f:Int) * (o - gN a f)=E (f:Int) * o - E (f:Int) * gN a f:=Int.mul_sub ..
    dsimp only
    omega
/-- A link is quiet in time. -/
structure qW (t:Nat) (l:Lk) (w:Ls):Prop where
  c:∀ k:Nat,1≤k→25 * l.fr+24≤k+t→fP w k=0
  z:25 * l.fr+25≤t→fP w 0 < l.den
theorem qW_zero {n:Int} {l:Lk} {w:Ls} (hk:LkOk n l) (hf:fitsB l.ws.length w=true):qW 0 l w:=by
  have h1:=(rk_facts hk.r).2.1
  have h2:=(fits_facts hf).1
  have h3:=hk.f
  exact ⟨fun k _ h=>fP_out (by omega),fun h=>by omega⟩
theorem qW_step {n:Int} {t:Nat} {l:Lk} {w:Ls} {q:Int} (hk:LkOk n l) (hf:fitsB l.ws.length w=true) (hq:0≤q) (h0:25 * l.fr≤t→q=0) (h:qW t l w) :
    qW (t+1) l (stepF l.ws l.den w q)∧(25 * l.fr+25≤t→outF l.ws l.den w q=0)∧0≤outF l.ws l.den w q:=by
  obtain ⟨h1,h24,hws,hd,_⟩:=rk_facts hk.r
  obtain ⟨hl,_,_,hc⟩:=fits_facts hf
  refine ⟨⟨fun k k1 k2=>?_,fun k2=>?_⟩,fun k2=>?_,?_⟩
  · rw [fP_step h1 hl]
    unfold hP gP
    rw [if_neg (by omega)]
    have e1:=h.c (k+1) (by omega) (by omega)
    have e2:q * fP l.ws (k+1)=0:=by
      by_cases ht:25 * l.fr≤t
      · rw [h0 ht];omega
      · rw [fP_out (by omega)];omega
    omega
  · rw [fP_step h1 hl]
    unfold hP
    rw [if_pos rfl]
    have e1:=h.c 1 (by omega) (by omega)
    have e0:=h0 (by omega)
    have g1:gP l.ws w q (0+1)=0:=by unfold gP;rw [e0,e1];omega
    have g2:=Int.emod_lt_of_pos (gP l.ws w q 0) (show 0 < l.den by omega)
    omega
  · have e0:=h0 (by omega)
    unfold outF gP
    rw [e0]
    have:=h.z k2
    have:=(hc 0).1
    rw [Int.zero_mul,Int.add_zero]
    exact Int.ediv_eq_zero_of_lt (by omega) (by omega)
  · unfold outF gP
    have:=Int.mul_nonneg hq (hws 0).1
    have:=(hc 0).1
    exact Int.ediv_nonneg (by omega) (by omega)
theorem quiet_go {t:Nat} {n:Int}:∀ {ls:List Lk} {ws:List Ls} {a:Ls} {x:List Ls × Ls},(∀ l ∈ ls,LkOk n l)→n=a.length→(∀ (i:Nat) l p,ls[i]?=some l→ws[i]?=some p→fitsB l.ws.length p=true) →
    (∀ (i:Nat) l p,ls[i]?=some l→ws[i]?=some p→qW t l p)→(∀ j:Int,0≤j→25 * j≤t→gA a j=0)→(∀ j,0≤gA a j)→cGo (fun _=>none) ls ws a=some x→∀ (i:Nat) l p,ls[i]?=some l→x.1[i]?=some p→qW (t+1) l p
  | [],ws,a,x,_,_,_,_,_,_,_=>fun i l p h=>by simp at h
  | l :: ls,[],a,x,_,_,_,_,_,_,hx=>by
    cases hx
    intro i l p _ h
    simp at h
  | l :: ls,w :: ws,a,x,hk,hn,hf,hq,h0,hnn,hx=>by
    have hkl:=hk l (by simp)
    have k1:=hkl.f
    have k2:=hkl.o
    have k3:=hkl.t
    rw [cGo_cons] at hx
    split at hx
    case isFalse=>cases hx
    obtain ⟨x1,hx1,rfl⟩:=Option.map_eq_some_iff.1 hx
    have hqe:qGo (fun _=>none) l a=gA a l.fr:=rfl
    rw [hqe] at hx1 ⊢
    obtain ⟨s1,s2,s3⟩:=qW_step hkl (hf 0 l w rfl rfl) (hnn l.fr) (fun h=>h0 _ k1 h) (hq 0 l w rfl rfl)
    generalize outF l.ws l.den w (gA a l.fr)=o at hx1 s2 s3
    have hset:∀ j,gA (a.set l.to.toNat (gA a l.to+o)) j=if j=l.to then gA a l.to+o else gA a j:=fun j=>gA_set1 (by omega) (by omega)
    have ih:=quiet_go (t:=t) (fun y hy=>hk y (by simp [hy])) (by rw [List.length_set];exact hn) (fun i y p e1 e2=>hf (i+1) y p (by simpa using e1) (by simpa using e2)) (fun i y p e1 e2=>hq (i+1) y p (by simpa using e1) (by simpa using e2)) (fun j j1 j2=>by
      rw [hset]
      split
      · rename_i e
        rw [h0 l.to (by omega) (by omega),s2 (by omega)]
        omega
      · exact h0 j j1 j2) (fun j=>by
      rw [hset]
      split
      · have:=hnn l.to;omega
      · exact hnn j) hx1
    intro i y p e1 e2
    cases i with
    | zero =>
      simp at e1 e2
      subst e1;subst e2
      exact s1
    | succ i=>exact ih i y p (by simpa using e1) (by simpa using e2)
end Go.Proofs

/- What is in the links comes out if nothing more comes: the whole run. No program. -/
namespace Go.Proofs
open Go Go.Abs
set_option linter.unusedSimpArgs false
set_option linter.unusedVariables false
/-- 1 if the water of a node ends in the last node. -/
def endE (r:Rv) (j:Int):Int:=if (pathR r j).getLast?=some (r.n - 1) then 1 else 0
theorem endE_01 (r:Rv) (j:Int):endE r j=0 ∨ endE r j=1:=by
  unfold endE
  split
  · exact .inr rfl
  · exact .inl rfl
theorem pw_eq {ls:List Lk} (hp:ls.Pairwise (fun a b=>a.fr < b.fr)) {i j:Nat} {a b:Lk} (hi:ls[i]?=some a) (hj:ls[j]?=some b) (h:a.fr=b.fr):i=j:=by
  obtain ⟨i1,rfl⟩:=List.getElem?_eq_some_iff.1 hi
  obtain ⟨j1,rfl⟩:=List.getElem?_eq_some_iff.1 hj
  rcases Nat.lt_trichotomy i j with e | e | e
  · have:=List.pairwise_iff_getElem.1 hp i j i1 j1 e
    omega
  · exact e
  · have:=List.pairwise_iff_getElem.1 hp j i j1 i1 e
    omega
theorem endE_link {r:Rv} (hr:RvOk r) {l:Lk} (hl:l ∈ r.ls):endE r l.fr=endE r l.to:=by
  obtain ⟨i,hi⟩:=List.getElem?_of_mem hl
  rcases lnk_spec r.ls l.fr with ⟨_,h⟩ | ⟨j,a,h1,h2,h3⟩
  · exact absurd rfl (h l hl)
  · have e:=pw_eq hr.p hi h1 h2.symm
    subst e
    rw [hi] at h1
    cases h1
    have hp:=path_step hr (hr.l l hl).f h3 hi rfl
    unfold endE
    rw [hp]
    have e:pathR r l.to=l.to :: (wayR r l.to).map (toOf r.ls):=rfl
    rw [e,List.getLast?_cons_cons]
theorem endE_end {r:Rv} {j:Int} (h:∀ l ∈ r.ls,l.fr ≠ j):endE r j=if j=r.n - 1 then 1 else 0:=by
  have hl:lnk r.ls j < 0:=by
    rcases lnk_spec r.ls j with ⟨h1,_⟩ | ⟨i,a,h1,h2,_⟩
    · omega
    · exact absurd h2 (h a (List.mem_of_getElem? h1))
  unfold endE
  rw [path_end hl]
  by_cases e:j=r.n - 1
  · rw [if_pos e,if_pos (by rw [e];rfl)]
  · rw [if_neg e,if_neg (by intro h;simp at h;exact e h)]
theorem gN_rep (N k:Nat):gN (List.replicate N 0) k=0:=by
  unfold gN
  rw [List.getD_eq_getElem?_getD]
  cases e:(List.replicate N (0:Int))[k]? with
  | none=>rfl
  | some v =>
    have:=(List.mem_replicate.1 (List.mem_of_getElem? e)).2
    rw [this];rfl
theorem vT_nil {E:Int→Int} {N:Nat}:∀ (m k:Nat),vT E (List.replicate N 0) k m=0
  | 0,k=>rfl
  | m+1,k=>by rw [vT,gN_rep,vT_nil m];omega
theorem gA_rep (N:Nat) (j:Int):gA (List.replicate N 0) j=0:=gN_rep N j.toNat
theorem rest_run {c:Cs} (hc:CsOk c) (hs:c.si=[]) {z:Nat} (hN:c.rv.n=((z+1:Nat):Int)):∀ (M t:Nat) {ws w0 r:List Ls},WvOk c.rv ws→w0.length=c.rv.ls.length→(∀ (i:Nat) l p,c.rv.ls[i]?=some l→ws[i]?=some p→qW t l p) →
    flG c ws (List.replicate M []) (List.replicate M (List.replicate (z+1) 0))=.ok r →
    ∃ wf,WvOk c.rv wf∧(∀ (i:Nat) l p,c.rv.ls[i]?=some l→wf[i]?=some p→qW (t+M) l p)∧(r.map fun a=>gN a z).sum=psE (endE c.rv) c.rv.ls w0 wf - psE (endE c.rv) c.rv.ls w0 ws
  | 0,t,ws,w0,r,hw,h0,hq,h=>by
    have:r=[]:=by unfold flG at h;cases h;rfl
    subst this
    exact ⟨ws,hw,hq,by rw [Int.sub_self];rfl⟩
  | M+1,t,ws,w0,r,hw,h0,hq,h=>by
    rw [List.replicate_succ,List.replicate_succ] at h
    unfold flG at h
    cases s1:stX c ws [] (List.replicate (z+1) 0) with
    | error e=>rw [s1] at h;cases h
    | ok x =>
    rw [s1] at h
    dsimp only at h
    cases r1:flG c x.1 (List.replicate M []) (List.replicate M (List.replicate (z+1) 0)) with
    | error e=>rw [r1] at h;cases h
    | ok a =>
    rw [r1] at h
    cases h
    obtain ⟨g1,g2,g3⟩:=stX_go s1
    have hr:=hc.r
    obtain ⟨f1,f2,_⟩:=stX_fit hr hw s1
    have hlv:lvF c.si []=fun _=>none:=by
      funext y
      unfold lvF
      rw [hs,if_neg (by show ¬ 0≤(-1:Int);omega)]
    rw [hlv] at g1
    have q2:=quiet_go (t:=t) hr.l g3.symm hw.f hq (fun j _ _=>gA_rep ..) (fun j=>by rw [gA_rep];omega) g1
    obtain ⟨wf,i1,i2,i3⟩:=rest_run hc hs hN M (t+1) (w0:=w0) f1 h0 q2 r1
    refine ⟨wf,i1,fun i l p e1 e2=>by have:=i2 i l p e1 e2;rwa [show t+(M+1)=t+1+M by omega],?_⟩
    have key:=go_ps (E:=endE c.rv) (z:=z) (w0:=w0) 0 (z+1) (by omega) (by simp) (Nat.zero_le _) (fun l hl=>⟨by rw [← hN];exact hr.l l hl,by have:=(hr.l l hl).f;omega,endE_link hr hl⟩) hr.p h0 hw.l hw.f (fun j _ h2 h3=>by
      rw [endE_end h3,hN]
      by_cases e:j=z
      · rw [if_pos e,if_pos (by omega)]
      · rw [if_neg e,if_neg (by omega)]) g1
    rw [vT_nil] at key
    rw [List.map_cons,List.sum_cons,i3]
    omega
def hE (E:Int→Int):List Lk→List Ls→Int
  | l :: r,w :: ws=>E l.fr * (w.sum / l.den)+hE E r ws
  | _,_=>0
def cE (E:Int→Int):List Lk→Int
  | l :: r=>E l.fr+cE E r
  | []=>0
theorem sum_one:∀ {l:Ls},(∀ k:Nat,1≤k→fP l k=0)→l.sum=fP l 0
  | [],_=>rfl
  | x :: r,h=>by
    have e:∀ {r:Ls},(∀ k:Nat,fP r k=0)→r.sum=0:=fun {r}=>by
      induction r with
      | nil=>intro _;rfl
      | cons y t ih =>
        intro h
        have h0:=h 0
        have h1:=ih fun k=>by have:=h (k+1);simpa [fP] using this
        rw [List.sum_cons,h1]
        simp [fP] at h0
        omega
    have h1:r.sum=0:=e fun k=>by have:=h (k+1) (by omega);simpa [fP] using this
    rw [List.sum_cons,h1]
    simp [fP]
theorem psE_b {E:Int→Int} (hE01:∀ j,E j=0 ∨ E j=1) {n:Int}:∀ {ls:List Lk} {ws wf:List Ls},(∀ l ∈ ls,LkOk n l∧l.fr≤6)→ws.length=ls.length→wf.length=ls.length→(∀ (i:Nat) l p,ls[i]?=some l→wf[i]?=some p→qW 200 l p∧fitsB l.ws.length p=true) →
    hE E ls ws - cE E ls≤psE E ls ws wf∧psE E ls ws wf≤hE E ls ws
  | [],ws,wf,_,_,_,_=>by unfold hE cE psE;omega
  | l :: ls,[],wf,_,h,_,_=>by simp at h
  | l :: ls,_ :: _,[],_,_,h,_=>by simp at h
  | l :: ls,w :: ws,v :: wf,hk,h1,h2,hq=>by
    obtain ⟨i1,i2⟩:=psE_b hE01 (fun y hy=>hk y (List.mem_cons_of_mem _ hy)) (by simpa using h1) (by simpa using h2) (fun i y p e1 e2=>hq (i+1) y p (by simpa using e1) (by simpa using e2))
    obtain ⟨hkl,hfr⟩:=hk l List.mem_cons_self
    have hf0:=hkl.f
    obtain ⟨hqv,hfv⟩:=hq 0 l v rfl rfl
    obtain ⟨_,_,_,hd,_⟩:=rk_facts hkl.r
    have e:=sum_one fun k hk=>hqv.c k hk (by omega)
    have ez:=hqv.z (by omega)
    have en:=((fits_facts hfv).2.2.2 0).1
    have a1:=Int.ediv_le_ediv (show 0 < l.den by omega) (show w.sum - v.sum≤w.sum by omega)
    have a2:=Int.ediv_le_ediv (show 0 < l.den by omega) (show w.sum+l.den * (-1)≤w.sum - v.sum by omega)
    rw [Int.add_mul_ediv_left _ _ (show l.den ≠ 0 by omega)] at a2
    rw [psE,hE,cE]
    rcases hE01 l.fr with e0 | e0
    · rw [e0];omega
    · rw [e0];omega
/-- What comes out in 200 steps. -/
theorem rest_law {c:Cs} (hc:CsOk c) (hs:c.si=[]) {z:Nat} (hN:c.rv.n=((z+1:Nat):Int)) (hz:z≤6) {ws r:List Ls} (hw:WvOk c.rv ws) (h:flG c ws (List.replicate 200 []) (List.replicate 200 (List.replicate (z+1) 0))=.ok r) :
    hE (endE c.rv) c.rv.ls ws - cE (endE c.rv) c.rv.ls≤(r.map fun a=>gN a z).sum∧(r.map fun a=>gN a z).sum≤hE (endE c.rv) c.rv.ls ws:=by
  obtain ⟨wf,f1,f2,f3⟩:=rest_run hc hs hN 200 0 (w0:=ws) hw hw.l (fun i l p e1 e2=>qW_zero (hc.r.l l (List.mem_of_getElem? e1)) (hw.f i l p e1 e2)) h
  rw [psE_refl,Int.sub_zero] at f3
  rw [f3]
  exact psE_b (endE_01 c.rv) (fun l hl=>⟨hc.r.l l hl,by have g:=hc.r.l l hl;have:=g.o;have:=g.t;omega⟩) hw.l f1.l (fun i l p e1 e2=>⟨by have:=f2 i l p e1 e2;rwa [Nat.zero_add] at this,f1.f i l p e1 e2⟩)
theorem hE_take {E:Int→Int}:∀ {ls:List Lk} {ws:List Ls} {i:Nat} {l:Lk} {w:Ls},ls[i]?=some l→ws[i]?=some w→hE E (ls.take (i+1)) ws=hE E (ls.take i) ws+E l.fr * (w.sum / l.den)
  | [],ws,i,l,w,h,_=>by simp at h
  | x :: ls,[],i,l,w,_,h=>by simp at h
  | x :: ls,y :: ws,0,l,w,h1,h2=>by
    simp at h1 h2
    subst h1;subst h2
    have e:∀ v,hE E [] v=0:=fun v=>by unfold hE;rfl
    rw [List.take_succ_cons,hE,List.take_zero,e,List.take_zero,e]
    omega
  | x :: ls,y :: ws,i+1,l,w,h1,h2=>by
    rw [List.take_succ_cons,hE,hE_take (by simpa using h1) (by simpa using h2),List.take_succ_cons,hE]
    omega
theorem cE_take {E:Int→Int}:∀ {ls:List Lk} {i:Nat} {l:Lk},ls[i]?=some l→cE E (ls.take (i+1))=cE E (ls.take i)+E l.fr
  | [],i,l,h=>by simp at h
  | x :: ls,0,l,h1=>by
    simp at h1
    subst h1
    rw [List.take_succ_cons,cE,List.take_zero,List.take_zero]
    show E x.fr+0=0+E x.fr
    omega
  | x :: ls,i+1,l,h1=>by
    rw [List.take_succ_cons,cE,cE_take (by simpa using h1),List.take_succ_cons,cE]
    omega
/-- A cascade without its sites. -/
theorem mkCs.dry {c:Cs} {l:List Dt} (h:mkCs c l):mkCs ⟨c.rv,[]⟩ []:=⟨h.r,⟨h.k.r,h.k.n,Nat.zero_le _,fun x h=>by simp at h,.nil⟩,Nat.zero_le _,rfl,fun i x s h=>by simp at h⟩
end Go.Proofs
