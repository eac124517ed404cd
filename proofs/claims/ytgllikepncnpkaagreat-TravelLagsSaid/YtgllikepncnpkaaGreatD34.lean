/- Proved here: what functions of the given program come to, and the plain laws of it; no condition but those in the theorems. -/
import Derived.Test.YtgllikepncnpkaaGreatPReach
import Derived.Test.YtgllikepncnpkaaGreatC34
import Derived.Test.YtgllikepncnpkaaGreatAbsRg
namespace Go.Proofs
open Go Go.Abs
set_option linter.unusedSimpArgs false
set_option linter.unusedVariables false
structure Lk where
  fr:Int
  to:Int
  ws:Ls
  den:Int
structure Rv where
  n:Int
  ls:List Lk
def lkC (l:Lk):List Cell:=[IC l.fr,IC l.to,.lst (eL l.ws),IC l.den]
abbrev eK (l:List Lk):List (List Cell):=l.map lkC
theorem eK_len (l:List Lk):(eK l).length=l.length:=List.length_map _
def rvC (r:Rv):List Cell:=[IC r.n,.lst (eK r.ls)]
def wvC (p:Ls):List Cell:=[.lst (eL p)]
abbrev eV (l:List Ls):List (List Cell):=l.map wvC
theorem eV_len (l:List Ls):(eV l).length=l.length:=List.length_map _
def Rv.fin (r:Rv):Prop:=r.ls.length≤9223372036854775807∧∀ l ∈ r.ls,l.ws.length≤9223372036854775807
def vfin (w:List Ls):Prop:=w.length≤9223372036854775807∧∀ p ∈ w,p.length≤9223372036854775807
theorem dropC {α:Type} {l:List α} {i:Nat} {v:α} (h:l[i]?=some v):l.drop i=v :: l.drop (i+1):=by
  obtain ⟨hi,rfl⟩:=List.getElem?_eq_some_iff.1 h
  exact List.drop_eq_getElem_cons hi
def inN (n x:Int):Bool:=decide (0≤x) && decide (x≤n - 1)
def qleR:Option Int→Int→Bool
  | none,_=>false
  | some q,x=>decide (x≤q)
def lkE (n:Int):Option Int→List Lk→Int
  | _,[]=>0
  | q,l :: r=>if (inN n l.fr && inN n l.to)=false then 11 else if l.to≤l.fr then 12 else if qleR q l.fr=true then 4 else if rkCheck l.ws l.den ≠ 0 then rkCheck l.ws l.den else lkE n (some l.fr) r
theorem lkE_cons (n:Int) (q:Option Int) (l:Lk) (r:List Lk):lkE n q (l :: r)=if (inN n l.fr && inN n l.to)=false then 11 else if l.to≤l.fr then 12 else if qleR q l.fr=true then 4 else if rkCheck l.ws l.den ≠ 0 then rkCheck l.ws l.den else lkE n (some l.fr) r:=rfl
def rvE (r:Rv):Int:=if r.n < 1 ∨ 40 < r.n then 3 else lkE r.n none r.ls
structure LkOk (n:Int) (l:Lk):Prop where
  f:0≤l.fr
  o:l.fr < l.to
  t:l.to < n
  r:rkCheck l.ws l.den=0
theorem lkE_ok {n:Int}:∀ {l:List Lk} {q:Option Int},lkE n q l=0→(∀ x ∈ l,LkOk n x)∧(∀ p,q=some p→∀ x ∈ l,p < x.fr)∧l.Pairwise (fun a b=>a.fr < b.fr)
  | [],q,_=>⟨fun x h=>by simp at h,fun p _ x h=>by simp at h,.nil⟩
  | a :: l,q,h=>by
    rw [lkE_cons] at h
    split at h
    · omega
    rename_i h1
    split at h
    · omega
    rename_i h2
    split at h
    · omega
    rename_i h3
    split at h
    · rename_i e;exact absurd h e
    rename_i h4
    obtain ⟨i1,i2,i3⟩:=lkE_ok h
    simp [inN] at h1
    refine ⟨fun x hx=>?_,fun p e x hx=>?_,List.pairwise_cons.2 ⟨fun b hb=>i2 _ rfl b hb,i3⟩⟩
    · rcases List.mem_cons.1 hx with rfl | hx
      · exact ⟨by omega,by omega,by omega,by omega⟩
      · exact i1 x hx
    · subst e
      have hp:p < a.fr:=by simp [qleR] at h3;omega
      rcases List.mem_cons.1 hx with rfl | hx
      · exact hp
      · have:=i2 _ rfl x hx;omega
structure RvOk (r:Rv):Prop where
  n:1≤r.n∧r.n≤40
  l:∀ x ∈ r.ls,LkOk r.n x
  p:r.ls.Pairwise (fun a b=>a.fr < b.fr)
theorem rvE_ok {r:Rv} (h:rvE r=0):RvOk r:=by
  unfold rvE at h
  split at h
  · omega
  rename_i h1
  obtain ⟨h2,_,h3⟩:=lkE_ok h
  exact ⟨by omega,h2,h3⟩
theorem lkE_of {n:Int}:∀ {l:List Lk} {q:Option Int},(∀ x ∈ l,LkOk n x)→(∀ p,q=some p→∀ x ∈ l,p < x.fr)→l.Pairwise (fun a b=>a.fr < b.fr)→lkE n q l=0
  | [],q,_,_,_=>rfl
  | a :: l,q,h1,h2,h3=>by
    obtain ⟨p1,p2⟩:=List.pairwise_cons.1 h3
    have ha:=h1 a (by simp)
    have:=ha.f
    have:=ha.o
    have:=ha.t
    rw [lkE_cons,if_neg (by simp [inN];omega),if_neg (by omega),if_neg,if_neg (by simp [ha.r])]
    · exact lkE_of (fun x hx=>h1 x (by simp [hx])) (fun p e x hx=>by simp at e;subst e;exact p1 x hx) p2
    · cases q with
      | none=>simp [qleR]
      | some p=>have:=h2 p rfl a (by simp);simp [qleR];omega
theorem rvE_of {r:Rv} (h:RvOk r):rvE r=0:=by
  have:=h.n
  rw [rvE,if_neg (by omega)]
  exact lkE_of h.l (fun p e=>by cases e) h.p
theorem pw_len {n:Int}:∀ {l:List Lk} {a:Int},(∀ x ∈ l,a≤x.fr∧x.fr < n)→l.Pairwise (fun a b=>a.fr < b.fr)→a≤n→(l.length:Int)≤n - a
  | [],a,_,_,h=>by simp;omega
  | x :: l,a,h1,h2,h=>by
    obtain ⟨p1,p2⟩:=List.pairwise_cons.1 h2
    have hx:=h1 x (by simp)
    have:=pw_len (n:=n) (l:=l) (a:=x.fr+1) (fun y hy=>⟨by have:=p1 y hy;omega,(h1 y (by simp [hy])).2⟩) p2 (by omega)
    rw [List.length_cons];omega
theorem RvOk.len {r:Rv} (h:RvOk r):(r.ls.length:Int)≤40:=by
  have:=pw_len (n:=r.n) (a:=0) (l:=r.ls) (fun x hx=>⟨(h.l x hx).f,by have:=(h.l x hx).o;have:=(h.l x hx).t;omega⟩) h.p (by have:=h.n;omega)
  have:=h.n;omega
structure WvOk (r:Rv) (w:List Ls):Prop where
  l:w.length=r.ls.length
  f:∀ (i:Nat) a p,r.ls[i]?=some a→w[i]?=some p→fitsB a.ws.length p=true
def lnGo (k:Int):Nat→List Lk→Int
  | _,[]=>-1
  | i,l :: r=>if l.fr=k then i else lnGo k (i+1) r
def lnk (ls:List Lk) (k:Int):Int:=lnGo k 0 ls
theorem lnGo_spec {k:Int}:∀ {l:List Lk} {i:Nat},(lnGo k i l=-1∧∀ x ∈ l,x.fr ≠ k) ∨ ∃ (j:Nat) (a:Lk),l[j]?=some a∧a.fr=k∧lnGo k i l=((i+j:Nat):Int)
  | [],i=>.inl ⟨rfl,fun x h=>by simp at h⟩
  | b :: l,i=>by
    rw [lnGo]
    split
    · rename_i h;exact .inr ⟨0,b,rfl,h,rfl⟩
    · rename_i h
      rcases lnGo_spec (k:=k) (l:=l) (i:=i+1) with ⟨e,h2⟩ | ⟨j,a,e1,e2,e3⟩
      · exact .inl ⟨e,fun x hx=>by
          rcases List.mem_cons.1 hx with rfl | hx
          · exact h
          · exact h2 x hx⟩
      · exact .inr ⟨j+1,a,by simpa using e1,e2,by rw [e3];congr 1;omega⟩
theorem lnk_spec (l:List Lk) (k:Int):(lnk l k=-1∧∀ x ∈ l,x.fr ≠ k) ∨ ∃ (j:Nat) (a:Lk),l[j]?=some a∧a.fr=k∧lnk l k=j:=by
  rcases lnGo_spec (k:=k) (l:=l) (i:=0) with h | ⟨j,a,h1,h2,h3⟩
  · exact .inl h
  · exact .inr ⟨j,a,h1,h2,by rw [lnk,h3,Nat.zero_add]⟩
structure cutK (ls:List Lk) (k:Int) (i:Nat):Prop where
  n:i≤ls.length
  a:∀ (j:Nat) x,j < i→ls[j]?=some x→x.fr < k
  b:∀ (j:Nat) x,i≤j→ls[j]?=some x→k≤x.fr
theorem pwK_lt {ls:List Lk} (h:ls.Pairwise (fun a b=>a.fr < b.fr)) {i j:Nat} {x y:Lk} (hij:i < j) (hx:ls[i]?=some x) (hy:ls[j]?=some y):x.fr < y.fr:=by
  obtain ⟨hi,rfl⟩:=List.getElem?_eq_some_iff.1 hx
  obtain ⟨hj,rfl⟩:=List.getElem?_eq_some_iff.1 hy
  exact List.pairwise_iff_getElem.1 h i j hi hj hij
theorem cutK.some {ls:List Lk} {k:Int} {i m:Nat} {x:Lk} (h:cutK ls k i) (hp:ls.Pairwise (fun a b=>a.fr < b.fr)) (hx:ls[m]?=some x) (hk:x.fr=k):m=i∧cutK ls (k+1) (i+1):=by
  have hm:=(List.getElem?_eq_some_iff.1 hx).1
  have e:m=i:=by
    rcases Nat.lt_trichotomy m i with e | e | e
    · have:=h.a m x e hx;omega
    · exact e
    · have hi:i < ls.length:=by omega
      have c:=List.getElem?_eq_getElem hi
      have h1:=h.b i _ (Nat.le_refl _) c
      have h2:=pwK_lt hp e c hx
      omega
  subst e
  refine ⟨rfl,by omega,fun j y hj e=>?_,fun j y hj e=>?_⟩
  · rcases Nat.lt_or_ge j m with hj' | hj'
    · have:=h.a j y hj' e;omega
    · have:j=m:=by omega
      subst this
      rw [hx] at e;cases e;omega
  · have:=pwK_lt hp (show m < j by omega) hx e;omega
theorem cutK.end_ {ls:List Lk} {n k:Int} {i:Nat} (h:cutK ls k i) (hl:∀ x ∈ ls,x.fr < n) (hk:n≤k):i=ls.length:=by
  rcases Nat.lt_or_ge i ls.length with e | e
  · have c:=List.getElem?_eq_getElem e
    have:=h.b i _ (Nat.le_refl _) c
    have:=hl _ (List.getElem_mem e)
    omega
  · have:=h.n;omega
def inQ (q:Int):Bool:=decide (0≤q) && decide (q≤1073741824)
def stG (l:Lk) (w:Ls) (q:Int):Bool:=inQ q && stepB l.ws w q
def gA (a:Ls) (j:Int):Int:=a.getD j.toNat 0
def lkGo:List Lk→List Ls→Ls→Option (List Ls × Ls)
  | l :: r,w :: ws,a=>if stG l w (gA a l.fr)=true then
      (lkGo r ws (a.set l.to.toNat (gA a l.to+outF l.ws l.den w (gA a l.fr)))).map fun x=>(stepF l.ws l.den w (gA a l.fr) :: x.1,x.2)
    else none
  | _,_,a=>some ([],a)
theorem step_eq {ws:Ls} {den:Int} {ps:Ls} {q:Int} (hr:rkCheck ws den=0) (hf:fitsB ws.length ps=true):rkStep ws den ps q=if (inQ q && stepB ws ps q)=true then (stepF ws den ps q,outF ws den ps q,0) else ([],0,1):=by
  have e:rkRun ws den ps [q]=match runGo ws den ps [q] with
    | some (p,o)=>(p,o,0)
    | none=>([],[],1):=by unfold rkRun;rw [if_neg (by rw [hr];simp),if_neg (by rw [hf];simp),if_neg (by simp)];rfl
  by_cases h:(inQ q && stepB ws ps q)=true
  · have h1:0≤q∧q≤1073741824∧stepOk ws ps q:=by
      simp [inQ] at h
      exact ⟨h.1.1,h.1.2,stepB_iff.1 h.2⟩
    rw [runGo_good h1] at e
    have e:rkRun ws den ps [q]=(stepF ws den ps q,[outF ws den ps q],0):=e
    rw [if_pos h,rkStep,e]
    rfl
  · have h1:¬ (0≤q∧q≤1073741824∧stepOk ws ps q):=fun ⟨a,b,c⟩=>h (by simp [inQ,a,b,stepB_iff.2 c])
    rw [runGo_bad h1] at e
    have e:rkRun ws den ps [q]=([],[],1):=e
    rw [if_neg h,rkStep,e]
    rfl
theorem stG_ok {l:Lk} {w:Ls} {q:Int} (h:stG l w q=true):0≤q∧q≤1073741824∧stepOk l.ws w q:=by
  simp [stG,inQ] at h
  exact ⟨h.1.1,h.1.2,stepB_iff.1 h.2⟩
theorem out_in {l:Lk} {w:Ls} {q:Int} (hr:rkCheck l.ws l.den=0) (hf:fitsB l.ws.length w=true) (h:stG l w q=true):0≤outF l.ws l.den w q∧outF l.ws l.den w q≤1125899906842624:=by
  obtain ⟨h0,h1,h2⟩:=stG_ok h
  obtain ⟨a1,a2,a3,a4,a5,a6,a7⟩:=rk_facts hr
  obtain ⟨b1,b2,b3,b4⟩:=fits_facts hf
  have g0:0≤gP l.ws w q 0:=by
    unfold gP
    have:=Int.mul_nonneg h0 (a3 0).1
    have:=(b4 0).1
    omega
  have g1:=h2 0 (by omega)
  unfold outF
  refine ⟨Int.ediv_nonneg g0 (by omega),?_⟩
  have:=Int.ediv_le_self l.den g0
  omega
end Go.Proofs

namespace Go.Proofs
open Go Go.Abs
set_option linter.unusedSimpArgs false
set_option linter.unusedVariables false
set_option maxRecDepth 4000
theorem kI17 {k:AV→Prop} {a b:Int} (h:k (I a)) (e:a=b):k (I b):=e ▸ h
theorem kBo {k:AV→Prop} {a b:Bool} (h:k (Bo a)) (e:a=b):k (Bo b):=e ▸ h
def R_node:RT:=fun args k=>∃ (r:Rv) (x:Int),args=[.agg (rvC r),I x]∧(1≤r.n∧r.n≤40)∧k (Bo (inN r.n x))
def R_rvE:RT:=fun args k=>∃ r:Rv,args=[.agg (rvC r)]∧r.fin∧k (I (rvE r))
theorem node_ok:FunR Tryz.prog 87 R_node:=by
  intro args k h
  obtain ⟨r,x,rfl,hn,hk⟩:=h
  have en:IntKind.i64.wrap (r.n - 1)=r.n - 1:=wrap_in (by omega) (by omega)
  refine does_ex (qc:=qc1) (np:=[]) (CK:=ckK [(117,cSc R_within)]) mixed Tryz.func87 rfl rfl Tryz.ntmps87 Tryz.results87 τ_ok (by kernel_rfl) (ckK_ok ⟨cSc_ok within_ok,trivial⟩) (by simp) ?_
  conv=>whnf
  rw [en]
  exact hk
theorem rvE_ok':FunR Tryz.prog 73 R_rvE:=by
  intro args k h
  obtain ⟨r,rfl,hf,hk⟩:=h
  have hm:=eK_len r.ls
  have hf1:=hf.1
  refine does_ex (qc:=qc1) (np:=[]) (CK:=ckK [(87,cSc R_node),(105,cSc R_rk)]) mixed Tryz.func73 rfl rfl Tryz.ntmps73 Tryz.results73 τ_ok (by kernel_rfl) (ckK_ok ⟨cSc_ok node_ok,cSc_ok rk_ok,trivial⟩) (by simp) ?_
  conv=>whnf
  have b0:(r.n < 1 ∨ 40 < r.n)→k (I 3):=fun e=>kI17 hk (by rw [rvE,if_pos e])
  refine Fork.mk (fun g1=>?_) (fun g1=>?_)
  · conv=>whnf
    (repeat ((first | refine fork_t ?_ | refine fork_f ?_);(conv=>whnf)))
    exact b0 (by simp at g1;omega)
  conv=>whnf
  refine Fork.mk (fun g2=>?_) (fun g2=>?_)
  · conv=>whnf
    exact b0 (by simp at g2;omega)
  have hn:1≤r.n∧r.n≤40:=by simp at g1 g2;omega
  have e0:rvE r=lkE r.n none r.ls:=by rw [rvE,if_neg (by omega)]
  rw [e0] at hk
  clear g1 g2 b0
  have en:IntKind.i64.wrap (r.n - 1)=r.n - 1:=wrap_in (by omega) (by omega)
  conv=>whnf
  refine ⟨Nat,fun i=>([(1,.c (.ptr (.l 1 0) 0)),(15,.c (.lst (eK r.ls))),(16,I (eK r.ls).length),(17,I i)],⟨[(.l 1 0,.blk (rvC r))],9,[]⟩),
    fun i=>i≤r.ls.length∧lkE r.n none r.ls=lkE r.n (if i=0 then none else (r.ls[i - 1]?).map Lk.fr) (r.ls.drop i),fun i=>r.ls.length - i,0,⟨Nat.zero_le _,rfl⟩,Shift.reset ⟨rfl,rfl,rfl,rfl,trivial⟩ ⟨rfl,trivial⟩ rfl rfl,fun i hi=>?_⟩
  obtain ⟨hi1,hi2⟩:=hi
  dsimp only
  conv=>whnf
  refine Fork.mk (fun h=>?_) (fun h=>?_)
  rotate_left
  · have hie:i=r.ls.length:=by simp at h;omega
    rw [hie,List.drop_length] at hi2
    conv=>whnf
    exact kI17 hk (by rw [hi2];rfl)
  have hi:i < r.ls.length:=by simp at h;omega
  clear h
  have hci:=List.getElem?_eq_getElem hi
  have hlw:=hf.2 _ (List.getElem_mem hi)
  generalize r.ls[i]=l at hci hlw
  rw [dropC hci,lkE_cons] at hi2
  have hw1:=wr_succ (i:=i) (by omega)
  conv=>whnf
  refine ⟨by omega,lkC l,by rw [Int.toNat_natCast,List.getElem?_map,hci];rfl,rfl,?_⟩
  conv=>whnf
  refine ⟨r,l.fr,rfl,hn,?_⟩
  conv=>whnf
  refine Fork.mk (fun g1=>?_) (fun g1=>?_)
  · conv=>whnf
    (repeat ((first | refine fork_t ?_ | refine fork_f ?_);(conv=>whnf)))
    rw [if_pos (by simp [inN] at g1 ⊢;omega)] at hi2
    exact kI17 hk hi2
  conv=>whnf
  refine ⟨r,l.to,rfl,hn,?_⟩
  conv=>whnf
  refine Fork.mk (fun g2=>?_) (fun g2=>?_)
  · conv=>whnf
    rw [if_pos (by simp [inN] at g1 g2 ⊢;omega)] at hi2
    exact kI17 hk hi2
  rw [if_neg (by simp [inN] at g1 g2 ⊢;omega)] at hi2
  conv=>whnf
  clear g1 g2
  refine Fork.mk (fun h=>?_) (fun h=>?_)
  · rw [if_pos (by simpa using h)] at hi2
    conv=>whnf
    exact kI17 hk hi2
  rw [if_neg (by simpa using h)] at hi2
  clear h
  conv=>whnf
  have bad:(qleR (if i=0 then none else (r.ls[i - 1]?).map Lk.fr) l.fr=true)→k (I 4):=fun e=>by
    rw [if_pos e] at hi2
    exact kI17 hk hi2
  have good:qleR (if i=0 then none else (r.ls[i - 1]?).map Lk.fr) l.fr=false→lkE r.n none r.ls=if rkCheck l.ws l.den ≠ 0 then rkCheck l.ws l.den else lkE r.n (some l.fr) (r.ls.drop (i+1)):=fun e=>by
    rw [if_neg (by rw [e];simp)] at hi2
    exact hi2
  clear hi2
  rcases Nat.eq_zero_or_pos i with hi0 | hi0
  · subst hi0
    refine Fork.mk (fun h=>?_) (fun h=>?_)
    · exfalso;simp at h
    clear h
    conv=>whnf
    (repeat ((first | refine fork_t ?_ | refine fork_f ?_);(conv=>whnf)))
    have good:=good rfl
    refine ⟨l.ws,rfl,hlw,?_⟩
    conv=>whnf
    refine Fork.mk (fun h=>?_) (fun h=>?_)
    · have h1:rkCheck l.ws l.den ≠ 0:=by simpa using h
      rw [if_pos h1] at good
      conv=>whnf
      exact kI17 hk good
    have h1:rkCheck l.ws l.den=0:=by simpa using h
    rw [if_neg (by simp [h1])] at good
    clear h
    conv=>whnf
    rw [hw1]
    exact ⟨_,⟨hi,by rw [good,if_neg (Nat.succ_ne_zero _),show ∀ n,Nat.succ n - 1=n from fun _=>rfl,hci];rfl⟩,Shift.reset ⟨rfl,rfl,rfl,rfl,trivial⟩ ⟨rfl,trivial⟩ rfl rfl,by omega⟩
  have hcj:=List.getElem?_eq_getElem (show i - 1 < r.ls.length by omega)
  generalize r.ls[i - 1]=p at hcj
  rw [if_neg (by omega:¬ i=0),hcj] at bad good
  refine Fork.mk (fun h=>?_) (fun h=>?_)
  rotate_left
  · exfalso;simp at h;omega
  clear h
  have hw3:IntKind.i64.wrap ((i:Int) - 1)=((i - 1:Nat):Int):=by rw [wrap_in (by omega) (by omega)];omega
  conv=>whnf
  rw [hw3]
  refine ⟨by omega,lkC p,by rw [Int.toNat_natCast,List.getElem?_map,hcj];rfl,rfl,?_⟩
  conv=>whnf
  refine Fork.mk (fun h=>?_) (fun h=>?_)
  · conv=>whnf
    exact bad h
  have good:=good h
  clear h bad
  conv=>whnf
  refine ⟨l.ws,rfl,hlw,?_⟩
  conv=>whnf
  refine Fork.mk (fun h=>?_) (fun h=>?_)
  · have h1:rkCheck l.ws l.den ≠ 0:=by simpa using h
    rw [if_pos h1] at good
    conv=>whnf
    exact kI17 hk good
  have h1:rkCheck l.ws l.den=0:=by simpa using h
  rw [if_neg (by simp [h1])] at good
  clear h
  conv=>whnf
  rw [hw1]
  exact ⟨_,⟨hi,by rw [good,if_neg (Nat.succ_ne_zero _),show ∀ n,Nat.succ n - 1=n from fun _=>rfl,hci];rfl⟩,Shift.reset ⟨rfl,rfl,rfl,rfl,trivial⟩ ⟨rfl,trivial⟩ rfl rfl,by omega⟩
theorem rrvE_ok:FunR Tryz.prog 48 R_rvE:=by
  intro args k h
  obtain ⟨r,rfl,hf,hk⟩:=h
  have hm:=eK_len r.ls
  have hf1:=hf.1
  refine does_ex (qc:=qc1) (np:=[]) (CK:=ckK [(49,cSc R_within),(78,cSc R_rk)]) mixed Tryz.func48 rfl rfl Tryz.ntmps48 Tryz.results48 τ_ok (by kernel_rfl) (ckK_ok ⟨cSc_ok rIn_ok,cSc_ok rrk_ok,trivial⟩) (by simp) ?_
  conv=>whnf
  have b0:(r.n < 1 ∨ 40 < r.n)→k (I 3):=fun e=>kI17 hk (by rw [rvE,if_pos e])
  refine Fork.mk (fun g1=>?_) (fun g1=>?_)
  · conv=>whnf
    (repeat ((first | refine fork_t ?_ | refine fork_f ?_);(conv=>whnf)))
    exact b0 (by simp at g1;omega)
  conv=>whnf
  refine Fork.mk (fun g2=>?_) (fun g2=>?_)
  · conv=>whnf
    exact b0 (by simp at g2;omega)
  have hn:1≤r.n∧r.n≤40:=by simp at g1 g2;omega
  have e0:rvE r=lkE r.n none r.ls:=by rw [rvE,if_neg (by omega)]
  rw [e0] at hk
  clear g1 g2 b0
  have en:IntKind.i64.wrap (r.n - 1)=r.n - 1:=wrap_in (by omega) (by omega)
  conv=>whnf
  refine ⟨Nat,fun i=>([(1,.c (.ptr (.l 1 0) 0)),(15,.c (.lst (eK r.ls))),(16,I (eK r.ls).length),(17,I i)],⟨[(.l 1 0,.blk (rvC r))],9,[]⟩),
    fun i=>i≤r.ls.length∧lkE r.n none r.ls=lkE r.n (if i=0 then none else (r.ls[i - 1]?).map Lk.fr) (r.ls.drop i),fun i=>r.ls.length - i,0,⟨Nat.zero_le _,rfl⟩,Shift.reset ⟨rfl,rfl,rfl,rfl,trivial⟩ ⟨rfl,trivial⟩ rfl rfl,fun i hi=>?_⟩
  obtain ⟨hi1,hi2⟩:=hi
  dsimp only
  conv=>whnf
  refine Fork.mk (fun h=>?_) (fun h=>?_)
  rotate_left
  · have hie:i=r.ls.length:=by simp at h;omega
    rw [hie,List.drop_length] at hi2
    conv=>whnf
    exact kI17 hk (by rw [hi2];rfl)
  have hi:i < r.ls.length:=by simp at h;omega
  clear h
  have hci:=List.getElem?_eq_getElem hi
  have hlw:=hf.2 _ (List.getElem_mem hi)
  generalize r.ls[i]=l at hci hlw
  rw [dropC hci,lkE_cons] at hi2
  have hw1:=wr_succ (i:=i) (by omega)
  conv=>whnf
  refine ⟨by omega,lkC l,by rw [Int.toNat_natCast,List.getElem?_map,hci];rfl,rfl,?_⟩
  conv=>whnf
  rw [en]
  refine Fork.mk (fun g1=>?_) (fun g1=>?_)
  · conv=>whnf
    (repeat ((first | refine fork_t ?_ | refine fork_f ?_);(conv=>whnf)))
    rw [if_pos (by simp [inN] at g1 ⊢;omega)] at hi2
    exact kI17 hk hi2
  conv=>whnf
  rw [en]
  refine Fork.mk (fun g2=>?_) (fun g2=>?_)
  · conv=>whnf
    rw [if_pos (by simp [inN] at g1 g2 ⊢;omega)] at hi2
    exact kI17 hk hi2
  rw [if_neg (by simp [inN] at g1 g2 ⊢;omega)] at hi2
  conv=>whnf
  clear g1 g2
  refine Fork.mk (fun h=>?_) (fun h=>?_)
  · rw [if_pos (by simpa using h)] at hi2
    conv=>whnf
    exact kI17 hk hi2
  rw [if_neg (by simpa using h)] at hi2
  clear h
  conv=>whnf
  have bad:(qleR (if i=0 then none else (r.ls[i - 1]?).map Lk.fr) l.fr=true)→k (I 4):=fun e=>by
    rw [if_pos e] at hi2
    exact kI17 hk hi2
  have good:qleR (if i=0 then none else (r.ls[i - 1]?).map Lk.fr) l.fr=false→lkE r.n none r.ls=if rkCheck l.ws l.den ≠ 0 then rkCheck l.ws l.den else lkE r.n (some l.fr) (r.ls.drop (i+1)):=fun e=>by
    rw [if_neg (by rw [e];simp)] at hi2
    exact hi2
  clear hi2
  rcases Nat.eq_zero_or_pos i with hi0 | hi0
  · subst hi0
    refine Fork.mk (fun h=>?_) (fun h=>?_)
    · exfalso;simp at h
    clear h
    conv=>whnf
    (repeat ((first | refine fork_t ?_ | refine fork_f ?_);(conv=>whnf)))
    have good:=good rfl
    refine ⟨l.ws,rfl,hlw,?_⟩
    conv=>whnf
    refine Fork.mk (fun h=>?_) (fun h=>?_)
    · have h1:rkCheck l.ws l.den ≠ 0:=by simpa using h
      rw [if_pos h1] at good
      conv=>whnf
      exact kI17 hk good
    have h1:rkCheck l.ws l.den=0:=by simpa using h
    rw [if_neg (by simp [h1])] at good
    clear h
    conv=>whnf
    rw [hw1]
    exact ⟨_,⟨hi,by rw [good,if_neg (Nat.succ_ne_zero _),show ∀ n,Nat.succ n - 1=n from fun _=>rfl,hci];rfl⟩,Shift.reset ⟨rfl,rfl,rfl,rfl,trivial⟩ ⟨rfl,trivial⟩ rfl rfl,by omega⟩
  have hcj:=List.getElem?_eq_getElem (show i - 1 < r.ls.length by omega)
  generalize r.ls[i - 1]=p at hcj
  rw [if_neg (by omega:¬ i=0),hcj] at bad good
  refine Fork.mk (fun h=>?_) (fun h=>?_)
  rotate_left
  · exfalso;simp at h;omega
  clear h
  have hw3:IntKind.i64.wrap ((i:Int) - 1)=((i - 1:Nat):Int):=by rw [wrap_in (by omega) (by omega)];omega
  conv=>whnf
  rw [hw3]
  refine ⟨by omega,lkC p,by rw [Int.toNat_natCast,List.getElem?_map,hcj];rfl,rfl,?_⟩
  conv=>whnf
  refine Fork.mk (fun h=>?_) (fun h=>?_)
  · conv=>whnf
    exact bad h
  have good:=good h
  clear h bad
  conv=>whnf
  refine ⟨l.ws,rfl,hlw,?_⟩
  conv=>whnf
  refine Fork.mk (fun h=>?_) (fun h=>?_)
  · have h1:rkCheck l.ws l.den ≠ 0:=by simpa using h
    rw [if_pos h1] at good
    conv=>whnf
    exact kI17 hk good
  have h1:rkCheck l.ws l.den=0:=by simpa using h
  rw [if_neg (by simp [h1])] at good
  clear h
  conv=>whnf
  rw [hw1]
  exact ⟨_,⟨hi,by rw [good,if_neg (Nat.succ_ne_zero _),show ∀ n,Nat.succ n - 1=n from fun _=>rfl,hci];rfl⟩,Shift.reset ⟨rfl,rfl,rfl,rfl,trivial⟩ ⟨rfl,trivial⟩ rfl rfl,by omega⟩
end Go.Proofs
