/- Proved here: what functions of the given program come to, and the plain laws of it; no condition but those in the theorems. -/
import Derived.Test.YtgllikepncnpkaaGreatA34f
import Derived.Test.YtgllikepncnpkaaGreatH34
import Derived.Test.YtgllikepncnpkaaGreatA34i
namespace Go.Proofs
open Go Go.Abs
set_option linter.unusedSimpArgs false
set_option linter.unusedVariables false
def inS:List Lk→Ls→Int→Int
  | l :: r,c :: t,j=>(if l.to=j then c else 0)+inS r t j
  | _,_,_=>0
theorem inS_cons (l:Lk) (r:List Lk) (c:Int) (t:Ls) (j:Int):inS (l :: r) (c :: t) j=(if l.to=j then c else 0)+inS r t j:=rfl
theorem inS_set {j v:Int}:∀ {ls:List Lk} {cm:Ls} {i:Nat} {l:Lk},ls[i]?=some l→cm[i]?=some 0→inS ls (cm.set i v) j=inS ls cm j+if l.to=j then v else 0
  | [],_,_,_,h,_=>by simp at h
  | _ :: _,[],_,_,_,h=>by simp at h
  | a :: r,c :: t,0,l,h1,h2=>by
    simp at h1 h2
    subst h1 h2
    rw [List.set_cons_zero,inS_cons,inS_cons]
    split <;> omega
  | a :: r,c :: t,i+1,l,h1,h2=>by
    rw [List.set_cons_succ,inS_cons,inS_cons,inS_set (l:=l) (by simpa using h1) (by simpa using h2)]
    omega
theorem inS_zero {j:Int}:∀ (ls:List Lk) (n:Nat),inS ls (List.replicate n 0) j=0
  | [],n=>by cases n <;> rfl
  | l :: r,0=>rfl
  | l :: r,n+1=>by rw [List.replicate_succ,inS_cons,inS_zero r n];split <;> rfl
theorem inS_b {j B:Int} (hB:0≤B):∀ {ls:List Lk} {cm:Ls},(∀ c ∈ cm,0≤c∧c≤B)→0≤inS ls cm j∧inS ls cm j≤B * ls.length
  | [],cm,_=>by cases cm <;> simp [inS]
  | l :: r,[],_=>by
    have:0≤B * ((l :: r).length:Int):=Int.mul_nonneg hB (by omega)
    simp only [inS]
    omega
  | l :: r,c :: t,h=>by
    have a:=h c (by simp)
    have b:=inS_b (j:=j) hB (ls:=r) (cm:=t) fun x hx=>h x (by simp [hx])
    rw [inS_cons,List.length_cons,Int.natCast_add,Int.mul_add]
    simp only [Int.natCast_one,Int.mul_one]
    split <;> omega
def siteR (c:Cs) (s:Fl) (inf:Ls) (DA:List Dt) (RA:List Rc) (LA CA:Ls) (i:Nat):Prop :=
  ∀ x z,c.si[i]?=some x→s.ds[i]?=some z→∃ z' r,DA[i]?=some z'∧RA[i]?=some r∧stepD x.d z (gA inf x.nd+inS c.rv.ls CA x.nd) z' r∧gA LA x.nd=floR r
def linkR (c:Cs) (s:Fl) (WA:List Ls) (LA CA:Ls) (i:Nat):Prop :=
  ∀ l q,c.rv.ls[i]?=some l→s.ws[i]?=some q→∃ w v,WA[i]?=some w∧CA[i]?=some v∧rkStep l.ws l.den q (gA LA l.fr)=(w,v,0)
structure stepC (c:Cs) (s:Fl) (p:Su) (s':Fl) (x:Pd):Prop where
  va:VaOk c s
  n1:(p.inf.length:Int)=c.rv.n
  n2:p.los.length=c.si.length
  n3:p.tar.length=c.si.length
  r1:p.inf.all (inB 0 1073741824)=true
  t:s.tm < 16777216∧s'.tm=s.tm+1
  ld:s'.ds.length=c.si.length
  lw:s'.ws.length=c.rv.ls.length
  lr:x.re.length=c.si.length
  ll:(x.left.length:Int)=c.rv.n
  lc:x.came.length=c.rv.ls.length
  st:∀ i,siteR c s p.inf s'.ds x.re x.left x.came i
  lk:∀ i,linkR c s s'.ws x.left x.came i
  no:∀ j:Int,0≤j→j < c.rv.n→(∀ y ∈ c.si,y.nd ≠ j)→gA x.left j=gA p.inf j+inS c.rv.ls x.came j
  cb:∀ v ∈ x.came,0≤v∧v≤1125899906842624
structure lnI (c:Cs) (s:Fl) (inf:Ls) (DA:List Dt) (RA:List Rc) (WA:List Ls) (A LA CA:Ls) (n:Int) (i:Nat) (lv:Int):Prop where
  ld:DA.length=c.si.length
  lw:WA.length=c.rv.ls.length
  lr:RA.length=c.si.length
  ll:(LA.length:Int)=c.rv.n
  lc:CA.length=c.rv.ls.length
  la:(A.length:Int)=c.rv.n
  a:∀ j:Int,0≤j→j < c.rv.n→gA A j=gA inf j+inS c.rv.ls CA j
  cb:∀ v ∈ CA,0≤v∧v≤1125899906842624
  z:∀ (k:Nat) l,c.rv.ls[k]?=some l→(n < l.fr ∨ (l.fr=n∧i≤k))→CA[k]?=some 0
  st:∀ (k:Nat) x,c.si[k]?=some x→x.nd≤n→siteR c s inf DA RA LA CA k
  lk:∀ (k:Nat) l,c.rv.ls[k]?=some l→(l.fr < n ∨ (l.fr=n∧k < i))→linkR c s WA LA CA k
  no:∀ j:Int,0≤j→j≤n→(∀ y ∈ c.si,y.nd ≠ j)→gA LA j=gA inf j+inS c.rv.ls CA j
  nb:0≤n∧n < c.rv.n
  lv:gA LA n=lv
theorem gA_set {a:Ls} {i j:Int} {v:Int} (hi:0≤i) (h:i.toNat < a.length) (hj:0≤j):gA (a.set i.toNat v) j=if j=i then v else gA a j:=by
  have:=gN_set (a:=a) (i:=i.toNat) (j:=j.toNat) (v:=v) h
  unfold gA
  unfold gN at this
  rw [this]
  by_cases e:j=i
  · rw [if_pos e,if_pos (by rw [e])]
  · rw [if_neg e,if_neg (by omega)]
theorem lnI.bound {c:Cs} {s:Fl} {inf:Ls} {DA:List Dt} {RA:List Rc} {WA:List Ls} {A LA CA:Ls} {n:Int} {i:Nat} {lv:Int} (h:lnI c s inf DA RA WA A LA CA n i lv) (hr:RvOk c.rv) (hin:inf.all (inB 0 1073741824)=true) (j:Int) (hj:0≤j∧j < c.rv.n):0≤gA A j∧gA A j≤72057594037927936:=by
  have:=h.a j hj.1 hj.2
  have hb:=inS_b (j:=j) (ls:=c.rv.ls) (B:=1125899906842624) (by omega) h.cb
  have hl:=hr.len
  have hi:0≤gA inf j∧gA inf j≤1073741824:=by
    unfold gA
    rw [List.getD_eq_getElem?_getD]
    cases e:inf[j.toNat]? with
    | none=>simp
    | some v =>
      have:=List.all_eq_true.1 hin v (List.mem_of_getElem? e)
      simp [inB] at this
      simpa using this
  have hm:1125899906842624 * (c.rv.ls.length:Int)≤1125899906842624 * 40:=Int.mul_le_mul_of_nonneg_left (by omega) (by omega)
  omega
theorem lnI.skip {c:Cs} {s:Fl} {inf:Ls} {DA:List Dt} {RA:List Rc} {WA:List Ls} {A LA CA:Ls} {n:Int} {i:Nat} {lv:Int} {l:Lk} (h:lnI c s inf DA RA WA A LA CA n i lv) (hl:c.rv.ls[i]?=some l) (hf:l.fr ≠ n):lnI c s inf DA RA WA A LA CA n (i+1) lv :=
  { h with
    z:=fun k y hk e=>h.z k y hk (by rcases e with e | e <;> omega)
    lk:=fun k y hk e=>by
      by_cases hki:k=i
      · subst hki;rw [hl] at hk;cases hk;exact h.lk k l hl (by rcases e with e | e <;> omega)
      · exact h.lk k y hk (by rcases e with e | e <;> omega) }
theorem lnI.link {c:Cs} {s:Fl} {inf:Ls} {DA:List Dt} {RA:List Rc} {WA:List Ls} {A LA CA:Ls} {n:Int} {i:Nat} {lv:Int} {l:Lk} {q w:Ls} {v:Int} (h:lnI c s inf DA RA WA A LA CA n i lv) (hr:RvOk c.rv) (hw:WvOk c.rv s.ws) (hl:c.rv.ls[i]?=some l) (hf:l.fr=n) (hq:s.ws[i]?=some q)
    (e:rkStep l.ws l.den q lv=(w,v,0)):lnI c s inf DA RA (WA.set i w) (A.set l.to.toNat (gA A l.to+v)) LA (CA.set i v) n (i+1) lv:=by
  have hi:=(List.getElem?_eq_some_iff.1 hl).1
  have hok:=hr.l l (List.mem_of_getElem? hl)
  have hz:=h.z i l hl (.inr ⟨hf,Nat.le_refl _⟩)
  have ho:=hok.o
  have ht:=hok.t
  have hf0:=hok.f
  have hvb:0≤v∧v≤1125899906842624:=by
    have h1:=hw.f i l q hl hq
    rw [step_eq hok.r h1] at e
    by_cases hg:(inQ lv && stepB l.ws q lv)=true
    · rw [if_pos hg] at e
      have:=out_in hok.r h1 (show stG l q lv=true from hg)
      cases e
      exact this
    · rw [if_neg hg] at e
      cases e
  have hne:∀ j:Int,j≤n→inS c.rv.ls (CA.set i v) j=inS c.rv.ls CA j:=fun j hj=>by
    rw [inS_set hl hz,if_neg (by omega)];omega
  have hn:=h.nb
  have la:=h.la
  refine ⟨h.ld,by rw [List.length_set];exact h.lw,h.lr,h.ll,by rw [List.length_set];exact h.lc,by rw [List.length_set];exact h.la,fun j h1 h2=>?_,fun y hy=>?_,fun k y hk ee=>?_,fun k x hx hxn=>?_,fun k y hk ee=>?_,fun j h1 h2 h3=>?_,h.nb,h.lv⟩
  · rw [gA_set (by omega) (by omega) h1,inS_set hl hz]
    have:=h.a j h1 h2
    by_cases ej:j=l.to
    · rw [if_pos ej,if_pos ej.symm,← ej];omega
    · rw [if_neg ej,if_neg (Ne.symm ej)];omega
  · rcases List.mem_or_eq_of_mem_set hy with hy | rfl
    · exact h.cb y hy
    · exact hvb
  · have hki:k ≠ i:=by
      intro e2;subst e2;rw [hl] at hk;cases hk;rcases ee with ee | ee <;> omega
    rw [List.getElem?_set_ne (Ne.symm hki)]
    exact h.z k y hk (by rcases ee with ee | ee <;> omega)
  · intro x' z' hx' hz'
    obtain ⟨a,b,c1,c2,c3,c4⟩:=h.st k x hx hxn x' z' hx' hz'
    rw [hx] at hx';cases hx'
    exact ⟨a,b,c1,c2,by rw [hne _ hxn];exact c3,c4⟩
  · intro l' q' hl' hq'
    by_cases hki:k=i
    · subst hki
      rw [hl] at hl';cases hl'
      rw [hq] at hq';cases hq'
      have hwl:=h.lw
      have hcl:=h.lc
      exact ⟨w,v,List.getElem?_set_self (by omega),List.getElem?_set_self (by omega),by rw [hf,h.lv];exact e⟩
    · obtain ⟨a,b,c1,c2,c3⟩:=h.lk k y hk (by rcases ee with ee | ee <;> omega) l' q' hl' hq'
      exact ⟨a,b,by rw [List.getElem?_set_ne (Ne.symm hki)];exact c1,by rw [List.getElem?_set_ne (Ne.symm hki)];exact c2,c3⟩
  · rw [hne j h2]
    exact h.no j h1 h2 h3
structure ndI (c:Cs) (s:Fl) (inf:Ls) (DA:List Dt) (RA:List Rc) (WA:List Ls) (A LA CA:Ls) (n:Int):Prop where
  ld:DA.length=c.si.length
  lw:WA.length=c.rv.ls.length
  lr:RA.length=c.si.length
  ll:(LA.length:Int)=c.rv.n
  lc:CA.length=c.rv.ls.length
  la:(A.length:Int)=c.rv.n
  a:∀ j:Int,0≤j→j < c.rv.n→gA A j=gA inf j+inS c.rv.ls CA j
  cb:∀ v ∈ CA,0≤v∧v≤1125899906842624
  z:∀ (k:Nat) l,c.rv.ls[k]?=some l→n≤l.fr→CA[k]?=some 0
  st:∀ (k:Nat) x,c.si[k]?=some x→x.nd < n→siteR c s inf DA RA LA CA k
  lk:∀ (k:Nat) l,c.rv.ls[k]?=some l→l.fr < n→linkR c s WA LA CA k
  no:∀ j:Int,0≤j→j < n→(∀ y ∈ c.si,y.nd ≠ j)→gA LA j=gA inf j+inS c.rv.ls CA j
theorem lnI.done {c:Cs} {s:Fl} {inf:Ls} {DA:List Dt} {RA:List Rc} {WA:List Ls} {A LA CA:Ls} {n:Int} {i:Nat} {lv:Int} (h:lnI c s inf DA RA WA A LA CA n i lv) (hi:c.rv.ls.length≤i):ndI c s inf DA RA WA A LA CA (n+1) :=
  ⟨h.ld,h.lw,h.lr,h.ll,h.lc,h.la,h.a,h.cb,fun k l hk e=>h.z k l hk (.inl (by omega)),fun k x hx e=>h.st k x hx (by omega),fun k l hk e=>h.lk k l hk (by have:=(List.getElem?_eq_some_iff.1 hk).1;omega),fun j h1 h2 h3=>h.no j h1 (by omega) h3⟩
theorem ndI.bound {c:Cs} {s:Fl} {inf:Ls} {DA:List Dt} {RA:List Rc} {WA:List Ls} {A LA CA:Ls} {n:Int} (h:ndI c s inf DA RA WA A LA CA n) (hr:RvOk c.rv) (hin:inf.all (inB 0 1073741824)=true) (j:Int) (hj:0≤j∧j < c.rv.n):0≤gA A j∧gA A j≤72057594037927936:=by
  have:=h.a j hj.1 hj.2
  have hb:=inS_b (j:=j) (ls:=c.rv.ls) (B:=1125899906842624) (by omega) h.cb
  have hl:=hr.len
  have hi:0≤gA inf j∧gA inf j≤1073741824:=by
    unfold gA
    rw [List.getD_eq_getElem?_getD]
    cases e:inf[j.toNat]? with
    | none=>simp
    | some v =>
      have:=List.all_eq_true.1 hin v (List.mem_of_getElem? e)
      simp [inB] at this
      simpa using this
  have hm:1125899906842624 * (c.rv.ls.length:Int)≤1125899906842624 * 40:=Int.mul_le_mul_of_nonneg_left (by omega) (by omega)
  omega
theorem ndI.zero {c:Cs} {s:Fl} {inf:Ls} (hr:RvOk c.rv) (hd:s.ds.length=c.si.length) (hw:s.ws.length=c.rv.ls.length) (hi:(inf.length:Int)=c.rv.n) (N:Nat) (hN:(N:Int)=c.rv.n) (hc:CsOk c):ndI c s inf s.ds (List.replicate c.si.length ⟨0,0,0,0,0,0,0⟩) s.ws inf (List.replicate N 0) (List.replicate c.rv.ls.length 0) 0 :=
  ⟨hd,hw,by simp,by simpa using hN,by simp,hi,fun j h1 h2=>by rw [inS_zero];omega,fun v hv=>by rw [(List.mem_replicate.1 hv).2];omega,fun k l hk e=>by rw [List.getElem?_replicate,if_pos (List.getElem?_eq_some_iff.1 hk).1],
    fun k x hx e=>by have:=(hc.s x (List.mem_of_getElem? hx)).1;omega,fun k l hk e=>by have:=(hr.l l (List.mem_of_getElem? hk)).f;omega,fun j h1 h2=>by omega⟩
def lvI (c:Cs) (s:Fl) (DA:List Dt) (RA:List Rc) (A:Ls) (n:Int) (i:Nat) (lv:Int):Prop :=
  ((∀ (k:Nat) x,k < i→c.si[k]?=some x→x.nd ≠ n)∧lv=gA A n) ∨ ∃ (k:Nat) (x:Si) (z z':Dt) (r:Rc),k < i∧c.si[k]?=some x∧x.nd=n∧s.ds[k]?=some z∧DA[k]?=some z'∧RA[k]?=some r∧stepD x.d z (gA A n) z' r∧lv=floR r
theorem pwS_lt {c:Cs} (h:c.si.Pairwise (fun a b=>a.nd < b.nd)) {i j:Nat} {x y:Si} (hij:i < j) (hx:c.si[i]?=some x) (hy:c.si[j]?=some y):x.nd < y.nd:=by
  obtain ⟨hi,rfl⟩:=List.getElem?_eq_some_iff.1 hx
  obtain ⟨hj,rfl⟩:=List.getElem?_eq_some_iff.1 hy
  exact List.pairwise_iff_getElem.1 h i j hi hj hij
theorem si_same {c:Cs} (h:CsOk c) {i j:Nat} {x y:Si} (hx:c.si[i]?=some x) (hy:c.si[j]?=some y) (e:x.nd=y.nd):i=j:=by
  rcases Nat.lt_trichotomy i j with h1 | h1 | h1
  · have:=pwS_lt h.p h1 hx hy;omega
  · exact h1
  · have:=pwS_lt h.p h1 hy hx;omega
theorem lvI.skip {c:Cs} {s:Fl} {DA:List Dt} {RA:List Rc} {A:Ls} {n:Int} {i:Nat} {lv:Int} {x:Si} (h:lvI c s DA RA A n i lv) (hx:c.si[i]?=some x) (hn:x.nd ≠ n):lvI c s DA RA A n (i+1) lv:=by
  rcases h with ⟨h1,h2⟩ | ⟨k,y,z,z',r,h1,h2⟩
  · refine .inl ⟨fun k y hk hy=>?_,h2⟩
    by_cases e:k=i
    · subst e;rw [hx] at hy;cases hy;exact hn
    · exact h1 k y (by omega) hy
  · exact .inr ⟨k,y,z,z',r,by omega,h2⟩
theorem lvI.site {c:Cs} {s:Fl} {DA:List Dt} {RA:List Rc} {A:Ls} {n:Int} {i:Nat} {lv:Int} {x:Si} {z z':Dt} {r:Rc} (h:lvI c s DA RA A n i lv) (hc:CsOk c) (hx:c.si[i]?=some x) (hn:x.nd=n) (hz:s.ds[i]?=some z) (hD:i < DA.length) (hR:i < RA.length) (hs:stepD x.d z (gA A n) z' r) :
    lvI c s (DA.set i z') (RA.set i r) A n (i+1) (floR r):=.inr ⟨i,x,z,z',r,by omega,hx,hn,hz,List.getElem?_set_self hD,List.getElem?_set_self hR,hs,rfl⟩
theorem ndI.site {c:Cs} {s:Fl} {inf:Ls} {DA:List Dt} {RA:List Rc} {WA:List Ls} {A LA CA:Ls} {n:Int} {i:Nat} {x:Si} {z':Dt} {r:Rc} (h:ndI c s inf DA RA WA A LA CA n) (hc:CsOk c) (hx:c.si[i]?=some x) (hn:x.nd=n):ndI c s inf (DA.set i z') (RA.set i r) WA A LA CA n :=
  { h with
    ld:=by rw [List.length_set];exact h.ld
    lr:=by rw [List.length_set];exact h.lr
    st:=fun k y hy e=>by
      have hki:k ≠ i:=by intro e2;subst e2;rw [hx] at hy;cases hy;omega
      intro x' z0 h1 h2
      obtain ⟨a,b,c1,c2,c3⟩:=h.st k y hy e x' z0 h1 h2
      exact ⟨a,b,by rw [List.getElem?_set_ne (Ne.symm hki)];exact c1,by rw [List.getElem?_set_ne (Ne.symm hki)];exact c2,c3⟩ }
theorem ndI.left {c:Cs} {s:Fl} {inf:Ls} {DA:List Dt} {RA:List Rc} {WA:List Ls} {A LA CA:Ls} {n:Int} {i:Nat} {lv:Int} (h:ndI c s inf DA RA WA A LA CA n) (hc:CsOk c) (hi:c.si.length≤i) (hl:lvI c s DA RA A n i lv) (hn:0≤n∧n < c.rv.n) :
    lnI c s inf DA RA WA A (LA.set n.toNat lv) CA n 0 lv:=by
  have ll:=h.ll
  have hg:∀ j:Int,0≤j→gA (LA.set n.toNat lv) j=if j=n then lv else gA LA j:=fun j hj=>gA_set hn.1 (by omega) hj
  have ha:=h.a n hn.1 hn.2
  refine ⟨h.ld,h.lw,h.lr,by rw [List.length_set];exact h.ll,h.lc,h.la,h.a,h.cb,fun k l hk e=>h.z k l hk (by rcases e with e | e <;> omega),fun k x hx e=>?_,fun k l hk e=>?_,fun j h1 h2 h3=>?_,hn,by rw [hg n hn.1,if_pos rfl]⟩
  · intro x' z hx' hz
    rw [hx] at hx';cases hx'
    have hx0:=(hc.s x (List.mem_of_getElem? hx)).1
    by_cases en:x.nd=n
    · rcases hl with ⟨h1,_⟩ | ⟨k',y,z1,z',r,h1,h2,h3,h4,h5,h6,h7,h8⟩
      · exact absurd en (h1 k x (by have:=(List.getElem?_eq_some_iff.1 hx).1;omega) hx)
      · have:k=k':=si_same hc hx h2 (by omega)
        subst this
        rw [hx] at h2;cases h2
        rw [hz] at h4;cases h4
        exact ⟨z',r,h5,h6,by rw [en,← ha];exact h7,by rw [hg _ (by omega),if_pos en];exact h8⟩
    · obtain ⟨a,b,c1,c2,c3,c4⟩:=h.st k x hx (by omega) x z hx hz
      exact ⟨a,b,c1,c2,c3,by rw [hg _ (by omega),if_neg en];exact c4⟩
  · intro l' q hl' hq
    rw [hk] at hl';cases hl'
    have hl0:l.fr < n:=by rcases e with e | e <;> omega
    obtain ⟨a,b,c1,c2,c3⟩:=h.lk k l hk hl0 l q hk hq
    refine ⟨a,b,c1,c2,?_⟩
    have hf:=(hc.r.l l (List.mem_of_getElem? hk)).f
    rw [hg _ hf,if_neg (by omega)]
    exact c3
  · by_cases en:j=n
    · subst en
      rw [hg _ h1,if_pos rfl]
      rcases hl with ⟨_,h4⟩ | ⟨k',y,z1,z',r,h4,h5,h6,_⟩
      · rw [h4];exact ha
      · exact absurd h6 (h3 y (List.mem_of_getElem? h5))
    · rw [hg _ h1,if_neg en]
      exact h.no j h1 (by omega) h3
theorem ndI.done {c:Cs} {s:Fl} {p:Su} {DA:List Dt} {RA:List Rc} {WA:List Ls} {A LA CA:Ls} {n:Int} (h:ndI c s p.inf DA RA WA A LA CA n) (hv:VaOk c s) (hn:c.rv.n≤n) (n1:(p.inf.length:Int)=c.rv.n) (n2:p.los.length=c.si.length) (n3:p.tar.length=c.si.length) (r1:p.inf.all (inB 0 1073741824)=true) (ht:s.tm < 16777216) :
    stepC c s p ⟨s.tm+1,DA,WA⟩ ⟨RA,LA,CA⟩ :=
  ⟨hv,n1,n2,n3,r1,⟨ht,rfl⟩,h.ld,h.lw,h.lr,h.ll,h.lc,fun i x z hx hz=>h.st i x hx (by have:=(hv.k.s x (List.mem_of_getElem? hx)).1;omega) x z hx hz,
    fun i l q hl hq=>h.lk i l hl (by have:=hv.k.r.l l (List.mem_of_getElem? hl);have:=this.o;have:=this;have:=(hv.k.r.l l (List.mem_of_getElem? hl)).t;omega) l q hl hq,fun j h1 h2 h3=>h.no j h1 (by omega) h3,h.cb⟩
theorem stepC.valid {c:Cs} {s:Fl} {p:Su} {s':Fl} {x:Pd} (h:stepC c s p s' x):VaOk c s':=by
  have ht:=h.t
  have hvt:=h.va.t
  have hn:=h.va.n
  have hl:=h.va.w.l
  refine ⟨h.va.k,by omega,h.ld,fun i y z hy hz=>?_,⟨h.lw,fun i l w hl' hw=>?_⟩⟩
  · have hi:=(List.getElem?_eq_some_iff.1 hy).1
    obtain ⟨z',r,h1,_,h3,_⟩:=h.st i y _ hy (List.getElem?_eq_getElem (show i < s.ds.length by omega))
    rw [h1] at hz;cases hz
    exact h3.v
  · have hi:=(List.getElem?_eq_some_iff.1 hl').1
    have hq:=List.getElem?_eq_getElem (show i < s.ws.length by omega)
    have hf:=h.va.w.f i l _ hl' hq
    have hk:=(h.va.k.r.l l (List.mem_of_getElem? hl')).r
    obtain ⟨w',v,h1,_,h3⟩:=h.lk i l _ hl' hq
    rw [h1] at hw;cases hw
    rw [step_eq hk hf] at h3
    by_cases hg:(inQ (gA x.left l.fr) && stepB l.ws s.ws[i] (gA x.left l.fr))=true
    · rw [if_pos hg] at h3
      cases h3
      obtain ⟨a1,a2,a3⟩:=stG_ok (l:=l) (show stG l s.ws[i] (gA x.left l.fr)=true from hg)
      exact step_fits hk hf a1 a2 a3
    · rw [if_neg hg] at h3
      cases h3
theorem stepC.fin {c:Cs} {s:Fl} {p:Su} {s':Fl} {x:Pd} (h:stepC c s p s' x):s'.fin:=vaB_fin (vaB_of h.valid)
theorem eD_set (l:List Dt) (i:Nat) (v:Dt):(eD l).set i (dtC v)=eD (l.set i v):=(List.map_set ..).symm
theorem eRc_set (l:List Rc) (i:Nat) (v:Rc):(eRc l).set i (rcC v)=eRc (l.set i v):=(List.map_set ..).symm
theorem eV_set (l:List Ls) (i:Nat) (v:Ls):(eV l).set i (wvC v)=eV (l.set i v):=(List.map_set ..).symm
structure S7 where
  n:Nat
  DA:List Dt
  WA:List Ls
  A:Ls
  RA:List Rc
  LA:Ls
  CA:Ls
def R_stC:RT:=fun args k=>∃ (c:Cs) (s:Fl) (p:Su),args=[.agg (csC c),.agg (flC s),.agg (suC p)]∧c.fin∧s.fin∧p.inf.length≤1000∧p.los.length≤1000∧p.tar.length≤1000 ∧
  ∀ (s':Fl) (x:Pd) (e:Int),s'.fin→(x.re.length≤100∧x.left.length≤100∧x.came.length≤100)→(e=0→stepC c s p s' x)→k (.tup [.agg (flC s'),.agg (pdC x),I e])
end Go.Proofs

namespace Go.Proofs
open Go Go.Abs
set_option linter.unusedSimpArgs false
set_option linter.unusedVariables false
set_option maxRecDepth 20000
set_option maxHeartbeats 4000000 in
theorem stC_ok:FunR Tryz.prog 40 R_stC:=by
  intro args k h
  obtain ⟨c,s,p,rfl,hc,hs,hp1,hp2,hp3,hk⟩:=h
  have hz:Fl.fin ⟨0,[],[]⟩:=⟨Nat.zero_le _,fun x h=>by simp at h,Nat.zero_le _,fun x h=>by simp at h⟩
  have hm1:=eL_len p.inf
  have hm2:=eL_len p.los
  have hm3:=eL_len p.tar
  have hmx:=eX_len c.si
  have hmk:=eK_len c.rv.ls
  have hcn:=hc.n
  have hbad:∀ e:Int,e ≠ 0→k (.tup [.agg (flC ⟨0,[],[]⟩),.agg (pdC ⟨[],[],[]⟩),I e]):=fun e h=>hk ⟨0,[],[]⟩ ⟨[],[],[]⟩ e hz (by simp) (fun h2=>absurd h2 h)
  refine does_ex (qc:=qc1) (np:=[(15,[(1,7),(1,12),(1,14),(3,6),(3,7),(3,10),(3,12),(3,14),(6,12),(6,14),(7,10),(7,12),(7,14),(10,14),(12,14)]),(24,[(1,26),(1,27),(3,26),(3,27),(5,26),(5,27),(6,26),(6,27),(9,26),(9,27),(10,26),(10,27),(12,26),(12,27),(14,26),(14,27),(15,26),(15,27),(17,26),(17,27),(19,26),(19,27),(20,26),(20,27),(21,26),(21,27),(26,27)]),(27,[(4,11),(7,11)]),(34,[(1,13),(3,13),(5,13),(6,13),(8,13)]),(37,[(4,9)]),(40,[(1,2)])]) (CK:=ckK [(38,cSc (R_csI csE)),(39,cSc (R_cfB vaB)),(65,cSc R_all23),(30,cH R_copy),(66,cPu R_dst),(16,cSc R_dfl),(59,cPu R_stepA)]) mixed Tryz.func40 rfl rfl Tryz.ntmps40 Tryz.results40 τ_ok (by kernel_rfl) (ckK_ok ⟨cSc_ok rcsE_ok,cSc_ok rcvalid_ok,cSc_ok all23_ok,cH_ok copy_ok rfl,cPu_ok dst_ok rfl,cSc_ok dfl_ok,cPu_ok rstepA_ok rfl,trivial⟩) (by simp) ?_
  conv=>whnf
  refine ⟨c,rfl,hc,?_⟩
  conv=>whnf
  refine Fork.mk (fun h=>?_) (fun h=>?_)
  · have h1:csE c ≠ 0:=by simpa using h
    conv=>whnf
    exact hbad _ h1
  have h1:csE c=0:=by simpa using h
  clear h
  conv=>whnf
  refine ⟨c,s,rfl,hc,hs,?_⟩
  conv=>whnf
  refine Fork.mk (fun h=>?_) (fun h=>?_)
  · conv=>whnf
    exact hbad 50 (by simp)
  have hva:vaB c s=true:=by simpa using h
  clear h
  have v:=vaB_ok hva
  have hr:=v.k.r
  have hrl:=hr.len
  have hrn:=hr.n
  have hcm:=v.k.m
  have hcr:=v.k.n
  have hvn:=v.n
  have hvt:=v.t
  have hvw:=v.w.l
  obtain ⟨hwf,hw40,hw24⟩:=v.w.fin hr
  conv=>whnf
  refine Fork.mk (fun h=>?_) (fun h=>?_)
  · conv=>whnf
    repeat' ((first | refine fork_t ?_ | refine fork_f ?_ | (refine Fork.mk (fun h=>?_) (fun h=>?_);focus (simp at h;done)) | fail) <;> (conv=>whnf))
    exact hbad 3 (by simp)
  have n1:(p.inf.length:Int)=c.rv.n:=by simp at h;omega
  clear h
  conv=>whnf
  refine Fork.mk (fun h=>?_) (fun h=>?_)
  · conv=>whnf
    repeat' ((first | refine fork_t ?_ | refine fork_f ?_ | (refine Fork.mk (fun h=>?_) (fun h=>?_);focus (simp at h;done)) | fail) <;> (conv=>whnf))
    exact hbad 3 (by simp)
  have n2:p.los.length=c.si.length:=by simp at h;omega
  clear h
  conv=>whnf
  refine Fork.mk (fun h=>?_) (fun h=>?_)
  · conv=>whnf
    repeat' ((first | refine fork_t ?_ | refine fork_f ?_ | (refine Fork.mk (fun h=>?_) (fun h=>?_);focus (simp at h;done)) | fail) <;> (conv=>whnf))
    exact hbad 3 (by simp)
  have n3:p.tar.length=c.si.length:=by simp at h;omega
  clear h
  conv=>whnf
  refine ⟨p.inf,1073741824,rfl,by omega,?_⟩
  conv=>whnf
  refine Fork.mk (fun h=>?_) (fun h=>?_)
  · conv=>whnf
    repeat' ((first | refine fork_t ?_ | refine fork_f ?_ | (refine Fork.mk (fun h=>?_) (fun h=>?_);focus (simp at h;done)) | fail) <;> (conv=>whnf))
    exact hbad 1 (by simp)
  have r1:p.inf.all (inB 0 1073741824)=true:=by rw [Bool.not_eq_false'] at h;exact h
  clear h
  conv=>whnf
  refine ⟨p.los,1073741824,rfl,by omega,?_⟩
  conv=>whnf
  refine Fork.mk (fun h=>?_) (fun h=>?_)
  · conv=>whnf
    repeat' ((first | refine fork_t ?_ | refine fork_f ?_ | (refine Fork.mk (fun h=>?_) (fun h=>?_);focus (simp at h;done)) | fail) <;> (conv=>whnf))
    exact hbad 1 (by simp)
  clear h
  conv=>whnf
  refine ⟨p.tar,1073741824,rfl,by omega,?_⟩
  conv=>whnf
  refine Fork.mk (fun h=>?_) (fun h=>?_)
  · conv=>whnf
    repeat' ((first | refine fork_t ?_ | refine fork_f ?_ | (refine Fork.mk (fun h=>?_) (fun h=>?_);focus (simp at h;done)) | fail) <;> (conv=>whnf))
    exact hbad 1 (by simp)
  clear h
  conv=>whnf
  refine Fork.mk (fun h=>?_) (fun h=>?_)
  · conv=>whnf
    exact hbad 6 (by simp)
  have ht:s.tm < 16777216:=by simp at h;omega
  clear h
  have hdb:∀ x ∈ s.ds,x.us.length≤1000∧x.gs.length≤1000:=fun x hx=>by
    obtain ⟨i,hi⟩:=List.getElem?_of_mem hx
    have hil:=(List.getElem?_eq_some_iff.1 hi).1
    have hv:=v.d i _ x (List.getElem?_eq_getElem (show i < c.si.length by omega)) hi
    obtain ⟨k1,_,_,k4,k5,_⟩:=validD_at hv
    have:=(ckD_ok k1).n
    have:=(ckD_ok k1).m
    omega
  have e1:IntKind.i64.wrap (s.tm+1)=s.tm+1:=wrap_in (by omega) (by omega)
  obtain ⟨N,hN⟩:=Int.eq_ofNat_of_zero_le (show 0≤c.rv.n by omega)
  conv=>whnf
  refine ⟨[],rfl,?_⟩
  conv=>whnf
  refine ⟨rfl,?_⟩
  conv=>whnf
  refine ⟨rfl,?_⟩
  conv=>whnf
  refine ⟨s,rfl,rfl,by omega,hdb,by omega,fun p hp=>by have:=hw24 p hp;omega,?_⟩
  conv=>whnf
  refine ⟨eL_all _,by rw [hm1];show _ * 8≤_;omega,?_⟩
  conv=>whnf
  refine ⟨⟨rfl,by rw [hmx];omega,by rw [hmx];show _ * (56:Int)≤_;omega⟩,?_⟩
  conv=>whnf
  refine ⟨⟨rfl,by omega,by show _ * (8:Int)≤_;omega⟩,?_⟩
  conv=>whnf
  refine ⟨⟨rfl,by rw [hmk];omega,by rw [hmk];show _ * (8:Int)≤_;omega⟩,?_⟩
  conv=>whnf
  rw [e1,show (eL p.inf).length=N by omega,show Int.toNat ((eX c.si).length:Int)=c.si.length by omega,show Int.toNat c.rv.n=N by omega,show Int.toNat ((eK c.rv.ls).length:Int)=c.rv.ls.length by omega]
  refine ⟨S7,fun y=>([(3,.c (.ptr (.l 3 0) 0)),(4,.c (.ptr (.l 4 1) 0)),(5,.c (.ptr (.l 5 2) 0)),(6,.c (.ptr (.l 6 3) 0)),(7,.c (.ptr (.l 7 4) 0)),(10,.c (.ptr (.l 10 6) 0)),(11,.c (.view (.l 96 7) 0 N)),(12,.c (.ptr (.l 12 8) 0)),(13,I y.n)],⟨[(.l 3 0,.blk (csC c)),(.l 4 1,.blk (flC s)),(.l 5 2,.blk (suC p)),(.l 6 3,.blk [IC 0,.sc (.slice none 0 0),.sc (.slice none 0 0)]),(.l 7 4,.blk [.sc (.slice none 0 0),.sc (.slice none 0 0),.sc (.slice none 0 0)]),(.l 89 5,.arr 117 4 (eD y.DA) false),(.l 2137 5,.arr 85 1 (eV y.WA) false),(.l 10 6,.blk [IC (s.tm+1),.view (.l 89 5) 0 s.ds.length,.view (.l 2137 5) 0 s.ws.length]),(.l 96 7,.arr 3 1 (eL y.A) false),(.l 100 8,.arr 51 7 (eRc y.RA) false),(.l 104 8,.arr 3 1 (eL y.LA) false),(.l 109 8,.arr 3 1 (eL y.CA) false),(.l 12 8,.blk [.view (.l 100 8) 0 c.si.length,.view (.l 104 8) 0 N,.view (.l 109 8) 0 c.rv.ls.length])],30,[]⟩),
    fun y=>(y.n:Int)≤c.rv.n∧ndI c s p.inf y.DA y.RA y.WA y.A y.LA y.CA y.n,fun y=>N - y.n,⟨0,s.ds,s.ws,p.inf,List.replicate c.si.length ⟨0,0,0,0,0,0,0⟩,List.replicate N 0,List.replicate c.rv.ls.length 0⟩,⟨by dsimp only;omega,ndI.zero hr hvn hvw n1 N hN.symm v.k⟩,?_,fun y hy=>?_⟩
  · have ez:∀ n,eL (List.replicate n 0)=List.replicate n [IC 0]:=fun n=>by simp [eL,eI]
    have ez2:∀ n,eRc (List.replicate n ⟨0,0,0,0,0,0,0⟩)=List.replicate n [IC 0,IC 0,IC 0,IC 0,IC 0,IC 0,IC 0]:=fun n=>by simp [eRc,rcC]
    dsimp only
    rw [ez,ez,ez2]
    exact Shift.reset ⟨rfl,rfl,rfl,rfl,rfl,rfl,rfl,rfl,rfl,trivial⟩ ⟨rfl,rfl,rfl,rfl,rfl,rfl,rfl,rfl,rfl,rfl,rfl,rfl,rfl,trivial⟩ rfl rfl
  obtain ⟨n,DA,WA,A,RA,LA,CA⟩:=y
  obtain ⟨hn,hI⟩:=hy
  dsimp only at hn hI ⊢
  have hmD:=eD_len DA
  have hmW:=eV_len WA
  have hmA:=eL_len A
  have hmR:=eRc_len RA
  have hmL:=eL_len LA
  have hmC:=eL_len CA
  have lD:=hI.ld
  have lW:=hI.lw
  have lR:=hI.lr
  have lL:=hI.ll
  have lC:=hI.lc
  have lA:=hI.la
  conv=>whnf
  refine Fork.mk (fun h=>?_) (fun h=>?_)
  rotate_left
  · have hne:c.rv.n≤n:=by simpa using h
    clear h
    have hst:=hI.done (p:=p) v hne n1 n2 n3 r1 ht
    have tD:List.take s.ds.length (List.drop 0 (eD DA))=eD DA:=by rw [List.drop_zero,List.take_of_length_le (by omega)]
    have tW:List.take s.ws.length (List.drop 0 (eV WA))=eV WA:=by rw [List.drop_zero,List.take_of_length_le (by omega)]
    have tR:List.take c.si.length (List.drop 0 (eRc RA))=eRc RA:=by rw [List.drop_zero,List.take_of_length_le (by omega)]
    have tL:List.take N (List.drop 0 (eL LA))=eL LA:=by rw [List.drop_zero,List.take_of_length_le (by omega)]
    have tC:List.take c.rv.ls.length (List.drop 0 (eL CA))=eL CA:=by rw [List.drop_zero,List.take_of_length_le (by omega)]
    conv=>whnf
    refine ⟨by omega,?_⟩
    conv=>whnf
    refine ⟨by omega,?_⟩
    conv=>whnf
    refine ⟨by omega,?_⟩
    conv=>whnf
    refine ⟨by omega,?_⟩
    conv=>whnf
    refine ⟨by omega,?_⟩
    conv=>whnf
    rw [tD,tW,tR,tL,tC]
    exact hk _ _ 0 hst.fin ⟨by dsimp only;omega,by dsimp only;omega,by dsimp only;omega⟩ (fun _=>hst)
  have hn2:(n:Int) < c.rv.n:=by simpa using h
  clear h
  have hgn:A[n]?=some (gA A n):=by rw [gA_nat];exact gN_get (by omega)
  have hwn:=wr_succ (i:=n) (by omega)
  conv=>whnf
  refine ⟨by omega,rfl,?_⟩
  conv=>whnf
  refine ⟨eI (gA A n),by rw [Nat.zero_add,Int.toNat_natCast,List.getElem?_map,hgn];rfl,?_⟩
  conv=>whnf
  refine ⟨Nat × List Dt × List Rc × Int,fun y=>([(3,.c (.ptr (.l 3 0) 0)),(4,.c (.ptr (.l 4 1) 0)),(5,.c (.ptr (.l 5 2) 0)),(6,.c (.ptr (.l 6 3) 0)),(7,.c (.ptr (.l 7 4) 0)),(10,.c (.ptr (.l 10 6) 0)),(11,.c (.view (.l 96 7) 0 N)),(12,.c (.ptr (.l 12 8) 0)),(13,I n),(14,I y.2.2.2),(123,.c (.lst (eX c.si))),(124,I (eX c.si).length),(125,I y.1)],⟨[(.l 3 0,.blk (csC c)),(.l 4 1,.blk (flC s)),(.l 5 2,.blk (suC p)),(.l 6 3,.blk [IC 0,.sc (.slice none 0 0),.sc (.slice none 0 0)]),(.l 7 4,.blk [.sc (.slice none 0 0),.sc (.slice none 0 0),.sc (.slice none 0 0)]),(.l 89 5,.arr 117 4 (eD y.2.1) false),(.l 2137 5,.arr 85 1 (eV WA) false),(.l 10 6,.blk [IC (s.tm+1),.view (.l 89 5) 0 s.ds.length,.view (.l 2137 5) 0 s.ws.length]),(.l 96 7,.arr 3 1 (eL A) false),(.l 100 8,.arr 51 7 (eRc y.2.2.1) false),(.l 104 8,.arr 3 1 (eL LA) false),(.l 109 8,.arr 3 1 (eL CA) false),(.l 12 8,.blk [.view (.l 100 8) 0 c.si.length,.view (.l 104 8) 0 N,.view (.l 109 8) 0 c.rv.ls.length])],50,[]⟩),
    fun y=>y.1≤c.si.length∧ndI c s p.inf y.2.1 y.2.2.1 WA A LA CA n∧lvI c s y.2.1 y.2.2.1 A n y.1 y.2.2.2,fun y=>c.si.length - y.1,(0,DA,RA,gA A n),⟨Nat.zero_le _,hI,.inl ⟨fun k x hk=>by omega,rfl⟩⟩,Shift.reset ⟨rfl,rfl,rfl,rfl,rfl,rfl,rfl,rfl,rfl,rfl,rfl,rfl,rfl,trivial⟩ ⟨rfl,rfl,rfl,rfl,rfl,rfl,rfl,rfl,rfl,rfl,rfl,rfl,rfl,trivial⟩ rfl rfl,fun y hy=>?_⟩
  clear hI hmD hmR lD lR
  clear DA RA
  obtain ⟨i,DA,RA,lv⟩:=y
  obtain ⟨hi,hI,hV⟩:=hy
  dsimp only at hi hI hV ⊢
  have hmD:=eD_len DA
  have hmR:=eRc_len RA
  have lD:=hI.ld
  have lR:=hI.lr
  conv=>whnf
  refine Fork.mk (fun h=>?_) (fun h=>?_)
  · have hi2:i < c.si.length:=by simp at h;omega
    clear h
    have hci:=List.getElem?_eq_getElem hi2
    have hfx:=hc.d _ (List.getElem_mem hi2)
    generalize c.si[i]=x at hci hfx
    have hw1:=wr_succ (i:=i) (by omega)
    conv=>whnf
    refine ⟨by omega,siC x,by rw [Int.toNat_natCast,List.getElem?_map,hci];rfl,rfl,?_⟩
    conv=>whnf
    refine Fork.mk (fun h=>?_) (fun h=>?_)
    rotate_left
    · have hne:x.nd ≠ n:=by simpa using h
      conv=>whnf
      rw [hw1]
      exact ⟨(i+1,DA,RA,lv),⟨hi2,hI,hV.skip hci hne⟩,Shift.reset ⟨rfl,rfl,rfl,rfl,rfl,rfl,rfl,rfl,rfl,rfl,rfl,rfl,rfl,trivial⟩ ⟨rfl,rfl,rfl,rfl,rfl,rfl,rfl,rfl,rfl,rfl,rfl,rfl,rfl,trivial⟩ rfl rfl,by dsimp only;omega⟩
    have hxn:x.nd=n:=by simpa using h
    clear h
    have hcz:=List.getElem?_eq_getElem (show i < s.ds.length by omega)
    have hfz:=hs.d _ (List.getElem_mem (show i < s.ds.length by omega))
    have hcl:=List.getElem?_eq_getElem (show i < p.los.length by omega)
    have hct:=List.getElem?_eq_getElem (show i < p.tar.length by omega)
    generalize s.ds[i]=z at hcz hfz
    generalize p.los[i]=lo at hcl
    generalize p.tar[i]=ta at hct
    have hD0:=List.getElem?_eq_getElem (show i < DA.length by omega)
    have hR0:=List.getElem?_eq_getElem (show i < RA.length by omega)
    conv=>whnf
    refine ⟨by omega,dtC z,by rw [Int.toNat_natCast,List.getElem?_map,hcz];rfl,rfl,?_⟩
    conv=>whnf
    refine ⟨by omega,rfl,?_⟩
    conv=>whnf
    refine ⟨eI (gA A n),by rw [Nat.zero_add,Int.toNat_natCast,List.getElem?_map,hgn];rfl,?_⟩
    conv=>whnf
    refine ⟨by omega,eI lo,by rw [Int.toNat_natCast,List.getElem?_map,hcl];rfl,rfl,?_⟩
    conv=>whnf
    refine ⟨by omega,eI ta,by rw [Int.toNat_natCast,List.getElem?_map,hct];rfl,rfl,?_⟩
    conv=>whnf
    refine ⟨x.d,z,gA A n,lo,ta,rfl,hfx,hfz,fun z' r e hzf hst=>?_⟩
    conv=>whnf
    refine Fork.mk (fun h=>?_) (fun h=>?_)
    · have he:e ≠ 0:=by simpa using h
      conv=>whnf
      exact hbad _ he
    have he:e=0:=by simpa using h
    clear h
    have hst:=hst he
    obtain ⟨zk1,zv,_⟩:=validD_at hst.v0
    have zc:=valC_in (ckS_ok (ckD_ok zk1).s).1 x.d.r.crest
    have zv':=(validD_at hst.v).2.1
    have zw:=hst.w
    have zi:=hst.i
    conv=>whnf
    refine ⟨r,rfl,hst.rs,by omega,?_⟩
    conv=>whnf
    refine ⟨by omega,rfl,?_⟩
    conv=>whnf
    refine ⟨dtC DA[i],by rw [Nat.zero_add,Int.toNat_natCast,List.getElem?_map,hD0];rfl,Nat.le_refl _,?_⟩
    conv=>whnf
    refine ⟨by omega,rfl,?_⟩
    conv=>whnf
    refine ⟨rcC RA[i],by rw [Nat.zero_add,Int.toNat_natCast,List.getElem?_map,hR0];rfl,Nat.le_refl _,?_⟩
    conv=>whnf
    rw [hw1]
    have q1:(eD DA).set (0+((i:Int)).toNat) (dtC z')=eD (DA.set i z'):=by rw [Nat.zero_add,Int.toNat_natCast,eD_set]
    have q2:(eRc RA).set (0+((i:Int)).toNat) (rcC r)=eRc (RA.set i r):=by rw [Nat.zero_add,Int.toNat_natCast,eRc_set]
    refine ⟨(i+1,DA.set i z',RA.set i r,floR r),⟨hi2,hI.site v.k hci hxn,hV.site v.k hci hxn hcz (by omega) (by omega) hst⟩,Shift.reset ⟨rfl,rfl,rfl,rfl,rfl,rfl,rfl,rfl,rfl,rfl,rfl,rfl,rfl,trivial⟩ ⟨rfl,rfl,rfl,rfl,rfl,?_,rfl,rfl,rfl,?_,rfl,rfl,rfl,trivial⟩ rfl rfl,by dsimp only;omega⟩
    · dsimp only;rw [← q1];rfl
    · dsimp only;rw [← q2];rfl
  have hie:c.si.length≤i:=by simp at h;omega
  clear h
  have hL:=hI.left v.k hie hV ⟨by omega,hn2⟩
  rw [Int.toNat_natCast] at hL
  clear hI hV
  have hL0:=List.getElem?_eq_getElem (show n < LA.length by omega)
  conv=>whnf
  refine ⟨by omega,rfl,?_⟩
  conv=>whnf
  refine ⟨eI LA[n],by rw [Nat.zero_add,Int.toNat_natCast,List.getElem?_map,hL0];rfl,Nat.le_refl _,?_⟩
  have q3:(eL LA).set (0+((n:Int)).toNat) (eI lv)=eL (LA.set n lv):=by rw [Nat.zero_add,Int.toNat_natCast,eL_set]
  conv=>whnf
  refine ⟨Nat × List Ls × Ls × Ls,fun y=>([(3,.c (.ptr (.l 3 0) 0)),(4,.c (.ptr (.l 4 1) 0)),(5,.c (.ptr (.l 5 2) 0)),(6,.c (.ptr (.l 6 3) 0)),(7,.c (.ptr (.l 7 4) 0)),(10,.c (.ptr (.l 10 6) 0)),(11,.c (.view (.l 96 7) 0 N)),(12,.c (.ptr (.l 12 8) 0)),(13,I n),(14,I lv),(185,.c (.lst (eK c.rv.ls))),(186,I (eK c.rv.ls).length),(187,I y.1)],⟨[(.l 3 0,.blk (csC c)),(.l 4 1,.blk (flC s)),(.l 5 2,.blk (suC p)),(.l 6 3,.blk [IC 0,.sc (.slice none 0 0),.sc (.slice none 0 0)]),(.l 7 4,.blk [.sc (.slice none 0 0),.sc (.slice none 0 0),.sc (.slice none 0 0)]),(.l 89 5,.arr 117 4 (eD DA) false),(.l 2137 5,.arr 85 1 (eV y.2.1) false),(.l 10 6,.blk [IC (s.tm+1),.view (.l 89 5) 0 s.ds.length,.view (.l 2137 5) 0 s.ws.length]),(.l 96 7,.arr 3 1 (eL y.2.2.1) false),(.l 100 8,.arr 51 7 (eRc RA) false),(.l 104 8,.arr 3 1 (eL (LA.set n lv)) false),(.l 109 8,.arr 3 1 (eL y.2.2.2) false),(.l 12 8,.blk [.view (.l 100 8) 0 c.si.length,.view (.l 104 8) 0 N,.view (.l 109 8) 0 c.rv.ls.length])],70,[]⟩),
    fun y=>y.1≤c.rv.ls.length∧lnI c s p.inf DA RA y.2.1 y.2.2.1 (LA.set n lv) y.2.2.2 n y.1 lv,fun y=>c.rv.ls.length - y.1,(0,WA,A,CA),⟨Nat.zero_le _,hL⟩,Shift.reset ⟨rfl,rfl,rfl,rfl,rfl,rfl,rfl,rfl,rfl,rfl,rfl,rfl,rfl,trivial⟩ ⟨rfl,rfl,rfl,rfl,rfl,rfl,rfl,rfl,rfl,rfl,?_,rfl,rfl,trivial⟩ rfl rfl,fun y hy=>?_⟩
  · dsimp only;rw [← q3];rfl
  clear q3 hL hL0 hgn hmA hmC hmW lA lC lW
  clear WA A CA
  generalize LA.set n lv=LB at *
  clear hmL lL
  obtain ⟨j,WA,A,CA⟩:=y
  obtain ⟨hj,hL⟩:=hy
  dsimp only at hj hL ⊢
  have hmW:=eV_len WA
  have hmA:=eL_len A
  have hmC:=eL_len CA
  have hmB:=eL_len LB
  have lW:=hL.lw
  have lB:=hL.ll
  have lC:=hL.lc
  have lA:=hL.la
  conv=>whnf
  refine Fork.mk (fun h=>?_) (fun h=>?_)
  rotate_left
  · have hje:c.rv.ls.length≤j:=by simp at h;omega
    conv=>whnf
    rw [hwn]
    have hdn:=hL.done hje
    rw [show (n:Int)+1=((n+1:Nat):Int) by omega] at hdn
    exact ⟨⟨n+1,DA,WA,A,RA,LB,CA⟩,⟨by dsimp only;omega,hdn⟩,Shift.reset ⟨rfl,rfl,rfl,rfl,rfl,rfl,rfl,rfl,rfl,trivial⟩ ⟨rfl,rfl,rfl,rfl,rfl,rfl,rfl,rfl,rfl,rfl,rfl,rfl,rfl,trivial⟩ rfl rfl,by dsimp only;omega⟩
  have hj2:j < c.rv.ls.length:=by simp at h;omega
  clear h
  have hcj:=List.getElem?_eq_getElem hj2
  have hok:=hr.l _ (List.getElem_mem hj2)
  generalize c.rv.ls[j]=l at hcj hok
  have hw2:=wr_succ (i:=j) (by omega)
  conv=>whnf
  refine ⟨by omega,lkC l,by rw [Int.toNat_natCast,List.getElem?_map,hcj];rfl,rfl,?_⟩
  conv=>whnf
  refine Fork.mk (fun h=>?_) (fun h=>?_)
  rotate_left
  · have hne:l.fr ≠ n:=by simpa using h
    conv=>whnf
    rw [hw2]
    exact ⟨(j+1,WA,A,CA),⟨hj2,hL.skip hcj hne⟩,Shift.reset ⟨rfl,rfl,rfl,rfl,rfl,rfl,rfl,rfl,rfl,rfl,rfl,rfl,rfl,trivial⟩ ⟨rfl,rfl,rfl,rfl,rfl,rfl,rfl,rfl,rfl,rfl,rfl,rfl,rfl,trivial⟩ rfl rfl,by dsimp only;omega⟩
  have hfr:l.fr=n:=by simpa using h
  clear h
  have hcq:=List.getElem?_eq_getElem (show j < s.ws.length by omega)
  have hq24:=hw24 _ (List.getElem_mem (show j < s.ws.length by omega))
  generalize s.ws[j]=q at hcq hq24
  have hlw:=(rk_facts hok.r).2.1
  have hW0:=List.getElem?_eq_getElem (show j < WA.length by omega)
  have hC0:=List.getElem?_eq_getElem (show j < CA.length by omega)
  obtain ⟨w,cm,e,hE⟩:∃ w cm e,rkStep l.ws l.den q lv=(w,cm,e):=⟨_,_,_,rfl⟩
  conv=>whnf
  refine ⟨by omega,wvC q,by rw [Int.toNat_natCast,List.getElem?_map,hcq];rfl,rfl,?_⟩
  conv=>whnf
  refine ⟨l.ws,q,rfl,rfl,by omega,by omega,?_⟩
  rw [hE]
  dsimp only
  conv=>whnf
  refine Fork.mk (fun h=>?_) (fun h=>?_)
  · have he:e ≠ 0:=by simpa using h
    conv=>whnf
    exact hbad _ he
  have he:e=0:=by simpa using h
  clear h
  subst he
  have ho:=hok.o
  have hto:=hok.t
  have hN2:=hL.link hr v.w hcj hfr hcq hE
  have hcb:=hN2.cb cm (List.mem_of_getElem? (List.getElem?_set_self (by omega)))
  have hAb:=hL.bound hr r1 l.to ⟨by omega,by omega⟩
  obtain ⟨T,hT⟩:=Int.eq_ofNat_of_zero_le (show 0≤l.to by omega)
  have hA0:A[T]?=some (gA A l.to):=by rw [hT,gA_nat];exact gN_get (by omega)
  have e5:IntKind.i64.wrap (gA A l.to+cm)=gA A l.to+cm:=wrap_in (by omega) (by omega)
  conv=>whnf
  refine ⟨by omega,rfl,?_⟩
  conv=>whnf
  refine ⟨wvC WA[j],by rw [Nat.zero_add,Int.toNat_natCast,List.getElem?_map,hW0];rfl,Nat.le_refl _,?_⟩
  conv=>whnf
  refine ⟨by omega,rfl,?_⟩
  conv=>whnf
  refine ⟨eI CA[j],by rw [Nat.zero_add,Int.toNat_natCast,List.getElem?_map,hC0];rfl,Nat.le_refl _,?_⟩
  have hTn:0+l.to.toNat=T:=by omega
  have hcell:(eL A)[0+l.to.toNat]?=some (eI (gA A l.to)):=by rw [hTn,List.getElem?_map,hA0];rfl
  conv=>whnf
  refine ⟨by omega,rfl,?_⟩
  conv=>whnf
  refine ⟨eI (gA A l.to),hcell,?_⟩
  conv=>whnf
  refine ⟨by omega,rfl,?_⟩
  conv=>whnf
  refine ⟨eI (gA A l.to),hcell,Nat.le_refl _,?_⟩
  conv=>whnf
  rw [hw2,e5]
  have q1:(eV WA).set (0+((j:Int)).toNat) (wvC w)=eV (WA.set j w):=by rw [Nat.zero_add,Int.toNat_natCast,eV_set]
  have q2:(eL CA).set (0+((j:Int)).toNat) (eI cm)=eL (CA.set j cm):=by rw [Nat.zero_add,Int.toNat_natCast,eL_set]
  have q4:(eL A).set (0+l.to.toNat) (eI (gA A l.to+cm))=eL (A.set l.to.toNat (gA A l.to+cm)):=by rw [Nat.zero_add,eL_set]
  refine ⟨(j+1,WA.set j w,A.set l.to.toNat (gA A l.to+cm),CA.set j cm),⟨hj2,hN2⟩,Shift.reset ⟨rfl,rfl,rfl,rfl,rfl,rfl,rfl,rfl,rfl,rfl,rfl,rfl,rfl,trivial⟩ ⟨rfl,rfl,rfl,rfl,rfl,rfl,?_,rfl,?_,rfl,rfl,?_,rfl,trivial⟩ rfl rfl,by dsimp only;omega⟩
  · dsimp only;rw [← q1];rfl
  · dsimp only;rw [← q4];rfl
  · dsimp only;rw [← q2];rfl
end Go.Proofs
