/- A step of a cascade: what holds of it, node by node. No program. -/
import Derived.Test.YtgllikepncnpkaaGreatA34f
import Derived.Test.YtgllikepncnpkaaGreatH34
namespace Go.Proofs
open Go Go.Abs
set_option linter.unusedSimpArgs false
set_option linter.unusedVariables false
def inS : List Lk→Ls→Int→Int
  | l :: r,c :: t,j=>(if l.to = j then c else 0) + inS r t j
  | _,_,_=>0
theorem inS_cons (l : Lk) (r : List Lk) (c : Int) (t : Ls) (j : Int) : inS (l :: r) (c :: t) j = (if l.to = j then c else 0) + inS r t j:=rfl
theorem inS_set {j v : Int} : ∀ {ls : List Lk} {cm : Ls} {i : Nat} {l : Lk},ls[i]? = some l→cm[i]? = some 0→inS ls (cm.set i v) j = inS ls cm j + if l.to = j then v else 0
  | [],_,_,_,h,_=>by simp at h
  | _ :: _,[],_,_,_,h=>by simp at h
  | a :: r,c :: t,0,l,h1,h2=>by
    simp at h1 h2
    subst h1 h2
    rw [List.set_cons_zero,inS_cons,inS_cons]
    split <;> omega
  | a :: r,c :: t,i + 1,l,h1,h2=>by
    rw [List.set_cons_succ,inS_cons,inS_cons,inS_set (l:=l) (by simpa using h1) (by simpa using h2)]
    omega
theorem inS_zero {j : Int} : ∀ (ls : List Lk) (n : Nat),inS ls (List.replicate n 0) j = 0
  | [],n=>by cases n <;> rfl
  | l :: r,0=>rfl
  | l :: r,n + 1=>by rw [List.replicate_succ,inS_cons,inS_zero r n];split <;> rfl
theorem inS_b {j B : Int} (hB : 0≤B) : ∀ {ls : List Lk} {cm : Ls},(∀ c ∈ cm,0≤c∧c≤B)→0≤inS ls cm j∧inS ls cm j≤B * ls.length
  | [],cm,_=>by cases cm <;> simp [inS]
  | l :: r,[],_=>by
    have : 0≤B * ((l :: r).length : Int):=Int.mul_nonneg hB (by omega)
    simp only [inS]
    omega
  | l :: r,c :: t,h=>by
    have a:=h c (by simp)
    have b:=inS_b (j:=j) hB (ls:=r) (cm:=t) fun x hx=>h x (by simp [hx])
    rw [inS_cons,List.length_cons,Int.natCast_add,Int.mul_add]
    simp only [Int.natCast_one,Int.mul_one]
    split <;> omega
/-- What holds of a site behind a step. -/
def siteR (c : Cs) (s : Fl) (inf : Ls) (DA : List Dt) (RA : List Rc) (LA CA : Ls) (i : Nat) : Prop :=
  ∀ x z,c.si[i]? = some x→s.ds[i]? = some z→∃ z' r,DA[i]? = some z'∧RA[i]? = some r∧stepD x.d z (gA inf x.nd + inS c.rv.ls CA x.nd) z' r∧gA LA x.nd = floR r
def linkR (c : Cs) (s : Fl) (WA : List Ls) (LA CA : Ls) (i : Nat) : Prop :=
  ∀ l q,c.rv.ls[i]? = some l→s.ws[i]? = some q→∃ w v,WA[i]? = some w∧CA[i]? = some v∧rkStep l.ws l.den q (gA LA l.fr) = (w,v,0)
/-- What a step of a cascade answers. -/
structure stepC (c : Cs) (s : Fl) (p : Su) (s' : Fl) (x : Pd) : Prop where
  va : VaOk c s
  n1 : (p.inf.length : Int) = c.rv.n
  n2 : p.los.length = c.si.length
  n3 : p.tar.length = c.si.length
  r1 : p.inf.all (inB 0 1073741824) = true
  t : s.tm < 16777216∧s'.tm = s.tm + 1
  ld : s'.ds.length = c.si.length
  lw : s'.ws.length = c.rv.ls.length
  lr : x.re.length = c.si.length
  ll : (x.left.length : Int) = c.rv.n
  lc : x.came.length = c.rv.ls.length
  st : ∀ i,siteR c s p.inf s'.ds x.re x.left x.came i
  lk : ∀ i,linkR c s s'.ws x.left x.came i
  no : ∀ j : Int,0≤j→j < c.rv.n→(∀ y ∈ c.si,y.nd ≠ j)→gA x.left j = gA p.inf j + inS c.rv.ls x.came j
  cb : ∀ v ∈ x.came,0≤v∧v≤1125899906842624
/-- What the arrays look like while links of a node are done: node n, sites up to n, links before n and those of n before i. -/
structure lnI (c : Cs) (s : Fl) (inf : Ls) (DA : List Dt) (RA : List Rc) (WA : List Ls) (A LA CA : Ls) (n : Int) (i : Nat) (lv : Int) : Prop where
  ld : DA.length = c.si.length
  lw : WA.length = c.rv.ls.length
  lr : RA.length = c.si.length
  ll : (LA.length : Int) = c.rv.n
  lc : CA.length = c.rv.ls.length
  la : (A.length : Int) = c.rv.n
  a : ∀ j : Int,0≤j→j < c.rv.n→gA A j = gA inf j + inS c.rv.ls CA j
  cb : ∀ v ∈ CA,0≤v∧v≤1125899906842624
  z : ∀ (k : Nat) l,c.rv.ls[k]? = some l→(n < l.fr ∨ (l.fr = n∧i≤k))→CA[k]? = some 0
  st : ∀ (k : Nat) x,c.si[k]? = some x→x.nd≤n→siteR c s inf DA RA LA CA k
  lk : ∀ (k : Nat) l,c.rv.ls[k]? = some l→(l.fr < n ∨ (l.fr = n∧k < i))→linkR c s WA LA CA k
  no : ∀ j : Int,0≤j→j≤n→(∀ y ∈ c.si,y.nd ≠ j)→gA LA j = gA inf j + inS c.rv.ls CA j
  nb : 0≤n∧n < c.rv.n
  lv : gA LA n = lv
theorem gA_set {a : Ls} {i j : Int} {v : Int} (hi : 0≤i) (h : i.toNat < a.length) (hj : 0≤j) : gA (a.set i.toNat v) j = if j = i then v else gA a j:=by
  have:=gN_set (a:=a) (i:=i.toNat) (j:=j.toNat) (v:=v) h
  unfold gA
  unfold gN at this
  rw [this]
  by_cases e : j = i
  · rw [if_pos e,if_pos (by rw [e])]
  · rw [if_neg e,if_neg (by omega)]
theorem lnI.bound {c : Cs} {s : Fl} {inf : Ls} {DA : List Dt} {RA : List Rc} {WA : List Ls} {A LA CA : Ls} {n : Int} {i : Nat} {lv : Int} (h : lnI c s inf DA RA WA A LA CA n i lv) (hr : RvOk c.rv) (hin : inf.all (inB 0 1073741824) = true) (j : Int) (hj : 0≤j∧j < c.rv.n) : 0≤gA A j∧gA A j≤72057594037927936:=by
  have:=h.a j hj.1 hj.2
  have hb:=inS_b (j:=j) (ls:=c.rv.ls) (B:=1125899906842624) (by omega) h.cb
  have hl:=hr.len
  have hi : 0≤gA inf j∧gA inf j≤1073741824:=by
    unfold gA
    rw [List.getD_eq_getElem?_getD]
    cases e : inf[j.toNat]? with
    | none=>simp
    | some v =>
      have:=List.all_eq_true.1 hin v (List.mem_of_getElem? e)
      simp [inB] at this
      simpa using this
  have hm : 1125899906842624 * (c.rv.ls.length : Int)≤1125899906842624 * 40:=Int.mul_le_mul_of_nonneg_left (by omega) (by omega)
  omega
/-- A link of another node changes nothing. -/
theorem lnI.skip {c : Cs} {s : Fl} {inf : Ls} {DA : List Dt} {RA : List Rc} {WA : List Ls} {A LA CA : Ls} {n : Int} {i : Nat} {lv : Int} {l : Lk} (h : lnI c s inf DA RA WA A LA CA n i lv) (hl : c.rv.ls[i]? = some l) (hf : l.fr ≠ n) : lnI c s inf DA RA WA A LA CA n (i + 1) lv :=
  { h with
    z:=fun k y hk e=>h.z k y hk (by rcases e with e | e <;> omega)
    lk:=fun k y hk e=>by
      by_cases hki : k = i
      · subst hki;rw [hl] at hk;cases hk;exact h.lk k l hl (by rcases e with e | e <;> omega)
      · exact h.lk k y hk (by rcases e with e | e <;> omega) }
theorem lnI.link {c : Cs} {s : Fl} {inf : Ls} {DA : List Dt} {RA : List Rc} {WA : List Ls} {A LA CA : Ls} {n : Int} {i : Nat} {lv : Int} {l : Lk} {q w : Ls} {v : Int} (h : lnI c s inf DA RA WA A LA CA n i lv) (hr : RvOk c.rv) (hw : WvOk c.rv s.ws) (hl : c.rv.ls[i]? = some l) (hf : l.fr = n) (hq : s.ws[i]? = some q)
    (e : rkStep l.ws l.den q lv = (w,v,0)) : lnI c s inf DA RA (WA.set i w) (A.set l.to.toNat (gA A l.to + v)) LA (CA.set i v) n (i + 1) lv:=by
  have hi:=(List.getElem?_eq_some_iff.1 hl).1
  have hok:=hr.l l (List.mem_of_getElem? hl)
  have hz:=h.z i l hl (.inr ⟨hf,Nat.le_refl _⟩)
  have ho:=hok.o
  have ht:=hok.t
  have hf0:=hok.f
  have hvb : 0≤v∧v≤1125899906842624:=by
    have h1:=hw.f i l q hl hq
    rw [step_eq hok.r h1] at e
    by_cases hg : (inQ lv && stepB l.ws q lv) = true
    · rw [if_pos hg] at e
      have:=out_in hok.r h1 (show stG l q lv = true from hg)
      cases e
      exact this
    · rw [if_neg hg] at e
      cases e
  have hne : ∀ j : Int,j≤n→inS c.rv.ls (CA.set i v) j = inS c.rv.ls CA j:=fun j hj=>by
    rw [inS_set hl hz,if_neg (by omega)];omega
  have hn:=h.nb
  have la:=h.la
  refine ⟨h.ld,by rw [List.length_set];exact h.lw,h.lr,h.ll,by rw [List.length_set];exact h.lc,by rw [List.length_set];exact h.la,fun j h1 h2=>?_,fun y hy=>?_,fun k y hk ee=>?_,fun k x hx hxn=>?_,fun k y hk ee=>?_,fun j h1 h2 h3=>?_,h.nb,h.lv⟩
  · rw [gA_set (by omega) (by omega) h1,inS_set hl hz]
    have:=h.a j h1 h2
    by_cases ej : j = l.to
    · rw [if_pos ej,if_pos ej.symm,← ej];omega
    · rw [if_neg ej,if_neg (Ne.symm ej)];omega
  · rcases List.mem_or_eq_of_mem_set hy with hy | rfl
    · exact h.cb y hy
    · exact hvb
  · have hki : k ≠ i:=by
      intro e2;subst e2;rw [hl] at hk;cases hk;rcases ee with ee | ee <;> omega
    rw [List.getElem?_set_ne (Ne.symm hki)]
    exact h.z k y hk (by rcases ee with ee | ee <;> omega)
  · intro x' z' hx' hz'
    obtain ⟨a,b,c1,c2,c3,c4⟩:=h.st k x hx hxn x' z' hx' hz'
    rw [hx] at hx';cases hx'
    exact ⟨a,b,c1,c2,by rw [hne _ hxn];exact c3,c4⟩
  · intro l' q' hl' hq'
    by_cases hki : k = i
    · subst hki
      rw [hl] at hl';cases hl'
      rw [hq] at hq';cases hq'
      have hwl:=h.lw
      have hcl:=h.lc
      exact ⟨w,v,List.getElem?_set_self (by omega),List.getElem?_set_self (by omega),by rw [hf,h.lv];exact e⟩
    · obtain ⟨a,b,c1,c2,c3⟩:=h.lk k y hk (by rcases ee with ee | ee <;> omega) l' q' hl' hq'
      exact ⟨a,b,by rw [List.getElem?_set_ne (Ne.symm hki)];exact c1,by rw [List.getElem?_set_ne (Ne.symm hki)];exact c2,c3⟩
  · rw [hne j h2]
    exact h.no j h1 h2 h3
/-- What the arrays look like before a node. -/
structure ndI (c : Cs) (s : Fl) (inf : Ls) (DA : List Dt) (RA : List Rc) (WA : List Ls) (A LA CA : Ls) (n : Int) : Prop where
  ld : DA.length = c.si.length
  lw : WA.length = c.rv.ls.length
  lr : RA.length = c.si.length
  ll : (LA.length : Int) = c.rv.n
  lc : CA.length = c.rv.ls.length
  la : (A.length : Int) = c.rv.n
  a : ∀ j : Int,0≤j→j < c.rv.n→gA A j = gA inf j + inS c.rv.ls CA j
  cb : ∀ v ∈ CA,0≤v∧v≤1125899906842624
  z : ∀ (k : Nat) l,c.rv.ls[k]? = some l→n≤l.fr→CA[k]? = some 0
  st : ∀ (k : Nat) x,c.si[k]? = some x→x.nd < n→siteR c s inf DA RA LA CA k
  lk : ∀ (k : Nat) l,c.rv.ls[k]? = some l→l.fr < n→linkR c s WA LA CA k
  no : ∀ j : Int,0≤j→j < n→(∀ y ∈ c.si,y.nd ≠ j)→gA LA j = gA inf j + inS c.rv.ls CA j
theorem lnI.done {c : Cs} {s : Fl} {inf : Ls} {DA : List Dt} {RA : List Rc} {WA : List Ls} {A LA CA : Ls} {n : Int} {i : Nat} {lv : Int} (h : lnI c s inf DA RA WA A LA CA n i lv) (hi : c.rv.ls.length≤i) : ndI c s inf DA RA WA A LA CA (n + 1) :=
  ⟨h.ld,h.lw,h.lr,h.ll,h.lc,h.la,h.a,h.cb,fun k l hk e=>h.z k l hk (.inl (by omega)),fun k x hx e=>h.st k x hx (by omega),fun k l hk e=>h.lk k l hk (by have:=(List.getElem?_eq_some_iff.1 hk).1;omega),fun j h1 h2 h3=>h.no j h1 (by omega) h3⟩
theorem ndI.bound {c : Cs} {s : Fl} {inf : Ls} {DA : List Dt} {RA : List Rc} {WA : List Ls} {A LA CA : Ls} {n : Int} (h : ndI c s inf DA RA WA A LA CA n) (hr : RvOk c.rv) (hin : inf.all (inB 0 1073741824) = true) (j : Int) (hj : 0≤j∧j < c.rv.n) : 0≤gA A j∧gA A j≤72057594037927936:=by
  have:=h.a j hj.1 hj.2
  have hb:=inS_b (j:=j) (ls:=c.rv.ls) (B:=1125899906842624) (by omega) h.cb
  have hl:=hr.len
  have hi : 0≤gA inf j∧gA inf j≤1073741824:=by
    unfold gA
    rw [List.getD_eq_getElem?_getD]
    cases e : inf[j.toNat]? with
    | none=>simp
    | some v =>
      have:=List.all_eq_true.1 hin v (List.mem_of_getElem? e)
      simp [inB] at this
      simpa using this
  have hm : 1125899906842624 * (c.rv.ls.length : Int)≤1125899906842624 * 40:=Int.mul_le_mul_of_nonneg_left (by omega) (by omega)
  omega
theorem ndI.zero {c : Cs} {s : Fl} {inf : Ls} (hr : RvOk c.rv) (hd : s.ds.length = c.si.length) (hw : s.ws.length = c.rv.ls.length) (hi : (inf.length : Int) = c.rv.n) (N : Nat) (hN : (N : Int) = c.rv.n) (hc : CsOk c) : ndI c s inf s.ds (List.replicate c.si.length ⟨0,0,0,0,0,0,0⟩) s.ws inf (List.replicate N 0) (List.replicate c.rv.ls.length 0) 0 :=
  ⟨hd,hw,by simp,by simpa using hN,by simp,hi,fun j h1 h2=>by rw [inS_zero];omega,fun v hv=>by rw [(List.mem_replicate.1 hv).2];omega,fun k l hk e=>by rw [List.getElem?_replicate,if_pos (List.getElem?_eq_some_iff.1 hk).1],
    fun k x hx e=>by have:=(hc.s x (List.mem_of_getElem? hx)).1;omega,fun k l hk e=>by have:=(hr.l l (List.mem_of_getElem? hk)).f;omega,fun j h1 h2=>by omega⟩
/-- While the sites of a node are looked at: what leaves it. -/
def lvI (c : Cs) (s : Fl) (DA : List Dt) (RA : List Rc) (A : Ls) (n : Int) (i : Nat) (lv : Int) : Prop :=
  ((∀ (k : Nat) x,k < i→c.si[k]? = some x→x.nd ≠ n)∧lv = gA A n) ∨ ∃ (k : Nat) (x : Si) (z z' : Dt) (r : Rc),k < i∧c.si[k]? = some x∧x.nd = n∧s.ds[k]? = some z∧DA[k]? = some z'∧RA[k]? = some r∧stepD x.d z (gA A n) z' r∧lv = floR r
theorem pwS_lt {c : Cs} (h : c.si.Pairwise (fun a b=>a.nd < b.nd)) {i j : Nat} {x y : Si} (hij : i < j) (hx : c.si[i]? = some x) (hy : c.si[j]? = some y) : x.nd < y.nd:=by
  obtain ⟨hi,rfl⟩:=List.getElem?_eq_some_iff.1 hx
  obtain ⟨hj,rfl⟩:=List.getElem?_eq_some_iff.1 hy
  exact List.pairwise_iff_getElem.1 h i j hi hj hij
theorem si_same {c : Cs} (h : CsOk c) {i j : Nat} {x y : Si} (hx : c.si[i]? = some x) (hy : c.si[j]? = some y) (e : x.nd = y.nd) : i = j:=by
  rcases Nat.lt_trichotomy i j with h1 | h1 | h1
  · have:=pwS_lt h.p h1 hx hy;omega
  · exact h1
  · have:=pwS_lt h.p h1 hy hx;omega
theorem lvI.skip {c : Cs} {s : Fl} {DA : List Dt} {RA : List Rc} {A : Ls} {n : Int} {i : Nat} {lv : Int} {x : Si} (h : lvI c s DA RA A n i lv) (hx : c.si[i]? = some x) (hn : x.nd ≠ n) : lvI c s DA RA A n (i + 1) lv:=by
  rcases h with ⟨h1,h2⟩ | ⟨k,y,z,z',r,h1,h2⟩
  · refine .inl ⟨fun k y hk hy=>?_,h2⟩
    by_cases e : k = i
    · subst e;rw [hx] at hy;cases hy;exact hn
    · exact h1 k y (by omega) hy
  · exact .inr ⟨k,y,z,z',r,by omega,h2⟩
theorem lvI.site {c : Cs} {s : Fl} {DA : List Dt} {RA : List Rc} {A : Ls} {n : Int} {i : Nat} {lv : Int} {x : Si} {z z' : Dt} {r : Rc} (h : lvI c s DA RA A n i lv) (hc : CsOk c) (hx : c.si[i]? = some x) (hn : x.nd = n) (hz : s.ds[i]? = some z) (hD : i < DA.length) (hR : i < RA.length) (hs : stepD x.d z (gA A n) z' r) :
    lvI c s (DA.set i z') (RA.set i r) A n (i + 1) (floR r):=.inr ⟨i,x,z,z',r,by omega,hx,hn,hz,List.getElem?_set_self hD,List.getElem?_set_self hR,hs,rfl⟩
/-- A site's arrays change at the node alone. -/
theorem ndI.site {c : Cs} {s : Fl} {inf : Ls} {DA : List Dt} {RA : List Rc} {WA : List Ls} {A LA CA : Ls} {n : Int} {i : Nat} {x : Si} {z' : Dt} {r : Rc} (h : ndI c s inf DA RA WA A LA CA n) (hc : CsOk c) (hx : c.si[i]? = some x) (hn : x.nd = n) : ndI c s inf (DA.set i z') (RA.set i r) WA A LA CA n :=
  { h with
    ld:=by rw [List.length_set];exact h.ld
    lr:=by rw [List.length_set];exact h.lr
    st:=fun k y hy e=>by
      have hki : k ≠ i:=by intro e2;subst e2;rw [hx] at hy;cases hy;omega
      intro x' z0 h1 h2
      obtain ⟨a,b,c1,c2,c3⟩:=h.st k y hy e x' z0 h1 h2
      exact ⟨a,b,by rw [List.getElem?_set_ne (Ne.symm hki)];exact c1,by rw [List.getElem?_set_ne (Ne.symm hki)];exact c2,c3⟩ }
/-- All sites are looked at: what leaves the node is written down. -/
theorem ndI.left {c : Cs} {s : Fl} {inf : Ls} {DA : List Dt} {RA : List Rc} {WA : List Ls} {A LA CA : Ls} {n : Int} {i : Nat} {lv : Int} (h : ndI c s inf DA RA WA A LA CA n) (hc : CsOk c) (hi : c.si.length≤i) (hl : lvI c s DA RA A n i lv) (hn : 0≤n∧n < c.rv.n) :
    lnI c s inf DA RA WA A (LA.set n.toNat lv) CA n 0 lv:=by
  have ll:=h.ll
  have hg : ∀ j : Int,0≤j→gA (LA.set n.toNat lv) j = if j = n then lv else gA LA j:=fun j hj=>gA_set hn.1 (by omega) hj
  have ha:=h.a n hn.1 hn.2
  refine ⟨h.ld,h.lw,h.lr,by rw [List.length_set];exact h.ll,h.lc,h.la,h.a,h.cb,fun k l hk e=>h.z k l hk (by rcases e with e | e <;> omega),fun k x hx e=>?_,fun k l hk e=>?_,fun j h1 h2 h3=>?_,hn,by rw [hg n hn.1,if_pos rfl]⟩
  · intro x' z hx' hz
    rw [hx] at hx';cases hx'
    have hx0:=(hc.s x (List.mem_of_getElem? hx)).1
    by_cases en : x.nd = n
    · rcases hl with ⟨h1,_⟩ | ⟨k',y,z1,z',r,h1,h2,h3,h4,h5,h6,h7,h8⟩
      · exact absurd en (h1 k x (by have:=(List.getElem?_eq_some_iff.1 hx).1;omega) hx)
      · have : k = k':=si_same hc hx h2 (by omega)
        subst this
        rw [hx] at h2;cases h2
        rw [hz] at h4;cases h4
        exact ⟨z',r,h5,h6,by rw [en,← ha];exact h7,by rw [hg _ (by omega),if_pos en];exact h8⟩
    · obtain ⟨a,b,c1,c2,c3,c4⟩:=h.st k x hx (by omega) x z hx hz
      exact ⟨a,b,c1,c2,c3,by rw [hg _ (by omega),if_neg en];exact c4⟩
  · intro l' q hl' hq
    rw [hk] at hl';cases hl'
    have hl0 : l.fr < n:=by rcases e with e | e <;> omega
    obtain ⟨a,b,c1,c2,c3⟩:=h.lk k l hk hl0 l q hk hq
    refine ⟨a,b,c1,c2,?_⟩
    have hf:=(hc.r.l l (List.mem_of_getElem? hk)).f
    rw [hg _ hf,if_neg (by omega)]
    exact c3
  · by_cases en : j = n
    · subst en
      rw [hg _ h1,if_pos rfl]
      rcases hl with ⟨_,h4⟩ | ⟨k',y,z1,z',r,h4,h5,h6,_⟩
      · rw [h4];exact ha
      · exact absurd h6 (h3 y (List.mem_of_getElem? h5))
    · rw [hg _ h1,if_neg en]
      exact h.no j h1 (by omega) h3
theorem ndI.done {c : Cs} {s : Fl} {p : Su} {DA : List Dt} {RA : List Rc} {WA : List Ls} {A LA CA : Ls} {n : Int} (h : ndI c s p.inf DA RA WA A LA CA n) (hv : VaOk c s) (hn : c.rv.n≤n) (n1 : (p.inf.length : Int) = c.rv.n) (n2 : p.los.length = c.si.length) (n3 : p.tar.length = c.si.length) (r1 : p.inf.all (inB 0 1073741824) = true) (ht : s.tm < 16777216) :
    stepC c s p ⟨s.tm + 1,DA,WA⟩ ⟨RA,LA,CA⟩ :=
  ⟨hv,n1,n2,n3,r1,⟨ht,rfl⟩,h.ld,h.lw,h.lr,h.ll,h.lc,fun i x z hx hz=>h.st i x hx (by have:=(hv.k.s x (List.mem_of_getElem? hx)).1;omega) x z hx hz,
    fun i l q hl hq=>h.lk i l hl (by have:=hv.k.r.l l (List.mem_of_getElem? hl);have:=this.o;have:=this;have:=(hv.k.r.l l (List.mem_of_getElem? hl)).t;omega) l q hl hq,fun j h1 h2 h3=>h.no j h1 (by omega) h3,h.cb⟩
theorem stepC.valid {c : Cs} {s : Fl} {p : Su} {s' : Fl} {x : Pd} (h : stepC c s p s' x) : VaOk c s':=by
  have ht:=h.t
  have hvt:=h.va.t
  have hn:=h.va.n
  have hl:=h.va.w.l
  refine ⟨h.va.k,by omega,h.ld,fun i y z hy hz=>?_,⟨h.lw,fun i l w hl' hw=>?_⟩⟩
  · have hi:=(List.getElem?_eq_some_iff.1 hy).1
    obtain ⟨z',r,h1,_,h3,_⟩:=h.st i y _ hy (List.getElem?_eq_getElem (show i < s.ds.length by omega))
    rw [h1] at hz;cases hz
    exact h3.v
  · have hi:=(List.getElem?_eq_some_iff.1 hl').1
    have hq:=List.getElem?_eq_getElem (show i < s.ws.length by omega)
    have hf:=h.va.w.f i l _ hl' hq
    have hk:=(h.va.k.r.l l (List.mem_of_getElem? hl')).r
    obtain ⟨w',v,h1,_,h3⟩:=h.lk i l _ hl' hq
    rw [h1] at hw;cases hw
    rw [step_eq hk hf] at h3
    by_cases hg : (inQ (gA x.left l.fr) && stepB l.ws s.ws[i] (gA x.left l.fr)) = true
    · rw [if_pos hg] at h3
      cases h3
      obtain ⟨a1,a2,a3⟩:=stG_ok (l:=l) (show stG l s.ws[i] (gA x.left l.fr) = true from hg)
      exact step_fits hk hf a1 a2 a3
    · rw [if_neg hg] at h3
      cases h3
theorem stepC.fin {c : Cs} {s : Fl} {p : Su} {s' : Fl} {x : Pd} (h : stepC c s p s' x) : s'.fin:=vaB_fin (vaB_of h.valid)
theorem eD_set (l : List Dt) (i : Nat) (v : Dt) : (eD l).set i (dtC v) = eD (l.set i v):=(List.map_set ..).symm
theorem eRc_set (l : List Rc) (i : Nat) (v : Rc) : (eRc l).set i (rcC v) = eRc (l.set i v):=(List.map_set ..).symm
theorem eV_set (l : List Ls) (i : Nat) (v : Ls) : (eV l).set i (wvC v) = eV (l.set i v):=(List.map_set ..).symm
structure S7 where
  n : Nat
  DA : List Dt
  WA : List Ls
  A : Ls
  RA : List Rc
  LA : Ls
  CA : Ls
def R_stC : RT:=fun args k=>∃ (c : Cs) (s : Fl) (p : Su),args = [.agg (csC c),.agg (flC s),.agg (suC p)]∧c.fin∧s.fin∧p.inf.length≤1000∧p.los.length≤1000∧p.tar.length≤1000 ∧
  ∀ (s' : Fl) (x : Pd) (e : Int),s'.fin→(x.re.length≤100∧x.left.length≤100∧x.came.length≤100)→(e = 0→stepC c s p s' x)→k (.tup [.agg (flC s'),.agg (pdC x),I e])
end Go.Proofs
