/- Proved here: what functions of the given program come to, and the plain laws of it; no condition but those in the theorems. -/
import Derived.Test.YtgllikepncnpkaaGreatPRun
import Derived.Test.YtgllikepncnpkaaGreatH34
namespace Go.Proofs
open Go Go.Abs
set_option linter.unusedSimpArgs false
set_option linter.unusedVariables false
structure Si where
  nd:Int
  d:Dm
def siC (x:Si):List Cell:=IC x.nd :: dmC x.d
abbrev eX (l:List Si):List (List Cell):=l.map siC
theorem eX_len (l:List Si):(eX l).length=l.length:=List.length_map _
structure Cs where
  rv:Rv
  si:List Si
def csC (c:Cs):List Cell:=[IC c.rv.n,.lst (eK c.rv.ls),.lst (eX c.si)]
abbrev eD (l:List Dt):List (List Cell):=l.map dtC
theorem eD_len (l:List Dt):(eD l).length=l.length:=List.length_map _
structure Fl where
  tm:Int
  ds:List Dt
  ws:List Ls
def flC (f:Fl):List Cell:=[IC f.tm,.lst (eD f.ds),.lst (eV f.ws)]
structure Su where
  inf:Ls
  los:Ls
  tar:Ls
def suC (p:Su):List Cell:=[.lst (eL p.inf),.lst (eL p.los),.lst (eL p.tar)]
abbrev eRc (l:List Rc):List (List Cell):=l.map rcC
theorem eRc_len (l:List Rc):(eRc l).length=l.length:=List.length_map _
structure Pd where
  re:List Rc
  left:Ls
  came:Ls
def pdC (p:Pd):List Cell:=[.lst (eRc p.re),.lst (eL p.left),.lst (eL p.came)]
structure Cs.fin (c:Cs):Prop where
  r:c.rv.fin
  n:c.si.length≤9223372036854775807
  d:∀ x ∈ c.si,x.d.fin
structure Fl.fin (f:Fl):Prop where
  n:f.ds.length≤9223372036854775807
  d:∀ x ∈ f.ds,x.fin
  w:vfin f.ws
def siE (n:Int):Option Int→List Si→Int
  | _,[]=>0
  | q,x :: r=>if x.nd < 0 then 41 else if n≤x.nd then 41 else if qleR q x.nd=true then 4 else if ckD x.d ≠ 0 then ckD x.d else siE n (some x.nd) r
theorem siE_cons (n:Int) (q:Option Int) (x:Si) (r:List Si):siE n q (x :: r)=if x.nd < 0 then 41 else if n≤x.nd then 41 else if qleR q x.nd=true then 4 else if ckD x.d ≠ 0 then ckD x.d else siE n (some x.nd) r:=rfl
def csE (c:Cs):Int:=if rvE c.rv ≠ 0 then rvE c.rv else if 12 < c.rv.n then 41 else if 6 < c.si.length then 10 else siE c.rv.n none c.si
def dsB:List Si→List Dt→Bool
  | x :: r,s :: t=>if validD x.d s=false then false else dsB r t
  | _,_=>true
def wsB:List Lk→List Ls→Bool
  | l :: r,p :: t=>if (decide (rkCheck l.ws l.den=0) && fitsB l.ws.length p)=false then false else wsB r t
  | _,_=>true
def stB (c:Cs) (l:List Dt):Bool:=if l.length ≠ c.si.length then false else dsB c.si l
def flB (c:Cs) (f:Fl):Bool:=if f.tm < 0 then false else if 16777216 < f.tm then false else if stB c f.ds=false then false else if f.ws.length ≠ c.rv.ls.length then false else wsB c.rv.ls f.ws
def vaB (c:Cs) (f:Fl):Bool:=decide (csE c=0) && flB c f
def prvS (l:List Si):Nat→Option Int
  | 0=>none
  | i+1=>(l[i]?).map (·.nd)
structure CsOk (c:Cs):Prop where
  r:RvOk c.rv
  n:c.rv.n≤12
  m:c.si.length≤6
  s:∀ x ∈ c.si,(0≤x.nd∧x.nd < c.rv.n)∧ckD x.d=0
  p:c.si.Pairwise (fun a b=>a.nd < b.nd)
theorem siE_ok {n:Int}:∀ {l:List Si} {q:Option Int},siE n q l=0→(∀ x ∈ l,(0≤x.nd∧x.nd < n)∧ckD x.d=0)∧(∀ p,q=some p→∀ x ∈ l,p < x.nd)∧l.Pairwise (fun a b=>a.nd < b.nd)
  | [],q,_=>⟨fun x h=>by simp at h,fun p _ x h=>by simp at h,.nil⟩
  | a :: l,q,h=>by
    rw [siE_cons] at h
    split at h
    · omega
    rename_i h1
    split at h
    · omega
    rename_i h2
    split at h
    · omega
    rename_i h3
    split at h
    · rename_i e;exact absurd h e
    rename_i h4
    obtain ⟨i1,i2,i3⟩:=siE_ok h
    refine ⟨fun x hx=>?_,fun p e x hx=>?_,List.pairwise_cons.2 ⟨fun b hb=>i2 _ rfl b hb,i3⟩⟩
    · rcases List.mem_cons.1 hx with rfl | hx
      · exact ⟨by omega,by omega⟩
      · exact i1 x hx
    · subst e
      have hp:p < a.nd:=by simp [qleR] at h3;omega
      rcases List.mem_cons.1 hx with rfl | hx
      · exact hp
      · have:=i2 _ rfl x hx;omega
theorem csE_ok {c:Cs} (h:csE c=0):CsOk c:=by
  unfold csE at h
  split at h
  · rename_i e;exact absurd h e
  rename_i h1
  split at h
  · omega
  split at h
  · omega
  obtain ⟨i1,_,i3⟩:=siE_ok h
  exact ⟨rvE_ok (by omega),by omega,by omega,i1,i3⟩
theorem siE_of {n:Int}:∀ {l:List Si} {q:Option Int},(∀ x ∈ l,(0≤x.nd∧x.nd < n)∧ckD x.d=0)→(∀ p,q=some p→∀ x ∈ l,p < x.nd)→l.Pairwise (fun a b=>a.nd < b.nd)→siE n q l=0
  | [],q,_,_,_=>rfl
  | a :: l,q,h1,h2,h3=>by
    obtain ⟨p1,p2⟩:=List.pairwise_cons.1 h3
    have ha:=h1 a (by simp)
    rw [siE_cons,if_neg (by omega),if_neg (by omega),if_neg,if_neg (by simp [ha.2])]
    · exact siE_of (fun x hx=>h1 x (by simp [hx])) (fun p e x hx=>by simp at e;subst e;exact p1 x hx) p2
    · cases q with
      | none=>simp [qleR]
      | some p=>have:=h2 p rfl a (by simp);simp [qleR];omega
theorem csE_of {c:Cs} (h:CsOk c):csE c=0:=by
  have a:=h.n
  have b:=h.m
  rw [csE,if_neg (by simp [rvE_of h.r]),if_neg (by omega),if_neg (by omega)]
  exact siE_of h.s (fun p e=>by cases e) h.p
structure VaOk (c:Cs) (f:Fl):Prop where
  k:CsOk c
  t:0≤f.tm∧f.tm≤16777216
  n:f.ds.length=c.si.length
  d:∀ (i:Nat) x s,c.si[i]?=some x→f.ds[i]?=some s→validD x.d s=true
  w:WvOk c.rv f.ws
theorem dsB_iff:∀ {l:List Si} {t:List Dt},dsB l t=true ↔ ∀ (i:Nat) x s,l[i]?=some x→t[i]?=some s→validD x.d s=true
  | [],_=>by simp [dsB]
  | _ :: _,[]=>by simp [dsB]
  | x :: r,s :: t=>by
    rw [dsB]
    constructor
    · intro h i y z hy hz
      split at h
      · cases h
      rename_i e
      cases i with
      | zero=>simp at hy hz;subst hy hz;simpa using e
      | succ i=>exact dsB_iff.1 h i y z (by simpa using hy) (by simpa using hz)
    · intro h
      rw [if_neg (by simp [h 0 x s rfl rfl])]
      exact dsB_iff.2 fun i y z hy hz=>h (i+1) y z (by simpa using hy) (by simpa using hz)
theorem wsB_iff:∀ {l:List Lk} {t:List Ls},wsB l t=true ↔ ∀ (i:Nat) x s,l[i]?=some x→t[i]?=some s→rkCheck x.ws x.den=0∧fitsB x.ws.length s=true
  | [],_=>by simp [wsB]
  | _ :: _,[]=>by simp [wsB]
  | x :: r,s :: t=>by
    rw [wsB]
    constructor
    · intro h i y z hy hz
      split at h
      · cases h
      rename_i e
      cases i with
      | zero=>simp at hy hz;subst hy hz;simpa using e
      | succ i=>exact wsB_iff.1 h i y z (by simpa using hy) (by simpa using hz)
    · intro h
      have:=h 0 x s rfl rfl
      rw [if_neg (by simp [this.1,this.2])]
      exact wsB_iff.2 fun i y z hy hz=>h (i+1) y z (by simpa using hy) (by simpa using hz)
theorem vaB_ok {c:Cs} {f:Fl} (h:vaB c f=true):VaOk c f:=by
  simp only [vaB,Bool.and_eq_true,decide_eq_true_eq] at h
  obtain ⟨h1,h2⟩:=h
  have hc:=csE_ok h1
  unfold flB at h2
  split at h2
  · cases h2
  split at h2
  · cases h2
  split at h2
  · cases h2
  split at h2
  · cases h2
  rename_i a1 a2 a3 a4
  have a3:stB c f.ds=true:=by simpa using a3
  unfold stB at a3
  split at a3
  · cases a3
  exact ⟨hc,by omega,by omega,dsB_iff.1 a3,⟨by omega,fun i a p h1 h3=>(wsB_iff.1 h2 i a p h1 h3).2⟩⟩
theorem vaB_of {c:Cs} {f:Fl} (h:VaOk c f):vaB c f=true:=by
  have a:=h.t
  have b:=h.n
  have hw:=h.w.l
  have hs:stB c f.ds=true:=by unfold stB;rw [if_neg (by omega)];exact dsB_iff.2 h.d
  simp only [vaB,Bool.and_eq_true,decide_eq_true_eq]
  refine ⟨csE_of h.k,?_⟩
  unfold flB
  rw [if_neg (by omega),if_neg (by omega),if_neg (by simp [hs]),if_neg (by omega)]
  exact wsB_iff.2 fun i x s hx hs=>⟨(h.k.r.l x (List.mem_of_getElem? hx)).r,h.w.f i x s hx hs⟩
theorem vaB_fin {c:Cs} {f:Fl} (h:vaB c f=true):f.fin:=by
  have v:=vaB_ok h
  have a:=v.n
  have b:=v.k.m
  refine ⟨by omega,fun s hs=>?_,(v.w.fin v.k.r).1⟩
  obtain ⟨i,hi⟩:=List.getElem?_of_mem hs
  have hl:=(List.getElem?_eq_some_iff.1 hi).1
  exact validD_fin (v.d i _ s (List.getElem?_eq_getElem (show i < c.si.length by omega)) hi)
theorem vaB_no {c:Cs} {f:Fl} (h:¬ VaOk c f):vaB c f=false:=by
  cases e:vaB c f with
  | false=>rfl
  | true=>exact absurd (vaB_ok e) h
theorem dsB_cons (x:Si) (r:List Si) (s:Dt) (t:List Dt):dsB (x :: r) (s :: t)=if validD x.d s=false then false else dsB r t:=rfl
theorem dsB_nil (t:List Dt):dsB [] t=true:=by cases t <;> rfl
theorem wsB_nil (t:List Ls):wsB [] t=true:=by cases t <;> rfl
theorem wsB_cons (l:Lk) (r:List Lk) (p:Ls) (t:List Ls):wsB (l :: r) (p :: t)=if (decide (rkCheck l.ws l.den=0) && fitsB l.ws.length p)=false then false else wsB r t:=rfl
def R_csI (f:Cs→Int):RT:=fun args k=>∃ c:Cs,args=[.agg (csC c)]∧c.fin∧k (I (f c))
def R_stB:RT:=fun args k=>∃ (c:Cs) (l:List Dt),args=[.agg (csC c),.c (.lst (eD l))]∧c.fin∧l.length≤9223372036854775807∧(∀ x ∈ l,x.fin)∧k (Bo (stB c l))
def R_cfB (g:Cs→Fl→Bool):RT:=fun args k=>∃ (c:Cs) (f:Fl),args=[.agg (csC c),.agg (flC f)]∧c.fin∧f.fin∧k (Bo (g c f))
def R_cfI (g:Cs→Fl→Int):RT:=fun args k=>∃ (c:Cs) (f:Fl),args=[.agg (csC c),.agg (flC f)]∧c.fin∧f.fin∧k (I (g c f))
def rdyE (c:Cs) (f:Fl):Int:=if csE c ≠ 0 then csE c else if vaB c f=false then 50 else 0
def snGo (x:Int):Nat→List Si→Int
  | _,[]=>-1
  | i,s :: r=>if s.nd=x then i else snGo x (i+1) r
def snA (l:List Si) (x:Int):Int:=snGo x 0 l
theorem snGo_is {x:Int}:∀ {l:List Si} {i:Nat},snGo x i l=-1∧(∀ s ∈ l,s.nd ≠ x) ∨ ∃ (j:Nat) (s:Si),l[j]?=some s∧s.nd=x∧snGo x i l=((i+j:Nat):Int)
  | [],i=>.inl ⟨rfl,fun s h=>by simp at h⟩
  | s :: r,i=>by
    rw [snGo]
    by_cases h:s.nd=x
    · rw [if_pos h]
      exact .inr ⟨0,s,rfl,h,by simp⟩
    · rw [if_neg h]
      rcases snGo_is (l:=r) (i:=i+1) with ⟨h1,h2⟩ | ⟨j,z,h1,h2,h3⟩
      · refine .inl ⟨h1,fun z hz=>?_⟩
        rcases List.mem_cons.1 hz with rfl | hz
        · exact h
        · exact h2 z hz
      · exact .inr ⟨j+1,z,by simpa using h1,h2,by rw [h3];congr 1;omega⟩
theorem snA_is (l:List Si) (x:Int):snA l x=-1∧(∀ s ∈ l,s.nd ≠ x) ∨ ∃ (j:Nat) (s:Si),l[j]?=some s∧s.nd=x∧snA l x=(j:Int):=by
  rcases snGo_is (x:=x) (l:=l) (i:=0) with h | ⟨j,s,h1,h2,h3⟩
  · exact .inl h
  · exact .inr ⟨j,s,h1,h2,by rw [snA,h3];simp⟩
end Go.Proofs

namespace Go.Proofs
open Go Go.Abs
set_option linter.unusedSimpArgs false
set_option linter.unusedVariables false
set_option maxRecDepth 20000
theorem csE_ok':FunR Tryz.prog 45 (R_csI csE):=by
  intro args k h
  obtain ⟨c,rfl,hc,hk⟩:=h
  have hmx:=eX_len c.si
  have hcn:=hc.n
  refine does_ex (qc:=qc1) (np:=[]) (CK:=ckK [(73,cSc R_rvE),(74,cSc (R_dmI ckD))]) mixed Tryz.func45 rfl rfl Tryz.ntmps45 Tryz.results45 τ_ok (by kernel_rfl) (ckK_ok ⟨cSc_ok rvE_ok',cSc_ok ckD_prog,trivial⟩) (by simp) ?_
  conv=>whnf
  refine ⟨c.rv,rfl,hc.r,?_⟩
  conv=>whnf
  refine Fork.mk (fun h=>?_) (fun h=>?_)
  · have h1:rvE c.rv ≠ 0:=by simpa using h
    conv=>whnf
    exact kI hk (by rw [csE,if_pos h1])
  have h1:¬ rvE c.rv ≠ 0:=by simpa using h
  clear h
  have hrn:=(rvE_ok (by omega:rvE c.rv=0)).n
  conv=>whnf
  refine Fork.mk (fun h=>?_) (fun h=>?_)
  · have h2:12 < c.rv.n:=by simpa using h
    conv=>whnf
    exact kI hk (by rw [csE,if_neg h1,if_pos h2])
  have h2:¬ 12 < c.rv.n:=by simpa using h
  clear h
  conv=>whnf
  refine Fork.mk (fun h=>?_) (fun h=>?_)
  · have h3:6 < c.si.length:=by simp at h;omega
    conv=>whnf
    exact kI hk (by rw [csE,if_neg h1,if_neg h2,if_pos h3])
  have h3:¬ 6 < c.si.length:=by simp at h;omega
  clear h
  conv=>whnf
  refine ⟨Nat,fun i=>([(1,.c (.ptr (.l 1 0) 0)),(22,.c (.lst (eX c.si))),(23,I (eX c.si).length),(24,I i)],⟨[(.l 1 0,.blk (csC c))],9,[]⟩),
    fun i=>i≤c.si.length∧siE c.rv.n none c.si=siE c.rv.n (prvS c.si i) (c.si.drop i),fun i=>c.si.length - i,0,⟨Nat.zero_le _,rfl⟩,Shift.reset ⟨rfl,rfl,rfl,rfl,trivial⟩ ⟨rfl,trivial⟩ rfl rfl,fun i hi=>?_⟩
  obtain ⟨hi1,hi2⟩:=hi
  dsimp only
  conv=>whnf
  refine Fork.mk (fun h=>?_) (fun h=>?_)
  rotate_left
  · have hie:i=c.si.length:=by simp at h;omega
    rw [hie,List.drop_length,siE] at hi2
    conv=>whnf
    exact kI hk (by rw [csE,if_neg h1,if_neg h2,if_neg h3,hi2])
  have hi:i < c.si.length:=by simp at h;omega
  clear h
  have hci:=List.getElem?_eq_getElem hi
  have hfu:=hc.d _ (List.getElem_mem hi)
  generalize c.si[i]=x at hci hfu
  rw [drop_of hci,siE_cons] at hi2
  have hw1:=wr_succ (i:=i) (by omega)
  have hE:∀ y,siE c.rv.n none c.si=y→csE c=y:=fun y e=>by rw [csE,if_neg h1,if_neg h2,if_neg h3,e]
  have hpx:prvS c.si (i+1)=some x.nd:=by rw [prvS,hci];rfl
  conv=>whnf
  refine ⟨by omega,siC x,by rw [Int.toNat_natCast,List.getElem?_map,hci];rfl,rfl,?_⟩
  conv=>whnf
  refine Fork.mk (fun h=>?_) (fun h=>?_)
  · have a1:x.nd < 0:=by simpa using h
    rw [if_pos a1] at hi2
    conv=>whnf
    repeat' ((first | refine fork_t ?_ | refine fork_f ?_ | (refine Fork.mk (fun h=>?_) (fun h=>?_);focus (simp at h;done)) | fail) <;> (conv=>whnf))
    exact kI hk (hE _ hi2)
  have a1:¬ x.nd < 0:=by simpa using h
  clear h
  rw [if_neg a1] at hi2
  conv=>whnf
  refine Fork.mk (fun h=>?_) (fun h=>?_)
  · have a2:c.rv.n≤x.nd:=by simpa using h
    rw [if_pos a2] at hi2
    conv=>whnf
    exact kI hk (hE _ hi2)
  have a2:¬ c.rv.n≤x.nd:=by simpa using h
  clear h
  rw [if_neg a2] at hi2
  conv=>whnf
  refine Fork.mk (fun h=>?_) (fun h=>?_)
  · have hi0:0 < i:=by simp at h;omega
    clear h
    obtain ⟨j,rfl⟩:∃ j,i=j+1:=⟨i - 1,by omega⟩
    have e2:IntKind.i64.wrap (((j+1:Nat):Int) - 1)=(j:Int):=by rw [wrap_in (by omega) (by omega)];omega
    have hcj:=List.getElem?_eq_getElem (show j < c.si.length by omega)
    generalize c.si[j]=y at hcj
    have hpq:prvS c.si (j+1)=some y.nd:=by rw [prvS,hcj];rfl
    rw [hpq] at hi2
    conv=>whnf
    rw [e2]
    refine ⟨by omega,siC y,by rw [Int.toNat_natCast,List.getElem?_map,hcj];rfl,rfl,?_⟩
    conv=>whnf
    refine Fork.mk (fun h=>?_) (fun h=>?_)
    · have a3:x.nd≤y.nd:=by simpa using h
      rw [if_pos (by simpa [qleR] using a3)] at hi2
      conv=>whnf
      exact kI hk (hE _ hi2)
    have a3:¬ x.nd≤y.nd:=by simpa using h
    clear h
    rw [if_neg (by simpa [qleR] using a3)] at hi2
    conv=>whnf
    repeat' ((first | refine fork_t ?_ | refine fork_f ?_ | (refine Fork.mk (fun h=>?_) (fun h=>?_);focus (simp at h;done)) | fail) <;> (conv=>whnf))
    refine ⟨x.d,rfl,hfu,?_⟩
    conv=>whnf
    refine Fork.mk (fun h=>?_) (fun h=>?_)
    · have a4:ckD x.d ≠ 0:=by simpa using h
      rw [if_pos a4] at hi2
      conv=>whnf
      exact kI hk (hE _ hi2)
    have a4:¬ ckD x.d ≠ 0:=by simpa using h
    clear h
    rw [if_neg a4] at hi2
    conv=>whnf
    rw [hw1]
    exact ⟨_,⟨hi,by rw [hi2,hpx]⟩,Shift.reset ⟨rfl,rfl,rfl,rfl,trivial⟩ ⟨rfl,trivial⟩ rfl rfl,by omega⟩
  have hi0:i=0:=by simp at h;omega
  clear h
  subst hi0
  rw [if_neg (by simp [prvS,qleR])] at hi2
  conv=>whnf
  repeat' ((first | refine fork_t ?_ | refine fork_f ?_ | (refine Fork.mk (fun h=>?_) (fun h=>?_);focus (simp at h;done)) | fail) <;> (conv=>whnf))
  refine ⟨x.d,rfl,hfu,?_⟩
  conv=>whnf
  refine Fork.mk (fun h=>?_) (fun h=>?_)
  · have a4:ckD x.d ≠ 0:=by simpa using h
    rw [if_pos a4] at hi2
    conv=>whnf
    exact kI hk (hE _ hi2)
  have a4:¬ ckD x.d ≠ 0:=by simpa using h
  clear h
  rw [if_neg a4] at hi2
  conv=>whnf
  rw [hw1]
  exact ⟨_,⟨hi,by rw [hi2,hpx]⟩,Shift.reset ⟨rfl,rfl,rfl,rfl,trivial⟩ ⟨rfl,trivial⟩ rfl rfl,by omega⟩
theorem rcsE_ok:FunR Tryz.prog 38 (R_csI csE):=by
  intro args k h
  obtain ⟨c,rfl,hc,hk⟩:=h
  have hmx:=eX_len c.si
  have hcn:=hc.n
  refine does_ex (qc:=qc1) (np:=[]) (CK:=ckK [(48,cSc R_rvE),(61,cSc (R_dmI ckD))]) mixed Tryz.func38 rfl rfl Tryz.ntmps38 Tryz.results38 τ_ok (by kernel_rfl) (ckK_ok ⟨cSc_ok rrvE_ok,cSc_ok rckD_ok,trivial⟩) (by simp) ?_
  conv=>whnf
  refine ⟨c.rv,rfl,hc.r,?_⟩
  conv=>whnf
  refine Fork.mk (fun h=>?_) (fun h=>?_)
  · have h1:rvE c.rv ≠ 0:=by simpa using h
    conv=>whnf
    exact kI hk (by rw [csE,if_pos h1])
  have h1:¬ rvE c.rv ≠ 0:=by simpa using h
  clear h
  have hrn:=(rvE_ok (by omega:rvE c.rv=0)).n
  conv=>whnf
  refine Fork.mk (fun h=>?_) (fun h=>?_)
  · have h2:12 < c.rv.n:=by simpa using h
    conv=>whnf
    exact kI hk (by rw [csE,if_neg h1,if_pos h2])
  have h2:¬ 12 < c.rv.n:=by simpa using h
  clear h
  conv=>whnf
  refine Fork.mk (fun h=>?_) (fun h=>?_)
  · have h3:6 < c.si.length:=by simp at h;omega
    conv=>whnf
    exact kI hk (by rw [csE,if_neg h1,if_neg h2,if_pos h3])
  have h3:¬ 6 < c.si.length:=by simp at h;omega
  clear h
  conv=>whnf
  refine ⟨Nat,fun i=>([(1,.c (.ptr (.l 1 0) 0)),(22,.c (.lst (eX c.si))),(23,I (eX c.si).length),(24,I i)],⟨[(.l 1 0,.blk (csC c))],9,[]⟩),
    fun i=>i≤c.si.length∧siE c.rv.n none c.si=siE c.rv.n (prvS c.si i) (c.si.drop i),fun i=>c.si.length - i,0,⟨Nat.zero_le _,rfl⟩,Shift.reset ⟨rfl,rfl,rfl,rfl,trivial⟩ ⟨rfl,trivial⟩ rfl rfl,fun i hi=>?_⟩
  obtain ⟨hi1,hi2⟩:=hi
  dsimp only
  conv=>whnf
  refine Fork.mk (fun h=>?_) (fun h=>?_)
  rotate_left
  · have hie:i=c.si.length:=by simp at h;omega
    rw [hie,List.drop_length,siE] at hi2
    conv=>whnf
    exact kI hk (by rw [csE,if_neg h1,if_neg h2,if_neg h3,hi2])
  have hi:i < c.si.length:=by simp at h;omega
  clear h
  have hci:=List.getElem?_eq_getElem hi
  have hfu:=hc.d _ (List.getElem_mem hi)
  generalize c.si[i]=x at hci hfu
  rw [drop_of hci,siE_cons] at hi2
  have hw1:=wr_succ (i:=i) (by omega)
  have hE:∀ y,siE c.rv.n none c.si=y→csE c=y:=fun y e=>by rw [csE,if_neg h1,if_neg h2,if_neg h3,e]
  have hpx:prvS c.si (i+1)=some x.nd:=by rw [prvS,hci];rfl
  conv=>whnf
  refine ⟨by omega,siC x,by rw [Int.toNat_natCast,List.getElem?_map,hci];rfl,rfl,?_⟩
  conv=>whnf
  refine Fork.mk (fun h=>?_) (fun h=>?_)
  · have a1:x.nd < 0:=by simpa using h
    rw [if_pos a1] at hi2
    conv=>whnf
    repeat' ((first | refine fork_t ?_ | refine fork_f ?_ | (refine Fork.mk (fun h=>?_) (fun h=>?_);focus (simp at h;done)) | fail) <;> (conv=>whnf))
    exact kI hk (hE _ hi2)
  have a1:¬ x.nd < 0:=by simpa using h
  clear h
  rw [if_neg a1] at hi2
  conv=>whnf
  refine Fork.mk (fun h=>?_) (fun h=>?_)
  · have a2:c.rv.n≤x.nd:=by simpa using h
    rw [if_pos a2] at hi2
    conv=>whnf
    exact kI hk (hE _ hi2)
  have a2:¬ c.rv.n≤x.nd:=by simpa using h
  clear h
  rw [if_neg a2] at hi2
  conv=>whnf
  refine Fork.mk (fun h=>?_) (fun h=>?_)
  · have hi0:0 < i:=by simp at h;omega
    clear h
    obtain ⟨j,rfl⟩:∃ j,i=j+1:=⟨i - 1,by omega⟩
    have e2:IntKind.i64.wrap (((j+1:Nat):Int) - 1)=(j:Int):=by rw [wrap_in (by omega) (by omega)];omega
    have hcj:=List.getElem?_eq_getElem (show j < c.si.length by omega)
    generalize c.si[j]=y at hcj
    have hpq:prvS c.si (j+1)=some y.nd:=by rw [prvS,hcj];rfl
    rw [hpq] at hi2
    conv=>whnf
    rw [e2]
    refine ⟨by omega,siC y,by rw [Int.toNat_natCast,List.getElem?_map,hcj];rfl,rfl,?_⟩
    conv=>whnf
    refine Fork.mk (fun h=>?_) (fun h=>?_)
    · have a3:x.nd≤y.nd:=by simpa using h
      rw [if_pos (by simpa [qleR] using a3)] at hi2
      conv=>whnf
      exact kI hk (hE _ hi2)
    have a3:¬ x.nd≤y.nd:=by simpa using h
    clear h
    rw [if_neg (by simpa [qleR] using a3)] at hi2
    conv=>whnf
    repeat' ((first | refine fork_t ?_ | refine fork_f ?_ | (refine Fork.mk (fun h=>?_) (fun h=>?_);focus (simp at h;done)) | fail) <;> (conv=>whnf))
    refine ⟨x.d,rfl,hfu,?_⟩
    conv=>whnf
    refine Fork.mk (fun h=>?_) (fun h=>?_)
    · have a4:ckD x.d ≠ 0:=by simpa using h
      rw [if_pos a4] at hi2
      conv=>whnf
      exact kI hk (hE _ hi2)
    have a4:¬ ckD x.d ≠ 0:=by simpa using h
    clear h
    rw [if_neg a4] at hi2
    conv=>whnf
    rw [hw1]
    exact ⟨_,⟨hi,by rw [hi2,hpx]⟩,Shift.reset ⟨rfl,rfl,rfl,rfl,trivial⟩ ⟨rfl,trivial⟩ rfl rfl,by omega⟩
  have hi0:i=0:=by simp at h;omega
  clear h
  subst hi0
  rw [if_neg (by simp [prvS,qleR])] at hi2
  conv=>whnf
  repeat' ((first | refine fork_t ?_ | refine fork_f ?_ | (refine Fork.mk (fun h=>?_) (fun h=>?_);focus (simp at h;done)) | fail) <;> (conv=>whnf))
  refine ⟨x.d,rfl,hfu,?_⟩
  conv=>whnf
  refine Fork.mk (fun h=>?_) (fun h=>?_)
  · have a4:ckD x.d ≠ 0:=by simpa using h
    rw [if_pos a4] at hi2
    conv=>whnf
    exact kI hk (hE _ hi2)
  have a4:¬ ckD x.d ≠ 0:=by simpa using h
  clear h
  rw [if_neg a4] at hi2
  conv=>whnf
  rw [hw1]
  exact ⟨_,⟨hi,by rw [hi2,hpx]⟩,Shift.reset ⟨rfl,rfl,rfl,rfl,trivial⟩ ⟨rfl,trivial⟩ rfl rfl,by omega⟩
end Go.Proofs
