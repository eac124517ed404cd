/- Proved here: what functions of the given program come to, and the plain laws of it; no condition but those in the theorems. -/
import Derived.Test.YtgllikepncnpkaaGreatA34j
namespace Go.Proofs
open Go Go.Abs
set_option linter.unusedSimpArgs false
set_option linter.unusedVariables false
structure mkUs (us:List Un) (ss:List Us):Prop where
  l:us.length=ss.length
  u:∀ u ∈ us,mkU u
  s:usB us ss=true
theorem usB_snoc:∀ {us:List Un} {ss:List Us} {u:Un} {z:Us},us.length=ss.length→usB us ss=true→validB u z=true→usB (us ++ [u]) (ss ++ [z])=true
  | [],[],u,z,_,_,h=>by simp [usB,h]
  | a :: us,b :: ss,u,z,hl,hb,h=>by
    simp only [usB,Bool.and_eq_true] at hb
    simp only [List.cons_append,usB,Bool.and_eq_true]
    exact ⟨hb.1,usB_snoc (by simpa using hl) hb.2 h⟩
  | [],_ :: _,_,_,hl,_,_=>by simp at hl
  | _ :: _,[],_,_,hl,_,_=>by simp at hl
theorem mkUs.snoc {us:List Un} {ss:List Us} {u:Un} {z:Us} (h:mkUs us ss) (hu:mkU u) (hz:mkS u z):mkUs (us ++ [u]) (ss ++ [z]) :=
  ⟨by simp [h.l],fun x hx=>by
    rcases List.mem_append.1 hx with hx | hx
    · exact h.u x hx
    · simp at hx;subst hx;exact hu,usB_snoc h.l h.s (by simp [validB,ckU_of hu.ok,hz.f])⟩
theorem mkUs.fin {us:List Un} {ss:List Us} (h:mkUs us ss):∀ u ∈ us,u.fin:=fun u hu=>(h.u u hu).fin
def R_mkUs:RB:=fun cs args k=>∃ (d:Dk) (n:Int),args=[I n]∧cs=dkC d∧d.ok∧(0≤n∧n≤6)∧∀ (us:List Un) (ss:List Us) d',Dk.ok d'→us.length≤n→mkUs us ss→k (.tup [.c (.lst (eU us)),.c (.lst (eQ ss))]) (dkC d')
structure mkDm (d:Dm) (s:Dt):Prop where
  v:validD d s=true
  f:d.fin
  c:valC d.r.st d.r.crest≤1000
def R_mkDm:RB:=fun cs args k=>∃ d:Dk,args=[]∧cs=dkC d∧d.ok∧∀ (x:Dm) (s:Dt) d',Dk.ok d'→mkDm x s→k (.tup [.agg (dmC x),.agg (dtC s)]) (dkC d')
theorem mkDm.of {d:Dm} {s:Dt} (hr:d.r.made) (hrl:d.r.st.length≤5) (hg:1≤d.gr∧d.gr≤4) (hu:mkUs d.us s.us) (hul:(d.us.length:Int)≤2) (hgs:mkGs d.gs s.gs) (hgl:(d.gs.length:Int)≤2) (hv:0≤s.vol∧s.vol≤valC d.r.st d.r.crest) (hrr:0≤s.rel∧s.rel≤30):mkDm d s:=by
  obtain ⟨k1,k2,k3,k4,k5⟩:=ckS_ok hr.ck
  refine ⟨validD_of (ckD_of ⟨hr.ck,by omega,by omega,fun u h=>ckU_of (hu.u u h).ok,fun g h=>ckG_of (hgs.g g h).ok,by omega⟩) hv (by omega) hu.l.symm hgs.l.symm hu.s (gsB_of hgs.s),⟨by omega,by omega,by omega,fun u h=>(hu.u u h).fin,fun g h=>(hgs.g g h).fin⟩,?_⟩
  have h1:=valC_last k1 d.r.crest
  have hne:d.r.st ≠ []:=by intro e;rw [e] at k2;simp at k2
  have h2:=hr.vhi _ (List.mem_of_getElem? (lastP_at hne))
  omega
structure mkCs (c:Cs) (l:List Dt):Prop where
  r:mkRv c.rv
  k:CsOk c
  n:c.si.length≤3
  ln:l.length=c.si.length
  d:∀ (i:Nat) x s,c.si[i]?=some x→l[i]?=some s→mkDm x.d s
def R_mkCs:RB:=fun cs args k=>∃ d:Dk,args=[]∧cs=dkC d∧d.ok∧∀ (c:Cs) (l:List Dt) d',Dk.ok d'→mkCs c l→k (.tup [.agg (csC c),.c (.lst (eD l))]) (dkC d')
theorem mkCs.fin {c:Cs} {l:List Dt} (h:mkCs c l):c.fin:=⟨h.k.r.fin,by have:=h.n;omega,fun x hx=>by
  obtain ⟨i,hi⟩:=List.getElem?_of_mem hx
  have hl:=(List.getElem?_eq_some_iff.1 hi).1
  have:=h.ln
  exact (h.d i x _ hi (List.getElem?_eq_getElem (show i < l.length by omega))).f⟩
structure mkCp (si:List Si) (l:List Dt) (n:Int):Prop where
  n3:si.length≤3
  ln:l.length=si.length
  s:∀ x ∈ si,0≤x.nd∧x.nd < n
  p:si.Pairwise (fun a b=>a.nd < b.nd)
  d:∀ (i:Nat) x s,si[i]?=some x→l[i]?=some s→mkDm x.d s
theorem mkCp.nil:mkCp [] [] 0:=⟨by simp,rfl,fun x h=>by simp at h,.nil,fun i x s h=>by simp at h⟩
theorem mkCp.mono {si:List Si} {l:List Dt} {n m:Int} (h:mkCp si l n) (hm:n≤m):mkCp si l m:={ h with s:=fun x hx=>by have:=h.s x hx;omega }
theorem mkCp.snoc {si:List Si} {l:List Dt} {n:Int} {x:Dm} {s:Dt} (h:mkCp si l n) (hn:0≤n) (hl:si.length < 3) (hx:mkDm x s):mkCp (si ++ [⟨n,x⟩]) (l ++ [s]) (n+1):=by
  refine ⟨by simp;omega,by simp [h.ln],fun y hy=>?_,List.pairwise_append.2 ⟨h.p,by simp,fun a ha b hb=>?_⟩,fun i y z hy hz=>?_⟩
  · rcases List.mem_append.1 hy with hy | hy
    · have:=h.s y hy;omega
    · simp at hy;subst hy;dsimp only;omega
  · simp at hb;subst hb;exact (h.s a ha).2
  · have hln:=h.ln
    rcases Nat.lt_or_ge i si.length with hi | hi
    · rw [List.getElem?_append_left hi] at hy
      rw [List.getElem?_append_left (by omega)] at hz
      exact h.d i y z hy hz
    · rw [List.getElem?_append_right hi] at hy
      rw [List.getElem?_append_right (by omega)] at hz
      have hi2:i=si.length:=by
        have:=(List.getElem?_eq_some_iff.1 hy).1
        simp at this
        omega
      rw [hi2,Nat.sub_self] at hy
      rw [hi2,hln,Nat.sub_self] at hz
      cases hy;cases hz
      exact hx
theorem mkCp.done {r:Rv} {si:List Si} {l:List Dt} {n:Int} (h:mkCp si l n) (hn:n≤r.n) (hr:mkRv r) (ho:RvOk r) (h6:r.n≤12):mkCs ⟨r,si⟩ l:=by
  have hln:=h.ln
  have h3:=h.n3
  refine ⟨hr,⟨ho,h6,by dsimp only;omega,fun x hx=>?_,h.p⟩,h.n3,h.ln,h.d⟩
  have a:=h.s x hx
  obtain ⟨i,hi⟩:=List.getElem?_of_mem hx
  have hil:i < si.length:=(List.getElem?_eq_some_iff.1 hi).1
  have hm:=h.d i x _ hi (List.getElem?_eq_getElem (show i < l.length by omega))
  exact ⟨by dsimp only;omega,(validD_at hm.v).1⟩
structure mkSu (c:Cs) (p:Su):Prop where
  n1:(p.inf.length:Int)=c.rv.n
  n2:p.los.length=c.si.length
  n3:p.tar.length=c.si.length
  r1:∀ x ∈ p.inf,0≤x∧x < 14
  r2:∀ x ∈ p.los,0≤x∧x < 3
  r3:∀ x ∈ p.tar,0≤x∧x < 30
def R_mkSu:RB:=fun cs args k=>∃ (d:Dk) (c:Cs),args=[.agg (csC c)]∧cs=dkC d∧d.ok∧(1≤c.rv.n∧c.rv.n≤12)∧c.si.length≤6∧∀ (p:Su) d',Dk.ok d'→mkSu c p→k (.agg (suC p)) (dkC d')
inductive stepsC (c:Cs) (s:Fl):Nat→Fl→Prop
  | zero:stepsC c s 0 s
  | succ {n:Nat} {a b:Fl} {p:Su} {x:Pd}:stepsC c s n a→mkSu c p→stepC c a p b x→stepsC c s (n+1) b
def fl1 (c:Cs) (l:List Dt):Fl:=⟨0,l,List.replicate c.rv.ls.length []⟩
theorem mkCs.va {c:Cs} {l:List Dt} (h:mkCs c l):VaOk c (fl1 c l):=by
  refine ⟨h.k,by show 0≤(0:Int)∧(0:Int)≤16777216;omega,h.ln,fun i x s hx hs=>(h.d i x s hx hs).v,⟨by show (List.replicate _ _).length=_;simp,fun i a p ha hp=>?_⟩⟩
  have:p=[]:=(List.mem_replicate.1 (List.mem_of_getElem? hp)).2
  rw [this]
  exact fits_nil _
theorem stepsC.va {c:Cs} {l:List Dt} (h:mkCs c l) {n:Nat} {w:Fl} (hs:stepsC c (fl1 c l) n w):VaOk c w:=by
  cases hs with
  | zero=>exact h.va
  | succ _ _ h3=>exact h3.valid
def R_mkFl:RB:=fun cs args k=>∃ (d:Dk) (c:Cs) (l:List Dt),args=[.agg (csC c),.c (.lst (eD l))]∧cs=dkC d∧d.ok∧mkCs c l∧∀ (w:Fl) (n:Nat) d',Dk.ok d'→n≤5→stepsC c (fl1 c l) n w→k (.agg (flC w)) (dkC d')
def R_mkRi:RB:=fun cs args k=>∃ d:Dk,args=[]∧cs=dkC d∧d.ok∧∀ (c:Cs) (l:List Dt) (w:Fl) (n:Nat) d',Dk.ok d'→mkCs c l→n≤5→stepsC c (fl1 c l) n w→k (.tup [.agg (csC c),.agg (flC w)]) (dkC d')
end Go.Proofs

namespace Go.Proofs
open Go Go.Abs
set_option linter.unusedSimpArgs false
set_option linter.unusedVariables false
set_option maxRecDepth 20000
theorem mkUs_ok:FunB Tryz.prog 82 R_mkUs:=by
  intro cs args k h
  obtain ⟨d,n,rfl,rfl,hd,hn,hk⟩:=h
  have e0:IntKind.i64.wrap (n+1)=n+1:=wrap_in (by omega) (by omega)
  refine doesB_ex (qc:=qc1) (np:=[(7,[(2,6),(3,6)])]) (CK:=ckK [(14,cB R_next),(112,cB R_mkU),(113,cB R_mkS)]) mixed Tryz.func82 rfl rfl Tryz.ntmps82 Tryz.results82 τ_ok (by kernel_rfl) (ckK_ok ⟨cB_ok next_ok rfl,cB_ok mkU_ok rfl,cB_ok mkS_ok rfl,trivial⟩) (by simp) rfl rfl ?_
  conv=>whnf
  rw [e0]
  refine ⟨d,rfl,hd,by omega,fun k0 d hd hk1 hk2=>?_⟩
  conv=>whnf
  refine ⟨List Un × List Us × Dk × Int,fun s=>([(0,.c (.ptr (.x 0) 0)),(6,.c (.view (.l 23 0) 0 s.1.length)),(7,.c (.view (.l 29 1) 0 s.2.1.length)),(8,I s.2.2.2)],⟨[(.x 0,.blk (dkC s.2.2.1)),(.l 23 0,.arr 156 6 (eU s.1) false),(.l 29 1,.arr 164 3 (eQ s.2.1) false)],2,[]⟩),
    fun s=>s.2.2.1.ok∧mkUs s.1 s.2.1∧0≤s.2.2.2∧s.1.length+s.2.2.2≤n,fun s=>s.2.2.2.toNat,([],[],d,k0),
    ⟨hd,⟨rfl,by simp,rfl⟩,by dsimp only;omega,by dsimp only;simp;omega⟩,
    Shift.trans (Shift.rename [] ⟨rfl,rfl,rfl,rfl,trivial⟩ ⟨rfl,rfl,rfl,trivial⟩ rfl rfl rfl) (Shift.trans (Shift.nilArr (t:=7) rfl 29 164 3) (Shift.nilArr (t:=6) rfl 23 156 6)),fun s hs=>?_⟩
  obtain ⟨gs,ss,d,kk⟩:=s
  obtain ⟨hd,hg,hk3,hk4⟩:=hs
  dsimp only at hd hg hk3 hk4 ⊢
  have hm:=eU_len gs
  have hm2:=eQ_len ss
  have hgl:=hg.l
  conv=>whnf
  refine Fork.mk (fun h=>?_) (fun h=>?_)
  · have hkk:0 < kk:=by simpa using h
    conv=>whnf
    refine ⟨d,rfl,rfl,hd,fun g d hd hmg=>?_⟩
    conv=>whnf
    refine ⟨by simp,?_⟩
    conv=>whnf
    refine ⟨rfl,?_⟩
    conv=>whnf
    refine ⟨⟨rfl,rfl,rfl,hm.symm,by rw [hm];simp;omega⟩,?_⟩
    conv=>whnf
    refine ⟨d,g,rfl,rfl,hd,hmg,fun z d hd hz=>?_⟩
    conv=>whnf
    refine ⟨by simp,?_⟩
    conv=>whnf
    refine ⟨rfl,?_⟩
    conv=>whnf
    refine ⟨⟨rfl,rfl,rfl,hm2.symm,by rw [hm2];simp;omega⟩,?_⟩
    conv=>whnf
    rw [show IntKind.i64.wrap (kk - 1)=kk - 1 from wrap_in (by omega) (by omega)]
    refine ⟨(gs ++ [g],ss ++ [z],d,kk - 1),⟨hd,hg.snoc hmg hz,by dsimp only;omega,by dsimp only;simp;omega⟩,Shift.rename [(.l 23 0,.l 23 3),(.l 29 1,.l 29 3)] ⟨rfl,?_,?_,rfl,trivial⟩ ⟨rfl,?_,?_,trivial⟩ rfl rfl rfl,?_⟩
    · dsimp only;rw [List.length_append,← hm];rfl
    · dsimp only;rw [List.length_append,← hm2];rfl
    · dsimp only;rw [show eU (gs ++ [g])=eU gs ++ [unC g] from List.map_append];rfl
    · dsimp only;rw [show eQ (ss ++ [z])=eQ ss ++ [usC z] from List.map_append];rfl
    · show (kk - 1).toNat < kk.toNat
      omega
  have hkk:¬ 0 < kk:=by simpa using h
  have htl1:List.take gs.length (List.drop 0 (eU gs))=eU gs:=by rw [List.drop_zero,List.take_of_length_le (by omega)]
  have htl2:List.take ss.length (List.drop 0 (eQ ss))=eQ ss:=by rw [List.drop_zero,List.take_of_length_le (by omega)]
  conv=>whnf
  refine ⟨by omega,?_⟩
  conv=>whnf
  refine ⟨by omega,?_⟩
  conv=>whnf
  rw [htl1,htl2]
  exact ⟨rfl,rfl,hk gs ss d hd (by omega) hg⟩
theorem mkDm_ok:FunB Tryz.prog 52 R_mkDm:=by
  intro cs args k h
  obtain ⟨d,rfl,rfl,hd,hk⟩:=h
  refine doesB_ex (qc:=qc1) (np:=[(8,[(1,2)])]) (CK:=ckK [(81,cB R_resv),(14,cB R_next),(82,cB R_mkUs),(83,cB R_mkGs),(84,cSc (R_rs1 volS))]) mixed Tryz.func52 rfl rfl Tryz.ntmps52 Tryz.results52 τ_ok (by kernel_rfl) (ckK_ok ⟨cB_ok resv_ok rfl,cB_ok next_ok rfl,cB_ok mkUs_ok rfl,cB_ok mkGs_ok rfl,cSc_ok rvolS_ok,trivial⟩) (by simp) rfl rfl ?_
  conv=>whnf
  refine ⟨d,rfl,hd,fun r d hd hr hrl=>?_⟩
  conv=>whnf
  refine ⟨d,rfl,hd,by omega,fun g d hd hg1 hg2=>?_⟩
  have e1:IntKind.i64.wrap (1+g)=1+g:=wrap_in (by omega) (by omega)
  conv=>whnf
  rw [e1]
  refine ⟨d,2,rfl,rfl,hd,by omega,fun us ss d hd hul hu=>?_⟩
  conv=>whnf
  refine ⟨d,2,rfl,rfl,hd,by omega,fun gs zs d hd hgl hgs=>?_⟩
  obtain ⟨k1,k2,k3,k4,k5⟩:=ckS_ok hr.ck
  have hci:=crest_in hr.ck
  have hvc:=valC_in k1 r.crest
  have v1:volS ⟨r.st,r.dead,r.low,r.full,r.sur,r.crest⟩ r.crest=(valC r.st r.crest,0):=volS_of hr.ck (by omega)
  conv=>whnf
  refine ⟨r.st,rfl,by omega,?_⟩
  rw [v1]
  dsimp only
  have e2:IntKind.i64.wrap (valC r.st r.crest+1)=valC r.st r.crest+1:=wrap_in (by omega) (by omega)
  conv=>whnf
  rw [e2]
  refine ⟨d,rfl,hd,by omega,fun v d hd hv1 hv2=>?_⟩
  conv=>whnf
  refine ⟨d,rfl,hd,by omega,fun rl d hd hr1 hr2=>?_⟩
  conv=>whnf
  exact ⟨rfl,rfl,hk ⟨r,us,gs,1+g⟩ ⟨v,rl,ss,zs⟩ d hd (mkDm.of hr hrl (by dsimp only;omega) hu hul hgs hgl (by dsimp only;omega) (by dsimp only;omega))⟩
theorem mkCs_ok:FunB Tryz.prog 25 R_mkCs:=by
  intro cs args k h
  obtain ⟨d,rfl,rfl,hd,hk⟩:=h
  refine doesB_ex (qc:=qc1) (np:=[(8,[(1,5),(1,9),(3,9),(5,8),(5,9),(6,8),(6,9)])]) (CK:=ckK [(51,cB R_river),(14,cB R_next),(52,cB R_mkDm)]) mixed Tryz.func25 rfl rfl Tryz.ntmps25 Tryz.results25 τ_ok (by kernel_rfl) (ckK_ok ⟨cB_ok river_ok rfl,cB_ok next_ok rfl,cB_ok mkDm_ok rfl,trivial⟩) (by simp) rfl rfl ?_
  conv=>whnf
  refine ⟨d,rfl,rfl,hd,fun r d hd hr=>?_⟩
  have hrn:=hr.n
  conv=>whnf
  refine ⟨List Si × List Dt × Dk × Nat,fun y=>([(0,.c (.ptr (.x 0) 0)),(2,.c (.ptr (.l 2 0) 0)),(4,.c (.ptr (.l 4 1) 0)),(5,.c (.view (.l 43 3) 0 y.2.1.length)),(6,I y.2.2.2)],⟨[(.x 0,.blk (dkC y.2.2.1)),(.l 2 0,.blk [IC 0,.sc (.slice none 0 0),.sc (.slice none 0 0)]),(.l 4 1,.blk [IC r.n,.lst (eK r.ls),.view (.l 39 2) 0 y.1.length]),(.l 39 2,.arr 73 10 (eX y.1) false),(.l 43 3,.arr 117 4 (eD y.2.1) false)],9,[]⟩),
    fun y=>y.2.2.1.ok∧mkCp y.1 y.2.1 y.2.2.2∧(y.2.2.2:Int)≤r.n,fun y=>r.n.toNat - y.2.2.2,([],[],d,0),⟨hd,mkCp.nil,by dsimp only;omega⟩,
    Shift.trans (Shift.rename [] ⟨rfl,rfl,rfl,rfl,rfl,trivial⟩ ⟨rfl,rfl,rfl,rfl,rfl,trivial⟩ rfl rfl rfl) (Shift.trans (Shift.nilArr (t:=5) rfl 43 117 4) (Shift.nilCell (i:=.l 4 1) (cs:=[IC r.n,.lst (eK r.ls),.sc (.slice none 0 0)]) (j:=2) rfl rfl 39 73 10)),fun y hy=>?_⟩
  obtain ⟨si,l,d,n⟩:=y
  obtain ⟨hd,hp,hn⟩:=hy
  dsimp only at hd hp hn ⊢
  have hmx:=eX_len si
  have hml:=eD_len l
  have hln:=hp.ln
  have hp3:=hp.n3
  have hwn:=wr_succ (i:=n) (by omega)
  have t1:List.take si.length (List.drop 0 (eX si))=eX si:=by rw [List.drop_zero,List.take_of_length_le (by omega)]
  have t2:List.take l.length (List.drop 0 (eD l))=eD l:=by rw [List.drop_zero,List.take_of_length_le (by omega)]
  conv=>whnf
  refine Fork.mk (fun h=>?_) (fun h=>?_)
  rotate_left
  · conv=>whnf
    repeat' ((first | refine fork_t ?_ | refine fork_f ?_ | (refine Fork.mk (fun h=>?_) (fun h=>?_);focus (simp at h;done)) | fail) <;> (conv=>whnf))
    refine ⟨by omega,?_⟩
    conv=>whnf
    refine ⟨by omega,?_⟩
    conv=>whnf
    rw [t1,t2]
    exact ⟨rfl,rfl,hk ⟨r,si⟩ l d hd (hp.done hn hr hr.ok (by omega))⟩
  have hn2:(n:Int) < r.n:=by simpa using h
  clear h
  conv=>whnf
  refine Fork.mk (fun h=>?_) (fun h=>?_)
  rotate_left
  · conv=>whnf
    refine ⟨by omega,?_⟩
    conv=>whnf
    refine ⟨by omega,?_⟩
    conv=>whnf
    rw [t1,t2]
    exact ⟨rfl,rfl,hk ⟨r,si⟩ l d hd (hp.done hn hr hr.ok (by omega))⟩
  have hl3:si.length < 3:=by simp at h;omega
  clear h
  conv=>whnf
  refine ⟨d,rfl,hd,by omega,fun b d hd _ _=>?_⟩
  conv=>whnf
  refine Fork.mk (fun h=>?_) (fun h=>?_)
  rotate_left
  · conv=>whnf
    rw [hwn]
    exact ⟨(si,l,d,n+1),⟨hd,hp.mono (by dsimp only;omega),by dsimp only;omega⟩,Shift.reset ⟨rfl,rfl,rfl,rfl,rfl,trivial⟩ ⟨rfl,rfl,rfl,rfl,rfl,trivial⟩ rfl rfl,by dsimp only;omega⟩
  clear h
  conv=>whnf
  refine ⟨d,rfl,rfl,hd,fun x s d hd hx=>?_⟩
  conv=>whnf
  refine ⟨by simp,?_⟩
  conv=>whnf
  refine ⟨rfl,?_⟩
  conv=>whnf
  refine ⟨⟨rfl,rfl,rfl,hmx.symm,by rw [hmx];simp;omega⟩,?_⟩
  conv=>whnf
  refine ⟨by simp,?_⟩
  conv=>whnf
  refine ⟨rfl,?_⟩
  conv=>whnf
  refine ⟨⟨rfl,rfl,rfl,hml.symm,by rw [hml];simp;omega⟩,?_⟩
  conv=>whnf
  rw [hwn]
  refine ⟨(si ++ [⟨n,x⟩],l ++ [s],d,n+1),⟨hd,?_,by dsimp only;omega⟩,Shift.rename [(.l 39 2,.l 39 11),(.l 43 3,.l 43 11)] ⟨rfl,rfl,rfl,?_,rfl,trivial⟩ ⟨rfl,rfl,?_,?_,?_,trivial⟩ rfl rfl rfl,by dsimp only;omega⟩
  · have:=hp.snoc (by omega) hl3 hx
    dsimp only
    rw [show ((n+1:Nat):Int)=(n:Int)+1 by omega]
    exact this
  · dsimp only;rw [List.length_append,← hml];rfl
  · dsimp only;rw [List.length_append,← hmx];rfl
  · dsimp only;rw [show eX (si ++ [⟨n,x⟩])=eX si ++ [siC ⟨n,x⟩] from List.map_append];rfl
  · dsimp only;rw [show eD (l ++ [s])=eD l ++ [dtC s] from List.map_append];rfl
theorem mkSu_ok:FunB Tryz.prog 37 R_mkSu:=by
  intro cs args k h
  obtain ⟨d,c,rfl,rfl,hd,hn,hm,hk⟩:=h
  have hmx:=eX_len c.si
  obtain ⟨N,hN⟩:=Int.eq_ofNat_of_zero_le (show 0≤c.rv.n by omega)
  refine doesB_ex (qc:=qc1) (np:=[(4,[(1,3),(1,4)]),(8,[(1,3),(1,4),(3,7),(4,7),(5,7),(7,9),(7,10)])]) (CK:=ckK [(14,cB R_next)]) mixed Tryz.func37 rfl rfl Tryz.ntmps37 Tryz.results37 τ_ok (by kernel_rfl) (ckK_ok ⟨cB_ok next_ok rfl,trivial⟩) (by simp) rfl rfl ?_
  conv=>whnf
  rw [hN]
  refine ⟨Ls × Dk,fun y=>([(0,.c (.ptr (.x 0) 0)),(3,.c (.ptr (.l 3 0) 0)),(4,.c (.ptr (.l 4 1) 0)),(5,.c (.ptr (.l 5 2) 0)),(8,I N),(9,I y.1.length)],⟨[(.x 0,.blk (dkC y.2)),(.l 3 0,.blk (csC c)),(.l 4 1,.blk [.sc (.slice none 0 0),.sc (.slice none 0 0),.sc (.slice none 0 0)]),(.l 5 2,.blk [.view (.l 16 3) 0 y.1.length,.sc (.slice none 0 0),.sc (.slice none 0 0)]),(.l 16 3,.arr 3 1 (eL y.1) false)],9,[]⟩),
    fun y=>y.2.ok∧y.1.length≤N∧(∀ x ∈ y.1,0≤x∧x < 14),fun y=>N - y.1.length,([],d),⟨hd,Nat.zero_le _,fun x h=>by simp at h⟩,
    Shift.trans (Shift.rename [] ⟨rfl,rfl,rfl,rfl,rfl,rfl,trivial⟩ ⟨rfl,rfl,rfl,rfl,rfl,trivial⟩ rfl rfl rfl) (Shift.nilCell (i:=.l 5 2) (cs:=[.sc (.slice none 0 0),.sc (.slice none 0 0),.sc (.slice none 0 0)]) (j:=0) rfl rfl 16 3 1),fun y hy=>?_⟩
  obtain ⟨L,d⟩:=y
  obtain ⟨hd,hl,hb⟩:=hy
  dsimp only at hd hl hb ⊢
  have hmL:=eL_len L
  have hw1:=wr_succ (i:=L.length) (by omega)
  conv=>whnf
  refine Fork.mk (fun h=>?_) (fun h=>?_)
  · have hl2:L.length < N:=by simp at h;omega
    clear h
    conv=>whnf
    refine ⟨d,rfl,hd,by omega,fun x d hd hx1 hx2=>?_⟩
    conv=>whnf
    refine ⟨by simp,?_⟩
    conv=>whnf
    refine ⟨rfl,?_⟩
    conv=>whnf
    refine ⟨⟨rfl,rfl,rfl,hmL.symm,by rw [hmL];simp;omega⟩,?_⟩
    conv=>whnf
    rw [hw1]
    refine ⟨(L ++ [x],d),⟨hd,by simp;omega,fun y hy=>?_⟩,Shift.rename [(.l 16 3,.l 16 9)] ⟨rfl,rfl,rfl,rfl,rfl,?_,trivial⟩ ⟨rfl,rfl,rfl,?_,?_,trivial⟩ rfl rfl rfl,by dsimp only;simp;omega⟩
    · rcases List.mem_append.1 hy with hy | hy
      · exact hb y hy
      · simp at hy;subst hy;omega
    · dsimp only;rw [List.length_append];rfl
    · dsimp only;rw [List.length_append,← hmL];rfl
    · dsimp only;rw [show eL (L ++ [x])=eL L ++ [eI x] from List.map_append];rfl
  have hlN:L.length=N:=by simp at h;omega
  clear h
  conv=>whnf
  rw [hmx]
  refine ⟨Ls × Ls × Dk,fun y=>([(0,.c (.ptr (.x 0) 0)),(4,.c (.ptr (.l 4 1) 0)),(5,.c (.ptr (.l 5 2) 0)),(21,I c.si.length),(22,I y.1.length)],⟨[(.x 0,.blk (dkC y.2.2)),(.l 4 1,.blk [.sc (.slice none 0 0),.sc (.slice none 0 0),.sc (.slice none 0 0)]),(.l 5 2,.blk [.view (.l 16 3) 0 L.length,.view (.l 29 9) 0 y.1.length,.view (.l 35 10) 0 y.2.1.length]),(.l 16 3,.arr 3 1 (eL L) false),(.l 29 9,.arr 3 1 (eL y.1) false),(.l 35 10,.arr 3 1 (eL y.2.1) false)],20,[]⟩),
    fun y=>y.2.2.ok∧y.1.length≤c.si.length∧y.2.1.length=y.1.length∧(∀ x ∈ y.1,0≤x∧x < 3)∧(∀ x ∈ y.2.1,0≤x∧x < 30),fun y=>c.si.length - y.1.length,([],[],d),⟨hd,Nat.zero_le _,rfl,fun x h=>by simp at h,fun x h=>by simp at h⟩,
    Shift.trans (Shift.rename [] ⟨rfl,rfl,rfl,rfl,rfl,trivial⟩ ⟨rfl,rfl,rfl,rfl,rfl,rfl,trivial⟩ rfl rfl rfl) (Shift.trans (Shift.nilCell (i:=.l 5 2) (cs:=[.view (.l 16 3) 0 L.length,.view (.l 29 9) 0 0,.sc (.slice none 0 0)]) (j:=2) rfl rfl 35 3 1) (Shift.nilCell (i:=.l 5 2) (cs:=[.view (.l 16 3) 0 L.length,.sc (.slice none 0 0),.sc (.slice none 0 0)]) (j:=1) rfl rfl 29 3 1)),fun y hy=>?_⟩
  obtain ⟨M,T,d⟩:=y
  obtain ⟨hd,hM,hT,hb1,hb2⟩:=hy
  dsimp only at hd hM hT hb1 hb2 ⊢
  have hmM:=eL_len M
  have hmT:=eL_len T
  have hw2:=wr_succ (i:=M.length) (by omega)
  conv=>whnf
  refine Fork.mk (fun h=>?_) (fun h=>?_)
  · have hl2:M.length < c.si.length:=by simp at h;omega
    clear h
    conv=>whnf
    refine ⟨d,rfl,hd,by omega,fun x d hd hx1 hx2=>?_⟩
    conv=>whnf
    refine ⟨by simp,?_⟩
    conv=>whnf
    refine ⟨rfl,?_⟩
    conv=>whnf
    refine ⟨⟨rfl,rfl,rfl,hmM.symm,by rw [hmM];simp;omega⟩,?_⟩
    conv=>whnf
    refine ⟨d,rfl,hd,by omega,fun z d hd hz1 hz2=>?_⟩
    conv=>whnf
    refine ⟨by simp,?_⟩
    conv=>whnf
    refine ⟨rfl,?_⟩
    conv=>whnf
    refine ⟨⟨rfl,rfl,rfl,hmT.symm,by rw [hmT];simp;omega⟩,?_⟩
    conv=>whnf
    rw [hw2]
    refine ⟨(M ++ [x],T ++ [z],d),⟨hd,by simp;omega,by simp [hT],fun y hy=>?_,fun y hy=>?_⟩,Shift.rename [(.l 29 9,.l 29 20),(.l 35 10,.l 35 20)] ⟨rfl,rfl,rfl,rfl,?_,trivial⟩ ⟨rfl,rfl,?_,rfl,?_,?_,trivial⟩ rfl rfl rfl,by dsimp only;simp;omega⟩
    · rcases List.mem_append.1 hy with hy | hy
      · exact hb1 y hy
      · simp at hy;subst hy;omega
    · rcases List.mem_append.1 hy with hy | hy
      · exact hb2 y hy
      · simp at hy;subst hy;omega
    · dsimp only;rw [List.length_append];rfl
    · dsimp only;rw [List.length_append,List.length_append,← hmM,← hmT];rfl
    · dsimp only;rw [show eL (M ++ [x])=eL M ++ [eI x] from List.map_append];rfl
    · dsimp only;rw [show eL (T ++ [z])=eL T ++ [eI z] from List.map_append];rfl
  have hMs:M.length=c.si.length:=by simp at h;omega
  clear h
  have t1:List.take L.length (List.drop 0 (eL L))=eL L:=by rw [List.drop_zero,List.take_of_length_le (by omega)]
  have t2:List.take M.length (List.drop 0 (eL M))=eL M:=by rw [List.drop_zero,List.take_of_length_le (by omega)]
  have t3:List.take T.length (List.drop 0 (eL T))=eL T:=by rw [List.drop_zero,List.take_of_length_le (by omega)]
  conv=>whnf
  refine ⟨by omega,?_⟩
  conv=>whnf
  refine ⟨by omega,?_⟩
  conv=>whnf
  refine ⟨by omega,?_⟩
  conv=>whnf
  rw [t1,t2,t3]
  exact ⟨rfl,rfl,hk ⟨L,M,T⟩ d hd ⟨by dsimp only;omega,by dsimp only;omega,by dsimp only;omega,hb,hb1,hb2⟩⟩
end Go.Proofs
