/- Proved here: what functions of the given program come to, and the plain laws of it; no condition but those in the theorems. -/
import Derived.Test.YtgllikepncnpkaaGreatPLag
import Derived.Test.YtgllikepncnpkaaGreatPTrav2
namespace Go.Proofs
open Go Go.Abs
set_option linter.unusedSimpArgs false
set_option linter.unusedVariables false
set_option maxRecDepth 40000
def R_posz:RT:=fun args k=>∃ x:Int,args=[I x]∧k (Bo (decide (0 < x)))
theorem posz_ok:FunR Tryz.prog 90 R_posz:=by
  intro args k h
  obtain ⟨x,rfl,hk⟩:=h
  refine does_ex (qc:=qc1) (np:=[]) (CK:=ckK []) mixed Tryz.func90 rfl rfl Tryz.ntmps90 Tryz.results90 τ_ok (by kernel_rfl) (ckK_ok trivial) (by simp) ?_
  conv=>whnf
  exact hk
def R_ixW:RT:=fun args k=>∃ l:Ls,args=[.c (.lst (eL l)),.c (.fn 90 [])]∧l.length≤9223372036854775807∧k (I (pos l))
theorem ixW_ok:FunR Tryz.prog 89 R_ixW:=by
  intro args k h
  obtain ⟨l,rfl,hl,hk⟩:=h
  have hm:=eL_len l
  refine does_ex (qc:=qc1) (np:=[]) (CK:=ckK [(90,cSc R_posz)]) mixed Tryz.func89 rfl rfl Tryz.ntmps89 Tryz.results89 τ_ok (by kernel_rfl) (ckK_ok ⟨cSc_ok posz_ok,trivial⟩) (by simp) ?_
  conv=>whnf
  refine ⟨Nat,fun i=>([(0,.c (.lst (eL l))),(1,.c (.fn 90 [])),(7,I (eL l).length),(8,I i)],⟨[],9,[]⟩),
    fun i=>i≤l.length∧pos l=posG i (l.drop i),fun i=>l.length - i,0,⟨Nat.zero_le _,rfl⟩,Shift.reset ⟨rfl,rfl,rfl,rfl,trivial⟩ trivial rfl rfl,fun i hi=>?_⟩
  obtain ⟨hi1,hi2⟩:=hi
  dsimp only
  conv=>whnf
  refine Fork.mk (fun h=>?_) (fun h=>?_)
  rotate_left
  · have hie:i=l.length:=by simp at h;omega
    rw [hie,List.drop_length] at hi2
    rw [hi2] at hk
    conv=>whnf
    exact hk
  have hi:i < l.length:=by simp at h;omega
  clear h
  have hci:=List.getElem?_eq_getElem hi
  generalize l[i]=x at hci
  rw [drop_of hci,posG] at hi2
  have hw1:=wr_succ (i:=i) (by omega)
  conv=>whnf
  refine ⟨by omega,eI x,by rw [Int.toNat_natCast,List.getElem?_map,hci];rfl,rfl,?_⟩
  conv=>whnf
  refine ⟨x,rfl,?_⟩
  conv=>whnf
  refine Fork.mk (fun h=>?_) (fun h=>?_)
  · rw [if_pos h] at hi2
    rw [hi2] at hk
    conv=>whnf
    exact hk
  rw [if_neg (by rw [h];simp)] at hi2
  conv=>whnf
  rw [hw1]
  exact ⟨i+1,⟨hi,hi2⟩,Shift.reset ⟨rfl,rfl,rfl,rfl,trivial⟩ trivial rfl rfl,by omega⟩
theorem jtrv_ok:FunR Tryz.prog 55 R_trv:=by
  intro args k h
  obtain ⟨r,f,t,rfl,hr,hk⟩:=h
  have hmk:=eK_len r.ls
  refine does_ex (qc:=qc1) (np:=[]) (CK:=ckK [(73,cSc R_rvE),(87,cSc R_node),(88,cPu R_way),(89,cSc R_ixW)]) mixed Tryz.func55 rfl rfl Tryz.ntmps55 Tryz.results55 τ_ok (by kernel_rfl) (ckK_ok ⟨cSc_ok rvE_ok',cSc_ok node_ok,cPu_ok way_ok rfl,cSc_ok ixW_ok,trivial⟩) (by simp) ?_
  conv=>whnf
  refine ⟨r,rfl,hr,?_⟩
  conv=>whnf
  refine Fork.mk (fun h=>?_) (fun h=>?_)
  · have h1:rvE r ≠ 0:=by simpa using h
    conv=>whnf
    exact kTrv hk (y:=(0,0,false,rvE r)) (by rw [trvS,if_pos h1])
  have h1:rvE r=0:=by simpa using h
  clear h
  have hr:=rvE_ok h1
  have hrl:=hr.len
  have hrn:=hr.n
  conv=>whnf
  refine ⟨r,f,rfl,hrn,?_⟩
  conv=>whnf
  refine Fork.mk (fun h=>?_) (fun h=>?_)
  · have h2:inN r.n f=false:=by simpa using h
    conv=>whnf
    refine Fork.mk (fun _=>?_) (fun h=>by cases h)
    conv=>whnf
    exact kTrv hk (y:=(0,0,false,11)) (by rw [trvS,if_neg (by simp [h1]),if_pos h2])
  have h2:inN r.n f=true:=by simpa using h
  clear h
  conv=>whnf
  refine ⟨r,t,rfl,hrn,?_⟩
  conv=>whnf
  refine Fork.mk (fun h=>?_) (fun h=>?_)
  · have h3:inN r.n t=false:=by simpa using h
    conv=>whnf
    exact kTrv hk (y:=(0,0,false,11)) (by rw [trvS,if_neg (by simp [h1]),if_neg (by simp [h2]),if_pos h3])
  have h3:inN r.n t=true:=by simpa using h
  clear h
  have e0:trvS r f t=trvM (lagR r f t):=by rw [trvS,if_neg (by simp [h1]),if_neg (by simp [h2]),if_neg (by simp [h3])]
  have hf:0≤f∧f < r.n:=by simp [inN] at h2;omega
  conv=>whnf
  refine ⟨r,f,rfl,hr,hf,?_⟩
  have hW:(wayR r f).length≤40:=path_len hr hf
  generalize hW0:wayR r f=W at hW
  have hmw:(eL (W.map Int.ofNat)).length=W.length:=by rw [eL_len,List.length_map]
  conv=>whnf
  refine ⟨Nat × Int × Int × Int,fun y=>([(1,I y.2.1),(2,I t),(3,.c (.ptr (.l 3 0) 0)),(11,I y.2.2.1),(12,I y.2.2.2),(33,.c (.lst (eL (W.map Int.ofNat)))),(34,I (eL (W.map Int.ofNat)).length),(35,I y.1)],⟨[(.l 3 0,.blk (rvC r))],9,[]⟩),
    fun y=>y.1≤W.length∧W.drop y.1=wayR r y.2.1∧lgI r f t y.2.1 y.2.2.1 y.2.2.2,fun y=>W.length - y.1,(0,f,0,0),⟨Nat.zero_le _,hW0.symm,lgI.zero hf⟩,Shift.rename [] ⟨rfl,rfl,rfl,rfl,rfl,rfl,rfl,rfl,trivial⟩ ⟨rfl,trivial⟩ rfl rfl rfl,fun y hy=>?_⟩
  obtain ⟨j,q,a,b⟩:=y
  obtain ⟨hj,hw,hI⟩:=hy
  dsimp only at hj hw hI ⊢
  have ha:=hI.ha
  have hb:=hI.hb
  have hq:=hI.hf
  conv=>whnf
  refine Fork.mk (fun h=>?_) (fun h=>?_)
  rotate_left
  · have hje:j=W.length:=by simp at h;omega
    clear h
    rw [hje,List.drop_length] at hw
    have hlt:lnk r.ls q < 0:=by
      rcases lnk_at r.ls q with h | ⟨i,l,g1,g2,g3⟩
      · exact h
      · rw [wayR_step hr hq.1 g1 g2 g3] at hw;cases hw
    conv=>whnf
    refine Fork.mk (fun h=>?_) (fun h=>?_)
    · have hne:q ≠ t:=by simpa using h
      conv=>whnf
      exact kTrv hk (y:=(0,0,false,0)) (by rw [e0,hI.no (lagR_end hlt hne)];rfl)
    have he:q=t:=by simpa using h
    subst he
    conv=>whnf
    exact kTrv hk (y:=(a,b,true,0)) (by rw [e0,hI.done];rfl)
  have hj2:j < W.length:=by simp at h;omega
  clear h
  have hwj:=wr_succ (i:=j) (by omega)
  have hcj:=List.getElem?_eq_getElem hj2
  generalize W[j]=i at hcj
  rw [drop_of hcj] at hw
  obtain ⟨l,g1,g2,g3⟩:∃ l,lnk r.ls q=i∧r.ls[i]?=some l∧l.fr=q:=by
    rcases lnk_at r.ls q with h | ⟨i',l,g1,g2,g3⟩
    · rw [wayR_end h] at hw;cases hw
    · rw [wayR_step hr hq.1 g1 g2 g3] at hw
      obtain ⟨e,_⟩:=List.cons.inj hw
      subst e
      exact ⟨l,g1,g2,g3⟩
  have hil:=(List.getElem?_eq_some_iff.1 g2).1
  have hlk:=hr.l l (List.mem_of_getElem? g2)
  have k2:=hlk.o
  have k3:=hlk.t
  rw [wayR_step hr hq.1 g1 g2 g3] at hw
  obtain ⟨pj,px,p1,p2,p3,p4,p5,p6⟩:=pos_ok hlk.r
  have hmw2:=eL_len l.ws
  conv=>whnf
  refine ⟨by omega,eI (i:Int),by rw [Int.toNat_natCast,List.getElem?_map,List.getElem?_map,hcj];rfl,rfl,?_⟩
  conv=>whnf
  refine ⟨by omega,lkC l,by rw [Int.toNat_natCast,List.getElem?_map,g2];rfl,rfl,?_⟩
  conv=>whnf
  rw [g3]
  refine Fork.mk (fun h=>?_) (fun h=>?_)
  · have hge:t≤q:=by simpa using h
    clear h
    conv=>whnf
    refine Fork.mk (fun h=>?_) (fun h=>?_)
    · have hne:q ≠ t:=by simpa using h
      conv=>whnf
      exact kTrv hk (y:=(0,0,false,0)) (by rw [e0,hI.no (lagR_past hr _ q (Nat.le_refl _) hq.1 (by omega) hq.2)];rfl)
    have he:q=t:=by simpa using h
    subst he
    conv=>whnf
    exact kTrv hk (y:=(a,b,true,0)) (by rw [e0,hI.done];rfl)
  have hlt:¬ t≤q:=by simpa using h
  clear h
  have hI2:=hI.next hr (by omega) g1 g2 g3
  have w1:IntKind.i64.wrap (a+pos l.ws)=a+pos l.ws:=wrap_in (by omega) (by omega)
  have w2:IntKind.i64.wrap ((((eL l.ws).length:Nat):Int) - 1)=(l.ws.length:Int) - 1:=by rw [hmw2];exact wrap_in (by omega) (by omega)
  have w3:IntKind.i64.wrap (b+((l.ws.length:Int) - 1))=b+((l.ws.length:Int) - 1):=wrap_in (by omega) (by omega)
  conv=>whnf
  refine ⟨l.ws,rfl,by omega,?_⟩
  conv=>whnf
  rw [w1,w2,w3,hwj]
  exact ⟨(j+1,l.to,a+pos l.ws,b+((l.ws.length:Int) - 1)),⟨hj2,(List.cons.inj hw).2,hI2⟩,Shift.reset ⟨rfl,rfl,rfl,rfl,rfl,rfl,rfl,rfl,trivial⟩ ⟨rfl,trivial⟩ rfl rfl,by dsimp only;omega⟩
end Go.Proofs

namespace Go.Proofs
open Go Go.Abs
set_option linter.unusedSimpArgs false
set_option linter.unusedVariables false
set_option maxRecDepth 40000
def idxI (x:Int):Nat→Ls→Int
  | _,[]=>-1
  | i,y :: r=>if x=y then (i:Int) else idxI x (i+1) r
theorem idxI_any {x:Int}:∀ {l:Ls} {i:Nat},decide (0≤idxI x i l)=l.any (fun y=>decide (y=x))
  | [],i=>rfl
  | y :: r,i=>by
    rw [idxI,List.any_cons]
    by_cases h:x=y
    · rw [if_pos h]
      simp [h]
    · rw [if_neg h,idxI_any (l:=r)]
      have:¬ y=x:=fun e=>h e.symm
      simp [this]
def R_sidx:RT:=fun args k=>∃ (l:Ls) (x:Int),args=[.c (.lst (eL l)),I x]∧l.length≤9223372036854775807∧k (I (idxI x 0 l))
theorem sidx_ok:FunR Tryz.prog 86 R_sidx:=by
  intro args k h
  obtain ⟨l,x,rfl,hl,hk⟩:=h
  have hm:=eL_len l
  refine does_ex (qc:=qc1) (np:=[]) (CK:=ckK []) mixed Tryz.func86 rfl rfl Tryz.ntmps86 Tryz.results86 τ_ok (by kernel_rfl) (ckK_ok trivial) (by simp) ?_
  conv=>whnf
  refine ⟨Nat,fun i=>([(0,.c (.lst (eL l))),(1,I x),(7,I (eL l).length),(8,I i)],⟨[],9,[]⟩),
    fun i=>i≤l.length∧idxI x 0 l=idxI x i (l.drop i),fun i=>l.length - i,0,⟨Nat.zero_le _,rfl⟩,Shift.reset ⟨rfl,rfl,rfl,rfl,trivial⟩ trivial rfl rfl,fun i hi=>?_⟩
  obtain ⟨hi1,hi2⟩:=hi
  dsimp only
  conv=>whnf
  refine Fork.mk (fun h=>?_) (fun h=>?_)
  rotate_left
  · have hie:i=l.length:=by simp at h;omega
    rw [hie,List.drop_length] at hi2
    rw [hi2] at hk
    conv=>whnf
    exact hk
  have hi:i < l.length:=by simp at h;omega
  clear h
  have hci:=List.getElem?_eq_getElem hi
  generalize l[i]=y at hci
  rw [drop_of hci,idxI] at hi2
  have hw1:=wr_succ (i:=i) (by omega)
  conv=>whnf
  refine ⟨by omega,eI y,by rw [Int.toNat_natCast,List.getElem?_map,hci];rfl,rfl,?_⟩
  conv=>whnf
  refine Fork.mk (fun h=>?_) (fun h=>?_)
  · rw [if_pos (by simpa using h)] at hi2
    rw [hi2] at hk
    conv=>whnf
    exact hk
  rw [if_neg (by simpa using h)] at hi2
  conv=>whnf
  rw [hw1]
  exact ⟨i+1,⟨hi,hi2⟩,Shift.reset ⟨rfl,rfl,rfl,rfl,trivial⟩ trivial rfl rfl,by omega⟩
theorem scon_ok:FunR Tryz.prog 54 R_has:=by
  intro args k h
  obtain ⟨l,x,rfl,hl,hk⟩:=h
  refine does_ex (qc:=qc1) (np:=[]) (CK:=ckK [(86,cSc R_sidx)]) mixed Tryz.func54 rfl rfl Tryz.ntmps54 Tryz.results54 τ_ok (by kernel_rfl) (ckK_ok ⟨cSc_ok sidx_ok,trivial⟩) (by simp) ?_
  conv=>whnf
  refine ⟨l,x,rfl,hl,?_⟩
  conv=>whnf
  rw [show decide (0≤idxI x 0 l)=l.any (fun y=>decide (y=x)) from idxI_any]
  exact hk
end Go.Proofs

namespace Go.Proofs
open Go Go.Abs
set_option linter.unusedSimpArgs false
set_option linter.unusedVariables false
set_option maxRecDepth 40000
theorem lags_err {c:Cs} {i m:Int} (h:(bwS c i).2 ≠ 0):lagsS c i m=(0,0,(bwS c i).2):=by
  unfold bwS at h ⊢
  unfold lagsS
  split
  · rfl
  rename_i h1
  rw [if_neg h1] at h
  split
  · rfl
  rename_i h2
  rw [if_neg h2] at h
  split
  · rfl
  rename_i h3
  rw [if_neg h3] at h
  exact absurd rfl h
theorem bw_good {c:Cs} {i:Int} (h:(bwS c i).2=0):csE c=0∧0≤i∧i < c.si.length∧(bwS c i).1=belF c i.toNat:=by
  unfold bwS at h ⊢
  split at h
  · rename_i h1;exact absurd h h1
  rename_i h1
  split at h
  · cases h
  rename_i h2
  split at h
  · cases h
  rename_i h3
  rw [if_neg h1,if_neg h2,if_neg h3]
  exact ⟨by omega,by omega,by omega,rfl⟩
theorem lags_no {c:Cs} {i m:Int} (h1:csE c=0) (h2:0≤i) (h3:i < c.si.length) (h:(belF c i.toNat).any (fun y=>decide (y=m))=false):lagsS c i m=(0,0,41):=by
  rw [lagsS,if_neg (by simp [h1]),if_neg (by omega),if_neg (by omega),if_pos h]
theorem lags_yes {c:Cs} {i m:Int} {x:Si} (h1:csE c=0) (h2:0≤i) (h3:i < c.si.length) (h:(belF c i.toNat).any (fun y=>decide (y=m))=true) (hx:c.si[i.toNat]?=some x):trvS c.rv x.nd m=trvM (lagR c.rv x.nd m) ∧
    lagsS c i m=((trvS c.rv x.nd m).1,(trvS c.rv x.nd m).2.1,0)∧(trvS c.rv x.nd m).2.2.2=0:=by
  have hc:=csE_ok h1
  have hm:=bel_in hc hx h
  have hxn:=(hc.s x (List.mem_of_getElem? hx)).1
  have e:trvS c.rv x.nd m=trvM (lagR c.rv x.nd m):=by rw [trvS,if_neg (by simp [rvE_of hc.r]),if_neg (by simp [inN];omega),if_neg (by simp [inN];omega)]
  refine ⟨e,?_,?_⟩
  · rw [e,lagsS,if_neg (by simp [h1]),if_neg (by omega),if_neg (by omega),if_neg (by simp [h]),hx]
    dsimp only
    cases lagR c.rv x.nd m <;> rfl
  · rw [e]
    cases lagR c.rv x.nd m <;> rfl
theorem lags_ok:FunR Tryz.prog 29 R_lags:=by
  intro args k h
  obtain ⟨c,i,m,rfl,hc,hk⟩:=h
  have hmx:=eX_len c.si
  refine does_ex (qc:=qc1) (np:=[]) (CK:=ckK [(20,cPu R_bw),(54,cSc R_has),(55,cSc R_trv)]) mixed Tryz.func29 rfl rfl Tryz.ntmps29 Tryz.results29 τ_ok (by kernel_rfl) (ckK_ok ⟨cPu_ok bel_ok rfl,cSc_ok scon_ok,cSc_ok jtrv_ok,trivial⟩) (by simp) ?_
  conv=>whnf
  refine ⟨c,i,rfl,hc,?_⟩
  conv=>whnf
  refine Fork.mk (fun h=>?_) (fun h=>?_)
  · have h1:(bwS c i).2 ≠ 0:=by simpa using h
    conv=>whnf
    exact kLg (y:=(0,0,(bwS c i).2)) hk (lags_err h1)
  have h1:(bwS c i).2=0:=by simpa using h
  clear h
  obtain ⟨b1,b2,b3,b4⟩:=bw_good h1
  have hok:=csE_ok b1
  have hbl:=belF_len hok i.toNat
  rw [b4]
  conv=>whnf
  refine ⟨belF c i.toNat,m,rfl,by omega,?_⟩
  conv=>whnf
  refine Fork.mk (fun h=>?_) (fun h=>?_)
  · have h2:(belF c i.toNat).any (fun y=>decide (y=m))=false:=by rw [Bool.not_eq_true'] at h;exact h
    conv=>whnf
    exact kLg (y:=(0,0,41)) hk (lags_no b1 b2 b3 h2)
  have h2:(belF c i.toNat).any (fun y=>decide (y=m))=true:=by rw [Bool.not_eq_false'] at h;exact h
  clear h
  obtain ⟨x,hx⟩:∃ x,c.si[i.toNat]?=some x:=⟨_,List.getElem?_eq_getElem (by omega)⟩
  obtain ⟨_,t2,t3⟩:=lags_yes b1 b2 b3 h2 hx
  conv=>whnf
  refine ⟨by omega,siC x,by rw [List.getElem?_map,hx];rfl,rfl,?_⟩
  conv=>whnf
  refine ⟨c.rv,x.nd,m,rfl,hc.r,?_⟩
  conv=>whnf
  rw [t3]
  refine Fork.mk (fun h=>absurd h (by decide)) (fun _=>?_)
  conv=>whnf
  exact kLg (y:=((trvS c.rv x.nd m).1,(trvS c.rv x.nd m).2.1,0)) hk t2
end Go.Proofs

namespace Go.Proofs
open Go Go.Abs
set_option linter.unusedSimpArgs false
set_option linter.unusedVariables false
theorem fP_step {ws:Ls} {den:Int} {ps:Ls} {q:Int} (h1:1≤ws.length) (hp:ps.length≤ws.length) (k:Nat):fP (stepF ws den ps q) k=hP ws den ps q k:=by
  rw [stepF,fP_trim,fP_tab]
  split
  · rfl
  · rename_i h
    unfold hP gP
    rw [fP_out (by omega),fP_out (by omega),if_neg (by omega)]
    omega
theorem gA_set1 {a:Ls} {i j:Int} {v:Int} (hi:1≤i) (h:i.toNat < a.length):gA (a.set i.toNat v) j=if j=i then v else gA a j:=by
  by_cases hj:0≤j
  · exact gA_set (by omega) h hj
  · rw [if_neg (by omega)]
    unfold gA
    rw [List.getD_eq_getElem?_getD,List.getD_eq_getElem?_getD,List.getElem?_set_ne (by omega)]
end Go.Proofs

namespace Go.Proofs
open Go Go.Abs
set_option linter.unusedSimpArgs false
set_option linter.unusedVariables false
theorem fl_small2 {c:Cs} (hc:CsOk c) {B g:Int} (hB:0≤B∧B≤1000000) (hg:0≤g):∀ {lvs locs w:List Ls} {v:Ls} {K:Int},WvOk c.rv w→volOk c.rv.ls w v→lvs.length=locs.length →
    (∀ l ∈ lvs,l.length=c.si.length∧∀ x ∈ l,0≤x∧x≤B)→(∀ m ∈ locs,(m.length:Int)=c.rv.n∧(∀ x ∈ m,0≤x)∧m.sum≤g)→v.sum+(g+B * c.rv.ls.length) * lvs.length≤K→K≤1000000000 →
    ∃ r,flG c w lvs locs=.ok r∧r.length=lvs.length∧∀ a ∈ r,(a.length:Int)=c.rv.n∧∀ y ∈ a,0≤y∧y≤K
  | [],[],w,v,K,_,_,_,_,_,_,_=>⟨[],rfl,rfl,fun a h=>by simp at h⟩
  | [],_ :: _,_,_,_,_,_,h,_,_,_,_=>by simp at h
  | _ :: _,[],_,_,_,_,_,h,_,_,_,_=>by simp at h
  | l :: lvs,m :: locs,w,v,K,hw,hv,hn,h1,h2,hK,hK2=>by
    have hr:=hc.r
    obtain ⟨a1,a2⟩:=h1 l (by simp)
    obtain ⟨b1,b2,b3⟩:=h2 m (by simp)
    have hv0:=vol_nn hv hw.l
    have hBl:0≤B * (c.rv.ls.length:Int):=Int.mul_nonneg hB.1 (by omega)
    rw [List.length_cons,Int.natCast_add,Int.mul_add] at hK
    have hG:0≤(g+B * (c.rv.ls.length:Int)) * (lvs.length:Int):=Int.mul_nonneg (by omega) (by omega)
    simp only [Int.natCast_one,Int.mul_one] at hK
    obtain ⟨x,v',z1,z2,z3,z4,z5,z6⟩:=cGo_small (lv:=lvF c.si l) hB.1 (lvF_b a2) (K:=v.sum+m.sum+B * c.rv.ls.length) (by omega) (n:=c.rv.n) 0 (fun l hl=>⟨hr.l l hl,(hr.l l hl).f⟩) hr.p b1.symm hw.l hw.f hv b2 (by show (m.drop 0).sum+v.sum+_≤_;rw [List.drop_zero];omega)
    have hs:=stX_ok z1 a1 b1 (bad_no fun y hy=>by have:=a2 y hy;omega) (bad_no fun y hy=>by have:=(sum_nn b2).2 y hy;have:=b2 y hy;omega)
    obtain ⟨f1,f2,_⟩:=stX_fit hr hw hs
    obtain ⟨r,r1,r2,r3⟩:=fl_small2 hc hB hg (K:=K) f1 z2 (by simpa using hn) (fun y hy=>h1 y (by simp [hy])) (fun y hy=>h2 y (by simp [hy])) (by omega) hK2
    refine ⟨x.2 :: r,by rw [flG_ok hs,r1];rfl,by simp [r2],fun a ha=>?_⟩
    rcases List.mem_cons.1 ha with rfl | ha
    · refine ⟨by rw [f2];exact b1,fun y hy=>⟨z3 y hy,?_⟩⟩
      obtain ⟨i,hi⟩:=List.getElem?_of_mem hy
      have:=z5 i (Nat.zero_le _)
      unfold gN at this
      rw [List.getD_eq_getElem?_getD,hi,Option.getD_some] at this
      omega
    · exact r3 a ha
theorem stX_go {c:Cs} {ws:List Ls} {lv loc:Ls} {x:List Ls × Ls} (h:stX c ws lv loc=.ok x):cGo (lvF c.si lv) c.rv.ls ws loc=some x∧lv.length=c.si.length∧(loc.length:Int)=c.rv.n:=by
  unfold stX at h
  split at h
  · cases h
  split at h
  · cases h
  split at h
  · cases h
  split at h
  · cases h
  split at h
  · cases h
  · rename_i e
    cases h
    exact ⟨e,by omega,by omega⟩
def leq (a b:Ls):Prop:=a.length=b.length∧∀ (i:Nat) x y,a[i]?=some x→b[i]?=some y→x≤y
def leQ:List Ls→List Ls→Prop
  | a :: r,b :: t=>leq a b∧leQ r t
  | [],[]=>True
  | _,_=>False
end Go.Proofs

namespace Go.Proofs
open Go Go.Abs
set_option linter.unusedSimpArgs false
set_option linter.unusedVariables false
theorem lag_next {r:Rv} (hr:RvOk r) {l:Lk} (hl:l ∈ r.ls):∀ (n:Nat) (q:Int) (z:Int × Int),(r.n - q).toNat≤n→0≤q→q < r.n→lagR r q l.fr=some z→lagR r q l.to=some (z.1+pos l.ws,z.2+((l.ws.length:Int) - 1)):=by
  have hk:=hr.l l hl
  have k2:=hk.o
  have k3:=hk.t
  obtain ⟨il,hil⟩:=List.getElem?_of_mem hl
  intro n
  induction n with
  | zero=>intro q z h0 h1 h2 h3;omega
  | succ n ih =>
    intro q z h0 h1 h2 h3
    by_cases hq:q=l.fr
    · subst hq
      rw [lagR_eq] at h3
      cases h3
      have hlk:lnk r.ls l.fr=il:=by
        rcases lnk_at r.ls l.fr with h | ⟨i,l',g1,g2,g3⟩
        · rcases lnk_spec r.ls l.fr with ⟨_,h⟩ | ⟨j,a,g1,g2,g3⟩
          · exact absurd rfl (h l hl)
          · omega
        · have:i=il:=by
            obtain ⟨i1,e1⟩:=List.getElem?_eq_some_iff.1 g2
            obtain ⟨i2,e2⟩:=List.getElem?_eq_some_iff.1 hil
            rcases Nat.lt_trichotomy i il with e | e | e
            · have:=List.pairwise_iff_getElem.1 hr.p i il i1 i2 e
              rw [e1,e2] at this
              omega
            · exact e
            · have:=List.pairwise_iff_getElem.1 hr.p il i i2 i1 e
              rw [e1,e2] at this
              omega
          rw [g1,this]
      rw [lagR_step hr h1 (by omega) hlk hil rfl,lagR_eq]
      simp
    · rcases lnk_at r.ls q with h | ⟨i,l',g1,g2,g3⟩
      · rw [lagR_end h hq] at h3;cases h3
      · have hk':=hr.l l' (List.mem_of_getElem? g2)
        have k2':=hk'.o
        have k3':=hk'.t
        rw [lagR_step hr h1 hq g1 g2 g3] at h3
        obtain ⟨z',hz',rfl⟩:=Option.map_eq_some_iff.1 h3
        have hle:l'.to≤l.fr:=by
          rcases Int.lt_or_le l.fr l'.to with h | h
          · rw [lagR_past hr _ l'.to (Nat.le_refl _) (by omega) h k3'] at hz';cases hz'
          · exact h
        rw [lagR_step hr h1 (by omega) g1 g2 g3,ih l'.to z' (by omega) (by omega) k3' hz']
        simp only [Option.map_some,Option.some.injEq,Prod.mk.injEq]
        omega
theorem bel_next {c:Cs} (hc:CsOk c) {l:Lk} (hl:l ∈ c.rv.ls) (hs:snA c.si l.fr < 0):∀ (n:Nat) (q:Int),(c.rv.n - q).toNat≤n→0≤q→q < c.rv.n→l.fr ∈ belP c q→l.to ∈ belP c q:=by
  have hr:=hc.r
  have hk:=hr.l l hl
  obtain ⟨il,hil⟩:=List.getElem?_of_mem hl
  intro n
  induction n with
  | zero=>intro q h0 h1 h2 h3;omega
  | succ n ih =>
    intro q h0 h1 h2 h3
    rcases lnk_at c.rv.ls q with h | ⟨i,l',g1,g2,g3⟩
    · rw [belP_end h] at h3;cases h3
    · have hk':=hr.l l' (List.mem_of_getElem? g2)
      have k2':=hk'.o
      have k3':=hk'.t
      rw [belP_step hr h1 g1 g2 g3] at h3 ⊢
      split at h3
      · rename_i hp
        simp at h3
        rw [h3] at hs
        omega
      · rename_i hp
        rw [if_neg hp]
        rcases List.mem_cons.1 h3 with h3 | h3
        · -- l leaves l'.to
          have hlk:lnk c.rv.ls l'.to=il:=by
            rw [← h3]
            rcases lnk_at c.rv.ls l.fr with h | ⟨j,l2,e1,e2,e3⟩
            · rcases lnk_spec c.rv.ls l.fr with ⟨_,h⟩ | ⟨j,a,e1,e2,e3⟩
              · exact absurd rfl (h l hl)
              · omega
            · have:j=il:=by
                obtain ⟨i1,f1⟩:=List.getElem?_eq_some_iff.1 e2
                obtain ⟨i2,f2⟩:=List.getElem?_eq_some_iff.1 hil
                rcases Nat.lt_trichotomy j il with e | e | e
                · have:=List.pairwise_iff_getElem.1 hr.p j il i1 i2 e
                  rw [f1,f2] at this
                  omega
                · exact e
                · have:=List.pairwise_iff_getElem.1 hr.p il j i2 i1 e
                  rw [f1,f2] at this
                  omega
              rw [e1,this]
          rw [belP_step hr (by omega) hlk hil h3]
          split <;> simp
        · exact List.mem_cons_of_mem _ (ih l'.to (by omega) (by omega) k3' h3)
theorem bel_lag {c:Cs} (hc:CsOk c) {m:Int}:∀ (n:Nat) (q:Int),(c.rv.n - q).toNat≤n→0≤q→q < c.rv.n→m ∈ belP c q→∃ z:Int × Int,lagR c.rv q m=some z∧q < m∧0≤z.1∧z.1≤z.2∧z.2≤24 * (m - q):=by
  have hr:=hc.r
  intro n
  induction n with
  | zero=>intro q h0 h1 h2 h3;omega
  | succ n ih =>
    intro q h0 h1 h2 h3
    rcases lnk_at c.rv.ls q with h | ⟨i,l,g1,g2,g3⟩
    · rw [belP_end h] at h3;cases h3
    · have hk:=hr.l l (List.mem_of_getElem? g2)
      have k2:=hk.o
      have k3:=hk.t
      obtain ⟨j,x,p1,p2,p3,p4,p5,p6⟩:=pos_ok hk.r
      rw [belP_step hr h1 g1 g2 g3] at h3
      have one:m=l.to→∃ z:Int × Int,lagR c.rv q m=some z∧q < m∧0≤z.1∧z.1≤z.2∧z.2≤24 * (m - q):=fun e=>by
        subst e
        refine ⟨(pos l.ws+0,(l.ws.length:Int) - 1+0),by rw [lagR_step hr h1 (by omega) g1 g2 g3,lagR_eq];rfl,by omega,?_,?_,?_⟩ <;> dsimp only <;> omega
      split at h3
      · simp at h3;exact one h3
      · rcases List.mem_cons.1 h3 with h3 | h3
        · exact one h3
        · obtain ⟨z,z1,z2,z3,z4,z5⟩:=ih l.to (by omega) (by omega) k3 h3
          refine ⟨(pos l.ws+z.1,(l.ws.length:Int) - 1+z.2),by rw [lagR_step hr h1 (by omega) g1 g2 g3,z1];rfl,by omega,?_,?_,?_⟩ <;> dsimp only <;> omega
def TT (c:Cs) (i:Nat) (k:Int) (m:Int):Option Int:=if (belF c i).any (fun y=>decide (y=m))=true then match c.si[i]? with
  | some x=>(lagR c.rv x.nd m).map fun z=>k+z.1
  | none=>none
  else none
def TL (c:Cs) (i:Nat) (k:Int) (f:Int):Option Int:=if snA c.si f=i then some k else if 0≤snA c.si f then none else TT c i k f
theorem snA_at {c:Cs} (hc:CsOk c) {i:Nat} {x:Si} (hx:c.si[i]?=some x) {f:Int} (h:snA c.si f=i):f=x.nd:=by
  rcases snGo_is (x:=f) (l:=c.si) (i:=0) with ⟨h1,_⟩ | ⟨j,s,h1,h2,h3⟩
  · unfold snA at h;omega
  · unfold snA at h
    have:j=i:=by omega
    subst this
    rw [hx] at h1
    cases h1
    exact h2.symm
theorem TT_link {c:Cs} (hc:CsOk c) {i:Nat} {x:Si} (hx:c.si[i]?=some x) {k:Int} {l:Lk} (hl:l ∈ c.rv.ls) {τ:Int} (h:TL c i k l.fr=some τ):TT c i k l.to=some (τ+pos l.ws):=by
  have hr:=hc.r
  have hk:=hr.l l hl
  have k1:=hk.f
  have k2:=hk.o
  have k3:=hk.t
  have hxn:=(hc.s x (List.mem_of_getElem? hx)).1
  have hB:belF c i=belP c x.nd:=by unfold belF;rw [hx]
  unfold TL at h
  split at h
  · rename_i hs
    cases h
    have hf:=snA_at hc hx hs
    have hlag:=lag_next hr hl _ x.nd (0,0) (Nat.le_refl _) hxn.1 hxn.2 (by rw [hf,lagR_eq])
    have hin:l.to ∈ belP c x.nd:=by
      rcases lnk_at c.rv.ls l.fr with h | ⟨j,l2,g1,g2,g3⟩
      · rcases lnk_spec c.rv.ls l.fr with ⟨_,h⟩ | ⟨j,a,e1,e2,e3⟩
        · exact absurd rfl (h l hl)
        · omega
      · obtain ⟨il,hil⟩:=List.getElem?_of_mem hl
        have:j=il:=by
          obtain ⟨i1,f1⟩:=List.getElem?_eq_some_iff.1 g2
          obtain ⟨i2,f2⟩:=List.getElem?_eq_some_iff.1 hil
          rcases Nat.lt_trichotomy j il with e | e | e
          · have:=List.pairwise_iff_getElem.1 hr.p j il i1 i2 e
            rw [f1,f2] at this
            omega
          · exact e
          · have:=List.pairwise_iff_getElem.1 hr.p il j i2 i1 e
            rw [f1,f2] at this
            omega
        subst this
        rw [← hf,belP_step hr k1 g1 hil rfl]
        split <;> simp
    unfold TT
    rw [if_pos (by rw [hB];exact List.any_eq_true.2 ⟨_,hin,by simp⟩),hx]
    dsimp only
    rw [hlag]
    simp
  · split at h
    · cases h
    · rename_i hs
      unfold TT at h
      split at h
      · rename_i ha
        rw [hx] at h
        dsimp only at h
        obtain ⟨z,hz,rfl⟩:=Option.map_eq_some_iff.1 h
        obtain ⟨y,hy,hye⟩:=List.any_eq_true.1 ha
        have hye:y=l.fr:=by simpa using hye
        subst hye
        rw [hB] at hy
        have hin:=bel_next hc hl (by omega) _ x.nd (Nat.le_refl _) hxn.1 hxn.2 hy
        unfold TT
        rw [if_pos (by rw [hB];exact List.any_eq_true.2 ⟨_,hin,by simp⟩),hx]
        dsimp only
        rw [lag_next hr hl _ x.nd z (Nat.le_refl _) hxn.1 hxn.2 hz]
        simp
        omega
      · cases h
def DW (c:Cs) (i:Nat) (k:Int) (r:Nat) (l:Lk) (w v:Ls):Prop:=∀ j:Nat,(∀ τ,TL c i k l.fr=some τ→(r:Int)+j < τ+pos l.ws)→fP w j=fP v j
def rowR (i:Nat) (k:Int) (r:Nat) (l m:Ls):Prop:=l.length=m.length∧∀ j:Nat,(j ≠ i ∨ (r:Int) ≠ k)→l[j]?=m[j]?
theorem dif_go {c:Cs} (hc:CsOk c) {i:Nat} {x:Si} (hx:c.si[i]?=some x) {k:Int} {r:Nat} {lr mr:Ls} (hrow:rowR i k r lr mr) (hlen:mr.length=c.si.length):∀ {ls:List Lk} {ws vs:List Ls} {a b:Ls} {X Y:List Ls × Ls},(∀ l ∈ ls,l ∈ c.rv.ls)→(c.rv.n=a.length)→(c.rv.n=b.length)→ws.length=ls.length→vs.length=ls.length →
    (∀ (j:Nat) l w,ls[j]?=some l→ws[j]?=some w→w.length≤l.ws.length)→(∀ (j:Nat) l w,ls[j]?=some l→vs[j]?=some w→w.length≤l.ws.length)→(∀ (j:Nat) l w v,ls[j]?=some l→ws[j]?=some w→vs[j]?=some v→DW c i k r l w v) →
    (∀ m:Int,(∀ τ,TT c i k m=some τ→(r:Int) < τ)→gA a m=gA b m)→cGo (lvF c.si lr) ls ws a=some X→cGo (lvF c.si mr) ls vs b=some Y →
    (∀ (j:Nat) l w v,ls[j]?=some l→X.1[j]?=some w→Y.1[j]?=some v→DW c i k (r+1) l w v)∧∀ m:Int,(∀ τ,TT c i k m=some τ→(r:Int) < τ)→gA X.2 m=gA Y.2 m
  | [],ws,vs,a,b,X,Y,_,_,_,_,_,_,_,_,hA,h1,h2=>by
    rw [cGo_nil] at h1 h2
    cases h1;cases h2
    exact ⟨fun j l w v h=>by simp at h,hA⟩
  | l :: ls,[],vs,a,b,X,Y,_,_,_,h,_,_,_,_,_,_,_=>by simp at h
  | l :: ls,_ :: _,[],a,b,X,Y,_,_,_,_,h,_,_,_,_,_,_=>by simp at h
  | l :: ls,w :: ws,v :: vs,a,b,X,Y,hin,hna,hnb,hwl,hvl,hw,hv,hD,hA,h1,h2=>by
    have hl:=hin l (by simp)
    have hk:=hc.r.l l hl
    have k1:=hk.f
    have k2:=hk.o
    have k3:=hk.t
    rw [cGo_cons] at h1 h2
    split at h1
    case isFalse=>cases h1
    split at h2
    case isFalse=>cases h2
    obtain ⟨X1,hX1,rfl⟩:=Option.map_eq_some_iff.1 h1
    obtain ⟨Y1,hY1,rfl⟩:=Option.map_eq_some_iff.1 h2
    have hq:(∀ τ,TL c i k l.fr=some τ→(r:Int) < τ)→qGo (lvF c.si lr) l a=qGo (lvF c.si mr) l b:=fun hτ=>by
      unfold qGo lvF
      by_cases hs:0≤snA c.si l.fr
      · rw [if_pos hs,if_pos hs]
        have hj:(snA c.si l.fr).toNat ≠ i ∨ (r:Int) ≠ k:=by
          by_cases e:snA c.si l.fr=i
          · right
            have:=hτ k (by unfold TL;rw [if_pos e])
            omega
          · left;omega
        have e:=hrow.2 _ hj
        rw [e]
        cases hm:mr[(snA c.si l.fr).toNat]? with
        | some y=>rfl
        | none =>
          rcases snGo_is (x:=l.fr) (l:=c.si) (i:=0) with ⟨h1,_⟩ | ⟨j,s,h1,_,h3⟩
          · unfold snA at hs;omega
          · have hj2:=(List.getElem?_eq_some_iff.1 h1).1
            have e3:snA c.si l.fr=((0+j:Nat):Int):=h3
            rw [e3,Int.toNat_natCast,List.getElem?_eq_getElem (by omega)] at hm
            cases hm
      · rw [if_neg hs,if_neg hs]
        simp only [Option.getD_none]
        refine hA l.fr fun τ h=>hτ τ ?_
        unfold TL
        rw [if_neg (by omega),if_neg hs]
        exact h
    obtain ⟨h1',_,hws,hd,_⟩:=rk_facts hk.r
    obtain ⟨pj,px,q1,q2,q3,q4,q5,q6⟩:=pos_ok hk.r
    have hw0:=hw 0 l w rfl rfl
    have hv0:=hv 0 l v rfl rfl
    have hD0:=hD 0 l w v rfl rfl rfl
    have hzero:∀ j:Nat,j < pj→fP l.ws j=0:=fun j hj=>by
      rw [fP_at (show j < l.ws.length by omega)]
      exact q6 j _ hj (List.getElem?_eq_getElem _)
    -- what stands in a place, one step on
    have hg:∀ j:Nat,(∀ τ,TL c i k l.fr=some τ→(r:Int)+j < τ+pos l.ws)→gP l.ws w (qGo (lvF c.si lr) l a) j=gP l.ws v (qGo (lvF c.si mr) l b) j:=fun j hj=>by
      unfold gP
      rw [hD0 j hj]
      by_cases hτ:∀ τ,TL c i k l.fr=some τ→(r:Int) < τ
      · rw [hq hτ]
      · have:fP l.ws j=0:=by
          cases e:TL c i k l.fr with
          | none=>exact absurd (fun τ h=>by rw [e] at h;cases h) hτ
          | some τ =>
            have g1:=hj τ e
            have g2:¬ (r:Int) < τ:=fun h=>hτ fun τ' h'=>by rw [e] at h';cases h';exact h
            rw [q3] at g1
            exact hzero j (by omega)
        rw [this]
        omega
    have hout:(∀ τ,TL c i k l.fr=some τ→(r:Int) < τ+pos l.ws)→outF l.ws l.den w (qGo (lvF c.si lr) l a)=outF l.ws l.den v (qGo (lvF c.si mr) l b):=fun h=>by
      unfold outF
      rw [hg 0 fun τ e=>by have:=h τ e;omega]
    have hnew:DW c i k (r+1) l (stepF l.ws l.den w (qGo (lvF c.si lr) l a)) (stepF l.ws l.den v (qGo (lvF c.si mr) l b)):=fun j hj=>by
      rw [fP_step h1' hw0,fP_step h1' hv0]
      unfold hP
      rw [hg (j+1) fun τ e=>by have:=hj τ e;omega]
      split
      · rename_i e0
        subst e0
        rw [hg 0 fun τ e=>by have:=hj τ e;omega]
      · rfl
    generalize outF l.ws l.den w (qGo (lvF c.si lr) l a)=oa at hout hX1
    generalize outF l.ws l.den v (qGo (lvF c.si mr) l b)=ob at hout hY1
    have ga:∀ j,gA (a.set l.to.toNat (gA a l.to+oa)) j=if j=l.to then gA a l.to+oa else gA a j:=fun j=>gA_set1 (by omega) (by omega)
    have gb:∀ j,gA (b.set l.to.toNat (gA b l.to+ob)) j=if j=l.to then gA b l.to+ob else gA b j:=fun j=>gA_set1 (by omega) (by omega)
    obtain ⟨i1,i2⟩:=dif_go hc hx hrow hlen (fun z hz=>hin z (by simp [hz])) (by rw [List.length_set];exact hna) (by rw [List.length_set];exact hnb) (by simpa using hwl) (by simpa using hvl)
      (fun j z y e1 e2=>hw (j+1) z y (by simpa using e1) (by simpa using e2)) (fun j z y e1 e2=>hv (j+1) z y (by simpa using e1) (by simpa using e2)) (fun j z y u e1 e2 e3=>hD (j+1) z y u (by simpa using e1) (by simpa using e2) (by simpa using e3))
      (fun m hm=>by
        rw [ga,gb]
        split
        · rename_i e
          subst e
          rw [hA l.to hm,hout fun τ e=>hm _ (TT_link hc hx hl e)]
        · exact hA m hm) hX1 hY1
    refine ⟨fun j z y u e1 e2 e3=>?_,i2⟩
    cases j with
    | zero =>
      simp at e1 e2 e3
      subst e1;subst e2;subst e3
      exact hnew
    | succ j=>exact i1 j z y u (by simpa using e1) (by simpa using e2) (by simpa using e3)
theorem dif_flG {c:Cs} (hc:CsOk c) {i:Nat} {x:Si} (hx:c.si[i]?=some x) {k:Int}:∀ {lvs mvs locs ws vs R T:List Ls} {r:Nat},(∀ (s:Nat) l m,lvs[s]?=some l→mvs[s]?=some m→rowR i k (r+s) l m)→WvOk c.rv ws→WvOk c.rv vs →
    (∀ (j:Nat) l w v,c.rv.ls[j]?=some l→ws[j]?=some w→vs[j]?=some v→DW c i k r l w v)→flG c ws lvs locs=.ok R→flG c vs mvs locs=.ok T→∀ (s:Nat) a b,R[s]?=some a→T[s]?=some b→∀ m:Int,(∀ τ,TT c i k m=some τ→((r+s:Nat):Int) < τ)→gA a m=gA b m
  | [],mvs,locs,ws,vs,R,T,r,_,_,_,_,h1,_=>by
    have:R=[]:=by unfold flG at h1;cases h1;rfl
    subst this
    intro s a b h
    simp at h
  | l :: lvs,[],locs,ws,vs,R,T,r,_,_,_,_,_,h2=>by
    have:T=[]:=by unfold flG at h2;cases h2;rfl
    subst this
    intro s a b _ h
    simp at h
  | l :: lvs,m :: mvs,[],ws,vs,R,T,r,_,_,_,_,h1,_=>by
    have:R=[]:=by unfold flG at h1;cases h1;rfl
    subst this
    intro s a b h
    simp at h
  | l :: lvs,m :: mvs,p :: locs,ws,vs,R,T,r,hrow,hw,hv,hD,h1,h2=>by
    unfold flG at h1 h2
    cases s1:stX c ws l p with
    | error e=>rw [s1] at h1;cases h1
    | ok X =>
    cases s2:stX c vs m p with
    | error e=>rw [s2] at h2;cases h2
    | ok Y =>
    rw [s1] at h1
    rw [s2] at h2
    dsimp only at h1 h2
    cases r1:flG c X.1 lvs locs with
    | error e=>rw [r1] at h1;cases h1
    | ok R1 =>
    cases r2:flG c Y.1 mvs locs with
    | error e=>rw [r2] at h2;cases h2
    | ok T1 =>
    rw [r1] at h1
    rw [r2] at h2
    cases h1
    cases h2
    obtain ⟨g1,g2,g3⟩:=stX_go s1
    obtain ⟨k1,k2,k3⟩:=stX_go s2
    obtain ⟨f1,_⟩:=stX_fit hc.r hw s1
    obtain ⟨f2,_⟩:=stX_fit hc.r hv s2
    have hr0:=hrow 0 l m rfl rfl
    rw [Nat.add_zero] at hr0
    obtain ⟨i1,i2⟩:=dif_go hc hx hr0 k2 (fun z hz=>hz) g3.symm k3.symm hw.l hv.l (fun j l w e1 e2=>(fits_facts (hw.f j l w e1 e2)).1) (fun j l w e1 e2=>(fits_facts (hv.f j l w e1 e2)).1) hD (fun _ _=>rfl) g1 k1
    intro s a b e1 e2 q hq
    cases s with
    | zero =>
      simp at e1 e2
      subst e1;subst e2
      exact i2 q fun τ h=>by have:=hq τ h;simpa using this
    | succ s =>
      refine dif_flG hc hx (r:=r+1) (fun s' l' m' e1 e2=>?_) f1 f2 i1 r1 r2 s a b (by simpa using e1) (by simpa using e2) q fun τ h=>by have:=hq τ h;rwa [show r+1+s=r+(s+1) by omega]
      have:=hrow (s'+1) l' m' (by simpa using e1) (by simpa using e2)
      rwa [show r+(s'+1)=r+1+s' by omega] at this
theorem lag_law {c:Cs} (hc:CsOk c) {i:Nat} {x:Si} (hx:c.si[i]?=some x) {k:Nat} {lvs mvs locs ws R T:List Ls} (hrow:∀ (s:Nat) l m,lvs[s]?=some l→mvs[s]?=some m→rowR i k s l m) (hw:WvOk c.rv ws) (h1:flG c ws lvs locs=.ok R) (h2:flG c ws mvs locs=.ok T) (m:Int) :
    ((belF c i).any (fun y=>decide (y=m))=false→∀ (s:Nat) a b,R[s]?=some a→T[s]?=some b→gA a m=gA b m) ∧
    ((belF c i).any (fun y=>decide (y=m))=true→∃ z:Int × Int,lagsS c i m=(z.1,z.2,0)∧0≤z.1∧z.1≤z.2∧z.2≤2000∧∀ (s:Nat) a b,R[s]?=some a→T[s]?=some b→(s:Int) < k+z.1→gA a m=gA b m):=by
  have key:=fun (s:Nat) a b e1 e2=>dif_flG hc hx (k:=k) (r:=0) (fun s l m e1 e2=>by rw [Nat.zero_add];exact hrow s l m e1 e2) hw hw (fun j l w v e1 e2 e3=>by rw [e2] at e3;cases e3;exact fun _ _=>rfl) h1 h2 s a b e1 e2 m
  simp only [Nat.zero_add] at key
  have hxn:=(hc.s x (List.mem_of_getElem? hx)).1
  have hil:=(List.getElem?_eq_some_iff.1 hx).1
  have hB:belF c i=belP c x.nd:=by unfold belF;rw [hx]
  constructor
  · intro h s a b e1 e2
    exact key s a b e1 e2 fun τ e=>by unfold TT at e;rw [if_neg (by simp [h])] at e;cases e
  · intro h
    obtain ⟨y,hy,hye⟩:=List.any_eq_true.1 h
    have hye:y=m:=by simpa using hye
    subst hye
    rw [hB] at hy
    obtain ⟨z,z1,z2,z3,z4,z5⟩:=bel_lag hc _ x.nd (Nat.le_refl _) hxn.1 hxn.2 hy
    have hmn:=bel_in hc hx h
    have hn:=hc.n
    refine ⟨z,?_,z3,z4,by omega,fun s a b e1 e2 hs=>key s a b e1 e2 fun τ e=>?_⟩
    · rw [lagsS,if_neg (by simp [csE_of hc]),if_neg (by omega),if_neg (by omega),Int.toNat_natCast,if_neg (by simp [h]),hx]
      dsimp only
      rw [z1]
    · unfold TT at e
      rw [if_pos h,hx] at e
      dsimp only at e
      rw [z1] at e
      cases e
      exact hs
theorem byLe {G:Prop} (F:Int→Prop) {P:Int→Prop} (h1:(∀ x,F x→P x)→G) (h2:∀ x,F x→P x):G:=h1 h2
theorem one_row {lvs:List Ls} {K0 I0:Nat} {a:Ls} {v:Int} (ha:lvs[K0]?=some a):∀ (s:Nat) l m,lvs[s]?=some l→(lvs.set K0 (a.set I0 v))[s]?=some m→rowR I0 K0 s l m:=fun s l m e1 e2=>by
  rw [List.getElem?_set] at e2
  split at e2
  · rename_i e
    subst e
    split at e2
    · cases e2
      rw [ha] at e1
      cases e1
      refine ⟨by rw [List.length_set],fun j hj=>?_⟩
      rcases hj with hj | hj
      · rw [List.getElem?_set_ne (Ne.symm hj)]
      · exact absurd rfl hj
    · cases e2
  · rw [e1] at e2
    cases e2
    exact ⟨rfl,fun _ _=>rfl⟩
end Go.Proofs
