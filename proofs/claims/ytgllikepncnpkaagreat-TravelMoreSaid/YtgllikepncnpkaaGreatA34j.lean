/- Proved here: what functions of the given program come to, for the statements of this chapter; no condition but those in the theorems. -/
import Derived.Test.YtgllikepncnpkaaGreatA34i
import Derived.Test.YtgllikepncnpkaaGreatPStep
namespace Go.Proofs
open Go Go.Abs
set_option linter.unusedSimpArgs false
set_option linter.unusedVariables false
set_option maxRecDepth 20000
set_option maxHeartbeats 4000000 in
theorem stC_ok : FunR Tryz.prog 40 R_stC:=by
  intro args k h
  obtain ⟨c,s,p,rfl,hc,hs,hp1,hp2,hp3,hk⟩:=h
  have hz : Fl.fin ⟨0,[],[]⟩:=⟨Nat.zero_le _,fun x h=>by simp at h,Nat.zero_le _,fun x h=>by simp at h⟩
  have hm1:=eL_len p.inf
  have hm2:=eL_len p.los
  have hm3:=eL_len p.tar
  have hmx:=eX_len c.si
  have hmk:=eK_len c.rv.ls
  have hcn:=hc.n
  have hbad : ∀ e : Int,e ≠ 0→k (.tup [.agg (flC ⟨0,[],[]⟩),.agg (pdC ⟨[],[],[]⟩),I e]):=fun e h=>hk ⟨0,[],[]⟩ ⟨[],[],[]⟩ e hz (by simp) (fun h2=>absurd h2 h)
  refine does_ex (qc:=qc1) (np:=[(15,[(1,7),(1,12),(1,14),(3,6),(3,7),(3,10),(3,12),(3,14),(6,12),(6,14),(7,10),(7,12),(7,14),(10,14),(12,14)]),(24,[(1,26),(1,27),(3,26),(3,27),(5,26),(5,27),(6,26),(6,27),(9,26),(9,27),(10,26),(10,27),(12,26),(12,27),(14,26),(14,27),(15,26),(15,27),(17,26),(17,27),(19,26),(19,27),(20,26),(20,27),(21,26),(21,27),(26,27)]),(27,[(4,11),(7,11)]),(34,[(1,13),(3,13),(5,13),(6,13),(8,13)]),(37,[(4,9)]),(40,[(1,2)])]) (CK:=ckK [(38,cSc (R_csI csE)),(39,cSc (R_cfB vaB)),(65,cSc R_all23),(30,cH R_copy),(66,cPu R_dst),(16,cSc R_dfl),(59,cPu R_stepA)]) mixed Tryz.func40 rfl rfl Tryz.ntmps40 Tryz.results40 τ_ok (by kernel_rfl) (ckK_ok ⟨cSc_ok rcsE_ok,cSc_ok rcvalid_ok,cSc_ok all23_ok,cH_ok copy_ok rfl,cPu_ok dst_ok rfl,cSc_ok dfl_ok,cPu_ok rstepA_ok rfl,trivial⟩) (by simp) ?_
  conv=>whnf
  refine ⟨c,rfl,hc,?_⟩
  conv=>whnf
  refine Fork.mk (fun h=>?_) (fun h=>?_)
  · have h1 : csE c ≠ 0:=by simpa using h
    conv=>whnf
    exact hbad _ h1
  have h1 : csE c = 0:=by simpa using h
  clear h
  conv=>whnf
  refine ⟨c,s,rfl,hc,hs,?_⟩
  conv=>whnf
  refine Fork.mk (fun h=>?_) (fun h=>?_)
  · conv=>whnf
    exact hbad 50 (by simp)
  have hva : vaB c s = true:=by simpa using h
  clear h
  have v:=vaB_ok hva
  have hr:=v.k.r
  have hrl:=hr.len
  have hrn:=hr.n
  have hcm:=v.k.m
  have hcr:=v.k.n
  have hvn:=v.n
  have hvt:=v.t
  have hvw:=v.w.l
  obtain ⟨hwf,hw40,hw24⟩:=v.w.fin hr
  conv=>whnf
  refine Fork.mk (fun h=>?_) (fun h=>?_)
  · conv=>whnf
    repeat' ((first | refine fork_t ?_ | refine fork_f ?_ | (refine Fork.mk (fun h=>?_) (fun h=>?_);focus (simp at h;done)) | fail) <;> (conv=>whnf))
    exact hbad 3 (by simp)
  have n1 : (p.inf.length : Int) = c.rv.n:=by simp at h;omega
  clear h
  conv=>whnf
  refine Fork.mk (fun h=>?_) (fun h=>?_)
  · conv=>whnf
    repeat' ((first | refine fork_t ?_ | refine fork_f ?_ | (refine Fork.mk (fun h=>?_) (fun h=>?_);focus (simp at h;done)) | fail) <;> (conv=>whnf))
    exact hbad 3 (by simp)
  have n2 : p.los.length = c.si.length:=by simp at h;omega
  clear h
  conv=>whnf
  refine Fork.mk (fun h=>?_) (fun h=>?_)
  · conv=>whnf
    repeat' ((first | refine fork_t ?_ | refine fork_f ?_ | (refine Fork.mk (fun h=>?_) (fun h=>?_);focus (simp at h;done)) | fail) <;> (conv=>whnf))
    exact hbad 3 (by simp)
  have n3 : p.tar.length = c.si.length:=by simp at h;omega
  clear h
  conv=>whnf
  refine ⟨p.inf,1073741824,rfl,by omega,?_⟩
  conv=>whnf
  refine Fork.mk (fun h=>?_) (fun h=>?_)
  · conv=>whnf
    repeat' ((first | refine fork_t ?_ | refine fork_f ?_ | (refine Fork.mk (fun h=>?_) (fun h=>?_);focus (simp at h;done)) | fail) <;> (conv=>whnf))
    exact hbad 1 (by simp)
  have r1 : p.inf.all (inB 0 1073741824) = true:=by rw [Bool.not_eq_false'] at h;exact h
  clear h
  conv=>whnf
  refine ⟨p.los,1073741824,rfl,by omega,?_⟩
  conv=>whnf
  refine Fork.mk (fun h=>?_) (fun h=>?_)
  · conv=>whnf
    repeat' ((first | refine fork_t ?_ | refine fork_f ?_ | (refine Fork.mk (fun h=>?_) (fun h=>?_);focus (simp at h;done)) | fail) <;> (conv=>whnf))
    exact hbad 1 (by simp)
  clear h
  conv=>whnf
  refine ⟨p.tar,1073741824,rfl,by omega,?_⟩
  conv=>whnf
  refine Fork.mk (fun h=>?_) (fun h=>?_)
  · conv=>whnf
    repeat' ((first | refine fork_t ?_ | refine fork_f ?_ | (refine Fork.mk (fun h=>?_) (fun h=>?_);focus (simp at h;done)) | fail) <;> (conv=>whnf))
    exact hbad 1 (by simp)
  clear h
  conv=>whnf
  refine Fork.mk (fun h=>?_) (fun h=>?_)
  · conv=>whnf
    exact hbad 6 (by simp)
  have ht : s.tm < 16777216:=by simp at h;omega
  clear h
  have hdb : ∀ x ∈ s.ds,x.us.length≤1000∧x.gs.length≤1000:=fun x hx=>by
    obtain ⟨i,hi⟩:=List.getElem?_of_mem hx
    have hil:=(List.getElem?_eq_some_iff.1 hi).1
    have hv:=v.d i _ x (List.getElem?_eq_getElem (show i < c.si.length by omega)) hi
    obtain ⟨k1,_,_,k4,k5,_⟩:=validD_at hv
    have:=(ckD_ok k1).n
    have:=(ckD_ok k1).m
    omega
  have e1 : IntKind.i64.wrap (s.tm + 1) = s.tm + 1:=wrap_in (by omega) (by omega)
  obtain ⟨N,hN⟩:=Int.eq_ofNat_of_zero_le (show 0≤c.rv.n by omega)
  conv=>whnf
  refine ⟨[],rfl,?_⟩
  conv=>whnf
  refine ⟨rfl,?_⟩
  conv=>whnf
  refine ⟨rfl,?_⟩
  conv=>whnf
  refine ⟨s,rfl,rfl,by omega,hdb,by omega,fun p hp=>by have:=hw24 p hp;omega,?_⟩
  conv=>whnf
  refine ⟨eL_all _,by rw [hm1];show _ * 8≤_;omega,?_⟩
  conv=>whnf
  refine ⟨⟨rfl,by rw [hmx];omega,by rw [hmx];show _ * (56 : Int)≤_;omega⟩,?_⟩
  conv=>whnf
  refine ⟨⟨rfl,by omega,by show _ * (8 : Int)≤_;omega⟩,?_⟩
  conv=>whnf
  refine ⟨⟨rfl,by rw [hmk];omega,by rw [hmk];show _ * (8 : Int)≤_;omega⟩,?_⟩
  conv=>whnf
  rw [e1,show (eL p.inf).length = N by omega,show Int.toNat ((eX c.si).length : Int) = c.si.length by omega,show Int.toNat c.rv.n = N by omega,show Int.toNat ((eK c.rv.ls).length : Int) = c.rv.ls.length by omega]
  refine ⟨S7,fun y=>([(3,.c (.ptr (.l 3 0) 0)),(4,.c (.ptr (.l 4 1) 0)),(5,.c (.ptr (.l 5 2) 0)),(6,.c (.ptr (.l 6 3) 0)),(7,.c (.ptr (.l 7 4) 0)),(10,.c (.ptr (.l 10 6) 0)),(11,.c (.view (.l 96 7) 0 N)),(12,.c (.ptr (.l 12 8) 0)),(13,I y.n)],⟨[(.l 3 0,.blk (csC c)),(.l 4 1,.blk (flC s)),(.l 5 2,.blk (suC p)),(.l 6 3,.blk [IC 0,.sc (.slice none 0 0),.sc (.slice none 0 0)]),(.l 7 4,.blk [.sc (.slice none 0 0),.sc (.slice none 0 0),.sc (.slice none 0 0)]),(.l 89 5,.arr 117 4 (eD y.DA) false),(.l 2137 5,.arr 85 1 (eV y.WA) false),(.l 10 6,.blk [IC (s.tm + 1),.view (.l 89 5) 0 s.ds.length,.view (.l 2137 5) 0 s.ws.length]),(.l 96 7,.arr 3 1 (eL y.A) false),(.l 100 8,.arr 51 7 (eRc y.RA) false),(.l 104 8,.arr 3 1 (eL y.LA) false),(.l 109 8,.arr 3 1 (eL y.CA) false),(.l 12 8,.blk [.view (.l 100 8) 0 c.si.length,.view (.l 104 8) 0 N,.view (.l 109 8) 0 c.rv.ls.length])],30,[]⟩),
    fun y=>(y.n : Int)≤c.rv.n∧ndI c s p.inf y.DA y.RA y.WA y.A y.LA y.CA y.n,fun y=>N - y.n,⟨0,s.ds,s.ws,p.inf,List.replicate c.si.length ⟨0,0,0,0,0,0,0⟩,List.replicate N 0,List.replicate c.rv.ls.length 0⟩,⟨by dsimp only;omega,ndI.zero hr hvn hvw n1 N hN.symm v.k⟩,?_,fun y hy=>?_⟩
  · have ez : ∀ n,eL (List.replicate n 0) = List.replicate n [IC 0]:=fun n=>by simp [eL,eI]
    have ez2 : ∀ n,eRc (List.replicate n ⟨0,0,0,0,0,0,0⟩) = List.replicate n [IC 0,IC 0,IC 0,IC 0,IC 0,IC 0,IC 0]:=fun n=>by simp [eRc,rcC]
    dsimp only
    rw [ez,ez,ez2]
    exact Shift.reset ⟨rfl,rfl,rfl,rfl,rfl,rfl,rfl,rfl,rfl,trivial⟩ ⟨rfl,rfl,rfl,rfl,rfl,rfl,rfl,rfl,rfl,rfl,rfl,rfl,rfl,trivial⟩ rfl rfl
  obtain ⟨n,DA,WA,A,RA,LA,CA⟩:=y
  obtain ⟨hn,hI⟩:=hy
  dsimp only at hn hI ⊢
  have hmD:=eD_len DA
  have hmW:=eV_len WA
  have hmA:=eL_len A
  have hmR:=eRc_len RA
  have hmL:=eL_len LA
  have hmC:=eL_len CA
  have lD:=hI.ld
  have lW:=hI.lw
  have lR:=hI.lr
  have lL:=hI.ll
  have lC:=hI.lc
  have lA:=hI.la
  conv=>whnf
  refine Fork.mk (fun h=>?_) (fun h=>?_)
  rotate_left
  · have hne : c.rv.n≤n:=by simpa using h
    clear h
    have hst:=hI.done (p:=p) v hne n1 n2 n3 r1 ht
    have tD : List.take s.ds.length (List.drop 0 (eD DA)) = eD DA:=by rw [List.drop_zero,List.take_of_length_le (by omega)]
    have tW : List.take s.ws.length (List.drop 0 (eV WA)) = eV WA:=by rw [List.drop_zero,List.take_of_length_le (by omega)]
    have tR : List.take c.si.length (List.drop 0 (eRc RA)) = eRc RA:=by rw [List.drop_zero,List.take_of_length_le (by omega)]
    have tL : List.take N (List.drop 0 (eL LA)) = eL LA:=by rw [List.drop_zero,List.take_of_length_le (by omega)]
    have tC : List.take c.rv.ls.length (List.drop 0 (eL CA)) = eL CA:=by rw [List.drop_zero,List.take_of_length_le (by omega)]
    conv=>whnf
    refine ⟨by omega,?_⟩
    conv=>whnf
    refine ⟨by omega,?_⟩
    conv=>whnf
    refine ⟨by omega,?_⟩
    conv=>whnf
    refine ⟨by omega,?_⟩
    conv=>whnf
    refine ⟨by omega,?_⟩
    conv=>whnf
    rw [tD,tW,tR,tL,tC]
    exact hk _ _ 0 hst.fin ⟨by dsimp only;omega,by dsimp only;omega,by dsimp only;omega⟩ (fun _=>hst)
  have hn2 : (n : Int) < c.rv.n:=by simpa using h
  clear h
  have hgn : A[n]? = some (gA A n):=by rw [gA_nat];exact gN_get (by omega)
  have hwn:=wr_succ (i:=n) (by omega)
  conv=>whnf
  refine ⟨by omega,rfl,?_⟩
  conv=>whnf
  refine ⟨eI (gA A n),by rw [Nat.zero_add,Int.toNat_natCast,List.getElem?_map,hgn];rfl,?_⟩
  conv=>whnf
  refine ⟨Nat × List Dt × List Rc × Int,fun y=>([(3,.c (.ptr (.l 3 0) 0)),(4,.c (.ptr (.l 4 1) 0)),(5,.c (.ptr (.l 5 2) 0)),(6,.c (.ptr (.l 6 3) 0)),(7,.c (.ptr (.l 7 4) 0)),(10,.c (.ptr (.l 10 6) 0)),(11,.c (.view (.l 96 7) 0 N)),(12,.c (.ptr (.l 12 8) 0)),(13,I n),(14,I y.2.2.2),(123,.c (.lst (eX c.si))),(124,I (eX c.si).length),(125,I y.1)],⟨[(.l 3 0,.blk (csC c)),(.l 4 1,.blk (flC s)),(.l 5 2,.blk (suC p)),(.l 6 3,.blk [IC 0,.sc (.slice none 0 0),.sc (.slice none 0 0)]),(.l 7 4,.blk [.sc (.slice none 0 0),.sc (.slice none 0 0),.sc (.slice none 0 0)]),(.l 89 5,.arr 117 4 (eD y.2.1) false),(.l 2137 5,.arr 85 1 (eV WA) false),(.l 10 6,.blk [IC (s.tm + 1),.view (.l 89 5) 0 s.ds.length,.view (.l 2137 5) 0 s.ws.length]),(.l 96 7,.arr 3 1 (eL A) false),(.l 100 8,.arr 51 7 (eRc y.2.2.1) false),(.l 104 8,.arr 3 1 (eL LA) false),(.l 109 8,.arr 3 1 (eL CA) false),(.l 12 8,.blk [.view (.l 100 8) 0 c.si.length,.view (.l 104 8) 0 N,.view (.l 109 8) 0 c.rv.ls.length])],50,[]⟩),
    fun y=>y.1≤c.si.length∧ndI c s p.inf y.2.1 y.2.2.1 WA A LA CA n∧lvI c s y.2.1 y.2.2.1 A n y.1 y.2.2.2,fun y=>c.si.length - y.1,(0,DA,RA,gA A n),⟨Nat.zero_le _,hI,.inl ⟨fun k x hk=>by omega,rfl⟩⟩,Shift.reset ⟨rfl,rfl,rfl,rfl,rfl,rfl,rfl,rfl,rfl,rfl,rfl,rfl,rfl,trivial⟩ ⟨rfl,rfl,rfl,rfl,rfl,rfl,rfl,rfl,rfl,rfl,rfl,rfl,rfl,trivial⟩ rfl rfl,fun y hy=>?_⟩
  clear hI hmD hmR lD lR
  clear DA RA
  obtain ⟨i,DA,RA,lv⟩:=y
  obtain ⟨hi,hI,hV⟩:=hy
  dsimp only at hi hI hV ⊢
  have hmD:=eD_len DA
  have hmR:=eRc_len RA
  have lD:=hI.ld
  have lR:=hI.lr
  conv=>whnf
  refine Fork.mk (fun h=>?_) (fun h=>?_)
  · have hi2 : i < c.si.length:=by simp at h;omega
    clear h
    have hci:=List.getElem?_eq_getElem hi2
    have hfx:=hc.d _ (List.getElem_mem hi2)
    generalize c.si[i] = x at hci hfx
    have hw1:=wr_succ (i:=i) (by omega)
    conv=>whnf
    refine ⟨by omega,siC x,by rw [Int.toNat_natCast,List.getElem?_map,hci];rfl,rfl,?_⟩
    conv=>whnf
    refine Fork.mk (fun h=>?_) (fun h=>?_)
    rotate_left
    · have hne : x.nd ≠ n:=by simpa using h
      conv=>whnf
      rw [hw1]
      exact ⟨(i + 1,DA,RA,lv),⟨hi2,hI,hV.skip hci hne⟩,Shift.reset ⟨rfl,rfl,rfl,rfl,rfl,rfl,rfl,rfl,rfl,rfl,rfl,rfl,rfl,trivial⟩ ⟨rfl,rfl,rfl,rfl,rfl,rfl,rfl,rfl,rfl,rfl,rfl,rfl,rfl,trivial⟩ rfl rfl,by dsimp only;omega⟩
    have hxn : x.nd = n:=by simpa using h
    clear h
    have hcz:=List.getElem?_eq_getElem (show i < s.ds.length by omega)
    have hfz:=hs.d _ (List.getElem_mem (show i < s.ds.length by omega))
    have hcl:=List.getElem?_eq_getElem (show i < p.los.length by omega)
    have hct:=List.getElem?_eq_getElem (show i < p.tar.length by omega)
    generalize s.ds[i] = z at hcz hfz
    generalize p.los[i] = lo at hcl
    generalize p.tar[i] = ta at hct
    have hD0:=List.getElem?_eq_getElem (show i < DA.length by omega)
    have hR0:=List.getElem?_eq_getElem (show i < RA.length by omega)
    conv=>whnf
    refine ⟨by omega,dtC z,by rw [Int.toNat_natCast,List.getElem?_map,hcz];rfl,rfl,?_⟩
    conv=>whnf
    refine ⟨by omega,rfl,?_⟩
    conv=>whnf
    refine ⟨eI (gA A n),by rw [Nat.zero_add,Int.toNat_natCast,List.getElem?_map,hgn];rfl,?_⟩
    conv=>whnf
    refine ⟨by omega,eI lo,by rw [Int.toNat_natCast,List.getElem?_map,hcl];rfl,rfl,?_⟩
    conv=>whnf
    refine ⟨by omega,eI ta,by rw [Int.toNat_natCast,List.getElem?_map,hct];rfl,rfl,?_⟩
    conv=>whnf
    refine ⟨x.d,z,gA A n,lo,ta,rfl,hfx,hfz,fun z' r e hzf hst=>?_⟩
    conv=>whnf
    refine Fork.mk (fun h=>?_) (fun h=>?_)
    · have he : e ≠ 0:=by simpa using h
      conv=>whnf
      exact hbad _ he
    have he : e = 0:=by simpa using h
    clear h
    have hst:=hst he
    obtain ⟨zk1,zv,_⟩:=validD_at hst.v0
    have zc:=valC_in (ckS_ok (ckD_ok zk1).s).1 x.d.r.crest
    have zv':=(validD_at hst.v).2.1
    have zw:=hst.w
    have zi:=hst.i
    conv=>whnf
    refine ⟨r,rfl,hst.rs,by omega,?_⟩
    conv=>whnf
    refine ⟨by omega,rfl,?_⟩
    conv=>whnf
    refine ⟨dtC DA[i],by rw [Nat.zero_add,Int.toNat_natCast,List.getElem?_map,hD0];rfl,Nat.le_refl _,?_⟩
    conv=>whnf
    refine ⟨by omega,rfl,?_⟩
    conv=>whnf
    refine ⟨rcC RA[i],by rw [Nat.zero_add,Int.toNat_natCast,List.getElem?_map,hR0];rfl,Nat.le_refl _,?_⟩
    conv=>whnf
    rw [hw1]
    have q1 : (eD DA).set (0 + ((i : Int)).toNat) (dtC z') = eD (DA.set i z'):=by rw [Nat.zero_add,Int.toNat_natCast,eD_set]
    have q2 : (eRc RA).set (0 + ((i : Int)).toNat) (rcC r) = eRc (RA.set i r):=by rw [Nat.zero_add,Int.toNat_natCast,eRc_set]
    refine ⟨(i + 1,DA.set i z',RA.set i r,floR r),⟨hi2,hI.site v.k hci hxn,hV.site v.k hci hxn hcz (by omega) (by omega) hst⟩,Shift.reset ⟨rfl,rfl,rfl,rfl,rfl,rfl,rfl,rfl,rfl,rfl,rfl,rfl,rfl,trivial⟩ ⟨rfl,rfl,rfl,rfl,rfl,?_,rfl,rfl,rfl,?_,rfl,rfl,rfl,trivial⟩ rfl rfl,by dsimp only;omega⟩
    · dsimp only;rw [← q1];rfl
    · dsimp only;rw [← q2];rfl
  have hie : c.si.length≤i:=by simp at h;omega
  clear h
  have hL:=hI.left v.k hie hV ⟨by omega,hn2⟩
  rw [Int.toNat_natCast] at hL
  clear hI hV
  have hL0:=List.getElem?_eq_getElem (show n < LA.length by omega)
  conv=>whnf
  refine ⟨by omega,rfl,?_⟩
  conv=>whnf
  refine ⟨eI LA[n],by rw [Nat.zero_add,Int.toNat_natCast,List.getElem?_map,hL0];rfl,Nat.le_refl _,?_⟩
  have q3 : (eL LA).set (0 + ((n : Int)).toNat) (eI lv) = eL (LA.set n lv):=by rw [Nat.zero_add,Int.toNat_natCast,eL_set]
  conv=>whnf
  refine ⟨Nat × List Ls × Ls × Ls,fun y=>([(3,.c (.ptr (.l 3 0) 0)),(4,.c (.ptr (.l 4 1) 0)),(5,.c (.ptr (.l 5 2) 0)),(6,.c (.ptr (.l 6 3) 0)),(7,.c (.ptr (.l 7 4) 0)),(10,.c (.ptr (.l 10 6) 0)),(11,.c (.view (.l 96 7) 0 N)),(12,.c (.ptr (.l 12 8) 0)),(13,I n),(14,I lv),(185,.c (.lst (eK c.rv.ls))),(186,I (eK c.rv.ls).length),(187,I y.1)],⟨[(.l 3 0,.blk (csC c)),(.l 4 1,.blk (flC s)),(.l 5 2,.blk (suC p)),(.l 6 3,.blk [IC 0,.sc (.slice none 0 0),.sc (.slice none 0 0)]),(.l 7 4,.blk [.sc (.slice none 0 0),.sc (.slice none 0 0),.sc (.slice none 0 0)]),(.l 89 5,.arr 117 4 (eD DA) false),(.l 2137 5,.arr 85 1 (eV y.2.1) false),(.l 10 6,.blk [IC (s.tm + 1),.view (.l 89 5) 0 s.ds.length,.view (.l 2137 5) 0 s.ws.length]),(.l 96 7,.arr 3 1 (eL y.2.2.1) false),(.l 100 8,.arr 51 7 (eRc RA) false),(.l 104 8,.arr 3 1 (eL (LA.set n lv)) false),(.l 109 8,.arr 3 1 (eL y.2.2.2) false),(.l 12 8,.blk [.view (.l 100 8) 0 c.si.length,.view (.l 104 8) 0 N,.view (.l 109 8) 0 c.rv.ls.length])],70,[]⟩),
    fun y=>y.1≤c.rv.ls.length∧lnI c s p.inf DA RA y.2.1 y.2.2.1 (LA.set n lv) y.2.2.2 n y.1 lv,fun y=>c.rv.ls.length - y.1,(0,WA,A,CA),⟨Nat.zero_le _,hL⟩,Shift.reset ⟨rfl,rfl,rfl,rfl,rfl,rfl,rfl,rfl,rfl,rfl,rfl,rfl,rfl,trivial⟩ ⟨rfl,rfl,rfl,rfl,rfl,rfl,rfl,rfl,rfl,rfl,?_,rfl,rfl,trivial⟩ rfl rfl,fun y hy=>?_⟩
  · dsimp only;rw [← q3];rfl
  clear q3 hL hL0 hgn hmA hmC hmW lA lC lW
  clear WA A CA
  generalize LA.set n lv = LB at *
  clear hmL lL
  obtain ⟨j,WA,A,CA⟩:=y
  obtain ⟨hj,hL⟩:=hy
  dsimp only at hj hL ⊢
  have hmW:=eV_len WA
  have hmA:=eL_len A
  have hmC:=eL_len CA
  have hmB:=eL_len LB
  have lW:=hL.lw
  have lB:=hL.ll
  have lC:=hL.lc
  have lA:=hL.la
  conv=>whnf
  refine Fork.mk (fun h=>?_) (fun h=>?_)
  rotate_left
  · have hje : c.rv.ls.length≤j:=by simp at h;omega
    conv=>whnf
    rw [hwn]
    have hdn:=hL.done hje
    rw [show (n : Int) + 1 = ((n + 1 : Nat) : Int) by omega] at hdn
    exact ⟨⟨n + 1,DA,WA,A,RA,LB,CA⟩,⟨by dsimp only;omega,hdn⟩,Shift.reset ⟨rfl,rfl,rfl,rfl,rfl,rfl,rfl,rfl,rfl,trivial⟩ ⟨rfl,rfl,rfl,rfl,rfl,rfl,rfl,rfl,rfl,rfl,rfl,rfl,rfl,trivial⟩ rfl rfl,by dsimp only;omega⟩
  have hj2 : j < c.rv.ls.length:=by simp at h;omega
  clear h
  have hcj:=List.getElem?_eq_getElem hj2
  have hok:=hr.l _ (List.getElem_mem hj2)
  generalize c.rv.ls[j] = l at hcj hok
  have hw2:=wr_succ (i:=j) (by omega)
  conv=>whnf
  refine ⟨by omega,lkC l,by rw [Int.toNat_natCast,List.getElem?_map,hcj];rfl,rfl,?_⟩
  conv=>whnf
  refine Fork.mk (fun h=>?_) (fun h=>?_)
  rotate_left
  · have hne : l.fr ≠ n:=by simpa using h
    conv=>whnf
    rw [hw2]
    exact ⟨(j + 1,WA,A,CA),⟨hj2,hL.skip hcj hne⟩,Shift.reset ⟨rfl,rfl,rfl,rfl,rfl,rfl,rfl,rfl,rfl,rfl,rfl,rfl,rfl,trivial⟩ ⟨rfl,rfl,rfl,rfl,rfl,rfl,rfl,rfl,rfl,rfl,rfl,rfl,rfl,trivial⟩ rfl rfl,by dsimp only;omega⟩
  have hfr : l.fr = n:=by simpa using h
  clear h
  have hcq:=List.getElem?_eq_getElem (show j < s.ws.length by omega)
  have hq24:=hw24 _ (List.getElem_mem (show j < s.ws.length by omega))
  generalize s.ws[j] = q at hcq hq24
  have hlw:=(rk_facts hok.r).2.1
  have hW0:=List.getElem?_eq_getElem (show j < WA.length by omega)
  have hC0:=List.getElem?_eq_getElem (show j < CA.length by omega)
  obtain ⟨w,cm,e,hE⟩ : ∃ w cm e,rkStep l.ws l.den q lv = (w,cm,e):=⟨_,_,_,rfl⟩
  conv=>whnf
  refine ⟨by omega,wvC q,by rw [Int.toNat_natCast,List.getElem?_map,hcq];rfl,rfl,?_⟩
  conv=>whnf
  refine ⟨l.ws,q,rfl,rfl,by omega,by omega,?_⟩
  rw [hE]
  dsimp only
  conv=>whnf
  refine Fork.mk (fun h=>?_) (fun h=>?_)
  · have he : e ≠ 0:=by simpa using h
    conv=>whnf
    exact hbad _ he
  have he : e = 0:=by simpa using h
  clear h
  subst he
  have ho:=hok.o
  have hto:=hok.t
  have hN2:=hL.link hr v.w hcj hfr hcq hE
  have hcb:=hN2.cb cm (List.mem_of_getElem? (List.getElem?_set_self (by omega)))
  have hAb:=hL.bound hr r1 l.to ⟨by omega,by omega⟩
  obtain ⟨T,hT⟩:=Int.eq_ofNat_of_zero_le (show 0≤l.to by omega)
  have hA0 : A[T]? = some (gA A l.to):=by rw [hT,gA_nat];exact gN_get (by omega)
  have e5 : IntKind.i64.wrap (gA A l.to + cm) = gA A l.to + cm:=wrap_in (by omega) (by omega)
  conv=>whnf
  refine ⟨by omega,rfl,?_⟩
  conv=>whnf
  refine ⟨wvC WA[j],by rw [Nat.zero_add,Int.toNat_natCast,List.getElem?_map,hW0];rfl,Nat.le_refl _,?_⟩
  conv=>whnf
  refine ⟨by omega,rfl,?_⟩
  conv=>whnf
  refine ⟨eI CA[j],by rw [Nat.zero_add,Int.toNat_natCast,List.getElem?_map,hC0];rfl,Nat.le_refl _,?_⟩
  have hTn : 0 + l.to.toNat = T:=by omega
  have hcell : (eL A)[0 + l.to.toNat]? = some (eI (gA A l.to)):=by rw [hTn,List.getElem?_map,hA0];rfl
  conv=>whnf
  refine ⟨by omega,rfl,?_⟩
  conv=>whnf
  refine ⟨eI (gA A l.to),hcell,?_⟩
  conv=>whnf
  refine ⟨by omega,rfl,?_⟩
  conv=>whnf
  refine ⟨eI (gA A l.to),hcell,Nat.le_refl _,?_⟩
  conv=>whnf
  rw [hw2,e5]
  have q1 : (eV WA).set (0 + ((j : Int)).toNat) (wvC w) = eV (WA.set j w):=by rw [Nat.zero_add,Int.toNat_natCast,eV_set]
  have q2 : (eL CA).set (0 + ((j : Int)).toNat) (eI cm) = eL (CA.set j cm):=by rw [Nat.zero_add,Int.toNat_natCast,eL_set]
  have q4 : (eL A).set (0 + l.to.toNat) (eI (gA A l.to + cm)) = eL (A.set l.to.toNat (gA A l.to + cm)):=by rw [Nat.zero_add,eL_set]
  refine ⟨(j + 1,WA.set j w,A.set l.to.toNat (gA A l.to + cm),CA.set j cm),⟨hj2,hN2⟩,Shift.reset ⟨rfl,rfl,rfl,rfl,rfl,rfl,rfl,rfl,rfl,rfl,rfl,rfl,rfl,trivial⟩ ⟨rfl,rfl,rfl,rfl,rfl,rfl,?_,rfl,?_,rfl,rfl,?_,rfl,trivial⟩ rfl rfl,by dsimp only;omega⟩
  · dsimp only;rw [← q1];rfl
  · dsimp only;rw [← q4];rfl
  · dsimp only;rw [← q2];rfl
end Go.Proofs
