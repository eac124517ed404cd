/- Proved here: what functions of the given program come to, and the plain laws of it; no condition but those in the theorems. -/
import Derived.Test.YtgllikepncnpkaaGreatPTells
import Derived.Test.YtgllikepncnpkaaGreatA34x
import Derived.Test.YtgllikepncnpkaaGreatPLag
import Derived.Test.YtgllikepncnpkaaGreatD34
import Derived.Test.YtgllikepncnpkaaGreatAbsDeep
namespace Go.Proofs
open Go Go.Abs
set_option linter.unusedSimpArgs false
set_option linter.unusedVariables false
set_option maxRecDepth 40000
theorem reX_vf (c:Cs) (w:Fl) (m:Int):vfin (foL (reX c w m)):=by
  have nil:vfin (foL (.error 0)):=⟨by simp [foL],fun p h=>by simp [foL] at h⟩
  unfold reX
  split
  · exact nil
  split
  · exact nil
  split
  · exact nil
  exact foX_vf ..
theorem bwS_len {c:Cs} (hc:CsOk c) (i:Int):(bwS c i).1.length≤40:=by
  unfold bwS
  split
  · exact Nat.zero_le _
  split
  · exact Nat.zero_le _
  split
  · exact Nat.zero_le _
  exact belF_len hc _
theorem abS_len {c:Cs} (hc:CsOk c) (m:Int):(abS c m).1.length≤240:=by
  unfold abS
  split
  · exact Nat.zero_le _
  split
  · exact Nat.zero_le _
  split
  · exact Nat.zero_le _
  have:=abG_len hc m c.si.length
  have:=hc.m
  dsimp only
  omega
theorem dEq (x:Int):decide (x=x)=true:=by simp
theorem dEqL (x:Ls):decide (x=x)=true:=by simp
theorem dEqW (x:List Ls):decide (x=x)=true:=by simp
theorem two_at {x y:Int} {q:Nat} (h:q < 2):∃ v,[x,y][q]?=some v:=⟨_,List.getElem?_eq_getElem h⟩
theorem byTail {G:Prop} {P:List Ls→Prop} (h1:(∀ MX,vfin MX→MX.length≤100→P MX)→G) (h2:∀ MX,vfin MX→MX.length≤100→P MX):G:=h1 h2
def R_tells:RT:=fun args k=>∃ (l:Ls) (raw:List Ls) (i m st:Int),args=[.c (.lst (eL l)),.c (.lst (eLw raw)),I i,I m,I st]∧vfin raw∧l.length≤9223372036854775807∧k (Bo true)
set_option maxHeartbeats 16000000 in
theorem ttells_ok:FunR Tryz.prog 8 R_tells:=by
  intro args k h
  obtain ⟨l,raw,si,nd,st,rfl,hraw,hl,hk⟩:=h
  have hmr:=eLw_len raw
  have hrl1:=hraw.1
  refine does_ex (qc:=qc1) (np:=[(14,[(5,10)]),(17,[(4,6),(4,7)])]) (CK:=ckK [(9,cSc R_tt),(10,cSc R_few),(11,cN R_new),(12,cB R_mkRi),(14,cB R_next),(19,cB R_flws),(30,cH R_copy),(17,cPu R_fo),(31,cPu R_fo),(18,cSc R_sameL),(32,cSc R_mod),(27,cPu R_re),(33,cPu R_re),(20,cPu R_bw),(34,cPu R_bw),(22,cSc R_ints),(29,cPu R_lags),(35,cPu R_lags),(23,cPu R_abv),(36,cPu R_abv)]) mixed Tryz.func8 rfl rfl Tryz.ntmps8 Tryz.results8 τ_ok (by kernel_rfl) (ckK_ok ⟨cSc_ok sane_ok,cSc_ok few_ok,cN_ok new_ok rfl,cB_ok mkRi_ok rfl,cB_ok next_ok rfl,cB_ok flws_ok rfl,cH_ok copy_ok rfl,cPu_ok follow_ok rfl,cPu_ok rfollow_ok rfl,cSc_ok sameL_ok,cSc_ok mod_ok,cPu_ok rest_ok' rfl,cPu_ok rrest_ok' rfl,cPu_ok bel_ok rfl,cPu_ok rbel_ok rfl,cSc_ok ints_ok,cPu_ok lags_ok rfl,cPu_ok rlags_ok rfl,cPu_ok abv_ok rfl,cPu_ok rabv_ok rfl,trivial⟩) (by simp) ?_
  conv=>whnf
  refine ⟨rfl,?_⟩
  conv=>whnf
  refine Fork.mk (fun h=>by cases h) (fun _=>?_)
  conv=>whnf
  refine ⟨Nat × Int,fun y=>([(0,.c (.lst (eL l))),(1,.c (.lst (eLw raw))),(2,I si),(3,I nd),(4,I st),(11,I y.2),(58,.c (.lst (eLw raw))),(59,I (eLw raw).length),(60,I y.1)],⟨[],9,[]⟩),
    fun y=>y.1≤raw.length,fun y=>raw.length - y.1,(0,(eLw raw).length),Nat.zero_le _,Shift.reset ⟨rfl,rfl,rfl,rfl,rfl,rfl,rfl,rfl,rfl,trivial⟩ trivial rfl rfl,fun y hj=>?_⟩
  obtain ⟨j,nn⟩:=y
  dsimp only at hj ⊢
  conv=>whnf
  refine Fork.mk (fun h=>?_) (fun h=>?_)
  · have hj2:j < raw.length:=by simp at h;omega
    clear h
    have hwj:=wr_succ (i:=j) (by omega)
    have hcj:=List.getElem?_eq_getElem hj2
    generalize raw[j]=q at hcj
    conv=>whnf
    refine ⟨by omega,lwC q,by rw [Int.toNat_natCast,List.getElem?_map,hcj];rfl,rfl,?_⟩
    conv=>whnf
    rw [hwj]
    exact ⟨(j+1,_),hj2,Shift.reset ⟨rfl,rfl,rfl,rfl,rfl,rfl,rfl,rfl,rfl,trivial⟩ trivial rfl rfl,by dsimp only;omega⟩
  clear h
  conv=>whnf
  refine ⟨l,rfl,?_⟩
  conv=>whnf
  refine Fork.mk (fun h=>?_) (fun h=>?_)
  · conv=>whnf
    refine Fork.mk (fun _=>?_) (fun h=>by cases h)
    conv=>whnf
    exact hk
  clear h
  conv=>whnf
  refine Fork.mk (fun h=>?_) (fun h=>?_)
  · conv=>whnf
    exact hk
  clear h
  conv=>whnf
  refine ⟨l,rfl,?_⟩
  conv=>whnf
  refine ⟨⟨l,0⟩,rfl,rfl,⟨Nat.zero_le _,hl⟩,fun c ds0 w n d hd hm hn hw=>?_⟩
  have hc:=hm.k
  have hva:=hw.va hm
  have hwf:=vaB_fin (vaB_of hva)
  have hcf:=hm.fin
  have hr:=hc.r
  have hrl:=hr.len
  have hrn:=hr.n
  have hcn:=hc.n
  have hcm:=hc.m
  have hmx:=eX_len c.si
  have hfd:w.ds.length≤1000:=by have:=hva.n;omega
  have hfx:∀ x ∈ w.ds,x.us.length≤1000∧x.gs.length≤1000:=fun x hx=>by
    obtain ⟨i,hi⟩:=List.getElem?_of_mem hx
    have hil:=(List.getElem?_eq_some_iff.1 hi).1
    have hdn:=hva.n
    have e:=List.getElem?_eq_getElem (show i < c.si.length by omega)
    have:=hva.d i _ _ e hi
    obtain ⟨g1,_,_,g4,g5,_,_⟩:=validD_at this
    have a:=(ckD_ok g1).n
    have b:=(ckD_ok g1).m
    omega
  have hfw:w.ws.length≤1000:=by have:=hva.w.l;omega
  have hfp:∀ p ∈ w.ws,p.length≤1000:=fun p hp=>by
    obtain ⟨i,hi⟩:=List.getElem?_of_mem hp
    have hil:=(List.getElem?_eq_some_iff.1 hi).1
    have hwl:=hva.w.l
    have e:=List.getElem?_eq_getElem (show i < c.rv.ls.length by omega)
    have:=(fits_facts (hva.w.f i _ _ e hi)).1
    have:=(rk_facts (hr.l _ (List.mem_of_getElem? e)).r).2.1
    omega
  clear hw hva
  conv=>whnf
  refine ⟨d,rfl,hd,by omega,fun v d hd hv0 hv=>?_⟩
  obtain ⟨V,rfl⟩:=Int.eq_ofNat_of_zero_le hv0
  obtain ⟨N,hN⟩:=Int.eq_ofNat_of_zero_le (show 0≤c.rv.n by omega)
  conv=>whnf
  refine ⟨d,V,c.si.length,30,by rw [hmx];rfl,rfl,hd,by omega,by omega,by omega,fun lvs d hd hn1 hl1=>?_⟩
  conv=>whnf
  refine ⟨d,V,N,20,by rw [hN];rfl,rfl,hd,by omega,by omega,by omega,fun locs d hd hn2 hl2=>?_⟩
  have hml:=eLw_len lvs
  have hmo:=eLw_len locs
  have hv1:vfin lvs:=⟨by omega,fun p hp=>by have:=(hl1 p hp).1;omega⟩
  have hv2:vfin locs:=⟨by omega,fun p hp=>by have:=(hl2 p hp).1;omega⟩
  conv=>whnf
  refine ⟨by simp [lwC],?_⟩
  conv=>whnf
  refine ⟨by rw [hmo];show locs.length * 24≤_;omega,?_⟩
  have hfr1:List.take w.ds.length (List.drop 0 (eD w.ds))=eD w.ds:=by rw [List.drop_zero,List.take_of_length_le (by rw [eD_len];exact Nat.le_refl _)]
  have hfr2:List.take w.ws.length (List.drop 0 (eV w.ws))=eV w.ws:=by rw [List.drop_zero,List.take_of_length_le (by rw [eV_len];exact Nat.le_refl _)]
  have eF2:eF [w,⟨-1,w.ds,w.ws⟩]=[flC w,[IC (-1),.lst (eD w.ds),.lst (eV w.ws)]]:=rfl
  apply byTail
  · intro tail
    conv=>whnf
    refine Fork.mk (fun h=>?_) (fun h=>?_)
    · have h1:0 < locs.length:=by simp at h;omega
      clear h
      conv=>whnf
      refine Fork.mk (fun h=>?_) (fun h=>?_)
      · have h2:0 < raw.length:=by simp at h;omega
        clear h
        have hc0:=List.getElem?_eq_getElem h2
        generalize raw[0]=q0 at hc0
        conv=>whnf
        refine ⟨d,rfl,hd,by omega,fun v d hd hv0 hv=>?_⟩
        obtain ⟨Q,rfl⟩:=Int.eq_ofNat_of_zero_le hv0
        have hQ:Q < locs.length:=by omega
        have hcQ:=List.getElem?_eq_getElem hQ
        conv=>whnf
        refine ⟨by omega,lwC q0,by show (eLw raw)[0]?=_;rw [List.getElem?_map,hc0];rfl,rfl,?_⟩
        conv=>whnf
        refine ⟨by omega,rfl,?_⟩
        conv=>whnf
        refine ⟨lwC locs[Q],by rw [Nat.zero_add,Int.toNat_natCast,List.getElem?_map,hcQ];rfl,Nat.le_refl _,?_⟩
        conv=>whnf
        refine ⟨[],rfl,?_⟩
        conv=>whnf
        refine ⟨rfl,?_⟩
        conv=>whnf
        refine ⟨rfl,?_⟩
        conv=>whnf
        refine ⟨w,rfl,rfl,hfd,hfx,hfw,hfp,?_⟩
        conv=>whnf
        refine ⟨by rw [eD_len];omega,?_⟩
        conv=>whnf
        refine ⟨by rw [eV_len];omega,?_⟩
        conv=>whnf
        obtain ⟨MX,hMX⟩:∃ MX,MX=locs.set Q q0:=⟨_,rfl⟩
        have hMl:MX.length=locs.length:=by rw [hMX,List.length_set]
        have hMv:vfin MX:=⟨by omega,fun p hp=>by
          rw [hMX] at hp
          rcases List.mem_or_eq_of_mem_set hp with h | h
          · exact hv2.2 p h
          · rw [h];exact hraw.2 _ (List.mem_of_getElem? hc0)⟩
        refine ⟨Nat,fun k=>([(1,.c (.lst (eLw raw))),(2,I si),(3,I nd),(4,I st),(15,.c (.ptr (.l 15 10) 0)),(18,.c (.lst (eLw lvs))),(19,.c (.lst (eLw locs))),(20,.c (.lst (eLw MX))),(121,.c (.view (.l 121 15) 0 2)),(122,I 2),(123,I k)],⟨[(.l 15 10,.blk (csC c)),(.l 121 15,.arr 36 3 (eF [w,⟨-1,w.ds,w.ws⟩]) false)],20,[]⟩),
          fun k=>k≤2,fun k=>2 - k,0,Nat.zero_le _,Shift.trans (Shift.rename [] ⟨rfl,rfl,rfl,rfl,rfl,rfl,rfl,?_,rfl,rfl,rfl,trivial⟩ ⟨rfl,?_,trivial⟩ rfl rfl rfl) (Shift.purV (t:=20) (i:=.l 98 12) (n:=(eLw locs).length) (es:=(eLw locs).set (0+((Q:Int)).toNat) (lwC q0)) rfl rfl (List.length_set ..).symm),?_⟩
        · dsimp only;rw [hMX,show eLw (locs.set Q q0)=(eLw locs).set (0+((Q:Int)).toNat) (lwC q0) by rw [Nat.zero_add,Int.toNat_natCast];exact List.map_set ..];rfl
        · dsimp only;rw [eF2,hfr1,hfr2];rfl
        exact tail MX hMv (by omega)
      clear h
      conv=>whnf
      refine ⟨[],rfl,?_⟩
      conv=>whnf
      refine ⟨rfl,?_⟩
      conv=>whnf
      refine ⟨rfl,?_⟩
      conv=>whnf
      refine ⟨w,rfl,rfl,hfd,hfx,hfw,hfp,?_⟩
      conv=>whnf
      refine ⟨by rw [eD_len];omega,?_⟩
      conv=>whnf
      refine ⟨by rw [eV_len];omega,?_⟩
      conv=>whnf
      refine ⟨Nat,fun k=>([(1,.c (.lst (eLw raw))),(2,I si),(3,I nd),(4,I st),(15,.c (.ptr (.l 15 10) 0)),(18,.c (.lst (eLw lvs))),(19,.c (.lst (eLw locs))),(20,.c (.lst (eLw locs))),(121,.c (.view (.l 121 15) 0 2)),(122,I 2),(123,I k)],⟨[(.l 15 10,.blk (csC c)),(.l 121 15,.arr 36 3 (eF [w,⟨-1,w.ds,w.ws⟩]) false)],20,[]⟩),
        fun k=>k≤2,fun k=>2 - k,0,Nat.zero_le _,Shift.trans (Shift.rename [] ⟨rfl,rfl,rfl,rfl,rfl,rfl,rfl,rfl,rfl,rfl,rfl,trivial⟩ ⟨rfl,?_,trivial⟩ rfl rfl rfl) (Shift.purV (t:=20) (i:=.l 98 12) (n:=(eLw locs).length) (es:=eLw locs) rfl rfl rfl),?_⟩
      · dsimp only;rw [eF2,hfr1,hfr2];rfl
      exact tail locs hv2 (by omega)
    clear h
    conv=>whnf
    refine Fork.mk (fun h=>by cases h) (fun _=>?_)
    conv=>whnf
    refine ⟨[],rfl,?_⟩
    conv=>whnf
    refine ⟨rfl,?_⟩
    conv=>whnf
    refine ⟨rfl,?_⟩
    conv=>whnf
    refine ⟨w,rfl,rfl,hfd,hfx,hfw,hfp,?_⟩
    conv=>whnf
    refine ⟨by rw [eD_len];omega,?_⟩
    conv=>whnf
    refine ⟨by rw [eV_len];omega,?_⟩
    conv=>whnf
    refine ⟨Nat,fun k=>([(1,.c (.lst (eLw raw))),(2,I si),(3,I nd),(4,I st),(15,.c (.ptr (.l 15 10) 0)),(18,.c (.lst (eLw lvs))),(19,.c (.lst (eLw locs))),(20,.c (.lst (eLw locs))),(121,.c (.view (.l 121 15) 0 2)),(122,I 2),(123,I k)],⟨[(.l 15 10,.blk (csC c)),(.l 121 15,.arr 36 3 (eF [w,⟨-1,w.ds,w.ws⟩]) false)],20,[]⟩),
      fun k=>k≤2,fun k=>2 - k,0,Nat.zero_le _,Shift.trans (Shift.rename [] ⟨rfl,rfl,rfl,rfl,rfl,rfl,rfl,rfl,rfl,rfl,rfl,trivial⟩ ⟨rfl,?_,trivial⟩ rfl rfl rfl) (Shift.purV (t:=20) (i:=.l 98 12) (n:=(eLw locs).length) (es:=eLw locs) rfl rfl rfl),?_⟩
    · dsimp only;rw [eF2,hfr1,hfr2];rfl
    exact tail locs hv2 (by omega)
  intro MX hMX hMl k hk2
  have hmM:=eLw_len MX
  dsimp only
  conv=>whnf
  refine Fork.mk (fun h=>?_) (fun h=>?_)
  · have hk3:k < 2:=by simp at h;omega
    clear h
    have hwk:=wr_succ (i:=k) (by omega)
    obtain ⟨W,hW,hWf⟩:∃ W,[w,(⟨-1,w.ds,w.ws⟩:Fl)][k]?=some W∧W.fin:=by
      match k,hk3 with
      | 0,_=>exact ⟨w,rfl,hwf⟩
      | 1,_=>exact ⟨⟨-1,w.ds,w.ws⟩,rfl,⟨hwf.n,hwf.d,hwf.w⟩⟩
    have hcW:(eF [w,(⟨-1,w.ds,w.ws⟩:Fl)])[0+((k:Int)).toNat]?=some (flC W):=by rw [Nat.zero_add,Int.toNat_natCast,List.getElem?_map,hW];rfl
    conv=>whnf
    refine ⟨by omega,rfl,?_⟩
    conv=>whnf
    refine ⟨flC W,hcW,?_⟩
    conv=>whnf
    refine ⟨Nat,fun q=>([(1,.c (.lst (eLw raw))),(2,I si),(3,I nd),(4,I st),(15,.c (.ptr (.l 15 10) 0)),(18,.c (.lst (eLw lvs))),(19,.c (.lst (eLw locs))),(20,.c (.lst (eLw MX))),(23,.c (.ptr (.l 23 20) 0)),(121,.c (.view (.l 121 15) 0 2)),(122,I 2),(123,I k),(139,.c (.view (.l 139 21) 0 4)),(140,I 4),(141,I q)],⟨[(.l 15 10,.blk (csC c)),(.l 121 15,.arr 36 3 (eF [w,⟨-1,w.ds,w.ws⟩]) false),(.l 23 20,.blk (flC W)),(.l 139 21,.arr 91 2 (eQ2 [(lvs,locs),(lvs,MX),(raw,raw),(lvs,raw)]) false)],30,[]⟩),
      fun q=>q≤4,fun q=>4 - q,0,Nat.zero_le _,Shift.rename [] ⟨rfl,rfl,rfl,rfl,rfl,rfl,rfl,rfl,rfl,rfl,rfl,rfl,rfl,rfl,rfl,trivial⟩ ⟨rfl,rfl,rfl,rfl,trivial⟩ rfl rfl rfl,fun q hq=>?_⟩
    dsimp only
    conv=>whnf
    refine Fork.mk (fun h=>?_) (fun h=>?_)
    · have hq3:q < 4:=by simp at h;omega
      clear h
      have hwq:=wr_succ (i:=q) (by omega)
      obtain ⟨a,b,hab,ha,hb⟩:∃ a b,[(lvs,locs),(lvs,MX),(raw,raw),(lvs,raw)][q]?=some (a,b)∧vfin a∧vfin b:=by
        match q,hq3 with
        | 0,_=>exact ⟨lvs,locs,rfl,hv1,hv2⟩
        | 1,_=>exact ⟨lvs,MX,rfl,hv1,hMX⟩
        | 2,_=>exact ⟨raw,raw,rfl,hraw,hraw⟩
        | 3,_=>exact ⟨lvs,raw,rfl,hv1,hraw⟩
      have hcab:(eQ2 [(lvs,locs),(lvs,MX),(raw,raw),(lvs,raw)])[0+((q:Int)).toNat]?=some (qC (a,b)):=by rw [Nat.zero_add,Int.toNat_natCast,List.getElem?_map,hab];rfl
      conv=>whnf
      refine ⟨by omega,rfl,?_⟩
      conv=>whnf
      refine ⟨qC (a,b),hcab,?_⟩
      conv=>whnf
      refine ⟨by omega,?_⟩
      conv=>whnf
      refine ⟨by omega,?_⟩
      conv=>whnf
      refine ⟨c,W,a,b,rfl,hcf,hWf,ha,hb,?_⟩
      rw [foA_eq]
      conv=>whnf
      refine ⟨by omega,?_⟩
      conv=>whnf
      refine ⟨by omega,?_⟩
      conv=>whnf
      refine ⟨c,W,a,b,rfl,hcf,hWf,ha,hb,?_⟩
      rw [foA_eq]
      conv=>whnf
      rw [dEq]
      refine Fork.mk (fun h=>by cases h) (fun _=>?_)
      conv=>whnf
      refine ⟨foL (foX c W a b),foL (foX c W a b),rfl,foX_vf ..,?_⟩
      conv=>whnf
      rw [dEqW]
      refine Fork.mk (fun h=>by cases h) (fun _=>?_)
      conv=>whnf
      rw [hwq]
      exact ⟨q+1,hq3,Shift.reset ⟨rfl,rfl,rfl,rfl,rfl,rfl,rfl,rfl,rfl,rfl,rfl,rfl,rfl,rfl,rfl,trivial⟩ ⟨rfl,rfl,rfl,rfl,trivial⟩ rfl rfl,by omega⟩
    clear h
    conv=>whnf
    refine ⟨by omega,?_⟩
    conv=>whnf
    refine ⟨Nat,fun q=>([(1,.c (.lst (eLw raw))),(2,I si),(3,I nd),(4,I st),(15,.c (.ptr (.l 15 10) 0)),(18,.c (.lst (eLw lvs))),(19,.c (.lst (eLw locs))),(20,.c (.lst (eLw MX))),(23,.c (.ptr (.l 23 20) 0)),(121,.c (.view (.l 121 15) 0 2)),(122,I 2),(123,I k),(178,.c (.view (.l 178 30) 0 2)),(179,I 2),(180,I q)],⟨[(.l 15 10,.blk (csC c)),(.l 121 15,.arr 36 3 (eF [w,⟨-1,w.ds,w.ws⟩]) false),(.l 23 20,.blk (flC W)),(.l 178 30,.arr 3 1 (eL [st,st % 9]) false)],40,[]⟩),
      fun q=>q≤2,fun q=>2 - q,0,Nat.zero_le _,Shift.rename [] ⟨rfl,rfl,rfl,rfl,rfl,rfl,rfl,rfl,rfl,rfl,rfl,rfl,rfl,rfl,rfl,trivial⟩ ⟨rfl,rfl,rfl,rfl,trivial⟩ rfl rfl rfl,fun q hq=>?_⟩
    dsimp only
    conv=>whnf
    refine Fork.mk (fun h=>?_) (fun h=>?_)
    · have hq3:q < 2:=by simp at h;omega
      clear h
      have hwq:=wr_succ (i:=q) (by omega)
      obtain ⟨m,hm2⟩:=two_at (x:=st) (y:=st % 9) hq3
      conv=>whnf
      refine ⟨by omega,rfl,?_⟩
      conv=>whnf
      refine ⟨eI m,by rw [Nat.zero_add,Int.toNat_natCast,List.getElem?_map,hm2];rfl,?_⟩
      conv=>whnf
      refine ⟨c,W,m,rfl,hcf,hWf,?_⟩
      rw [foA_eq]
      conv=>whnf
      refine ⟨c,W,m,rfl,hcf,hWf,?_⟩
      rw [foA_eq]
      conv=>whnf
      rw [dEq]
      refine Fork.mk (fun h=>by cases h) (fun _=>?_)
      conv=>whnf
      refine ⟨foL (reX c W m),foL (reX c W m),rfl,reX_vf ..,?_⟩
      conv=>whnf
      rw [dEqW]
      refine Fork.mk (fun h=>by cases h) (fun _=>?_)
      conv=>whnf
      rw [hwq]
      exact ⟨q+1,hq3,Shift.reset ⟨rfl,rfl,rfl,rfl,rfl,rfl,rfl,rfl,rfl,rfl,rfl,rfl,rfl,rfl,rfl,trivial⟩ ⟨rfl,rfl,rfl,rfl,trivial⟩ rfl rfl,by omega⟩
    clear h
    conv=>whnf
    rw [hwk]
    exact ⟨k+1,hk3,Shift.reset ⟨rfl,rfl,rfl,rfl,rfl,rfl,rfl,rfl,rfl,rfl,rfl,trivial⟩ ⟨rfl,rfl,trivial⟩ rfl rfl,by omega⟩
  clear h
  conv=>whnf
  refine ⟨by omega,?_⟩
  conv=>whnf
  refine ⟨Nat,fun q=>([(3,I nd),(15,.c (.ptr (.l 15 10) 0)),(212,.c (.view (.l 212 20) 0 2)),(213,I 2),(214,I q)],⟨[(.l 15 10,.blk (csC c)),(.l 212 20,.arr 3 1 (eL [si,si % 3]) false)],30,[]⟩),
    fun q=>q≤2,fun q=>2 - q,0,Nat.zero_le _,Shift.rename [] ⟨rfl,rfl,rfl,rfl,rfl,trivial⟩ ⟨rfl,rfl,trivial⟩ rfl rfl rfl,fun q hq=>?_⟩
  dsimp only
  conv=>whnf
  refine Fork.mk (fun h=>?_) (fun h=>?_)
  rotate_left
  · conv=>whnf
    exact hk
  have hq3:q < 2:=by simp at h;omega
  clear h
  have hwq:=wr_succ (i:=q) (by omega)
  obtain ⟨iv,hm2⟩:=two_at (x:=si) (y:=si % 3) hq3
  conv=>whnf
  refine ⟨by omega,rfl,?_⟩
  conv=>whnf
  refine ⟨eI iv,by rw [Nat.zero_add,Int.toNat_natCast,List.getElem?_map,hm2];rfl,?_⟩
  conv=>whnf
  refine ⟨c,iv,rfl,hcf,?_⟩
  conv=>whnf
  refine ⟨c,iv,rfl,hcf,?_⟩
  conv=>whnf
  rw [dEq]
  refine Fork.mk (fun h=>by cases h) (fun _=>?_)
  conv=>whnf
  refine ⟨(bwS c iv).1,(bwS c iv).1,rfl,by have:=bwS_len hc iv;omega,?_⟩
  conv=>whnf
  rw [dEqL]
  refine Fork.mk (fun h=>by cases h) (fun _=>?_)
  conv=>whnf
  refine ⟨by omega,?_⟩
  conv=>whnf
  refine ⟨Nat,fun p=>([(3,I nd),(15,.c (.ptr (.l 15 10) 0)),(37,I iv),(212,.c (.view (.l 212 20) 0 2)),(213,I 2),(214,I q),(245,.c (.view (.l 245 30) 0 2)),(246,I 2),(247,I p)],⟨[(.l 15 10,.blk (csC c)),(.l 212 20,.arr 3 1 (eL [si,si % 3]) false),(.l 245 30,.arr 3 1 (eL [nd,nd % c.rv.n]) false)],40,[]⟩),
    fun p=>p≤2,fun p=>2 - p,0,Nat.zero_le _,Shift.rename [] ⟨rfl,rfl,rfl,rfl,rfl,rfl,rfl,rfl,rfl,trivial⟩ ⟨rfl,rfl,rfl,trivial⟩ rfl rfl rfl,fun p hp=>?_⟩
  dsimp only
  conv=>whnf
  refine Fork.mk (fun h=>?_) (fun h=>?_)
  rotate_left
  · conv=>whnf
    rw [hwq]
    exact ⟨q+1,hq3,Shift.reset ⟨rfl,rfl,rfl,rfl,rfl,trivial⟩ ⟨rfl,rfl,trivial⟩ rfl rfl,by omega⟩
  have hp3:p < 2:=by simp at h;omega
  clear h
  have hwp:=wr_succ (i:=p) (by omega)
  obtain ⟨m,hm3⟩:=two_at (x:=nd) (y:=nd % c.rv.n) hp3
  conv=>whnf
  refine ⟨by omega,rfl,?_⟩
  conv=>whnf
  refine ⟨eI m,by rw [Nat.zero_add,Int.toNat_natCast,List.getElem?_map,hm3];rfl,?_⟩
  conv=>whnf
  refine ⟨c,iv,m,rfl,hcf,?_⟩
  conv=>whnf
  refine ⟨c,iv,m,rfl,hcf,?_⟩
  conv=>whnf
  refine ⟨c,m,rfl,hcf,?_⟩
  conv=>whnf
  refine ⟨c,m,rfl,hcf,?_⟩
  conv=>whnf
  rw [dEq]
  refine Fork.mk (fun h=>by cases h) (fun _=>?_)
  conv=>whnf
  rw [dEq]
  refine Fork.mk (fun h=>by cases h) (fun _=>?_)
  conv=>whnf
  rw [dEq]
  refine Fork.mk (fun h=>by cases h) (fun _=>?_)
  conv=>whnf
  rw [dEq]
  refine Fork.mk (fun h=>by cases h) (fun _=>?_)
  conv=>whnf
  refine ⟨(abS c m).1,(abS c m).1,rfl,by have:=abS_len hc m;omega,?_⟩
  conv=>whnf
  rw [dEqL]
  refine Fork.mk (fun h=>by cases h) (fun _=>?_)
  conv=>whnf
  rw [hwp]
  exact ⟨p+1,hp3,Shift.reset ⟨rfl,rfl,rfl,rfl,rfl,rfl,rfl,rfl,rfl,trivial⟩ ⟨rfl,rfl,rfl,trivial⟩ rfl rfl,by omega⟩
end Go.Proofs

/- Rivers and waves that come in as arguments. -/
namespace Go.Proofs
open Go Go.Abs
set_option linter.unusedSimpArgs false
set_option linter.unusedVariables false
abbrev shIR:Sh:=.i .i64
abbrev shWv:List Sh:=[.l [shIR]]
theorem int_deepR (y:List Cell) (h:okSs [shIR] y):∃ a:Int,y=eI a∧True:=by
  match y,h with
  | [.sc (.int _ a)],⟨rfl,_⟩=>exact ⟨a,rfl,trivial⟩
theorem wv_deep (y:List Cell) (h:okSs shWv y):∃ r:Ls,y=wvC r∧r.length≤9223372036854775807:=by
  match y,h with
  | [.lst es],⟨⟨h1,h2⟩,_⟩ =>
    obtain ⟨l,rfl,_⟩:=all_formQ (f:=eI) int_deepR h2
    exact ⟨l,rfl,by simpa [maxLen] using h1⟩
end Go.Proofs
