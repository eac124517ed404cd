/- Proved here: what functions of the given program come to, for the statements of this chapter; no condition but those in the theorems. -/
import Derived.Test.YtgllikepncnpkaaGreatPRest2
namespace Go.Proofs
open Go Go.Abs
set_option linter.unusedSimpArgs false
set_option linter.unusedVariables false
set_option maxRecDepth 40000
set_option maxHeartbeats 8000000 in
theorem trest_ok:FunR Tryz.prog 6 R_l34:=by
  intro args k h
  obtain ⟨l,rfl,hl,hk⟩:=h
  refine does_ex (qc:=qc1) (np:=[]) (CK:=ckK [(9,cSc R_tt),(10,cSc R_few),(11,cN R_new),(25,cB R_mkCs),(26,cB R_mkFl),(27,cPu R_re),(21,cPu R_pth),(28,cSc R_held)]) mixed Tryz.func6 rfl rfl Tryz.ntmps6 Tryz.results6 τ_ok (by kernel_rfl) (ckK_ok ⟨cSc_ok sane_ok,cSc_ok few_ok,cN_ok new_ok rfl,cB_ok mkCs_ok rfl,cB_ok mkFl_ok rfl,cPu_ok rest_ok' rfl,cPu_ok rpth_ok rfl,cSc_ok rheld_ok,trivial⟩) (by simp) ?_
  conv=>whnf
  refine ⟨rfl,?_⟩
  conv=>whnf
  refine Fork.mk (fun h=>by cases h) (fun _=>?_)
  conv=>whnf
  refine ⟨l,rfl,?_⟩
  conv=>whnf
  refine Fork.mk (fun h=>?_) (fun h=>?_)
  · conv=>whnf
    exact hk
  clear h
  conv=>whnf
  refine ⟨l,rfl,?_⟩
  conv=>whnf
  refine ⟨⟨l,0⟩,rfl,rfl,⟨Nat.zero_le _,hl⟩,fun c0 ds0 d hd hm0=>?_⟩
  have hds:=hm0.ln
  have hn3:=hm0.n
  have hm:=hm0.dry
  conv=>whnf
  refine ⟨d,⟨c0.rv,[]⟩,[],rfl,rfl,hd,hm,fun w n d hd hn hw=>?_⟩
  generalize hcc:(⟨c0.rv,[]⟩:Cs)=c at hm hw
  have hrv:c.rv=c0.rv:=by rw [← hcc]
  have hsi:c.si=[]:=by rw [← hcc]
  have hc:=hm.k
  have hva:=hw.va hm
  have hcf:=hm.fin
  have hr:=hc.r
  have hrl:=hr.len
  have hrn:=hm.r.n
  have hmk:=eK_len c.rv.ls
  obtain ⟨z,hz⟩:=Int.eq_ofNat_of_zero_le (show 0≤c.rv.n - 1 by omega)
  have hN:c.rv.n=((z+1:Nat):Int):=by omega
  have hNt:c.rv.n.toNat=z+1:=by omega
  obtain ⟨v,hv,hvs⟩:=stepsC_vol hm hw (by omega)
  obtain ⟨r,r1,r2,r3⟩:=fl_small2 hc (B:=0) (g:=0) (K:=1000000) (by omega) (by omega) (lvs:=List.replicate 200 []) (locs:=List.replicate 200 (List.replicate (z+1) 0)) hva.w hv (by simp) (fun l hl=>by
    have:=(List.mem_replicate.1 hl).2
    subst this
    exact ⟨by rw [hsi];rfl,fun x hx=>by simp at hx⟩) (fun m hm=>by
    have:=(List.mem_replicate.1 hm).2
    subst this
    refine ⟨by rw [List.length_replicate];omega,fun x hx=>by have:=(List.mem_replicate.1 hx).2;omega,by simp⟩) (by simp;omega) (by omega)
  have hre:reX c w 200=.ok r:=by
    have h0:rdyE c w=0:=by rw [rdyE,if_neg (by simp [csE_of hva.k]),if_neg (by simp [vaB_of hva])]
    rw [reX,if_neg (by simp [h0]),if_neg (by omega),if_neg (by omega),foX,if_neg (by simp [h0]),if_neg (by simp [zeL]),if_neg (by simp [zeL]),hsi,hNt]
    exact r1
  rw [List.length_replicate] at r2
  have hlaw:=rest_law hc hsi hN (by omega) hva.w r1
  have hmr:=eLw_len r
  have hwv:vfin w.ws:=(vaB_fin (vaB_of hva)).w
  conv=>whnf
  rw [← hrv]
  refine ⟨c,w,200,by unfold csC;rw [hsi];rfl,hcf,vaB_fin (vaB_of hva),?_⟩
  rw [hre]
  conv=>whnf
  refine Fork.mk (fun h=>absurd h (by decide)) (fun _=>?_)
  conv=>whnf
  rw [show decide ((((eLw r).length:Nat):Int)=200)=true by rw [decide_eq_true_eq];omega]
  refine Fork.mk (fun h=>by cases h) (fun _=>?_)
  conv=>whnf
  refine Fork.mk (fun h=>?_) (fun _=>?_)
  · rw [decide_eq_true_eq,eD_len] at h
    omega
  conv=>whnf
  have ez:(z:Int)=IntKind.i64.wrap (c.rv.n - 1):=by rw [wrap_in (by omega) (by omega)];omega
  refine ⟨Nat,fun k=>([(4,.c (.ptr (.l 4 1) 0)),(6,.c (.ptr (.l 6 2) 0)),(9,I z),(10,I (((r.take k).map fun a=>gN a z).sum)),(11,I 0),(12,I 0),(57,.c (.lst (eLw r))),(58,I (eLw r).length),(59,I k)],
      ⟨[(.l 4 1,.blk [IC c.rv.n,.lst (eK c.rv.ls),.sc (.slice none 0 0)]),(.l 6 2,.blk (flC w))],9,[]⟩),
    fun k=>k≤200∧0≤((r.take k).map fun a=>gN a z).sum∧((r.take k).map fun a=>gN a z).sum≤1000000 * k,fun k=>200 - k,0,⟨Nat.zero_le _,by simp,by simp⟩,Shift.rename [] ⟨rfl,rfl,?_,rfl,rfl,rfl,rfl,rfl,rfl,trivial⟩ ⟨rfl,rfl,trivial⟩ rfl rfl rfl,fun k hk2=>?_⟩
  · dsimp only;rw [ez];rfl
  obtain ⟨hk2,hb1,hb2⟩:=hk2
  dsimp only
  conv=>whnf
  refine Fork.mk (fun h=>?_) (fun h=>?_)
  · have hk3:k < 200:=by simp at h;omega
    clear h
    have hwk:=wr_succ (i:=k) (by omega)
    have hca:=List.getElem?_eq_getElem (show k < r.length by omega)
    have hba:=r3 _ (List.getElem_mem (show k < r.length by omega))
    generalize r[k]'(by omega)=a at hca hba
    have hma:=eL_len a
    have hxa:a[z]?=some (gN a z):=gN_get (by omega)
    have hga:=hba.2 _ (List.mem_of_getElem? hxa)
    have htk:((r.take (k+1)).map fun a=>gN a z).sum=((r.take k).map fun a=>gN a z).sum+gN a z:=by
      rw [List.take_add_one,hca]
      simp
    have hws:IntKind.i64.wrap (((r.take k).map fun a=>gN a z).sum+gN a z)=((r.take (k+1)).map fun a=>gN a z).sum:=by rw [htk];exact wrap_in (by omega) (by omega)
    conv=>whnf
    refine ⟨by omega,lwC a,by rw [Int.toNat_natCast,List.getElem?_map,hca];rfl,rfl,?_⟩
    conv=>whnf
    refine ⟨by omega,eI (gN a z),by rw [Int.toNat_natCast,List.getElem?_map,hxa];rfl,rfl,?_⟩
    conv=>whnf
    rw [hws,hwk]
    exact ⟨k+1,⟨hk3,by rw [htk];omega,by rw [htk];omega⟩,Shift.reset ⟨rfl,rfl,rfl,rfl,rfl,rfl,rfl,rfl,rfl,trivial⟩ ⟨rfl,rfl,trivial⟩ rfl rfl,by omega⟩
  have hke:k=200:=by simp at h;omega
  clear h
  subst hke
  rw [List.take_of_length_le (by omega)] at hb1 hb2
  rw [List.take_of_length_le (by omega)]
  generalize (r.map fun a=>gN a z).sum=S at hb1 hb2 hlaw
  conv=>whnf
  refine ⟨Nat,fun i=>([(4,.c (.ptr (.l 4 1) 0)),(6,.c (.ptr (.l 6 2) 0)),(9,I z),(10,I S),(11,I (hE (endE c.rv) (c.rv.ls.take i) w.ws)),(12,I (cE (endE c.rv) (c.rv.ls.take i))),(72,.c (.lst (eK c.rv.ls))),(73,I (eK c.rv.ls).length),(74,I i)],
      ⟨[(.l 4 1,.blk [IC c.rv.n,.lst (eK c.rv.ls),.sc (.slice none 0 0)]),(.l 6 2,.blk (flC w))],9,[]⟩),
    fun i=>i≤c.rv.ls.length∧(0≤hE (endE c.rv) (c.rv.ls.take i) w.ws∧hE (endE c.rv) (c.rv.ls.take i) w.ws≤100000000000000000 * i)∧0≤cE (endE c.rv) (c.rv.ls.take i)∧cE (endE c.rv) (c.rv.ls.take i)≤i,fun i=>c.rv.ls.length - i,0,⟨Nat.zero_le _,?_,?_⟩,Shift.rename [] ⟨rfl,rfl,rfl,rfl,?_,?_,rfl,rfl,rfl,trivial⟩ ⟨rfl,rfl,trivial⟩ rfl rfl rfl,fun i hi=>?_⟩
  · rw [List.take_zero];unfold hE;omega
  · rw [List.take_zero];unfold cE;omega
  · dsimp only;rw [List.take_zero];unfold hE;rfl
  · dsimp only;rw [List.take_zero];unfold cE;rfl
  obtain ⟨hi,⟨hh1,hh2⟩,hc1,hc2⟩:=hi
  dsimp only
  conv=>whnf
  refine Fork.mk (fun h=>?_) (fun h=>?_)
  rotate_left
  · have hie:i=c.rv.ls.length:=by simp at h;omega
    clear h
    subst hie
    rw [List.take_length] at hh1 hh2 hc1 hc2
    rw [List.take_length]
    conv=>whnf
    have w1:IntKind.i64.wrap (hE (endE c.rv) c.rv.ls w.ws - cE (endE c.rv) c.rv.ls)=hE (endE c.rv) c.rv.ls w.ws - cE (endE c.rv) c.rv.ls:=wrap_in (by omega) (by omega)
    have w2:IntKind.i64.wrap (2 * cE (endE c.rv) c.rv.ls)=2 * cE (endE c.rv) c.rv.ls:=wrap_in (by omega) (by omega)
    have w3:IntKind.i64.wrap (hE (endE c.rv) c.rv.ls w.ws+2 * cE (endE c.rv) c.rv.ls)=hE (endE c.rv) c.rv.ls w.ws+2 * cE (endE c.rv) c.rv.ls:=wrap_in (by omega) (by omega)
    rw [w1]
    refine Fork.mk (fun _=>?_) (fun h=>?_)
    rotate_left
    · rw [decide_eq_false_iff_not] at h
      omega
    conv=>whnf
    rw [w2,w3,show decide (S≤hE (endE c.rv) c.rv.ls w.ws+2 * cE (endE c.rv) c.rv.ls)=true by rw [decide_eq_true_eq];omega]
    exact hk
  have hi2:i < c.rv.ls.length:=by simp at h;omega
  clear h
  have hwi:=wr_succ (i:=i) (by omega)
  have hwl:=hva.w.l
  have hcl:=List.getElem?_eq_getElem hi2
  have hlk:=hr.l _ (List.getElem_mem hi2)
  have hcw:=List.getElem?_eq_getElem (show i < w.ws.length by omega)
  have hfit:=hva.w.f i _ _ hcl hcw
  have hht:=hE_take (E:=endE c.rv) hcl hcw
  have hct:=cE_take (E:=endE c.rv) hcl
  generalize c.rv.ls[i]=L at hcl hlk hfit hht hct
  generalize w.ws[i]'(by omega)=p at hcw hfit hht
  have k1:=hlk.f
  have k2:=hlk.o
  have k3:=hlk.t
  have hP:pthS c.rv L.fr=(pathR c.rv L.fr,0):=by rw [pthS,if_neg (by simp [rvE_of hr]),if_neg (by simp [inN];omega)]
  conv=>whnf
  refine ⟨by omega,lkC L,by rw [Int.toNat_natCast,List.getElem?_map,hcl];rfl,rfl,?_⟩
  conv=>whnf
  refine ⟨c.rv,L.fr,rfl,hcf.r,?_⟩
  rw [hP]
  have hpl:(pathR c.rv L.fr).length≤41:=by
    have:=path_len hr (show 0≤L.fr∧L.fr < c.rv.n by omega)
    rw [pathR,List.length_cons,List.length_map]
    omega
  have hp1:1≤(pathR c.rv L.fr).length:=by rw [pathR,List.length_cons];omega
  have hEE:endE c.rv L.fr=if (pathR c.rv L.fr).getLast?=some (c.rv.n - 1) then 1 else 0:=rfl
  generalize pathR c.rv L.fr=P at hpl hp1 hEE
  dsimp only
  have hmP:=eL_len P
  have hcp:=List.getElem?_eq_getElem (show P.length - 1 < P.length by omega)
  rw [List.getLast?_eq_getElem?,hcp] at hEE
  generalize P[P.length - 1]'(by omega)=y at hcp hEE
  have e1:IntKind.i64.wrap ((((eL P).length:Nat):Int) - 1)=((P.length - 1:Nat):Int):=by rw [hmP,wrap_in (by omega) (by omega)];omega
  conv=>whnf
  rw [e1]
  refine ⟨by omega,eI y,by rw [Int.toNat_natCast,List.getElem?_map,hcp];rfl,rfl,?_⟩
  conv=>whnf
  obtain ⟨hpl2,_,hpb,_⟩:=fits_facts hfit
  obtain ⟨_,h24,_,hd,hd2,_⟩:=rk_facts hlk.r
  have hps:=sum_in (l:=p) (a:=2251799813685248) (by omega) hpb
  have hpd0:=Int.ediv_nonneg hps.1 (show 0≤L.den by omega)
  have hpd1:=Int.ediv_le_self L.den hps.1
  refine Fork.mk (fun h=>?_) (fun h=>?_)
  · have hyz:y=z:=by simpa using h
    rw [if_pos (by rw [hyz];congr 1;omega)] at hEE
    rw [hEE,Int.one_mul] at hht
    rw [hEE] at hct
    have hwc:IntKind.i64.wrap (cE (endE c.rv) (c.rv.ls.take i)+1)=cE (endE c.rv) (c.rv.ls.take (i+1)):=by rw [hct];exact wrap_in (by omega) (by omega)
    have hwh:IntKind.i64.wrap (hE (endE c.rv) (c.rv.ls.take i) w.ws+p.sum / L.den)=hE (endE c.rv) (c.rv.ls.take (i+1)) w.ws:=by rw [hht];exact wrap_in (by omega) (by omega)
    conv=>whnf
    refine ⟨by omega,wvC p,by rw [Int.toNat_natCast,List.getElem?_map,hcw];rfl,rfl,?_⟩
    conv=>whnf
    refine ⟨p,rfl,by omega,fun x hx=>by have:=hpb x hx;unfold inH;omega,?_⟩
    conv=>whnf
    refine ⟨by omega,?_⟩
    conv=>whnf
    have hq:IntKind.i64.wrap (p.sum.tdiv L.den)=p.sum / L.den:=by rw [Int.tdiv_eq_ediv_of_nonneg hps.1];exact wrap_in (by omega) (by omega)
    rw [hq,hwh,hwc,hwi]
    exact ⟨i+1,⟨hi2,by rw [hht];omega,by rw [hct];omega⟩,Shift.reset ⟨rfl,rfl,rfl,rfl,rfl,rfl,rfl,rfl,rfl,trivial⟩ ⟨rfl,rfl,trivial⟩ rfl rfl,by omega⟩
  have hyz:¬ y=z:=by simpa using h
  clear h
  rw [if_neg (fun h=>by cases h;omega)] at hEE
  rw [hEE,Int.zero_mul,Int.add_zero] at hht
  rw [hEE,Int.add_zero] at hct
  conv=>whnf
  rw [hwi]
  refine ⟨i+1,⟨hi2,by rw [hht];omega,by rw [hct];omega⟩,?_,by omega⟩
  rw [hht,hct]
  exact Shift.reset ⟨rfl,rfl,rfl,rfl,rfl,rfl,rfl,rfl,rfl,trivial⟩ ⟨rfl,rfl,trivial⟩ rfl rfl
end Go.Proofs
