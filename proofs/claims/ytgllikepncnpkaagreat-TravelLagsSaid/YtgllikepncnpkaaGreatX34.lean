/- Proved here: what functions of the given program come to, and the plain laws of it; no condition but those in the theorems. -/
import Derived.Test.YtgllikepncnpkaaGreatT34
import Derived.Test.YtgllikepncnpkaaGreatPGate3
namespace Go.Proofs
open Go Go.Abs
set_option linter.unusedSimpArgs false
set_option linter.unusedVariables false
set_option maxRecDepth 4000
theorem gwrong_ok:FunR Tryz.prog 126 R_askG:=by
  intro args k h
  obtain ⟨gs,ss,lv,rfl,hf,hk⟩:=h
  have hm:=eG_len gs
  have hn:=eS_len ss
  have hg1:=hf.g
  have hs1:=hf.s
  refine does_ex (qc:=qc1) (np:=[]) (CK:=ckK [(97,cSc R_okS),(95,cSc (R_gI ckG)),(49,cSc R_within)]) mixed Tryz.func126 rfl rfl Tryz.ntmps126 Tryz.results126 τ_ok (by kernel_rfl) (ckK_ok ⟨cSc_ok rokS_ok,cSc_ok rckG_ok,cSc_ok rIn_ok,trivial⟩) (by simp) ?_
  conv=>whnf
  refine Fork.mk (fun h=>?_) (fun h=>?_)
  · have h1:8 < gs.length:=by simp at h;omega
    conv=>whnf
    exact kI hk (by rw [askG,if_pos h1])
  have h1:¬ 8 < gs.length:=by simp at h;omega
  clear h
  conv=>whnf
  refine Fork.mk (fun h=>?_) (fun h=>?_)
  · have h2:gs.length ≠ ss.length:=by simp at h;omega
    conv=>whnf
    exact kI hk (by rw [askG,if_neg h1,if_pos h2])
  have h2:gs.length=ss.length:=by simp at h;omega
  clear h
  conv=>whnf
  refine ⟨Nat,fun i=>([(0,.c (.lst (eG gs))),(1,.c (.lst (eS ss))),(2,I lv),(20,.c (.lst (eG gs))),(21,I (eG gs).length),(22,I i)],⟨[],40,[]⟩),fun i=>i≤gs.length∧badS gs ss=badS (gs.drop i) (ss.drop i),fun i=>gs.length - i,0,⟨Nat.zero_le _,rfl⟩,Shift.reset ⟨rfl,rfl,rfl,rfl,rfl,rfl,trivial⟩ trivial rfl rfl,fun i hi=>?_⟩
  obtain ⟨hi1,hi2⟩:=hi
  dsimp only
  conv=>whnf
  refine Fork.mk (fun h=>?_) (fun h=>?_)
  · have hi:i < gs.length:=by simp at h;omega
    clear h
    have hci:=List.getElem?_eq_getElem hi
    have hdi:=List.getElem?_eq_getElem (show i < ss.length by omega)
    generalize gs[i]=g at hci
    generalize ss[i]=z at hdi
    rw [drop_of hci,drop_of hdi,badS] at hi2
    have hw1:=wr_succ (i:=i) (by omega)
    conv=>whnf
    refine ⟨by omega,gtC g,by rw [Int.toNat_natCast,List.getElem?_map,hci];rfl,rfl,?_⟩
    conv=>whnf
    refine ⟨by omega,gsC z,by rw [Int.toNat_natCast,List.getElem?_map,hdi];rfl,rfl,?_⟩
    conv=>whnf
    refine ⟨g,z,rfl,?_⟩
    conv=>whnf
    refine Fork.mk (fun h=>?_) (fun h=>?_)
    · have h3:okS g z=false:=by simpa using h
      rw [if_pos h3] at hi2
      conv=>whnf
      exact kI hk (by rw [askG,if_neg h1,if_neg (by omega),if_pos hi2])
    have h3:¬ okS g z=false:=by simpa using h
    rw [if_neg h3] at hi2
    conv=>whnf
    rw [hw1]
    exact ⟨_,⟨hi,hi2⟩,Shift.reset ⟨rfl,rfl,rfl,rfl,rfl,rfl,trivial⟩ trivial rfl rfl,by omega⟩
  have hie:i=gs.length:=by simp at h;omega
  have hb:badS gs ss=false:=by
    rw [hi2,hie,List.drop_length]
    cases ss.drop gs.length <;> rfl
  clear h hi1 hi2 hie
  conv=>whnf
  refine ⟨Nat,fun i=>([(2,I lv),(35,.c (.lst (eG gs))),(36,I (eG gs).length),(37,I i)],⟨[],80,[]⟩),fun i=>i≤gs.length∧ckGs gs=ckGs (gs.drop i),fun i=>gs.length - i,0,⟨Nat.zero_le _,rfl⟩,Shift.reset ⟨rfl,rfl,rfl,rfl,trivial⟩ trivial rfl rfl,fun i hi=>?_⟩
  obtain ⟨hi1,hi2⟩:=hi
  dsimp only
  conv=>whnf
  refine Fork.mk (fun h=>?_) (fun h=>?_)
  · have hi:i < gs.length:=by simp at h;omega
    clear h
    have hci:=List.getElem?_eq_getElem hi
    have hcf:=hf.f _ (List.getElem_mem hi)
    generalize gs[i]=g at hci hcf
    rw [drop_of hci,ckGs] at hi2
    have hw1:=wr_succ (i:=i) (by omega)
    conv=>whnf
    refine ⟨by omega,gtC g,by rw [Int.toNat_natCast,List.getElem?_map,hci];rfl,rfl,?_⟩
    conv=>whnf
    refine ⟨g,rfl,hcf,?_⟩
    conv=>whnf
    refine Fork.mk (fun h=>?_) (fun h=>?_)
    · have h3:ckG g ≠ 0:=by simpa using h
      rw [if_pos h3] at hi2
      conv=>whnf
      exact kI hk (by rw [askG,if_neg h1,if_neg (by omega),if_neg (by simp [hb]),if_pos (by rw [hi2];exact h3),hi2])
    have h3:¬ ckG g ≠ 0:=by simpa using h
    rw [if_neg h3] at hi2
    conv=>whnf
    rw [hw1]
    exact ⟨_,⟨hi,hi2⟩,Shift.reset ⟨rfl,rfl,rfl,rfl,trivial⟩ trivial rfl rfl,by omega⟩
  have hie:i=gs.length:=by simp at h;omega
  have hc:ckGs gs=0:=by
    rw [hi2,hie,List.drop_length]
    rfl
  clear h hi1 hi2 hie
  conv=>whnf
  refine Fork.mk (fun h=>?_) (fun h=>?_)
  · conv=>whnf
    exact kI hk (by rw [askG,if_neg h1,if_neg (by omega),if_neg (by simp [hb]),if_neg (by simp [hc]),if_pos (by simp [inB] at h ⊢;omega)])
  have h3:0≤lv∧lv≤16777216:=by simp at h;omega
  conv=>whnf
  exact kI hk (by rw [askG,if_neg h1,if_neg (by omega),if_neg (by simp [hb]),if_neg (by simp [hc]),if_neg (by simp [inB,h3])])
theorem rreach_ok:FunR Tryz.prog 144 R_rch:=by
  intro args k h
  obtain ⟨g,z,rfl,hg,hz,hk⟩:=h
  have ho:=(ckG_ok hg).o
  have hv:=(ckG_ok hg).v
  have hz1:=hz
  simp [okS,inB] at hz1
  have hw1:IntKind.i64.wrap (z.op - g.mv)=z.op - g.mv:=wrap_in (by omega) (by omega)
  have hw2:IntKind.i64.wrap (z.op+g.mv)=z.op+g.mv:=wrap_in (by omega) (by omega)
  refine does_ex (qc:=qc1) (np:=[]) (CK:=ckK []) mixed Tryz.func144 rfl rfl Tryz.ntmps144 Tryz.results144 τ_ok (by kernel_rfl) (ckK_ok trivial) (by simp) ?_
  conv=>whnf
  refine Fork.mk (fun h=>?_) (fun h=>?_)
  · have h1:rch g z=(z.op,z.op):=if_pos (by simpa using h)
    conv=>whnf
    rw [h1] at hk
    exact hk
  have h1:rch g z=(mx (z.op - g.mv) 0,mnG (z.op+g.mv) g.mo):=if_neg (by simpa using h)
  conv=>whnf
  rw [hw1,hw2]
  rw [h1,show mx (z.op - g.mv) 0=(if 0 < z.op - g.mv then z.op - g.mv else 0) by unfold mx;split <;> split <;> omega,show mnG (z.op+g.mv) g.mo=(if z.op+g.mv < g.mo then z.op+g.mv else g.mo) by unfold mnG;split <;> split <;> omega] at hk
  exact hk
theorem rtotal_ok:FunR Tryz.prog 128 R_rtot:=by
  intro args k h
  obtain ⟨gs,os,lv,rfl,hol,hgl,hAg,hk⟩:=h
  have hm:=eG_len gs
  have hn:=eL_len os
  refine does_ex (qc:=qc1) (np:=[]) (CK:=ckK [(145,cSc R_rflow)]) mixed Tryz.func128 rfl rfl Tryz.ntmps128 Tryz.results128 τ_ok (by kernel_rfl) (ckK_ok ⟨cSc_ok rflow_ok,trivial⟩) (by simp) ?_
  conv=>whnf
  refine ⟨Nat × Int,fun s=>([(1,.c (.lst (eL os))),(2,I lv),(7,I s.2),(10,.c (.lst (eG gs))),(11,I (eG gs).length),(12,I s.1)],⟨[],40,[]⟩),fun s=>s.1≤gs.length∧totL gs os lv=s.2+totL (gs.drop s.1) (os.drop s.1) lv∧0≤s.2∧s.2≤1073741824 * s.1,fun s=>gs.length - s.1,(0,0),⟨Nat.zero_le _,by simp,Int.le_refl _,by simp⟩,Shift.reset ⟨rfl,rfl,rfl,rfl,rfl,rfl,trivial⟩ trivial rfl rfl,fun s hi=>?_⟩
  obtain ⟨i,s⟩:=s
  obtain ⟨hi1,hi2,hi3,hi4⟩:=hi
  dsimp only at hi1 hi2 hi3 hi4 ⊢
  conv=>whnf
  refine Fork.mk (fun h=>?_) (fun h=>?_)
  · have hi:i < gs.length:=by simp at h;omega
    clear h
    have hci:=List.getElem?_eq_getElem hi
    have hcf:=hAg _ (List.getElem_mem hi)
    have hdi:=List.getElem?_eq_getElem (show i < os.length by omega)
    generalize gs[i]=g at hci hcf
    generalize os[i]=o at hdi
    rw [drop_of hci,drop_of hdi,totL] at hi2
    have hw1:=wr_succ (i:=i) (by omega)
    conv=>whnf
    refine ⟨by omega,gtC g,by rw [Int.toNat_natCast,List.getElem?_map,hci];rfl,rfl,?_⟩
    conv=>whnf
    refine ⟨by omega,eI o,by rw [Int.toNat_natCast,List.getElem?_map,hdi];rfl,rfl,?_⟩
    have hfl:=gfl_in (atG_ok hcf lv) o
    have hw2:IntKind.i64.wrap (s+gfl (atG g lv) o)=s+gfl (atG g lv) o:=wrap_in (by omega) (by omega)
    conv=>whnf
    refine ⟨g,o,lv,rfl,hcf,?_⟩
    conv=>whnf
    rw [hw1,hw2]
    exact ⟨(i+1,s+gfl (atG g lv) o),⟨hi,by dsimp only;omega,by dsimp only;omega,by dsimp only;omega⟩,Shift.reset ⟨rfl,rfl,rfl,rfl,rfl,rfl,trivial⟩ trivial rfl rfl,by dsimp only;omega⟩
  have hie:i=gs.length:=by simp at h;omega
  subst hie
  conv=>whnf
  refine kI hk ?_
  rw [hi2,List.drop_length]
  cases os.drop gs.length <;> simp [totL]
end Go.Proofs

namespace Go.Proofs
open Go Go.Abs
set_option linter.unusedSimpArgs false
set_option linter.unusedVariables false
set_option maxRecDepth 4000
theorem ends_ok:FunA Tryz.prog 127 (R_ends 3):=by
  intro args k h
  obtain ⟨gs,ss,rfl,⟨hgl,hsl,hb⟩,hAg,hk⟩:=h
  have hm:=eG_len gs
  have hn:=eS_len ss
  obtain ⟨hl1,hl2⟩:=losL_len hsl
  refine doesA_ex (qc:=qc1) (np:=[(5,[(0,6),(3,6),(4,6),(5,6)]),(6,[(2,8),(3,7),(3,8),(4,7),(4,8)])]) (CK:=ckK [(144,cPq R_rch)]) mixed Tryz.func127 rfl rfl Tryz.ntmps127 Tryz.results127 τ_ok (by kernel_rfl) (ckK_ok ⟨cPq_ok rreach_ok,trivial⟩) (by simp) rfl ?_
  conv=>whnf
  refine ⟨Nat,fun i=>([(1,.c (.lst (eS ss))),(6,.c (.view (.l 28 0) 0 ((losL gs ss).take i).length)),(7,.c (.view (.l 29 1) 0 ((hisL gs ss).take i).length)),(11,.c (.lst (eG gs))),(12,I (eG gs).length),(13,I i)],⟨[(.l 28 0,.arr 3 1 (eL ((losL gs ss).take i)) false),(.l 29 1,.arr 3 1 (eL ((hisL gs ss).take i)) false)],2,[]⟩),
    fun i=>i≤gs.length,fun i=>gs.length - i,0,Nat.zero_le _,
    Shift.trans (Shift.rename [] ⟨rfl,rfl,rfl,rfl,rfl,rfl,trivial⟩ ⟨rfl,rfl,trivial⟩ rfl rfl rfl) (Shift.trans (Shift.nilArr (t:=7) rfl 29 3 1) (Shift.nilArr (t:=6) rfl 28 3 1)),fun i hi=>?_⟩
  dsimp only at hi ⊢
  conv=>whnf
  refine Fork.mk (fun h=>?_) (fun h=>?_)
  · have hi:i < gs.length:=by simp at h;omega
    clear h
    have hci:=List.getElem?_eq_getElem hi
    have hcf:=hAg _ (List.getElem_mem hi)
    have hdi:=List.getElem?_eq_getElem (show i < ss.length by omega)
    obtain ⟨htk1,htk2⟩:=losL_take hci hdi
    have hz:=badS_at hb hci hdi
    have hlt1:((losL gs ss).take i).length=i:=by rw [List.length_take];omega
    have hlt2:((hisL gs ss).take i).length=i:=by rw [List.length_take];omega
    generalize gs[i]=g at *
    generalize ss[i]=z at *
    have hw1:=wr_succ (i:=i) (by omega)
    conv=>whnf
    refine ⟨by omega,gtC g,by rw [Int.toNat_natCast,List.getElem?_map,hci];rfl,rfl,?_⟩
    conv=>whnf
    refine ⟨by omega,gsC z,by rw [Int.toNat_natCast,List.getElem?_map,hdi];rfl,rfl,?_⟩
    conv=>whnf
    refine ⟨g,z,rfl,hcf,hz,?_⟩
    conv=>whnf
    refine ⟨by simp,?_⟩
    conv=>whnf
    refine ⟨rfl,?_⟩
    conv=>whnf
    refine ⟨⟨rfl,rfl,rfl,by simp,by simp;omega⟩,?_⟩
    conv=>whnf
    refine ⟨by simp,?_⟩
    conv=>whnf
    refine ⟨rfl,?_⟩
    conv=>whnf
    refine ⟨⟨rfl,rfl,rfl,by simp,by simp;omega⟩,?_⟩
    conv=>whnf
    rw [hw1]
    refine ⟨i+1,hi,Shift.rename [(.l 28 0,.l 28 4),(.l 29 1,.l 33 4)] ⟨rfl,?_,?_,rfl,rfl,rfl,trivial⟩ ⟨?_,?_,trivial⟩ rfl rfl rfl,by omega⟩
    · dsimp only;rw [htk1];simp;rfl
    · dsimp only;rw [htk2];simp;rfl
    · dsimp only;rw [htk1,← eL_snoc];rfl
    · dsimp only;rw [htk2,← eL_snoc];rfl
  have hie:i=gs.length:=by simp at h;omega
  subst hie
  rw [show (losL gs ss).take gs.length=losL gs ss from List.take_of_length_le (by omega),show (hisL gs ss).take gs.length=hisL gs ss from List.take_of_length_le (by omega)]
  have hq1:=eL_len (losL gs ss)
  have hq2:=eL_len (hisL gs ss)
  have htl:List.take (hisL gs ss).length (List.drop 0 (eL (hisL gs ss)))=eL (hisL gs ss):=by rw [List.drop_zero,List.take_of_length_le (by omega)]
  conv=>whnf
  refine ⟨.l 28 0,?_⟩
  conv=>whnf
  refine ⟨by omega,?_⟩
  conv=>whnf
  rw [htl]
  refine ⟨rfl,?_⟩
  conv=>whnf
  exact ⟨rfl,rfl,hk⟩
end Go.Proofs

namespace Go.Proofs
open Go Go.Abs
set_option linter.unusedSimpArgs false
set_option linter.unusedVariables false
set_option maxRecDepth 4000
theorem mkG_ok:FunB Tryz.prog 114 R_mkG:=by
  intro cs args k h
  obtain ⟨d,rfl,rfl,hd,hk⟩:=h
  refine doesB_ex (qc:=qc1) (np:=[(6,[(1,4),(1,6)])]) (CK:=ckK [(14,cB R_next),(111,cB R_curve)]) mixed Tryz.func114 rfl rfl Tryz.ntmps114 Tryz.results114 τ_ok (by kernel_rfl) (ckK_ok ⟨cB_ok next_ok rfl,cB_ok mkcurve_ok rfl,trivial⟩) (by simp) rfl rfl ?_
  conv=>whnf
  refine ⟨d,rfl,hd,by omega,fun mo d hd ho1 ho2=>?_⟩
  conv=>whnf
  refine ⟨d,rfl,hd,by omega,fun mv d hd hv1 hv2=>?_⟩
  conv=>whnf
  refine ⟨d,rfl,hd,by omega,fun lv d hd hl1 hl2=>?_⟩
  have e1:IntKind.i64.wrap (90+lv)=90+lv:=wrap_in (by omega) (by omega)
  conv=>whnf
  refine ⟨d,rfl,hd,by omega,fun k0 d hd hk1 hk2=>?_⟩
  conv=>whnf
  refine ⟨List Rt × Dk × Int × Int,fun s=>([(0,.c (.ptr (.x 0) 0)),(2,.c (.ptr (.l 2 0) 0)),(3,.c (.ptr (.l 3 1) 0)),(4,I s.2.2.1),(5,I s.2.2.2)],⟨[(.x 0,.blk (dkC s.2.1)),(.l 2 0,.blk [.sc (.slice none 0 0),IC 0,IC 0]),(.l 3 1,.blk [.view (.l 40 2) 0 s.1.length,IC mo,IC mv]),(.l 40 2,.arr 192 2 (s.1.map rtC) false)],3,[]⟩),
    fun s=>s.2.1.ok∧mkR s.1 s.2.2.1∧(-1≤s.2.2.2∧1≤s.1.length+s.2.2.2+1∧s.1.length+s.2.2.2≤2)∧(0≤s.2.2.1∧s.2.2.1≤1000+1000 * s.1.length),fun s=>(s.2.2.2+1).toNat,([],d,90+lv,k0),
    ⟨hd,⟨by simp,.nil⟩,by dsimp only;simp;omega,by dsimp only;omega⟩,
    Shift.trans (Shift.rename [] ⟨rfl,rfl,rfl,by rw [e1];rfl,rfl,trivial⟩ ⟨rfl,rfl,rfl,rfl,trivial⟩ rfl rfl rfl) (Shift.nilCell (i:=.l 3 1) (cs:=[.sc (.slice none 0 0),IC mo,IC mv]) (j:=0) rfl rfl 40 192 2),fun s hs=>?_⟩
  obtain ⟨l,d,lv,kk⟩:=s
  obtain ⟨hd,hr,⟨hk3,hk4,hk5⟩,hk6⟩:=hs
  dsimp only at hd hr hk3 hk4 hk5 hk6 ⊢
  have hm:(l.map rtC).length=l.length:=List.length_map _
  conv=>whnf
  refine Fork.mk (fun h=>?_) (fun h=>?_)
  · have hkk:0≤kk:=by simpa using h
    conv=>whnf
    refine ⟨d,rfl,hd,by omega,by omega,by omega,by omega,fun r d hd hr1 hr2 hch=>?_⟩
    have hvc:=vcv_mk hr1 hr2 hch
    conv=>whnf
    refine ⟨by simp,?_⟩
    conv=>whnf
    refine ⟨rfl,?_⟩
    conv=>whnf
    refine ⟨⟨rfl,rfl,rfl,hm.symm,by rw [hm];simp;omega⟩,?_⟩
    conv=>whnf
    refine ⟨d,rfl,hd,by omega,fun w d hd hw1 hw2=>?_⟩
    have e2:IntKind.i64.wrap (1+w)=1+w:=wrap_in (by omega) (by omega)
    have e3:IntKind.i64.wrap (lv+(1+w))=lv+(1+w):=wrap_in (by omega) (by omega)
    conv=>whnf
    rw [e2,e3]
    rw [show IntKind.i64.wrap (kk - 1)=kk - 1 from wrap_in (by omega) (by omega)]
    refine ⟨(l ++ [(lv,(0,0) :: r)],d,lv+(1+w),kk - 1),⟨hd,hr.snoc (by omega) (by dsimp only;omega) hvc,by dsimp only;simp;omega,by dsimp only;omega,by dsimp only;rw [List.length_append];show _≤1000+1000 * ((l.length+1:Nat):Int);omega⟩,Shift.rename [(.l 40 2,.l 27 3)] ⟨rfl,rfl,rfl,rfl,rfl,trivial⟩ ⟨rfl,rfl,?_,?_,trivial⟩ rfl rfl rfl,?_⟩
    · dsimp only;rw [List.length_append,← hm];rfl
    · dsimp only;rw [List.map_append];rfl
    · show (kk - 1+1).toNat < (kk+1).toNat
      omega
  have hkk:kk=-1:=by simp at h;omega
  subst hkk
  conv=>whnf
  refine ⟨by rw [hm];omega,?_⟩
  conv=>whnf
  rw [List.drop_zero,List.take_of_length_le (by rw [hm];exact Nat.le_refl _)]
  exact ⟨rfl,rfl,hk ⟨l,mo,mv⟩ d hd (hr.gate (by omega) (by omega) (by omega) (by omega) (by omega))⟩
theorem mkGs_ok:FunB Tryz.prog 83 R_mkGs:=by
  intro cs args k h
  obtain ⟨d,n,rfl,rfl,hd,hn,hk⟩:=h
  have e0:IntKind.i64.wrap (n+1)=n+1:=wrap_in (by omega) (by omega)
  refine doesB_ex (qc:=qc1) (np:=[(7,[(2,7),(3,7)])]) (CK:=ckK [(14,cB R_next),(114,cB R_mkG)]) mixed Tryz.func83 rfl rfl Tryz.ntmps83 Tryz.results83 τ_ok (by kernel_rfl) (ckK_ok ⟨cB_ok next_ok rfl,cB_ok mkG_ok rfl,trivial⟩) (by simp) rfl rfl ?_
  conv=>whnf
  rw [e0]
  refine ⟨d,rfl,hd,by omega,fun k0 d hd hk1 hk2=>?_⟩
  conv=>whnf
  refine ⟨List Gt × List Gs × Dk × Int,fun s=>([(0,.c (.ptr (.x 0) 0)),(6,.c (.view (.l 23 0) 0 s.1.length)),(7,.c (.view (.l 35 1) 0 s.2.1.length)),(8,I s.2.2.2)],⟨[(.x 0,.blk (dkC s.2.2.1)),(.l 23 0,.arr 160 3 (eG s.1) false),(.l 35 1,.arr 167 2 (eS s.2.1) false)],2,[]⟩),
    fun s=>s.2.2.1.ok∧mkGs s.1 s.2.1∧0≤s.2.2.2∧s.1.length+s.2.2.2≤n,fun s=>s.2.2.2.toNat,([],[],d,k0),
    ⟨hd,⟨rfl,by simp,rfl⟩,by dsimp only;omega,by dsimp only;simp;omega⟩,
    Shift.trans (Shift.rename [] ⟨rfl,rfl,rfl,rfl,trivial⟩ ⟨rfl,rfl,rfl,trivial⟩ rfl rfl rfl) (Shift.trans (Shift.nilArr (t:=7) rfl 35 167 2) (Shift.nilArr (t:=6) rfl 23 160 3)),fun s hs=>?_⟩
  obtain ⟨gs,ss,d,kk⟩:=s
  obtain ⟨hd,hg,hk3,hk4⟩:=hs
  dsimp only at hd hg hk3 hk4 ⊢
  have hm:=eG_len gs
  have hm2:=eS_len ss
  have hgl:=hg.l
  conv=>whnf
  refine Fork.mk (fun h=>?_) (fun h=>?_)
  · have hkk:0 < kk:=by simpa using h
    conv=>whnf
    refine ⟨d,rfl,rfl,hd,fun g d hd hmg=>?_⟩
    have hmo:=hmg.ok.o
    have hmm:=hmg.m
    have e1:IntKind.i64.wrap (g.mo+1)=g.mo+1:=wrap_in (by omega) (by omega)
    conv=>whnf
    refine ⟨by simp,?_⟩
    conv=>whnf
    refine ⟨rfl,?_⟩
    conv=>whnf
    refine ⟨⟨rfl,rfl,rfl,hm.symm,by rw [hm];simp;omega⟩,?_⟩
    conv=>whnf
    rw [e1]
    refine ⟨d,rfl,hd,by omega,fun o d hd ho1 ho2=>?_⟩
    conv=>whnf
    refine ⟨d,rfl,hd,by omega,fun j d hd hj1 hj2=>?_⟩
    conv=>whnf
    refine ⟨by simp,?_⟩
    conv=>whnf
    refine ⟨rfl,?_⟩
    conv=>whnf
    refine ⟨⟨rfl,rfl,rfl,hm2.symm,by rw [hm2];simp;omega⟩,?_⟩
    conv=>whnf
    rw [show IntKind.i64.wrap (kk - 1)=kk - 1 from wrap_in (by omega) (by omega)]
    refine ⟨(gs ++ [g],ss ++ [⟨o,decide (j=6)⟩],d,kk - 1),⟨hd,hg.snoc hmg (by simp [okS,inB];omega),by dsimp only;omega,by dsimp only;simp;omega⟩,Shift.rename [(.l 23 0,.l 23 3),(.l 35 1,.l 35 3)] ⟨rfl,?_,?_,rfl,trivial⟩ ⟨rfl,?_,?_,trivial⟩ rfl rfl rfl,?_⟩
    · dsimp only;rw [List.length_append,← hm];rfl
    · dsimp only;rw [List.length_append,← hm2];rfl
    · dsimp only;rw [show eG (gs ++ [g])=eG gs ++ [gtC g] from List.map_append];rfl
    · dsimp only;rw [show eS (ss ++ [⟨o,decide (j=6)⟩])=eS ss ++ [gsC ⟨o,decide (j=6)⟩] from List.map_append];rfl
    · show (kk - 1).toNat < kk.toNat
      omega
  have hkk:¬ 0 < kk:=by simpa using h
  have htl1:List.take gs.length (List.drop 0 (eG gs))=eG gs:=by rw [List.drop_zero,List.take_of_length_le (by omega)]
  have htl2:List.take ss.length (List.drop 0 (eS ss))=eS ss:=by rw [List.drop_zero,List.take_of_length_le (by omega)]
  conv=>whnf
  refine ⟨by omega,?_⟩
  conv=>whnf
  refine ⟨by omega,?_⟩
  conv=>whnf
  rw [htl1,htl2]
  exact ⟨rfl,rfl,hk gs ss d hd (by omega) hg⟩
end Go.Proofs

namespace Go.Proofs
open Go Go.Abs
set_option linter.unusedSimpArgs false
set_option linter.unusedVariables false
set_option maxRecDepth 4000
theorem kSg {k:AV→Prop} {r:List Gs × Int × Int} {l:List Gs} {b c:Int} (h:k (.tup [.c (.lst (eS r.1)),I r.2.1,I r.2.2])) (e:r=(l,b,c)):k (.tup [.c (.lst (eS l)),I b,I c]):=by subst e;exact h
set_option maxHeartbeats 4000000 in
theorem rset_ok:FunR Tryz.prog 100 R_setS:=by
  intro args k h
  obtain ⟨gs,ss,lv,w,rfl,hf,hk⟩:=h
  have hm:=eG_len gs
  have hn:=eS_len ss
  refine does_ex (qc:=qc1) (np:=[]) (CK:=ckK [(126,cSc R_askG),(49,cSc R_within),(127,cA (R_ends 3)),(128,cSc R_rtot)]) mixed Tryz.func100 rfl rfl Tryz.ntmps100 Tryz.results100 τ_ok (by kernel_rfl) (ckK_ok ⟨cSc_ok gwrong_ok,cSc_ok rIn_ok,cA_ok ends_ok rfl,cSc_ok rtotal_ok,trivial⟩) (by simp) ?_
  conv=>whnf
  refine ⟨gs,ss,lv,rfl,hf,?_⟩
  conv=>whnf
  refine Fork.mk (fun h=>?_) (fun h=>?_)
  · have h1:askG gs ss lv ≠ 0:=by simpa using h
    conv=>whnf
    exact kSg hk (by rw [setS,if_pos h1])
  have h1:askG gs ss lv=0:=by simpa using h
  have hA:=askG_ok h1
  have hAn:=hA.n
  have hAl:=hA.l
  have hAv:=hA.lv
  have hAg:=hA.g
  clear h
  conv=>whnf
  refine Fork.mk (fun h=>?_) (fun h=>?_)
  · conv=>whnf
    exact kSg hk (by rw [setS,if_neg (by simp [h1]),if_pos (by simp [inB] at h ⊢;omega)])
  have hw:0≤w∧w≤1073741824:=by simp at h;omega
  have e1:setS gs ss lv w=((setL w lv (totL gs (losL gs ss) lv) gs ss).1,(setL w lv (totL gs (losL gs ss) lv) gs ss).2,0):=by
    rw [setS,if_neg (by simp [h1]),if_neg (by simp [inB,hw])]
  clear h
  have hAb:=hA.s
  have F:=setF (w:=w) (lv:=lv) (s:=totL gs (losL gs ss) lv) hAl hAg hAb
  have ftot:totL gs (opsL (setL w lv (totL gs (losL gs ss) lv) gs ss).1) lv=(setL w lv (totL gs (losL gs ss) lv) gs ss).2:=by rw [F.tot];omega
  have flen:=F.len
  clear F
  obtain ⟨hl1,hl2⟩:=losL_len hAl
  have hq1:=eL_len (losL gs ss)
  have hq2:=eL_len (hisL gs ss)
  have hq3:=eS_len (setL w lv (totL gs (losL gs ss) lv) gs ss).1
  have hq4:(opsL (setL w lv (totL gs (losL gs ss) lv) gs ss).1).length=(setL w lv (totL gs (losL gs ss) lv) gs ss).1.length:=List.length_map _
  have hq5:=eL_len (opsL (setL w lv (totL gs (losL gs ss) lv) gs ss).1)
  obtain ⟨v0,hv0,hv1⟩:=mix_start (w:=w) (lv:=lv) hAl hAg hAb
  have hml:=fun i v h=>mix_len (w:=w) (lv:=lv) hAl hAg hAb (i:=i) (v:=v) h
  conv=>whnf
  refine ⟨gs,ss,rfl,⟨hAn,hAl,hAb⟩,hAg,?_⟩
  conv=>whnf
  refine ⟨Nat × Int,(fun s:Nat × Int=>([(0,.c (.lst (eG gs))),(1,.c (.lst (eS ss))),(2,I lv),(3,I w),(12,.c (.view (.l 31 0) 0 (losL gs ss).length)),(13,.c (.lst (eL (hisL gs ss)))),(14,I s.1)],⟨[(.l 31 0,.arr 3 1 (eL (mixL w lv (totL gs (losL gs ss) lv) gs ss s.1 s.2)) false)],50,[]⟩)),fun s=>mixI w lv (totL gs (losL gs ss) lv) gs ss s.1 s.2,fun s=>muG gs ss s.1 s.2,(0,v0),hv0,
    Shift.rename [] ⟨rfl,rfl,rfl,rfl,rfl,rfl,rfl,trivial⟩ ⟨by (show some (MObj.arr 3 1 (eL (losL gs ss)) false)=some (MObj.arr 3 1 (eL (mixL w lv (totL gs (losL gs ss) lv) gs ss 0 v0)) false));rw [← hv1],trivial⟩ rfl rfl rfl,fun s hs=>?_⟩
  obtain ⟨i,v⟩:=s
  dsimp only at hs ⊢
  have hlen:=hml i v hs.n
  have hle:=eL_len (mixL w lv (totL gs (losL gs ss) lv) gs ss i v)
  have htl:List.take (losL gs ss).length (List.drop 0 (eL (mixL w lv (totL gs (losL gs ss) lv) gs ss i v)))=eL (mixL w lv (totL gs (losL gs ss) lv) gs ss i v):=by rw [List.drop_zero,List.take_of_length_le (by omega)]
  conv=>whnf
  refine Fork.mk (fun h=>?_) (fun h=>?_)
  rotate_left
  · have hie:i=gs.length:=by simp at h;have:=hs.n;omega
    have hL:=mix_end hAl hAg hAb hs (.inl hie)
    conv=>whnf
    refine fork_f ?_
    rw [hL]
    conv=>whnf
    refine ⟨Nat,fun i=>([(0,.c (.lst (eG gs))),(2,I lv),(12,.c (.view (.l 31 0) 0 (losL gs ss).length)),(15,.c (.view (.l 96 50) 0 ((setL w lv (totL gs (losL gs ss) lv) gs ss).1.take i).length)),(80,.c (.lst (eS ss))),(81,I (eS ss).length),(82,I i)],⟨[(.l 31 0,.arr 3 1 (eL (opsL (setL w lv (totL gs (losL gs ss) lv) gs ss).1)) false),(.l 96 50,.arr 167 2 (eS ((setL w lv (totL gs (losL gs ss) lv) gs ss).1.take i)) false)],51,[]⟩),
      fun i=>i≤ss.length,fun i=>ss.length - i,0,Nat.zero_le _,Shift.trans (Shift.rename [] ⟨rfl,rfl,rfl,rfl,rfl,rfl,rfl,trivial⟩ ⟨rfl,rfl,trivial⟩ rfl rfl rfl) (Shift.nilArr (t:=15) rfl 96 167 2),fun i hi=>?_⟩
    dsimp only at hi ⊢
    conv=>whnf
    refine Fork.mk (fun h=>?_) (fun h=>?_)
    · have hi:i < ss.length:=by simp at h;omega
      clear h
      have hci:=List.getElem?_eq_getElem (show i < gs.length by omega)
      have hdi:=List.getElem?_eq_getElem hi
      generalize gs[i]=g at hci
      generalize ss[i]=z at hdi
      obtain ⟨o,ho,htk⟩:=set_zip (w:=w) (lv:=lv) (T:=totL gs (losL gs ss) lv) hci hdi
      have hlt:((setL w lv (totL gs (losL gs ss) lv) gs ss).1.take i).length=i:=by rw [List.length_take];omega
      have hlo:(eL (opsL (setL w lv (totL gs (losL gs ss) lv) gs ss).1))[0+(i:Int).toNat]?=some (eI o):=by rw [Nat.zero_add,Int.toNat_natCast,List.getElem?_map,ho];rfl
      have hw1:=wr_succ (i:=i) (by omega)
      conv=>whnf
      refine ⟨by omega,gsC z,by rw [Int.toNat_natCast,List.getElem?_map,hdi];rfl,rfl,?_⟩
      conv=>whnf
      refine ⟨by omega,rfl,?_⟩
      conv=>whnf
      refine ⟨eI o,hlo,?_⟩
      conv=>whnf
      refine ⟨by simp,?_⟩
      conv=>whnf
      refine ⟨rfl,?_⟩
      conv=>whnf
      refine ⟨⟨rfl,rfl,rfl,by simp,by simp;omega⟩,?_⟩
      conv=>whnf
      rw [hw1]
      refine ⟨i+1,hi,Shift.rename [(.l 96 50,.l 96 52)] ⟨rfl,rfl,rfl,?_,rfl,rfl,rfl,trivial⟩ ⟨rfl,?_,trivial⟩ rfl rfl rfl,by omega⟩
      · dsimp only;rw [htk];simp;rfl
      · dsimp only;rw [htk,show ∀ (a:List Gs) b,eS (a ++ [b])=eS a ++ [gsC b] from fun a b=>by rw [show eS (a ++ [b])=eS a ++ eS [b] from List.map_append];rfl];rfl
    have hie:i=ss.length:=by simp at h;omega
    subst hie
    rw [show (setL w lv (totL gs (losL gs ss) lv) gs ss).1.take ss.length=(setL w lv (totL gs (losL gs ss) lv) gs ss).1 from List.take_of_length_le (by omega)]
    have htl:List.take (losL gs ss).length (List.drop 0 (eL (opsL (setL w lv (totL gs (losL gs ss) lv) gs ss).1)))=eL (opsL (setL w lv (totL gs (losL gs ss) lv) gs ss).1):=by rw [List.drop_zero,List.take_of_length_le (by omega)]
    have htl2:List.take (setL w lv (totL gs (losL gs ss) lv) gs ss).1.length (List.drop 0 (eS (setL w lv (totL gs (losL gs ss) lv) gs ss).1))=eS (setL w lv (totL gs (losL gs ss) lv) gs ss).1:=by rw [List.drop_zero,List.take_of_length_le (by omega)]
    conv=>whnf
    refine ⟨by omega,?_⟩
    conv=>whnf
    refine ⟨gs,opsL (setL w lv (totL gs (losL gs ss) lv) gs ss).1,lv,by rw [htl];rfl,by omega,hAn,hAg,?_⟩
    rw [ftot]
    conv=>whnf
    refine ⟨by omega,?_⟩
    conv=>whnf
    rw [htl2]
    exact kSg hk e1
  have hi:i < gs.length:=by simp at h;omega
  clear h
  have hci:=List.getElem?_eq_getElem hi
  have hdi:=List.getElem?_eq_getElem (show i < ss.length by omega)
  generalize gs[i]=g at hci
  generalize ss[i]=z at hdi
  have hgt:=mix_get (w:=w) (lv:=lv) hAl hAg hAb (v:=v) hci hdi
  have hhi:=(mix_low (w:=w) (lv:=lv) hAl hAg hAb hci hdi).2
  conv=>whnf
  refine ⟨by omega,?_⟩
  conv=>whnf
  refine ⟨gs,mixL w lv (totL gs (losL gs ss) lv) gs ss i v,lv,by rw [htl];rfl,by omega,hAn,hAg,?_⟩
  conv=>whnf
  refine Fork.mk (fun h=>?_) (fun h=>?_)
  rotate_left
  · have hL:=mix_end hAl hAg hAb hs (.inr (by simpa using h))
    conv=>whnf
    rw [hL]
    conv=>whnf
    refine ⟨Nat,fun i=>([(0,.c (.lst (eG gs))),(2,I lv),(12,.c (.view (.l 31 0) 0 (losL gs ss).length)),(15,.c (.view (.l 96 50) 0 ((setL w lv (totL gs (losL gs ss) lv) gs ss).1.take i).length)),(80,.c (.lst (eS ss))),(81,I (eS ss).length),(82,I i)],⟨[(.l 31 0,.arr 3 1 (eL (opsL (setL w lv (totL gs (losL gs ss) lv) gs ss).1)) false),(.l 96 50,.arr 167 2 (eS ((setL w lv (totL gs (losL gs ss) lv) gs ss).1.take i)) false)],51,[]⟩),
      fun i=>i≤ss.length,fun i=>ss.length - i,0,Nat.zero_le _,Shift.trans (Shift.rename [] ⟨rfl,rfl,rfl,rfl,rfl,rfl,rfl,trivial⟩ ⟨rfl,rfl,trivial⟩ rfl rfl rfl) (Shift.nilArr (t:=15) rfl 96 167 2),fun i hi=>?_⟩
    dsimp only at hi ⊢
    conv=>whnf
    refine Fork.mk (fun h=>?_) (fun h=>?_)
    · have hi:i < ss.length:=by simp at h;omega
      clear h
      have hci:=List.getElem?_eq_getElem (show i < gs.length by omega)
      have hdi:=List.getElem?_eq_getElem hi
      generalize gs[i]=g at hci
      generalize ss[i]=z at hdi
      obtain ⟨o,ho,htk⟩:=set_zip (w:=w) (lv:=lv) (T:=totL gs (losL gs ss) lv) hci hdi
      have hlt:((setL w lv (totL gs (losL gs ss) lv) gs ss).1.take i).length=i:=by rw [List.length_take];omega
      have hlo:(eL (opsL (setL w lv (totL gs (losL gs ss) lv) gs ss).1))[0+(i:Int).toNat]?=some (eI o):=by rw [Nat.zero_add,Int.toNat_natCast,List.getElem?_map,ho];rfl
      have hw1:=wr_succ (i:=i) (by omega)
      conv=>whnf
      refine ⟨by omega,gsC z,by rw [Int.toNat_natCast,List.getElem?_map,hdi];rfl,rfl,?_⟩
      conv=>whnf
      refine ⟨by omega,rfl,?_⟩
      conv=>whnf
      refine ⟨eI o,hlo,?_⟩
      conv=>whnf
      refine ⟨by simp,?_⟩
      conv=>whnf
      refine ⟨rfl,?_⟩
      conv=>whnf
      refine ⟨⟨rfl,rfl,rfl,by simp,by simp;omega⟩,?_⟩
      conv=>whnf
      rw [hw1]
      refine ⟨i+1,hi,Shift.rename [(.l 96 50,.l 96 52)] ⟨rfl,rfl,rfl,?_,rfl,rfl,rfl,trivial⟩ ⟨rfl,?_,trivial⟩ rfl rfl rfl,by omega⟩
      · dsimp only;rw [htk];simp;rfl
      · dsimp only;rw [htk,show ∀ (a:List Gs) b,eS (a ++ [b])=eS a ++ [gsC b] from fun a b=>by rw [show eS (a ++ [b])=eS a ++ eS [b] from List.map_append];rfl];rfl
    have hie:i=ss.length:=by simp at h;omega
    subst hie
    rw [show (setL w lv (totL gs (losL gs ss) lv) gs ss).1.take ss.length=(setL w lv (totL gs (losL gs ss) lv) gs ss).1 from List.take_of_length_le (by omega)]
    have htl:List.take (losL gs ss).length (List.drop 0 (eL (opsL (setL w lv (totL gs (losL gs ss) lv) gs ss).1)))=eL (opsL (setL w lv (totL gs (losL gs ss) lv) gs ss).1):=by rw [List.drop_zero,List.take_of_length_le (by omega)]
    have htl2:List.take (setL w lv (totL gs (losL gs ss) lv) gs ss).1.length (List.drop 0 (eS (setL w lv (totL gs (losL gs ss) lv) gs ss).1))=eS (setL w lv (totL gs (losL gs ss) lv) gs ss).1:=by rw [List.drop_zero,List.take_of_length_le (by omega)]
    conv=>whnf
    refine ⟨by omega,?_⟩
    conv=>whnf
    refine ⟨gs,opsL (setL w lv (totL gs (losL gs ss) lv) gs ss).1,lv,by rw [htl];rfl,by omega,hAn,hAg,?_⟩
    rw [ftot]
    conv=>whnf
    refine ⟨by omega,?_⟩
    conv=>whnf
    rw [htl2]
    exact kSg hk e1
  have hlt:totL gs (mixL w lv (totL gs (losL gs ss) lv) gs ss i v) lv < w:=by simpa using h
  clear h
  have hgc:(eL (mixL w lv (totL gs (losL gs ss) lv) gs ss i v))[0+(i:Int).toNat]?=some (eI v):=by rw [Nat.zero_add,Int.toNat_natCast,List.getElem?_map,hgt];rfl
  have hhc:(eL (hisL gs ss))[(i:Int).toNat]?=some (eI (rch g z).2):=by rw [Int.toNat_natCast,List.getElem?_map,hhi];rfl
  have hrc:=rch_in (hAg g (List.mem_of_getElem? hci)) (badS_at hAb hci hdi)
  have hvb:=hs.v g z hci hdi
  have hob:=opO_in (c:=atG g lv) (w:=w) (s:=sAt w lv (totL gs (losL gs ss) lv) gs ss i) hrc.1.2
  conv=>whnf
  refine ⟨by omega,rfl,?_⟩
  conv=>whnf
  refine ⟨eI v,hgc,?_⟩
  conv=>whnf
  refine ⟨by omega,eI (rch g z).2,hhc,rfl,?_⟩
  conv=>whnf
  refine Fork.mk (fun h=>?_) (fun h=>?_)
  · obtain ⟨v',hn',he⟩:=mix_next hAl hAg hAb hs hci hdi (by simpa using h)
    have hw1:=wr_succ (i:=i) (by omega)
    conv=>whnf
    rw [hw1]
    exact ⟨(i+1,v'),hn',Shift.reset ⟨rfl,rfl,rfl,rfl,rfl,rfl,rfl,trivial⟩ ⟨by (show some (MObj.arr 3 1 (eL (mixL w lv (totL gs (losL gs ss) lv) gs ss i v)) false)=some (MObj.arr 3 1 (eL (mixL w lv (totL gs (losL gs ss) lv) gs ss (i+1) v')) false));rw [he],trivial⟩ rfl rfl,mu_next hAl hAg hAb hn' hi⟩
  have hne:v ≠ (rch g z).2:=by simpa using h
  clear h
  conv=>whnf
  refine ⟨Int,fun u=>(fun s:Nat × Int=>([(0,.c (.lst (eG gs))),(1,.c (.lst (eS ss))),(2,I lv),(3,I w),(12,.c (.view (.l 31 0) 0 (losL gs ss).length)),(13,.c (.lst (eL (hisL gs ss)))),(14,I s.1)],⟨[(.l 31 0,.arr 3 1 (eL (mixL w lv (totL gs (losL gs ss) lv) gs ss s.1 s.2)) false)],50,[]⟩)) (i,u),fun u=>mixI w lv (totL gs (losL gs ss) lv) gs ss i u∧v≤u,fun u=>((rch g z).2 - u).toNat,v,⟨hs,Int.le_refl _⟩,Shift.reset ⟨rfl,rfl,rfl,rfl,rfl,rfl,rfl,trivial⟩ ⟨rfl,trivial⟩ rfl rfl,fun u hu=>?_⟩
  obtain ⟨hu,huv⟩:=hu
  dsimp only
  have hub:=hu.v g z hci hdi
  have hgu:=mix_get (w:=w) (lv:=lv) hAl hAg hAb (v:=u) hci hdi
  have hgc:(eL (mixL w lv (totL gs (losL gs ss) lv) gs ss i u))[0+(i:Int).toNat]?=some (eI u):=by rw [Nat.zero_add,Int.toNat_natCast,List.getElem?_map,hgu];rfl
  have hlenu:=hml i u hu.n
  have hleu:=eL_len (mixL w lv (totL gs (losL gs ss) lv) gs ss i u)
  have htlu:List.take (losL gs ss).length (List.drop 0 (eL (mixL w lv (totL gs (losL gs ss) lv) gs ss i u)))=eL (mixL w lv (totL gs (losL gs ss) lv) gs ss i u):=by rw [List.drop_zero,List.take_of_length_le (by omega)]
  conv=>whnf
  refine ⟨by omega,rfl,?_⟩
  conv=>whnf
  refine ⟨eI u,hgc,?_⟩
  conv=>whnf
  refine ⟨by omega,eI (rch g z).2,hhc,rfl,?_⟩
  conv=>whnf
  refine Fork.mk (fun h=>?_) (fun h=>?_)
  rotate_left
  · have hge:¬ u < (rch g z).2:=by simpa using h
    conv=>whnf
    refine fork_f ?_
    conv=>whnf
    exact ⟨(i,u),hu,Shift.reset ⟨rfl,rfl,rfl,rfl,rfl,rfl,rfl,trivial⟩ ⟨rfl,trivial⟩ rfl rfl,mu_up hi hhi (by omega) (by omega)⟩
  have hul:u < (rch g z).2:=by simpa using h
  clear h
  conv=>whnf
  refine ⟨by omega,?_⟩
  conv=>whnf
  refine ⟨gs,mixL w lv (totL gs (losL gs ss) lv) gs ss i u,lv,by rw [htlu];rfl,by omega,hAn,hAg,?_⟩
  conv=>whnf
  refine Fork.mk (fun h=>?_) (fun h=>?_)
  rotate_left
  · have hge:¬ totL gs (mixL w lv (totL gs (losL gs ss) lv) gs ss i u) lv < w:=by simpa using h
    have huv':v ≠ u:=fun e=>by subst e;exact hge hlt
    conv=>whnf
    exact ⟨(i,u),hu,Shift.reset ⟨rfl,rfl,rfl,rfl,rfl,rfl,rfl,trivial⟩ ⟨rfl,trivial⟩ rfl rfl,mu_up hi hhi (by omega) (by omega)⟩
  have htu:totL gs (mixL w lv (totL gs (losL gs ss) lv) gs ss i u) lv < w:=by simpa using h
  clear h
  have hup:=mix_up hAl hAg hAb hu hci hdi hul htu
  have hwu:IntKind.i64.wrap (u+1)=u+1:=wrap_in (by omega) (by omega)
  have hset:(eL (mixL w lv (totL gs (losL gs ss) lv) gs ss i u)).set (0+(i:Int).toNat) (eI (u+1))=eL (mixL w lv (totL gs (losL gs ss) lv) gs ss i (u+1)):=by rw [Nat.zero_add,Int.toNat_natCast,eL_set,mix_set]
  conv=>whnf
  refine ⟨by omega,rfl,?_⟩
  conv=>whnf
  refine ⟨eI u,hgc,?_⟩
  conv=>whnf
  rw [hwu]
  refine ⟨by omega,rfl,?_⟩
  conv=>whnf
  refine ⟨eI u,hgc,by simp [eI],?_⟩
  conv=>whnf
  exact ⟨u+1,⟨hup,by omega⟩,Shift.reset ⟨rfl,rfl,rfl,rfl,rfl,rfl,rfl,trivial⟩ ⟨by (show some (MObj.arr 3 1 ((eL (mixL w lv (totL gs (losL gs ss) lv) gs ss i u)).set (0+(i:Int).toNat) (eI (u+1))) false)=some (MObj.arr 3 1 (eL (mixL w lv (totL gs (losL gs ss) lv) gs ss i (u+1))) false));rw [hset],trivial⟩ rfl rfl,by omega⟩
end Go.Proofs
