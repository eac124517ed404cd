/- Proved here: what functions of the given program come to, and the plain laws of it; no condition but those in the theorems. -/
import Derived.Test.YtgllikepncnpkaaGreatPStorage2
import Derived.Test.YtgllikepncnpkaaGreatJ34
namespace Go.Proofs
open Go Go.Abs
set_option linter.unusedSimpArgs false
set_option linter.unusedVariables false
set_option maxRecDepth 4000
theorem quo_in {a n:Int} (h:0≤a) (h2:a≤1000000) (hn:0 < n):0≤a.tdiv n∧a.tdiv n≤a:=by
  rw [Int.tdiv_eq_ediv_of_nonneg h]
  exact ⟨Int.ediv_nonneg h (by omega),Int.ediv_le_self _ h⟩
theorem resv_ok:FunB Tryz.prog 81 R_resv:=by
  intro cs args k h
  unfold R_resv at h
  split at h
  case h_2=>exact h.elim
  obtain ⟨d,rfl,hd,hk⟩:=h
  refine doesB_ex (qc:=qc1) (np:=[(11,[(2,11),(3,11),(4,11),(4,13),(5,11),(5,13),(6,11),(6,13),(6,15),(7,11),(7,13),(7,15),(8,11),(8,13),(8,15),(8,17),(9,11),(9,13),(9,15),(9,17)])]) (CK:=ckK [(14,cB R_next),(111,cB R_curve)]) mixed Tryz.func81 rfl rfl Tryz.ntmps81 Tryz.results81 τ_ok (by kernel_rfl) (ckK_ok ⟨cB_ok next_ok rfl,cB_ok mkcurve_ok rfl,trivial⟩) (by simp) rfl rfl ?_
  conv=>whnf
  refine ⟨d,rfl,hd,by omega,fun x d hd hx1 hx2=>?_⟩
  conv=>whnf
  refine ⟨d,rfl,hd,by omega,fun y d hd hy1 hy2=>?_⟩
  conv=>whnf
  rw [show IntKind.i64.wrap (100+x)=100+x from wrap_in (by omega) (by omega)]
  refine ⟨d,rfl,hd,by omega,by omega,by omega,by omega,fun r d hd hr1 hr2 hch=>?_⟩
  rw [show loB true=1 from rfl] at hch
  conv=>whnf
  refine ⟨by omega,ePt (100+x,y),rfl,rfl,?_⟩
  conv=>whnf
  have hw2:IntKind.i64.wrap (((eP ((100+x,y) :: r)).length:Int) - 1)=(r.length:Int):=by rw [eP_len,List.length_cons,wrap_in (by omega) (by omega)];omega
  rw [hw2]
  have hend:=end_in (by omega) (by omega) (by omega) hch
  dsimp only at hend
  refine ⟨by omega,ePt (endP (100+x,y) r),by rw [Int.toNat_natCast];exact eP_at _ (endP_at _ _),rfl,?_⟩
  conv=>whnf
  have hE:(endP (100+x,y) r).1≤1000000:=by omega
  have hk:∀ (a b c e f:Int) (d':Dk),d'.ok→(100+x≤a∧a≤b∧b≤c∧c≤e∧e≤f∧f≤(endP (100+x,y) r).1)→k (AV.agg [.lst (eP ((100+x,y) :: r)),IC a,IC b,IC c,IC e,IC f]) (dkC d'):=fun a b c e f d' hd' h =>
    hk ⟨(100+x,y) :: r,a,b,c,e,f⟩ d' hd' (made_of (by dsimp only;omega) (by dsimp only;omega) ⟨hr1,hr2⟩ hch h) (by simp;omega)
  have hE0:100+x≤(endP (100+x,y) r).1:=hend.1
  generalize (endP (100+x,y) r).1=E at *
  generalize (100+x,y) :: r=c at *
  generalize hx0:100+x=x0 at *
  refine ⟨Nat × (Int × Int × Int × Int × Int) × Int × Dk,fun s=>([(0,.c (.ptr (.x 0) 0)),(2,.c (.ptr (.l 2 0) 0)),(3,.c (.ptr (.l 3 3) 0)),(4,I s.2.2.1),(5,I E),(6,.c (.ptr (.l 6 6) 0)),(30,I s.1)],
      ⟨[(.x 0,.blk (dkC s.2.2.2)),(.l 2 0,.blk [.sc (.slice none 0 0),IC 0,IC 0,IC 0,IC 0,IC 0]),(.l 3 3,.blk [.lst (eP c),IC 0,IC 0,IC 0,IC 0,IC 0]),(.l 6 6,.blk [IC s.2.1.1,IC s.2.1.2.1,IC s.2.1.2.2.1,IC s.2.1.2.2.2.1,IC s.2.1.2.2.2.2])],10,[]⟩),
    fun s=>s.2.2.2.ok∧s.1≤5∧(x0≤s.2.2.1∧s.2.2.1≤E)∧(1≤s.1→x0≤s.2.1.1)∧(2≤s.1→s.2.1.1≤s.2.1.2.1)∧(3≤s.1→s.2.1.2.1≤s.2.1.2.2.1)∧(4≤s.1→s.2.1.2.2.1≤s.2.1.2.2.2.1)∧(5≤s.1→s.2.1.2.2.2.1≤s.2.1.2.2.2.2) ∧
      (s.1=1→s.2.2.1=s.2.1.1)∧(s.1=2→s.2.2.1=s.2.1.2.1)∧(s.1=3→s.2.2.1=s.2.1.2.2.1)∧(s.1=4→s.2.2.1=s.2.1.2.2.2.1)∧(s.1=5→s.2.2.1=s.2.1.2.2.2.2),
    fun s=>5 - s.1,(0,(0,0,0,0,0),x0,d),⟨hd,by omega,by dsimp only;omega,by dsimp only;omega⟩,Shift.rename [(.l 3 3,.l 3 1),(.l 6 6,.l 6 2)] ⟨rfl,rfl,rfl,rfl,rfl,rfl,rfl,trivial⟩ ⟨rfl,rfl,rfl,rfl,trivial⟩ rfl rfl rfl,fun s hs=>?_⟩
  obtain ⟨i,⟨a,b,cc,dd,e⟩,at_,d⟩:=s
  dsimp only at hs ⊢
  obtain ⟨hd,hi5,hat,hs⟩:=hs
  conv=>whnf
  refine Fork.mk (fun h=>?_) (fun h=>?_)
  · have hi:i < 5:=by simp at h;omega
    clear h
    have hw1:=wr_succ (i:=i) (by omega)
    have hw3:IntKind.i64.wrap (5 - (i:Int))=5 - i:=wrap_in (by omega) (by omega)
    have hw4:IntKind.i64.wrap (E - at_)=E - at_:=wrap_in (by omega) (by omega)
    conv=>whnf
    rw [hw3,hw4]
    refine ⟨by omega,?_⟩
    obtain ⟨q1,q2⟩:=quo_in (a:=E - at_) (n:=5 - (i:Int)) (by omega) (by omega) (by omega)
    generalize hq:(E - at_).tdiv (5 - (i:Int))=q at *
    have hw5:IntKind.i64.wrap q=q:=wrap_in (by omega) (by omega)
    have hw6:IntKind.i64.wrap (q+1)=q+1:=wrap_in (by omega) (by omega)
    conv=>whnf
    rw [hw5,hw6]
    refine ⟨d,rfl,hd,by omega,fun v d hd hv1 hv2=>?_⟩
    have hw7:IntKind.i64.wrap (at_+v)=at_+v:=wrap_in (by omega) (by omega)
    clear hq hw5 hw6 hw3 hw4
    conv=>whnf
    rw [hw7]
    have hlt:at_+v≤E:=by omega
    clear hv2 q1 q2
    generalize hb:at_+v=b_ at *
    refine ⟨by omega,?_⟩
    rcases (by omega:i=0 ∨ i=1 ∨ i=2 ∨ i=3 ∨ i=4) with rfl | rfl | rfl | rfl | rfl
    · conv=>whnf
      rw [hw1]
      exact ⟨(_,(b_,b,cc,dd,e),b_,d),⟨hd,by omega,by dsimp only;omega,by dsimp only;omega⟩,Shift.reset ⟨rfl,rfl,rfl,rfl,rfl,rfl,rfl,trivial⟩ ⟨rfl,rfl,rfl,rfl,trivial⟩ rfl rfl,by dsimp only;omega⟩
    · conv=>whnf
      rw [hw1]
      exact ⟨(_,(a,b_,cc,dd,e),b_,d),⟨hd,by omega,by dsimp only;omega,by dsimp only;omega⟩,Shift.reset ⟨rfl,rfl,rfl,rfl,rfl,rfl,rfl,trivial⟩ ⟨rfl,rfl,rfl,rfl,trivial⟩ rfl rfl,by dsimp only;omega⟩
    · conv=>whnf
      rw [hw1]
      exact ⟨(_,(a,b,b_,dd,e),b_,d),⟨hd,by omega,by dsimp only;omega,by dsimp only;omega⟩,Shift.reset ⟨rfl,rfl,rfl,rfl,rfl,rfl,rfl,trivial⟩ ⟨rfl,rfl,rfl,rfl,trivial⟩ rfl rfl,by dsimp only;omega⟩
    · conv=>whnf
      rw [hw1]
      exact ⟨(_,(a,b,cc,b_,e),b_,d),⟨hd,by omega,by dsimp only;omega,by dsimp only;omega⟩,Shift.reset ⟨rfl,rfl,rfl,rfl,rfl,rfl,rfl,trivial⟩ ⟨rfl,rfl,rfl,rfl,trivial⟩ rfl rfl,by dsimp only;omega⟩
    · conv=>whnf
      rw [hw1]
      exact ⟨(_,(a,b,cc,dd,b_),b_,d),⟨hd,by omega,by dsimp only;omega,by dsimp only;omega⟩,Shift.reset ⟨rfl,rfl,rfl,rfl,rfl,rfl,rfl,trivial⟩ ⟨rfl,rfl,rfl,rfl,trivial⟩ rfl rfl,by dsimp only;omega⟩
  · have hi:i=5:=by simp at h;omega
    clear h
    subst hi
    conv=>whnf
    refine ⟨by omega,?_⟩
    conv=>whnf
    refine ⟨by omega,?_⟩
    conv=>whnf
    refine ⟨by omega,?_⟩
    conv=>whnf
    refine ⟨by omega,?_⟩
    conv=>whnf
    refine ⟨by omega,?_⟩
    conv=>whnf
    exact ⟨rfl,rfl,hk a b cc dd e d hd (by omega)⟩
end Go.Proofs

namespace Go.Proofs
open Go Go.Abs
set_option linter.unusedSimpArgs false
set_option linter.unusedVariables false
set_option maxRecDepth 4000
theorem ckS_ok':FunR Tryz.prog 106 (R_rs ckS):=by
  intro args k h
  unfold R_rs at h
  split at h
  case h_2=>exact h.elim
  rename_i a b cc d e
  obtain ⟨c,rfl,hl,hk⟩:=h
  have hm:=eP_len c
  refine does_ex (qc:=qc1) (np:=[(14,[(1,23),(2,23),(4,23),(6,23),(8,23),(10,23),(12,23),(14,23),(16,23),(19,23),(21,23)])]) (CK:=ckK [(133,cSc R_ckC)]) mixed Tryz.func106 rfl rfl Tryz.ntmps106 Tryz.results106 τ_ok (by kernel_rfl) (ckK_ok ⟨cSc_ok ckC_ok',trivial⟩) (by simp) ?_
  conv=>whnf
  refine ⟨c,rfl,hl,?_⟩
  conv=>whnf
  refine Fork.mk (fun h=>?_) (fun h=>?_)
  · have h1:ckC c ≠ 0:=by simpa using h
    rw [show ckS ⟨c,a,b,cc,d,e⟩=ckC c from if_pos h1] at hk
    conv=>whnf
    exact hk
  have h1:ckC c=0:=by simpa using h
  obtain ⟨hc0,hcl⟩:=ckC_ne h1
  have f1:ckS ⟨c,a,b,cc,d,e⟩=if c.length < 2 then 3 else if 16777216 < (lastP c).1 then 1 else if riseB c=false then 4 else if srt (Rs.lv ⟨c,a,b,cc,d,e⟩)=false then 4 else 0:=by
    unfold ckS;rw [if_neg (by simpa using h1)]
  conv=>whnf
  refine Fork.mk (fun h=>?_) (fun h=>?_)
  · have h2:c.length < 2:=by simp at h;omega
    rw [f1,if_pos h2] at hk
    conv=>whnf
    exact hk
  have h2:¬ c.length < 2:=by simp at h;omega
  rw [if_neg h2] at f1
  have hla:=lastP_at hc0
  have hw2:IntKind.i64.wrap (((eP c).length:Int) - 1)=((c.length - 1:Nat):Int):=by rw [eP_len,wrap_in (by omega) (by omega)];omega
  conv=>whnf
  rw [hw2]
  refine ⟨by omega,ePt (lastP c),by rw [Int.toNat_natCast];exact eP_at c hla,rfl,?_⟩
  conv=>whnf
  refine Fork.mk (fun h=>?_) (fun h=>?_)
  · have h3:16777216 < (lastP c).1:=by simpa using h
    rw [f1,if_pos h3] at hk
    conv=>whnf
    exact hk
  have h3:¬ 16777216 < (lastP c).1:=by simpa using h
  rw [if_neg h3] at f1
  conv=>whnf
  refine ⟨Nat,fun i=>([(1,.c (.ptr (.l 1 0) 0)),(4,I (eP c).length),(5,I i)],⟨[(.l 1 0,.blk (rsC ⟨c,a,b,cc,d,e⟩))],5,[]⟩),
    fun i=>(1≤i∧i≤c.length)∧riseB c=riseB (c.drop (i - 1)),fun i=>c.length - i,1,⟨⟨by omega,by omega⟩,rfl⟩,
    Shift.reset ⟨rfl,rfl,rfl,trivial⟩ ⟨rfl,trivial⟩ rfl rfl,fun i hi=>?_⟩
  obtain ⟨⟨hi0,hi1⟩,hi2⟩:=hi
  dsimp only
  conv=>whnf
  refine Fork.mk (fun h=>?_) (fun h=>?_)
  · have hi:i < c.length:=by simp at h;omega
    have hci:=List.getElem?_eq_getElem hi
    have hcj:=List.getElem?_eq_getElem (show i - 1 < c.length by omega)
    generalize c[i]=p at hci
    generalize c[i - 1]=q at hcj
    have e1:=drop_of hcj
    rw [show i - 1+1=i by omega] at e1
    have e2:=drop_of hci
    rw [e1,e2] at hi2
    have hw1:=wr_succ (i:=i) (by omega)
    have hw3:IntKind.i64.wrap ((i:Int) - 1)=((i - 1:Nat):Int):=by rw [wrap_in (by omega) (by omega)];omega
    conv=>whnf
    refine ⟨by omega,ePt p,by rw [Int.toNat_natCast];exact eP_at c hci,rfl,?_⟩
    conv=>whnf
    rw [hw3]
    refine ⟨by omega,ePt q,by rw [Int.toNat_natCast];exact eP_at c hcj,rfl,?_⟩
    conv=>whnf
    refine Fork.mk (fun h=>?_) (fun h=>?_)
    · have h4:p.2≤q.2:=by simpa using h
      rw [f1,if_pos (by rw [hi2];exact rise_bad h4)] at hk
      conv=>whnf
      exact hk
    have h4:¬ p.2≤q.2:=by simpa using h
    conv=>whnf
    rw [hw1]
    refine ⟨i+1,⟨⟨by omega,hi⟩,by rw [hi2,rise_good h4,← e2];rfl⟩,Shift.reset ⟨rfl,rfl,rfl,trivial⟩ ⟨rfl,trivial⟩ rfl rfl,?_⟩
    show c.length - (i+1) < c.length - i
    omega
  have hie:i=c.length:=by simp at h;omega
  have h5:riseB c=true:=by
    rw [hi2,hie]
    have:=drop_of hla
    rw [this,show c.length - 1+1=c.length by omega,List.drop_length]
    rfl
  clear hi2 hi0 hi1 h
  rw [if_neg (by rw [h5];simp)] at f1
  have hh:=head_at hc0
  conv=>whnf
  refine ⟨by omega,ePt (c.headD (0,0)),eP_at c hh,rfl,?_⟩
  conv=>whnf
  rw [hw2]
  refine ⟨by omega,ePt (lastP c),by rw [Int.toNat_natCast];exact eP_at c hla,rfl,?_⟩
  conv=>whnf
  rw [show Rs.lv ⟨c,a,b,cc,d,e⟩=[(c.headD (0,0)).1,a,b,cc,d,e,(lastP c).1] from rfl] at f1
  generalize hL:[(c.headD (0,0)).1,a,b,cc,d,e,(lastP c).1]=L at f1
  refine ⟨Nat,fun i=>([(6,.c (.ptr (.l 6 0) 0)),(7,I i)],⟨[(.l 6 0,.blk [IC (c.headD (0,0)).1,IC a,IC b,IC cc,IC d,IC e,IC (lastP c).1])],5,[]⟩),
    fun i=>(1≤i∧i≤7)∧srt L=srt (L.drop (i - 1)),fun i=>7 - i,1,⟨⟨by omega,by omega⟩,rfl⟩,
    Shift.rename [(.l 6 0,.l 6 5)] ⟨rfl,rfl,trivial⟩ ⟨rfl,trivial⟩ rfl rfl rfl,fun i hi=>?_⟩
  obtain ⟨⟨hi0,hi1⟩,hi2⟩:=hi
  dsimp only
  conv=>whnf
  subst hL
  refine Fork.mk (fun h=>?_) (fun h=>?_)
  · have hi:i < 7:=by simp at h;omega
    clear h
    have hw1:=wr_succ (i:=i) (by omega)
    have hw3:IntKind.i64.wrap ((i:Int) - 1)=((i - 1:Nat):Int):=by rw [wrap_in (by omega) (by omega)];omega
    rcases (by omega:i=1 ∨ i=2 ∨ i=3 ∨ i=4 ∨ i=5 ∨ i=6) with rfl | rfl | rfl | rfl | rfl | rfl
    all_goals
      conv=>whnf
      refine ⟨by omega,?_⟩
      conv=>whnf
      rw [hw3]
      refine ⟨by omega,?_⟩
      conv=>whnf
      refine Fork.mk (fun h=>?_) (fun h=>?_)
      · rw [f1,if_pos (by rw [hi2];exact srt_bad (by simpa using h))] at hk
        conv=>whnf
        exact hk
      · conv=>whnf
        rw [hw1]
        exact ⟨_,⟨⟨by omega,by omega⟩,by rw [hi2];exact srt_good (by simpa using h)⟩,Shift.reset ⟨rfl,rfl,trivial⟩ ⟨rfl,trivial⟩ rfl rfl,by decide⟩
  · have hie:i=7:=by simp at h;omega
    rw [f1,if_neg (by rw [hi2,hie];simp [Rs.lv,srt])] at hk
    conv=>whnf
    exact hk
end Go.Proofs

namespace Go.Proofs
open Go Go.Abs
set_option linter.unusedSimpArgs false
set_option linter.unusedVariables false
set_option maxRecDepth 4000
theorem rckC_ok:FunR Tryz.prog 119 R_ckC:=by
  intro args k h
  unfold R_ckC at h
  split at h
  case h_2=>exact h.elim
  obtain ⟨c,rfl,hl,hk⟩:=h
  have hm:=eP_len c
  refine does_ex (qc:=qc1) (np:=[]) (CK:=ckK [(49,cSc R_within)]) mixed Tryz.func119 rfl rfl Tryz.ntmps119 Tryz.results119 τ_ok (by kernel_rfl) (ckK_ok ⟨cSc_ok rIn_ok,trivial⟩) (by simp) ?_
  conv=>whnf
  refine Fork.mk (fun h=>?_) (fun h=>?_)
  · have h0:c=[]:=by simpa using h
    subst h0
    conv=>whnf
    exact hk
  have h0:c ≠ []:=fun e=>by subst e;simp at h
  conv=>whnf
  refine Fork.mk (fun h=>?_) (fun h=>?_)
  · have h1:100 < c.length:=by simp at h;omega
    conv=>whnf
    have e:ckC c=10:=by
      cases c with
      | nil=>exact absurd rfl h0
      | cons p r=>rw [ckC_eq,if_pos h1]
    rw [e] at hk
    exact hk
  have h1:c.length≤100:=by simp at h;omega
  conv=>whnf
  refine ⟨Nat,fun i=>([(0,.c (.lst (eP c))),(13,.c (.lst (eP c))),(14,I (eP c).length),(15,I i)],⟨[],5,[]⟩),fun i=>i≤c.length∧ckAt c i,fun i=>c.length - i,0,⟨Nat.zero_le _,.inl rfl⟩,
    Shift.reset ⟨rfl,rfl,rfl,rfl,trivial⟩ trivial rfl rfl,fun i hi=>?_⟩
  obtain ⟨hi1,hi2⟩:=hi
  dsimp only
  conv=>whnf
  refine Fork.mk (fun h=>?_) (fun h=>?_)
  · have hi:i < c.length:=by simp at h;omega
    have hci:=List.getElem?_eq_getElem hi
    generalize c[i]=p at hci
    have hat:(eP c)[(i:Int).toNat]?=some (ePt p):=by rw [Int.toNat_natCast];exact eP_at c hci
    have hw1:=wr_succ (i:=i) (by omega)
    have next:okPt p=true→ckC c=ckGo p (c.drop (i+1))→ckAt c (i+1):=fun a b=>.inr ⟨p,by rw [Nat.add_sub_cancel];exact hci,a,b⟩
    have first:i=0→ckC c=if okPt p=false then 1 else ckGo p (c.drop (i+1)):=fun e=>by
      subst e
      have:c=p :: c.drop 1:=by have:=drop_of hci;rwa [List.drop_zero] at this
      rw [this,ckC_eq,if_neg (by rw [← this];omega)]
      simp
    have later:∀ q,ckC c=ckGo q (c.drop i)→ckC c=if okPt p=false then 1 else if p.1≤q.1 ∨ p.2 < q.2 then 4 else if steepB (p.1 - q.1) (p.2 - q.2)=true then 1 else ckGo p (c.drop (i+1)):=fun q e=>by
      rw [e,drop_of hci,ckGo_eq]
    have bad:okPt p=false→ckC c=1:=fun e=>by
      rcases hi2 with h | ⟨q,_,_,h⟩
      · rw [first h,if_pos e]
      · rw [later q h,if_pos e]
    conv=>whnf
    refine ⟨by omega,ePt p,hat,rfl,?_⟩
    conv=>whnf
    refine Fork.mk (fun h=>?_) (fun h=>?_)
    · have e:okPt p=false:=by simp at h;simp [okPt];omega
      rw [bad e] at hk
      conv=>whnf
      refine fork_t ?_
      conv=>whnf
      exact hk
    conv=>whnf
    have h2:0≤p.1∧p.1≤1073741824:=by simp at h;omega
    refine Fork.mk (fun h=>?_) (fun h=>?_)
    · have e:okPt p=false:=by simp at h;simp [okPt];omega
      rw [bad e] at hk
      conv=>whnf
      exact hk
    have h3:0≤p.2∧p.2≤274877906944:=by simp at h;omega
    have hok:okPt p=true:=okPt_of ⟨h2,h3⟩
    conv=>whnf
    refine Fork.mk (fun h=>?_) (fun h=>?_)
    · have hi0:i=0:=by simp at h;omega
      have e:=first hi0
      rw [if_neg (by rw [hok];simp)] at e
      conv=>whnf
      rw [hw1]
      refine ⟨i+1,⟨hi,next hok e⟩,Shift.reset ⟨rfl,rfl,rfl,rfl,trivial⟩ trivial rfl rfl,?_⟩
      show c.length - (i+1) < c.length - i
      omega
    have hi0:i ≠ 0:=by simp at h;omega
    rcases hi2 with e | ⟨q,hq,hqo,hqe⟩
    · exact absurd e hi0
    have e:=later q hqe
    rw [if_neg (by rw [hok];simp)] at e
    have hq':=okPt_in hqo
    conv=>whnf
    have hw2:IntKind.i64.wrap ((i:Int) - 1)=((i - 1:Nat):Int):=by rw [wrap_in (by omega) (by omega)];omega
    rw [hw2]
    refine ⟨by omega,ePt q,by rw [Int.toNat_natCast];exact eP_at c hq,rfl,?_⟩
    conv=>whnf
    rw [hw2]
    refine ⟨by omega,ePt q,by rw [Int.toNat_natCast];exact eP_at c hq,rfl,?_⟩
    conv=>whnf
    rw [show IntKind.i64.wrap (p.1 - q.1)=p.1 - q.1 from wrap_in (by omega) (by omega)]
    refine Fork.mk (fun h=>?_) (fun h=>?_)
    · have h4:p.1≤q.1:=by simp at h;omega
      rw [if_pos (.inl h4)] at e
      rw [e] at hk
      conv=>whnf
      refine fork_t ?_
      conv=>whnf
      exact hk
    have h4:¬ p.1≤q.1:=by simp at h;omega
    conv=>whnf
    rw [show IntKind.i64.wrap (p.2 - q.2)=p.2 - q.2 from wrap_in (by omega) (by omega)]
    refine Fork.mk (fun h=>?_) (fun h=>?_)
    · have h5:p.2 < q.2:=by simp at h;omega
      rw [if_pos (.inr h5)] at e
      rw [e] at hk
      conv=>whnf
      exact hk
    have h5:¬ p.2 < q.2:=by simp at h;omega
    rw [if_neg (by omega)] at e
    have hst:steepB (p.1 - q.1) (p.2 - q.2)=decide (4611686018427387904 / (p.1 - q.1) < p.2 - q.2):=by simp [steepB];omega
    rw [hst] at e
    conv=>whnf
    refine ⟨by omega,?_⟩
    have ew:IntKind.i64.wrap ((4611686018427387904:Int).tdiv (p.1 - q.1))=4611686018427387904 / (p.1 - q.1):=by
      rw [Int.tdiv_eq_ediv_of_nonneg (by omega)]
      have h2:=Int.ediv_nonneg (show (0:Int)≤4611686018427387904 by omega) (show 0≤p.1 - q.1 by omega)
      have h3:=Int.ediv_le_self (p.1 - q.1) (show (0:Int)≤4611686018427387904 by omega)
      exact wrap_in (by omega) (by omega)
    conv=>whnf
    rw [ew]
    refine Fork.mk (fun h=>?_) (fun h=>?_)
    · rw [if_pos h] at e
      rw [e] at hk
      conv=>whnf
      exact hk
    rw [if_neg (by rw [h];simp)] at e
    conv=>whnf
    rw [hw1]
    refine ⟨i+1,⟨hi,next hok e⟩,Shift.reset ⟨rfl,rfl,rfl,rfl,trivial⟩ trivial rfl rfl,?_⟩
    show c.length - (i+1) < c.length - i
    omega
  · have hie:i=c.length:=by simp at h;omega
    subst hie
    rcases hi2 with e | ⟨q,_,_,e⟩
    · exact absurd (List.eq_nil_of_length_eq_zero e) h0
    rw [e,List.drop_length] at hk
    conv=>whnf
    exact hk
theorem rat_ok:FunR Tryz.prog 135 R_val:=by
  intro args k h
  unfold R_val at h
  split at h
  case h_2=>exact h.elim
  rename_i x
  obtain ⟨c,rfl,hv,hk⟩:=h
  obtain ⟨h0,hl⟩:=ckC_ne hv
  have hm:=eP_len c
  have hh:=head_at h0
  refine does_ex (qc:=qc1) (np:=[(7,[(3,9),(3,10),(4,9),(4,10),(7,9),(7,10),(7,11),(8,9),(8,10),(8,11),(9,10)])]) (CK:=ckK []) mixed Tryz.func135 rfl rfl Tryz.ntmps135 Tryz.results135 τ_ok (by kernel_rfl) (ckK_ok trivial) (by simp) ?_
  conv=>whnf
  refine ⟨by omega,ePt (c.headD (0,0)),eP_at c hh,rfl,?_⟩
  have f1:valC c x=if x≤(c.headD (0,0)).1 then (c.headD (0,0)).2 else vGo (c.headD (0,0)) (c.drop 1) x:=by
    cases c with
    | nil=>exact absurd rfl h0
    | cons p r=>rfl
  have f2:ckGo (c.headD (0,0)) (c.drop 1)=0:=by
    cases c with
    | nil=>exact absurd rfl h0
    | cons p r=>exact (ckC_cons.1 hv).2.2
  conv=>whnf
  refine Fork.mk (fun h=>?_) (fun h=>?_)
  · have h1:x≤(c.headD (0,0)).1:=of_decide_eq_true h
    rw [f1,if_pos h1] at hk
    conv=>whnf
    refine ⟨by omega,ePt (c.headD (0,0)),eP_at c hh,rfl,?_⟩
    conv=>whnf
    exact hk
  have h1:¬ x≤(c.headD (0,0)).1:=of_decide_eq_false h
  rw [if_neg h1] at f1
  clear h
  conv=>whnf
  refine ⟨Nat,fun i=>([(0,.c (.lst (eP c))),(1,I x),(5,I i)],⟨[],5,[]⟩),fun i=>(1≤i∧i≤c.length)∧rAt c x i,fun i=>c.length - i,1,⟨⟨Nat.le_refl _,by have:=List.length_pos_iff.2 h0;omega⟩,c.headD (0,0),hh,by omega,f1,f2,ckC_ok hv _ (List.mem_of_getElem? hh)⟩,
    Shift.reset ⟨rfl,rfl,rfl,trivial⟩ trivial rfl rfl,fun i hi=>?_⟩
  obtain ⟨⟨hi0,hi1⟩,q,hq,hqx,hqe,hqc,hqo⟩:=hi
  have hq':=okPt_in hqo
  dsimp only
  conv=>whnf
  refine Fork.mk (fun h=>?_) (fun h=>?_)
  · have hi:i < c.length:=by simp at h;omega
    have hci:=List.getElem?_eq_getElem hi
    have hpo':=ckC_ok hv _ (List.getElem_mem hi)
    have hpo:=okPt_in hpo'
    generalize c[i]=p at hci hpo hpo'
    have hat:(eP c)[(i:Int).toNat]?=some (ePt p):=by rw [Int.toNat_natCast];exact eP_at c hci
    have hw1:=wr_succ (i:=i) (by omega)
    have hdr:=drop_of hci
    rw [hdr] at hqe hqc
    obtain ⟨c1,c2,c3,c4,c5⟩:=ckGo_cons.1 hqc
    conv=>whnf
    refine ⟨by omega,ePt p,hat,rfl,?_⟩
    conv=>whnf
    refine Fork.mk (fun h=>?_) (fun h=>?_)
    · have hx:x < p.1:=by simpa using h
      have e:valC c x=q.2+(p.2 - q.2) * (x - q.1) / (p.1 - q.1):=by rw [hqe];exact if_pos (by omega)
      rw [e] at hk
      obtain ⟨s1,s2,s3,s4⟩:=seg_in c2 c3 hqx (show x≤p.1 by omega)
      conv=>whnf
      have hw2:IntKind.i64.wrap ((i:Int) - 1)=((i - 1:Nat):Int):=by rw [wrap_in (by omega) (by omega)];omega
      rw [hw2]
      refine ⟨by omega,ePt q,by rw [Int.toNat_natCast];exact eP_at c hq,rfl,?_⟩
      conv=>whnf
      refine ⟨by omega,ePt p,hat,rfl,?_⟩
      conv=>whnf
      rw [show IntKind.i64.wrap (p.2 - q.2)=p.2 - q.2 from wrap_in (by omega) (by omega),show IntKind.i64.wrap (x - q.1)=x - q.1 from wrap_in (by omega) (by omega),show IntKind.i64.wrap (p.1 - q.1)=p.1 - q.1 from wrap_in (by omega) (by omega)]
      rw [show IntKind.i64.wrap ((p.2 - q.2) * (x - q.1))=(p.2 - q.2) * (x - q.1) from wrap_in (by omega) (by omega)]
      refine ⟨by omega,?_⟩
      conv=>whnf
      rw [show IntKind.i64.wrap (((p.2 - q.2) * (x - q.1)).tdiv (p.1 - q.1))=(p.2 - q.2) * (x - q.1) / (p.1 - q.1) by rw [Int.tdiv_eq_ediv_of_nonneg s1];exact wrap_in (by omega) (by omega)]
      rw [show IntKind.i64.wrap (q.2+(p.2 - q.2) * (x - q.1) / (p.1 - q.1))=q.2+(p.2 - q.2) * (x - q.1) / (p.1 - q.1) from wrap_in (by omega) (by omega)]
      exact hk
    have hx:¬ x < p.1:=by simpa using h
    conv=>whnf
    rw [hw1]
    refine ⟨i+1,⟨⟨by omega,hi⟩,p,by rw [Nat.add_sub_cancel];exact hci,by omega,by rw [hqe];exact vGo_next hqc hx,c5,hpo'⟩,Shift.reset ⟨rfl,rfl,rfl,trivial⟩ trivial rfl rfl,?_⟩
    show c.length - (i+1) < c.length - i
    omega
  · have hie:i=c.length:=by simp at h;omega
    subst hie
    rw [hqe,List.drop_length] at hk
    conv=>whnf
    have hw2:IntKind.i64.wrap (((eP c).length:Int) - 1)=((c.length - 1:Nat):Int):=by rw [hm,wrap_in (by omega) (by omega)];omega
    rw [hw2]
    refine ⟨by omega,ePt q,by rw [Int.toNat_natCast];exact eP_at c hq,rfl,?_⟩
    conv=>whnf
    exact hk
theorem rAt_ok:FunR Tryz.prog 116 R_at:=by
  intro args k h
  unfold R_at at h
  split at h
  case h_2=>exact h.elim
  rename_i x
  obtain ⟨c,rfl,hl,hk⟩:=h
  refine does_ex (qc:=qc1) (np:=[]) (CK:=ckK [(119,cSc R_ckC),(135,cSc R_val)]) mixed Tryz.func116 rfl rfl Tryz.ntmps116 Tryz.results116 τ_ok (by kernel_rfl) (ckK_ok ⟨cSc_ok rckC_ok,cSc_ok rat_ok,trivial⟩) (by simp) ?_
  conv=>whnf
  refine ⟨c,rfl,hl,?_⟩
  conv=>whnf
  refine Fork.mk (fun h=>?_) (fun h=>?_)
  · have h1:ckC c ≠ 0:=by simpa using h
    rw [show atV c x=(0,ckC c) from if_pos h1] at hk
    conv=>whnf
    exact hk
  have h1:ckC c=0:=by simpa using h
  rw [show atV c x=(valC c x,0) from if_neg (by simpa using h1)] at hk
  conv=>whnf
  refine ⟨c,rfl,h1,?_⟩
  conv=>whnf
  exact hk
theorem rlast_ok:FunR Tryz.prog 138 R_last:=by
  intro args k h
  unfold R_last at h
  split at h
  case h_2=>exact h.elim
  rename_i y
  obtain ⟨c,rfl,hl,hk⟩:=h
  have hm:=eP_len c
  refine does_ex (qc:=qc1) (np:=[]) (CK:=ckK [(119,cSc R_ckC),(135,cSc R_val)]) mixed Tryz.func138 rfl rfl Tryz.ntmps138 Tryz.results138 τ_ok (by kernel_rfl) (ckK_ok ⟨cSc_ok rckC_ok,cSc_ok rat_ok,trivial⟩) (by simp) ?_
  conv=>whnf
  refine ⟨c,rfl,hl,?_⟩
  conv=>whnf
  refine Fork.mk (fun h=>?_) (fun h=>?_)
  · have h1:ckC c ≠ 0:=by simpa using h
    rw [show lastV c y=(0,false,ckC c) from if_pos h1] at hk
    conv=>whnf
    exact hk
  have h1:ckC c=0:=by simpa using h
  obtain ⟨h0,hcl⟩:=ckC_ne h1
  have hh:=head_at h0
  have hla:=lastP_at h0
  have hF:=okPt_in (ckC_ok h1 _ (List.mem_of_getElem? hh))
  have hL:=okPt_in (ckC_ok h1 _ (last_mem h0))
  have hFL:=le_last h1 _ (List.mem_of_getElem? hh)
  rw [lastV_ok h1] at hk
  have hlen0:=List.length_pos_iff.2 h0
  have hw2:IntKind.i64.wrap (((eP c).length:Int) - 1)=((c.length - 1:Nat):Int):=by rw [eP_len,wrap_in (by omega) (by omega)];omega
  conv=>whnf
  refine ⟨by omega,ePt (c.headD (0,0)),eP_at c hh,rfl,?_⟩
  conv=>whnf
  rw [hw2]
  refine ⟨by omega,ePt (lastP c),by rw [Int.toNat_natCast];exact eP_at c hla,rfl,?_⟩
  conv=>whnf
  refine ⟨c,rfl,h1,?_⟩
  have hv0:valC c (c.headD (0,0)).1=(c.headD (0,0)).2:=by
    cases c with
    | nil=>exact absurd rfl h0
    | cons p r=>exact if_pos (Int.le_refl _)
  conv=>whnf
  refine Fork.mk (fun h=>?_) (fun h=>?_)
  · have h2:y < (c.headD (0,0)).2:=by rw [← hv0];exact of_decide_eq_true h
    rw [if_pos h2] at hk
    conv=>whnf
    exact hk
  have h2:¬ y < (c.headD (0,0)).2:=by rw [← hv0];exact of_decide_eq_false h
  rw [if_neg h2] at hk
  clear h
  have hz:=hgt_in' h1 y
  have gal:=fun (x:Int)=>hgt_gal' (x:=x) (y:=y) h1 (by omega)
  generalize hgt c y=z at *
  generalize (c.headD (0,0)).1=F at *
  generalize (lastP c).1=L at *
  conv=>whnf
  refine ⟨Int × Int,fun s=>([(0,.c (.lst (eP c))),(1,I y),(8,I s.1),(9,I s.2)],⟨[],5,[]⟩),fun s=>(F≤s.1∧s.1≤z)∧z≤s.2∧s.2≤L,fun s=>(s.2 - s.1).toNat,(F,L),⟨⟨Int.le_refl _,hz.1⟩,hz.2,Int.le_refl _⟩,
    Shift.reset ⟨rfl,rfl,rfl,rfl,trivial⟩ trivial rfl rfl,fun s hs=>?_⟩
  obtain ⟨lo,hi⟩:=s
  obtain ⟨⟨g1,g2⟩,g3,g4⟩:=hs
  dsimp only at g1 g2 g3 g4 ⊢
  conv=>whnf
  refine Fork.mk (fun h=>?_) (fun h=>?_)
  · have hlt:lo < hi:=by simpa using h
    conv=>whnf
    rw [show IntKind.i64.wrap (hi - lo)=hi - lo from wrap_in (by omega) (by omega)]
    refine ⟨by omega,?_⟩
    conv=>whnf
    have ed:(hi - lo).tdiv 2=(hi - lo) / 2:=Int.tdiv_eq_ediv_of_nonneg (by omega)
    rw [ed,show IntKind.i64.wrap ((hi - lo) / 2)=(hi - lo) / 2 from wrap_in (by omega) (by omega),show IntKind.i64.wrap (hi - (hi - lo) / 2)=hi - (hi - lo) / 2 from wrap_in (by omega) (by omega)]
    obtain ⟨m,hmm,m1,m2⟩:∃ m,hi - (hi - lo) / 2=m∧lo < m∧m≤hi:=⟨_,rfl,by omega,by omega⟩
    rw [hmm]
    clear hmm ed
    have hg:=gal m (by omega) (by omega)
    refine ⟨c,rfl,h1,?_⟩
    conv=>whnf
    refine Fork.mk (fun h=>?_) (fun h=>?_)
    · have h3:m≤z:=hg.2 (by simpa using h)
      conv=>whnf
      refine ⟨(m,hi),⟨⟨by dsimp only;omega,h3⟩,g3,g4⟩,Shift.reset ⟨rfl,rfl,rfl,rfl,trivial⟩ trivial rfl rfl,?_⟩
      show (hi - m).toNat < (hi - lo).toNat
      omega
    · have h3:¬ m≤z:=fun e=>absurd (hg.1 e) (by simpa using h)
      conv=>whnf
      rw [show IntKind.i64.wrap (m - 1)=m - 1 from wrap_in (by omega) (by omega)]
      refine ⟨(lo,m - 1),⟨⟨g1,g2⟩,by dsimp only;omega,by dsimp only;omega⟩,Shift.reset ⟨rfl,rfl,rfl,rfl,trivial⟩ trivial rfl rfl,?_⟩
      show (m - 1 - lo).toNat < (hi - lo).toNat
      omega
  · have hlt:¬ lo < hi:=by simpa using h
    have e:lo=z:=by omega
    subst e
    conv=>whnf
    exact hk
end Go.Proofs
