/- Proved here: what functions of the given program come to, and the plain laws of it; no condition but those in the theorems. -/
import Derived.Test.YtgllikepncnpkaaGreatPLagD
import Derived.Test.YtgllikepncnpkaaGreatPLag
import Derived.Test.YtgllikepncnpkaaGreatAbsQ
namespace Go.Proofs
open Go Go.Abs
set_option linter.unusedSimpArgs false
set_option linter.unusedVariables false
structure upR (row R:Ls) (j:Nat):Prop where
  l:R.length=row.length
  f:∀ (i:Nat) x y,row[i]?=some x→R[i]?=some y→x≤y∧y≤x+255∧(j≤i→y=x)
theorem upR.zero (row:Ls):upR row row 0:=⟨rfl,fun i x y h1 h2=>by rw [h1] at h2;cases h2;omega⟩
theorem upR.skip {row R:Ls} {j k:Nat} (h:upR row R j) (hk:j≤k):upR row R k:=⟨h.l,fun i x y h1 h2=>by
  obtain ⟨a,b,c⟩:=h.f i x y h1 h2
  exact ⟨a,b,fun h=>c (by omega)⟩⟩
theorem upR.put {row R:Ls} {j:Nat} {y v:Int} (h:upR row R j) (hy:R[j]?=some y) (hv:0≤v∧v≤255):upR row (R.set j (y+v)) (j+1):=by
  refine ⟨by rw [List.length_set];exact h.l,fun i x z h1 h2=>?_⟩
  rw [List.getElem?_set] at h2
  split at h2
  · rename_i e
    subst e
    split at h2
    · cases h2
      obtain ⟨a,b,c⟩:=h.f _ x y h1 hy
      have:=c (Nat.le_refl _)
      omega
    · cases h2
  · obtain ⟨a,b,c⟩:=h.f _ x z h1 h2
    exact ⟨a,b,fun h=>c (by omega)⟩
theorem upR.leq {row R:Ls} {j:Nat} (h:upR row R j):leq row R:=⟨h.l.symm,fun i x y h1 h2=>(h.f i x y h1 h2).1⟩
theorem upR.bd {row R:Ls} {j:Nat} {B:Int} (h:upR row R j) (hb:∀ x ∈ row,0≤x∧x < B):∀ y ∈ R,0≤y∧y < B+255:=fun y hy=>by
  obtain ⟨i,hi⟩:=List.getElem?_of_mem hy
  have hil:=(List.getElem?_eq_some_iff.1 hi).1
  have hl:=h.l
  have e:=List.getElem?_eq_getElem (show i < row.length by omega)
  have:=h.f i _ y e hi
  have:=hb _ (List.mem_of_getElem? e)
  omega
theorem leQ_snoc:∀ {a b:List Ls} {x y:Ls},leQ a b→leq x y→leQ (a ++ [x]) (b ++ [y])
  | [],[],x,y,_,h=>⟨h,trivial⟩
  | [],_ :: _,x,y,h,_=>h.elim
  | _ :: _,[],x,y,h,_=>h.elim
  | p :: a,q :: b,x,y,h,h2=>⟨h.1,leQ_snoc h.2 h2⟩
theorem rows_sum {m:Ls} {B:Int} (hB:0≤B) (hl:(m.length:Int)≤12) (h:∀ x ∈ m,0≤x∧x < B):m.sum≤B * 12:=by
  have h1:m.sum≤B * m.length:=by
    clear hl
    induction m with
    | nil=>simp
    | cons x r ih =>
      have h1:=h x (by simp)
      have h2:=ih fun y hy=>h y (by simp [hy])
      rw [List.sum_cons,List.length_cons]
      have:B * ((r.length+1:Nat):Int)=B * r.length+B:=by rw [Int.natCast_add,Int.mul_add];simp
      omega
  have h2:=Int.mul_le_mul_of_nonneg_left hl hB
  omega
theorem fo_ok {c:Cs} {l0:List Dt} (hm:mkCs c l0) {n:Nat} {w:Fl} (hw:stepsC c (fl1 c l0) n w) (hn:n≤5) {lvs locs:List Ls} (hl:lvs.length=locs.length) (hl2:lvs.length≤20)
    (h1:∀ l ∈ lvs,l.length=c.si.length∧∀ x ∈ l,0≤x∧x < 300) (h2:∀ m ∈ locs,(m.length:Int)=c.rv.n∧∀ x ∈ m,0≤x∧x < 300) :
    ∃ r,foX c w lvs locs=.ok r∧flG c w.ws lvs locs=.ok r∧r.length=lvs.length∧∀ a ∈ r,(a.length:Int)=c.rv.n∧∀ y ∈ a,0≤y∧y≤1000000:=by
  have hva:=hw.va hm
  have h0:rdyE c w=0:=by rw [rdyE,if_neg (by simp [csE_of hva.k]),if_neg (by simp [vaB_of hva])]
  obtain ⟨v,hv,hvs⟩:=stepsC_vol hm hw (by omega)
  have hrl:=hm.k.r.len
  have hb:v.sum+(3600+300 * (c.rv.ls.length:Int)) * (lvs.length:Int)≤1000000:=by
    have a1:(3600+300 * (c.rv.ls.length:Int))≤15600:=by omega
    have a2:=Int.mul_le_mul_of_nonneg_right a1 (show (0:Int)≤lvs.length by omega)
    omega
  obtain ⟨r,e1,e2,e3⟩:=fl_small2 hm.k (B:=300) (g:=3600) (by omega) (by omega) hva.w hv hl (fun l hl=>⟨(h1 l hl).1,fun x hx=>by have:=(h1 l hl).2 x hx;omega⟩) (fun m hm2=>by
    obtain ⟨g1,g2⟩:=h2 m hm2
    refine ⟨g1,fun x hx=>(g2 x hx).1,?_⟩
    have:=rows_sum (B:=300) (by omega) (by have:=hm.k.n;omega) g2
    omega) hb (by omega)
  refine ⟨r,?_,e1,e2,e3⟩
  rw [foX,if_neg (by simp [h0]),if_neg (by omega),if_neg (by omega)]
  exact e1
structure mrI (lvs locs:List Ls) (M S N E:Nat) (y:Nat × Nat × List Ls × List Ls):Prop where
  k:y.1≤M
  e:y.2.1≤E
  l1:y.2.2.1.length=y.1
  l2:y.2.2.2.length=y.1
  q1:leQ (lvs.take y.1) y.2.2.1
  q2:leQ (locs.take y.1) y.2.2.2
  b1:∀ r ∈ y.2.2.1,r.length=S∧∀ x ∈ r,0≤x∧x < 300
  b2:∀ r ∈ y.2.2.2,r.length=N∧∀ x ∈ r,0≤x∧x < 300
theorem mrI.zero (lvs locs:List Ls) (M S N E:Nat):mrI lvs locs M S N E (0,0,[],[]):=⟨Nat.zero_le _,Nat.zero_le _,rfl,rfl,by rw [List.take_zero];trivial,by rw [List.take_zero];trivial,fun r h=>by simp at h,fun r h=>by simp at h⟩
theorem mrI.next {lvs locs:List Ls} {M S N E k e e':Nat} {MU MN:List Ls} (h:mrI lvs locs M S N E (k,e,MU,MN)) {a b A B:Ls} (ha:lvs[k]?=some a) (hb:locs[k]?=some b) (hk:k < M) (he:e'≤E) {i j:Nat} (hA:upR a A i) (hB:upR b B j)
    (h1:a.length=S∧∀ x ∈ a,0≤x∧x < 30) (h2:b.length=N∧∀ x ∈ b,0≤x∧x < 20):mrI lvs locs M S N E (k+1,e',MU ++ [A],MN ++ [B]):=by
  have t1:lvs.take (k+1)=lvs.take k ++ [a]:=by rw [List.take_add_one,ha];rfl
  have t2:locs.take (k+1)=locs.take k ++ [b]:=by rw [List.take_add_one,hb];rfl
  refine ⟨hk,he,by simp [h.l1],by simp [h.l2],?_,?_,fun r hr=>?_,fun r hr=>?_⟩
  · show leQ (lvs.take (k+1)) _
    rw [t1];exact leQ_snoc h.q1 hA.leq
  · show leQ (locs.take (k+1)) _
    rw [t2];exact leQ_snoc h.q2 hB.leq
  · rcases List.mem_append.1 hr with hr | hr
    · exact h.b1 r hr
    · have:=List.mem_singleton.1 hr
      subst this
      exact ⟨by rw [hA.l];exact h1.1,fun x hx=>by have:=hA.bd h1.2 x hx;omega⟩
  · rcases List.mem_append.1 hr with hr | hr
    · exact h.b2 r hr
    · have:=List.mem_singleton.1 hr
      subst this
      exact ⟨by rw [hB.l];exact h2.1,fun x hx=>by have:=hB.bd h2.2 x hx;omega⟩
end Go.Proofs

namespace Go.Proofs
open Go Go.Abs
set_option linter.unusedSimpArgs false
set_option linter.unusedVariables false
set_option maxRecDepth 40000
def R_tlags:RT:=fun args k=>∃ (l:Ls) (sv tv bv:Int),args=[.c (.lst (eL l)),.c (.sc (.int .u8 sv)),.c (.sc (.int .u8 tv)),.c (.sc (.int .u8 bv))]∧(0≤sv∧sv≤255)∧(0≤tv∧tv≤255)∧(0≤bv∧bv≤255)∧l.length≤9223372036854775807∧k (Bo true)
set_option maxHeartbeats 8000000 in
theorem tlags_ok:FunR Tryz.prog 7 R_tlags:=by
  intro args k h
  obtain ⟨l,sv,tv,bv,rfl,hsv,htv,hbv,hl,hk⟩:=h
  have hCK:∀ f args d m k,ckK [(9,cSc R_tt),(10,cSc R_few),(11,cN R_new),(12,cB R_mkRi),(19,cB R_flws),(17,cPu R_fo),(20,cPu R_bw),(29,cPu R_lags)] f args d m k→callK Tryz.prog qc1 f args d m k:=ckK_ok ⟨cSc_ok sane_ok,cSc_ok few_ok,cN_ok new_ok rfl,cB_ok mkRi_ok rfl,cB_ok flws_ok rfl,cPu_ok follow_ok rfl,cPu_ok bel_ok rfl,cPu_ok lags_ok rfl,trivial⟩
  refine ⟨_,doesD_of (qc:=qc1) (np:=[(11,[(5,10)])]) (CK:=ckK [(9,cSc R_tt),(10,cSc R_few),(11,cN R_new),(12,cB R_mkRi),(19,cB R_flws),(17,cPu R_fo),(20,cPu R_bw),(29,cPu R_lags)]) 11 mixed Tryz.func7 rfl rfl Tryz.ntmps7 Tryz.results7 τ_ok (by kernel_rfl) hCK (by simp) ?_,hk⟩
  conv=>whnf
  refine ⟨rfl,?_⟩
  conv=>whnf
  refine Fork.mk (fun h=>by cases h) (fun _=>?_)
  conv=>whnf
  refine ⟨l,rfl,?_⟩
  conv=>whnf
  refine Fork.mk (fun h=>?_) (fun h=>?_)
  · conv=>whnf
    rfl
  clear h
  conv=>whnf
  refine ⟨l,rfl,?_⟩
  conv=>whnf
  refine ⟨⟨l,0⟩,rfl,rfl,⟨Nat.zero_le _,hl⟩,fun c ds0 w n d hd hm hn hw=>?_⟩
  have hc:=hm.k
  have hva:=hw.va hm
  have hcf:=hm.fin
  have hr:=hc.r
  have hrl:=hr.len
  have hrn:=hr.n
  have hcn:=hc.n
  have hcm:=hc.m
  have hmx:=eX_len c.si
  conv=>whnf
  refine Fork.mk (fun h=>?_) (fun h=>?_)
  · conv=>whnf
    rfl
  have hs0:0 < c.si.length:=by
    rw [decide_eq_false_iff_not] at h
    omega
  clear h
  obtain ⟨I0,hI0⟩:=Int.eq_ofNat_of_zero_le (Int.emod_nonneg sv (show ((eX c.si).length:Int) ≠ 0 by omega))
  have hI1:=Int.emod_lt_of_pos sv (show 0 < ((eX c.si).length:Int) by omega)
  rw [hI0] at hI1
  have w1:IntKind.i64.wrap sv=sv:=wrap_in (by omega) (by omega)
  have w2:(IntKind.i64.wrap sv).tmod ((eX c.si).length:Int)=(I0:Int):=by rw [w1,Int.tmod_eq_emod_of_nonneg hsv.1,hI0]
  obtain ⟨K0,hK0⟩:=Int.eq_ofNat_of_zero_le (Int.emod_nonneg tv (show (12:Int) ≠ 0 by omega))
  have hK1:=Int.emod_lt_of_pos tv (show (0:Int) < 12 by omega)
  rw [hK0] at hK1
  have w3:IntKind.i64.wrap tv=tv:=wrap_in (by omega) (by omega)
  have w4:(IntKind.i64.wrap tv).tmod 12=(K0:Int):=by rw [w3,Int.tmod_eq_emod_of_nonneg htv.1,hK0]
  conv=>whnf
  refine ⟨by omega,?_⟩
  conv=>whnf
  rw [w2]
  refine ⟨d,12,c.si.length,30,by rw [hmx];rfl,rfl,hd,by omega,by omega,by omega,fun lvs d hd hn1 hl1=>?_⟩
  conv=>whnf
  obtain ⟨N,hN⟩:=Int.eq_ofNat_of_zero_le (show 0≤c.rv.n by omega)
  refine ⟨d,12,N,20,by rw [hN];rfl,rfl,hd,by omega,by omega,by omega,fun locs d hd hn2 hl2=>?_⟩
  have hml:=eLw_len lvs
  have hmo:=eLw_len locs
  conv=>whnf
  refine ⟨by omega,?_⟩
  conv=>whnf
  rw [w4]
  refine ⟨by simp [lwC],?_⟩
  conv=>whnf
  refine ⟨by rw [hml,hn1];decide,?_⟩
  conv=>whnf
  have hKl:K0 < lvs.length:=by omega
  have hca:=List.getElem?_eq_getElem hKl
  have hra:=hl1 _ (List.getElem_mem hKl)
  generalize lvs[K0]=a at hca hra
  have hma:=eL_len a
  have hcz:=List.getElem?_eq_getElem (show I0 < a.length by omega)
  have hrz:=hra.2 _ (List.getElem_mem (show I0 < a.length by omega))
  generalize a[I0]'(by omega)=z at hcz hrz
  have hcc:(eL a)[I0]?=some [.sc (.int .i64 z)]:=by rw [List.getElem?_map,hcz];rfl
  have w5:IntKind.i64.wrap bv=bv:=wrap_in (by omega) (by omega)
  have w6:IntKind.i64.wrap (z+IntKind.i64.wrap bv)=z+bv:=by rw [w5];exact wrap_in (by omega) (by omega)
  refine ⟨by omega,lwC a,by rw [Int.toNat_natCast,List.getElem?_map,hca];rfl,rfl,?_⟩
  conv=>whnf
  refine ⟨eL_all _,?_⟩
  conv=>whnf
  refine ⟨by rw [hma];simp;omega,?_⟩
  conv=>whnf
  refine ⟨by omega,rfl,?_⟩
  conv=>whnf
  refine ⟨⟨⟨rfl,rfl,rfl⟩,rfl,⟨rfl,rfl,rfl⟩,rfl⟩,?_⟩
  conv=>whnf
  refine ⟨.l 72 3,.l 79 4,(eLw lvs).length,K0,I0,bv,z,⟨rfl,rfl,(by show AV.c (Cell.aptr (Id.l 72 3) (0+K0) 0)=_;rw [Nat.zero_add K0]),rfl,rfl⟩,(by intro h;cases h),by omega,?_⟩
  conv=>whnf
  refine ⟨_,_,_,_,⟨rfl,rfl,rfl⟩,by omega,hcc,?_⟩
  rw [w6]
  conv=>whnf
  obtain ⟨x,hx⟩:∃ x,c.si[I0]?=some x:=⟨_,List.getElem?_eq_getElem (by omega)⟩
  obtain ⟨mvs,hmv⟩:∃ mvs,mvs=lvs.set K0 (a.set I0 (z+bv)):=⟨_,rfl⟩
  have hmvl:mvs.length=lvs.length:=by rw [hmv,List.length_set]
  have hmm:=eLw_len mvs
  have hcont:(eLw lvs).set K0 [.lst ((eL a).set I0 [.sc (.int .i64 (z+bv))])]=eLw mvs:=by
    rw [hmv,show eLw (lvs.set K0 (a.set I0 (z+bv)))=(eLw lvs).set K0 (lwC (a.set I0 (z+bv))) from List.map_set ..,lwC,← eL_set];rfl
  have hm1:∀ l ∈ mvs,l.length=c.si.length∧∀ x ∈ l,0≤x∧x < 300:=fun l hl=>by
    rw [hmv] at hl
    rcases List.mem_or_eq_of_mem_set hl with h | h
    · exact ⟨(hl1 l h).1,fun x hx=>by have:=(hl1 l h).2 x hx;omega⟩
    · subst h
      refine ⟨by rw [List.length_set];exact hra.1,fun x hx=>?_⟩
      rcases List.mem_or_eq_of_mem_set hx with h | h
      · have:=hra.2 x h;omega
      · omega
  obtain ⟨ra,f1,p1,la,ba⟩:=fo_ok hm hw hn (lvs:=lvs) (locs:=locs) (by omega) (by omega) (fun l hl=>⟨(hl1 l hl).1,fun x hx=>by have:=(hl1 l hl).2 x hx;omega⟩) (fun l hl=>⟨by have:=(hl2 l hl).1;omega,fun x hx=>by have:=(hl2 l hl).2 x hx;omega⟩)
  obtain ⟨rb,f2,p2,lb,bb⟩:=fo_ok hm hw hn (lvs:=mvs) (locs:=locs) (by omega) (by omega) hm1 (fun l hl=>⟨by have:=(hl2 l hl).1;omega,fun x hx=>by have:=(hl2 l hl).2 x hx;omega⟩)
  have hlaw:=lag_law hc hx (k:=K0) (by rw [hmv];exact one_row hca) hva.w p1 p2
  have hmra:=eLw_len ra
  have hmrb:=eLw_len rb
  have hv1:vfin lvs:=⟨by omega,fun p hp=>by have:=(hl1 p hp).1;omega⟩
  have hv2:vfin locs:=⟨by omega,fun p hp=>by have:=(hl2 p hp).1;omega⟩
  have hv3:vfin mvs:=⟨by omega,fun p hp=>by have:=(hm1 p hp).1;omega⟩
  have hB:bwS c I0=(belF c I0,0):=by rw [bwS,if_neg (by simp [csE_of hc]),if_neg (by omega),if_neg (by omega),Int.toNat_natCast]
  have hbl:=belF_len hc I0
  refine ⟨c,w,lvs,locs,rfl,hcf,vaB_fin (vaB_of hva),hv1,hv2,?_⟩
  rw [f1]
  conv=>whnf
  refine ⟨by rw [List.length_set];omega,?_⟩
  conv=>whnf
  rw [hcont,List.drop_zero,List.take_of_length_le (show (eLw mvs).length≤(eLw lvs).length by omega)]
  refine ⟨c,w,mvs,locs,rfl,hcf,vaB_fin (vaB_of hva),hv3,hv2,?_⟩
  rw [f2]
  conv=>whnf
  refine ⟨c,I0,rfl,hcf,?_⟩
  rw [hB]
  generalize belF c I0=L0 at hbl hlaw
  dsimp only
  have hmL:=eL_len L0
  conv=>whnf
  refine Fork.mk (fun h=>absurd h (by decide)) (fun _=>?_)
  conv=>whnf
  refine Fork.mk (fun h=>absurd h (by decide)) (fun _=>?_)
  conv=>whnf
  refine Fork.mk (fun h=>absurd h (by decide)) (fun _=>?_)
  conv=>whnf
  rw [show decide ((((eLw ra).length:Nat):Int)=12)=true by rw [decide_eq_true_eq];omega]
  refine Fork.mk (fun h=>by cases h) (fun _=>?_)
  conv=>whnf
  rw [show decide ((((eLw rb).length:Nat):Int)=12)=true by rw [decide_eq_true_eq];omega]
  refine Fork.mk (fun h=>by cases h) (fun _=>?_)
  conv=>whnf
  refine ⟨Nat,fun m=>([(10,.c (.ptr (.l 10 1) 0)),(12,I I0),(13,I 12),(16,I K0),(18,.c (.lst (eLw ra))),(20,.c (.lst (eLw rb))),(22,.c (.lst (eL L0))),(24,I m)],⟨[(.l 10 1,.blk (csC c))],9,[]⟩),
    fun m=>(m:Int)≤c.rv.n,fun m=>(c.rv.n - m).toNat,0,by dsimp only;omega,Shift.rename [] ⟨rfl,rfl,rfl,rfl,rfl,rfl,rfl,rfl,trivial⟩ ⟨rfl,trivial⟩ rfl rfl rfl,fun m hm2=>?_⟩
  dsimp only
  conv=>whnf
  refine Fork.mk (fun h=>?_) (fun h=>?_)
  rotate_left
  · conv=>whnf
    rfl
  have hm3:(m:Int) < c.rv.n:=by simpa using h
  clear h
  have hwm:=wr_succ (i:=m) (by omega)
  obtain ⟨g1,g2⟩:=hlaw m
  conv=>whnf
  refine ⟨Nat,fun j=>([(10,.c (.ptr (.l 10 1) 0)),(12,I I0),(13,I 12),(16,I K0),(18,.c (.lst (eLw ra))),(20,.c (.lst (eLw rb))),(22,.c (.lst (eL L0))),(24,I m),(25,I 12),(26,Bo ((L0.take j).any (fun y=>decide (y=(m:Int))))),(144,.c (.lst (eL L0))),(145,I (eL L0).length),(146,I j)],⟨[(.l 10 1,.blk (csC c))],20,[]⟩),
    fun j=>j≤L0.length,fun j=>L0.length - j,0,Nat.zero_le _,Shift.rename [] ⟨rfl,rfl,rfl,rfl,rfl,rfl,rfl,rfl,rfl,rfl,rfl,rfl,rfl,trivial⟩ ⟨rfl,trivial⟩ rfl rfl rfl,fun j hj=>?_⟩
  dsimp only
  conv=>whnf
  refine Fork.mk (fun h=>?_) (fun h=>?_)
  · have hj2:j < L0.length:=by simp at h;omega
    clear h
    have hwj:=wr_succ (i:=j) (by omega)
    have hcj:=List.getElem?_eq_getElem hj2
    generalize L0[j]=y at hcj
    have htj:(L0.take (j+1)).any (fun y=>decide (y=(m:Int)))=((L0.take j).any (fun y=>decide (y=(m:Int))) || decide (y=(m:Int))):=by
      rw [List.take_add_one,hcj,List.any_append]
      simp
    conv=>whnf
    refine ⟨by omega,eI y,by rw [Int.toNat_natCast,List.getElem?_map,hcj];rfl,rfl,?_⟩
    conv=>whnf
    refine Fork.mk (fun h=>?_) (fun h=>?_)
    · rw [h,Bool.true_or] at htj
      conv=>whnf
      rw [hwj]
      refine ⟨j+1,hj2,?_,by omega⟩
      rw [htj]
      exact Shift.reset ⟨rfl,rfl,rfl,rfl,rfl,rfl,rfl,rfl,rfl,rfl,rfl,rfl,rfl,trivial⟩ ⟨rfl,trivial⟩ rfl rfl
    rw [h,Bool.false_or] at htj
    conv=>whnf
    rw [hwj]
    refine ⟨j+1,hj2,?_,by omega⟩
    rw [htj]
    exact Shift.reset ⟨rfl,rfl,rfl,rfl,rfl,rfl,rfl,rfl,rfl,rfl,rfl,rfl,rfl,trivial⟩ ⟨rfl,trivial⟩ rfl rfl
  have hje:j=L0.length:=by simp at h;omega
  clear h
  subst hje
  rw [List.take_length]
  obtain ⟨th,hth⟩:∃ th,th=L0.any (fun y=>decide (y=(m:Int))):=⟨_,rfl⟩
  rw [← hth] at g1 g2 ⊢
  apply byLe (fun le:Int=>(0≤le∧le≤2000)∧∀ (s:Nat) a' b',ra[s]?=some a'→rb[s]?=some b'→((s:Int) < K0+le ∨ th=false)→gA a' m=gA b' m)
  · intro tail
    conv=>whnf
    refine Fork.mk (fun h=>?_) (fun h=>?_)
    · obtain ⟨zz,z0,z1,z2,z3,z4⟩:=g2 h
      obtain ⟨le,hle⟩:∃ le,le=zz.1:=⟨_,rfl⟩
      conv=>whnf
      refine ⟨c,I0,m,rfl,hcf,?_⟩
      rw [z0]
      dsimp only
      rw [← hle]
      conv=>whnf
      refine Fork.mk (fun h=>absurd h (by decide)) (fun _=>?_)
      conv=>whnf
      refine Fork.mk (fun h=>?_) (fun _=>?_)
      · rw [decide_eq_true_eq] at h
        omega
      conv=>whnf
      refine ⟨Nat,fun r=>([(10,.c (.ptr (.l 10 1) 0)),(12,I I0),(13,I 12),(16,I K0),(18,.c (.lst (eLw ra))),(20,.c (.lst (eLw rb))),(22,.c (.lst (eL L0))),(24,I m),(25,I le),(26,Bo th),(32,I r)],⟨[(.l 10 1,.blk (csC c))],30,[]⟩),
        fun r=>r≤12,fun r=>12 - r,0,Nat.zero_le _,Shift.rename [] ⟨rfl,rfl,rfl,rfl,rfl,rfl,rfl,rfl,rfl,rfl,rfl,trivial⟩ ⟨rfl,trivial⟩ rfl rfl rfl,?_⟩
      exact tail le ⟨by omega,fun s a' b' e1 e2 hs=>z4 s a' b' e1 e2 (by
        rcases hs with hs | hs
        · omega
        · rw [h] at hs;cases hs)⟩
    conv=>whnf
    refine ⟨Nat,fun r=>([(10,.c (.ptr (.l 10 1) 0)),(12,I I0),(13,I 12),(16,I K0),(18,.c (.lst (eLw ra))),(20,.c (.lst (eLw rb))),(22,.c (.lst (eL L0))),(24,I m),(25,I 12),(26,Bo th),(32,I r)],⟨[(.l 10 1,.blk (csC c))],30,[]⟩),
      fun r=>r≤12,fun r=>12 - r,0,Nat.zero_le _,Shift.rename [] ⟨rfl,rfl,rfl,rfl,rfl,rfl,rfl,rfl,rfl,rfl,rfl,trivial⟩ ⟨rfl,trivial⟩ rfl rfl rfl,?_⟩
    exact tail 12 ⟨by omega,fun s a' b' e1 e2 hs=>g1 h s a' b' e1 e2⟩
  intro le hF r hr12
  obtain ⟨hle,hF⟩:=hF
  dsimp only
  conv=>whnf
  refine Fork.mk (fun h=>?_) (fun h=>?_)
  rotate_left
  · conv=>whnf
    rw [hwm]
    exact ⟨m+1,by omega,Shift.reset ⟨rfl,rfl,rfl,rfl,rfl,rfl,rfl,rfl,trivial⟩ ⟨rfl,trivial⟩ rfl rfl,by omega⟩
  have hr3:r < 12:=by simp at h;omega
  clear h
  have hwr:=wr_succ (i:=r) (by omega)
  have hcra:=List.getElem?_eq_getElem (show r < ra.length by omega)
  have hcrb:=List.getElem?_eq_getElem (show r < rb.length by omega)
  have hba:=(ba _ (List.getElem_mem (show r < ra.length by omega))).1
  have hbb:=(bb _ (List.getElem_mem (show r < rb.length by omega))).1
  have heq:=hF r _ _ hcra hcrb
  generalize ra[r]'(by omega)=a1 at hcra hba heq
  generalize rb[r]'(by omega)=b1 at hcrb hbb heq
  have hxa:a1[m]?=some (gA a1 m):=by rw [gA_nat];exact gN_get (by omega)
  have hxb:b1[m]?=some (gA b1 m):=by rw [gA_nat];exact gN_get (by omega)
  have w7:IntKind.i64.wrap ((K0:Int)+le)=K0+le:=wrap_in (by omega) (by omega)
  conv=>whnf
  rw [w7]
  refine Fork.mk (fun h=>?_) (fun h=>?_)
  · have hlt:(r:Int) < K0+le:=by simpa using h
    conv=>whnf
    refine Fork.mk (fun _=>?_) (fun h=>by cases h)
    conv=>whnf
    refine ⟨by omega,lwC a1,by rw [Int.toNat_natCast,List.getElem?_map,hcra];rfl,rfl,?_⟩
    conv=>whnf
    refine ⟨by omega,eI (gA a1 m),by rw [Int.toNat_natCast,List.getElem?_map,hxa];rfl,rfl,?_⟩
    conv=>whnf
    refine ⟨by omega,lwC b1,by rw [Int.toNat_natCast,List.getElem?_map,hcrb];rfl,rfl,?_⟩
    conv=>whnf
    refine ⟨by omega,eI (gA b1 m),by rw [Int.toNat_natCast,List.getElem?_map,hxb];rfl,rfl,?_⟩
    conv=>whnf
    rw [heq (.inl hlt),show decide (gA b1 m=gA b1 m)=true by simp]
    refine Fork.mk (fun h=>by cases h) (fun _=>?_)
    conv=>whnf
    rw [hwr]
    exact ⟨r+1,hr3,Shift.reset ⟨rfl,rfl,rfl,rfl,rfl,rfl,rfl,rfl,rfl,rfl,rfl,trivial⟩ ⟨rfl,trivial⟩ rfl rfl,by omega⟩
  conv=>whnf
  refine Fork.mk (fun h=>?_) (fun h=>?_)
  · have hno:th=false:=by rw [Bool.not_eq_true'] at h;exact h
    conv=>whnf
    refine ⟨by omega,lwC a1,by rw [Int.toNat_natCast,List.getElem?_map,hcra];rfl,rfl,?_⟩
    conv=>whnf
    refine ⟨by omega,eI (gA a1 m),by rw [Int.toNat_natCast,List.getElem?_map,hxa];rfl,rfl,?_⟩
    conv=>whnf
    refine ⟨by omega,lwC b1,by rw [Int.toNat_natCast,List.getElem?_map,hcrb];rfl,rfl,?_⟩
    conv=>whnf
    refine ⟨by omega,eI (gA b1 m),by rw [Int.toNat_natCast,List.getElem?_map,hxb];rfl,rfl,?_⟩
    conv=>whnf
    rw [heq (.inr hno),show decide (gA b1 m=gA b1 m)=true by simp]
    refine Fork.mk (fun h=>by cases h) (fun _=>?_)
    conv=>whnf
    rw [hwr]
    exact ⟨r+1,hr3,Shift.reset ⟨rfl,rfl,rfl,rfl,rfl,rfl,rfl,rfl,rfl,rfl,rfl,trivial⟩ ⟨rfl,trivial⟩ rfl rfl,by omega⟩
  conv=>whnf
  refine Fork.mk (fun h=>by cases h) (fun _=>?_)
  conv=>whnf
  rw [hwr]
  exact ⟨r+1,hr3,Shift.reset ⟨rfl,rfl,rfl,rfl,rfl,rfl,rfl,rfl,rfl,rfl,rfl,trivial⟩ ⟨rfl,trivial⟩ rfl rfl,by omega⟩
end Go.Proofs
