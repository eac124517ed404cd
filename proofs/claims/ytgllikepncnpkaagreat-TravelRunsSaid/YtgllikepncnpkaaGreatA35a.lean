/- Proved here: what functions of the given program come to, and the plain laws of it; no condition but those in the theorems. -/
import Derived.Test.YtgllikepncnpkaaGreatPKeep
/- The water of a cascade that a deck makes is little. No program. -/
namespace Go.Proofs
open Go Go.Abs
set_option linter.unusedSimpArgs false
set_option linter.unusedVariables false
theorem addL_get {j : Int} (hj : 0≤j) : ∀ {ls : List Lk} {cm a : Ls},cm.length = ls.length→(∀ l ∈ ls,0≤l.to∧l.to < a.length)→gA (addL ls cm a) j = gA a j + inS ls cm j
  | [],cm,a,_,_=>by rw [addL_nil];cases cm <;> simp [inS]
  | l :: ls,[],a,h,_=>by simp at h
  | l :: ls,v :: cm,a,h,hl=>by
    obtain ⟨h1,h2⟩:=hl l (by simp)
    rw [addL_cons,addL_get hj (by simpa using h) (fun y hy=>by rw [List.length_set];exact hl y (by simp [hy])),gA_set h1 (by omega) hj,inS_cons]
    by_cases e : j = l.to
    · rw [if_pos e,if_pos e.symm,← e];omega
    · rw [if_neg e,if_neg (Ne.symm e)];omega
theorem step_vol {c : Cs} {l : List Dt} (h : mkCs c l) {a b : Fl} {p : Su} {x : Pd} (h2 : mkSu c p) (h3 : stepC c a p b x) {v : Ls} {V : Int} (hv : volOk c.rv.ls a.ws v) (hvs : v.sum≤V) (hV : V≤100000000) :
    (∃ v',volOk c.rv.ls b.ws v'∧v'.sum≤V + 6100)∧∀ r ∈ x.re,0≤floR r∧floR r≤V + 7200:=by
  have hr:=h.k.r
  have hrn:=h.r.n
  have hrl:=h.r.l
  have hva:=h3.va
  have hgo:=stepC_go h3
  have hn1:=h3.n1
  have hnn : ∀ y ∈ p.inf,0≤y:=fun y hy=>(h2.r1 y hy).1
  have hsum:=sum_in (l:=p.inf) (a:=14) (by omega) (fun q hq=>by have:=h2.r1 q hq;omega)
  have hdl:=h.ln
  have hto : ∀ u ∈ c.rv.ls,0≤u.to∧u.to < p.inf.length:=fun u hu=>by have g:=hr.l u hu;have:=g.f;have:=g.o;have:=g.t;omega
  have hfl : ∀ (j : Nat) s r,c.si[j]? = some s→x.re[j]? = some r→0≤floR r∧floR r≤gA (addL c.rv.ls x.came p.inf) s.nd + 1000:=fun j s r e1 g2'=>by
    have hj:=(List.getElem?_eq_some_iff.1 e1).1
    have hd:=hva.n
    obtain ⟨z',r',g1,g2,g3,g4⟩:=h3.st j s _ e1 (List.getElem?_eq_getElem (show j < a.ds.length by omega))
    rw [g2] at g2'
    cases g2'
    have hm:=h.d j s _ e1 (List.getElem?_eq_getElem (show j < l.length by omega))
    have hc:=hm.c
    have hvv:=(validD_at g3.v0).2.1
    have hvv2:=(validD_at g3.v).2.1
    have hw:=g3.w
    have hs0:=(h.k.s s (List.mem_of_getElem? e1)).1
    rw [addL_get hs0.1 h3.lc hto]
    exact ⟨g3.q,by omega⟩
  obtain ⟨z,v',z1,z2,_,z4,z5,_⟩:=cGo_keep (B:=1000) (by omega) (xf:=addL c.rv.ls x.came p.inf) (K:=v.sum + p.inf.sum + 1000 * c.rv.ls.length) (by omega) (ls:=c.rv.ls) (ws:=a.ws) (a:=p.inf) (v:=v) (n:=c.rv.n) 0 (fun l hl=>⟨hr.l l hl,(hr.l l hl).f⟩) hr.p hn1.symm hva.w.l hva.w.f hv
    (fun y hy q hq=>by
      unfold lvF at hq
      split at hq
      · rename_i e0
        rcases snA_is c.si y.fr with ⟨e1,_⟩ | ⟨j,s,e1,e2,e3⟩
        · omega
        · rw [e3,Int.toNat_natCast,List.getElem?_map] at hq
          cases hre : x.re[j]? with
          | none=>rw [hre] at hq;cases hq
          | some r =>
            rw [hre] at hq
            cases hq
            have:=hfl j s r e1 hre
            rw [e2] at this
            exact this
      · cases hq) ⟨_,hgo⟩ hnn (by show (p.inf.drop 0).sum + v.sum + _≤_;rw [List.drop_zero];omega)
  rw [hgo] at z1
  cases z1
  refine ⟨⟨v',z2,by omega⟩,fun r hr'=>?_⟩
  obtain ⟨j,hj⟩:=List.getElem?_of_mem hr'
  have hjl:=(List.getElem?_eq_some_iff.1 hj).1
  have hlr:=h3.lr
  have e1:=List.getElem?_eq_getElem (show j < c.si.length by omega)
  have g:=hfl j _ r e1 hj
  have hz:=z5 (c.si[j]'(by omega)).nd.toNat (Nat.zero_le _)
  have hgg : gA (addL c.rv.ls x.came p.inf) (c.si[j]'(by omega)).nd = gN (addL c.rv.ls x.came p.inf) (c.si[j]'(by omega)).nd.toNat:=rfl
  rw [hgg] at g
  dsimp only at hz
  omega
theorem stepsC_vol {c : Cs} {l : List Dt} (h : mkCs c l) : ∀ {n : Nat} {w : Fl},stepsC c (fl1 c l) n w→n≤1000→∃ v,volOk c.rv.ls w.ws v∧v.sum≤6100 * n:=by
  intro n w hs
  induction hs with
  | zero =>
    intro _
    refine ⟨List.replicate c.rv.ls.length 0,⟨by simp,fun i a p x h1 h2 h3=>?_⟩,by simp⟩
    have e1 : p = []:=(List.mem_replicate.1 (List.mem_of_getElem? h2)).2
    have e2 : x = 0:=(List.mem_replicate.1 (List.mem_of_getElem? h3)).2
    rw [e1,e2]
    simp
  | @succ n a b p x h1 h2 h3 ih =>
    intro hn
    obtain ⟨v,hv,hvs⟩:=ih (by omega)
    obtain ⟨⟨v',z1,z2⟩,_⟩:=step_vol h h2 h3 hv hvs (by omega)
    refine ⟨v',z1,?_⟩
    rw [Int.natCast_add,Int.mul_add]
    simp only [Int.natCast_one]
    omega
end Go.Proofs

/- A run of a cascade: what arrives is what is told for what left its sites. No program. -/
namespace Go.Proofs
open Go Go.Abs
set_option linter.unusedSimpArgs false
set_option linter.unusedVariables false
abbrev lvX (x : Pd) : Ls:=x.re.map floR
abbrev arX (c : Cs) (p : Su) (x : Pd) : Ls:=addL c.rv.ls x.came p.inf
theorem runsC.len {c : Cs} {s : Fl} {l : List Su} {xs : List Pd} {b : Fl} (h : runsC c s l xs b) : xs.length = l.length:=by
  induction h with
  | nil=>rfl
  | snoc _ _ ih=>simp [ih]
theorem runs_fl {c : Cs} {l0 : List Dt} (hm : mkCs c l0) {n : Nat} {w : Fl} (hw : stepsC c (fl1 c l0) n w) (hn : n≤5) {l : List Su} {xs : List Pd} {b : Fl} (h : runsC c w l xs b) : (∀ p ∈ l,mkSu c p)→l.length≤400 →
    stepsC c (fl1 c l0) (n + l.length) b∧∀ lv2 loc2,flG c w.ws (xs.map lvX ++ lv2) (l.map (·.inf) ++ loc2) = preL (List.zipWith (arX c) l xs) (flG c b.ws lv2 loc2):=by
  induction h with
  | nil=>exact fun _ _=>⟨hw,fun lv2 loc2=>by simpa using preL_nil _⟩
  | @snoc l xs a b p x h1 h3 ih =>
    intro hp hl
    rw [List.length_append] at hl
    simp at hl
    obtain ⟨i1,i2⟩:=ih (fun q hq=>hp q (by simp [hq])) (by omega)
    have hpp:=hp p (by simp)
    have hlen:=h1.len
    obtain ⟨v,hv,hvs⟩:=stepsC_vol hm i1 (by omega)
    obtain ⟨_,hq⟩:=step_vol hm hpp h3 hv hvs (by omega)
    refine ⟨by rw [List.length_append,← Nat.add_assoc];exact .succ i1 hpp h3,fun lv2 loc2=>?_⟩
    have hs:=stX_ok (stepC_go h3) (by rw [List.length_map];exact h3.lr) h3.n1 (bad_no fun y hy=>by
      obtain ⟨r,hr,rfl⟩:=List.mem_map.1 hy
      have:=hq r hr
      omega) (bad_no fun y hy=>by have:=hpp.r1 y hy;omega)
    have e1 : (xs ++ [x]).map lvX ++ lv2 = xs.map lvX ++ (lvX x :: lv2):=by simp
    have e2 : (l ++ [p]).map (·.inf) ++ loc2 = l.map (·.inf) ++ (p.inf :: loc2):=by simp
    rw [e1,e2,i2,flG_ok hs,preL_app]
    congr 1
    rw [List.zipWith_append hlen.symm]
    rfl
/-- The whole run. -/
theorem runs_all {c : Cs} {l0 : List Dt} (hm : mkCs c l0) {n : Nat} {w : Fl} (hw : stepsC c (fl1 c l0) n w) (hn : n≤5) {l : List Su} {xs : List Pd} {b : Fl} (h : runsC c w l xs b) (hp : ∀ p ∈ l,mkSu c p) (hl : l.length≤400) :
    foX c w (xs.map lvX) (l.map (·.inf)) = .ok (List.zipWith (arX c) l xs):=by
  obtain ⟨_,i2⟩:=runs_fl hm hw hn h hp hl
  have hva:=hw.va hm
  have h0 : rdyE c w = 0:=by rw [rdyE,if_neg (by simp [csE_of hva.k]),if_neg (by simp [vaB_of hva])]
  have:=i2 [] []
  rw [List.append_nil,List.append_nil] at this
  rw [foX,if_neg (by simp [h0]),if_neg (by simp [h.len]),if_neg (by rw [List.length_map,h.len];omega),this]
  simp [flG,preL]
end Go.Proofs

/- What passes in a run is little. No program. -/
namespace Go.Proofs
open Go Go.Abs
set_option linter.unusedSimpArgs false
set_option linter.unusedVariables false
structure pdOk (c : Cs) (x : Pd) : Prop where
  lr : x.re.length = c.si.length
  lc : x.came.length = c.rv.ls.length
  r : ∀ r ∈ x.re,(0≤r.tur∧0≤r.spi∧0≤r.ovr)∧floR r≤100000000
  c : ∀ v ∈ x.came,0≤v∧v≤1125899906842624
theorem runs_x {c : Cs} {l0 : List Dt} (hm : mkCs c l0) {n : Nat} {w : Fl} (hw : stepsC c (fl1 c l0) n w) (hn : n≤5) {l : List Su} {xs : List Pd} {b : Fl} (h : runsC c w l xs b) : (∀ p ∈ l,mkSu c p)→l.length≤400 →
    stepsC c (fl1 c l0) (n + l.length) b∧∀ x ∈ xs,pdOk c x:=by
  induction h with
  | nil=>exact fun _ _=>⟨hw,fun x h=>by simp at h⟩
  | @snoc l xs a b p x h1 h3 ih =>
    intro hp hl
    rw [List.length_append] at hl
    simp at hl
    obtain ⟨i1,i2⟩:=ih (fun q hq=>hp q (by simp [hq])) (by omega)
    have hpp:=hp p (by simp)
    have hlen:=h1.len
    obtain ⟨v,hv,hvs⟩:=stepsC_vol hm i1 (by omega)
    obtain ⟨_,hq⟩:=step_vol hm hpp h3 hv hvs (by omega)
    refine ⟨by rw [List.length_append,← Nat.add_assoc];exact .succ i1 hpp h3,fun y hy=>?_⟩
    rcases List.mem_append.1 hy with hy | hy
    · exact i2 y hy
    · have:=List.mem_singleton.1 hy
      subst this
      refine ⟨h3.lr,h3.lc,fun r hr=>?_,h3.cb⟩
      have:=hq r hr
      obtain ⟨j,hj⟩:=List.getElem?_of_mem hr
      have hjl:=(List.getElem?_eq_some_iff.1 hj).1
      have hd:=h3.va.n
      have hlr:=h3.lr
      obtain ⟨z',r',g1,g2,g3,g4⟩:=h3.st j _ _ (List.getElem?_eq_getElem (show j < c.si.length by omega)) (List.getElem?_eq_getElem (show j < a.ds.length by omega))
      rw [hj] at g2
      cases g2
      exact ⟨g3.rs,by omega⟩
theorem addL_len : ∀ {ls : List Lk} {cm a : Ls},(addL ls cm a).length = a.length
  | [],cm,a=>by rw [addL_nil]
  | l :: ls,[],a=>rfl
  | l :: ls,v :: cm,a=>by rw [addL_cons,addL_len,List.length_set]
theorem addL_take : ∀ {ls : List Lk} {cm a : Ls} {k : Nat} {l : Lk} {v : Int},ls[k]? = some l→cm[k]? = some v→addL (ls.take (k + 1)) cm a = (addL (ls.take k) cm a).set l.to.toNat (gA (addL (ls.take k) cm a) l.to + v)
  | [],cm,a,k,l,v,h,_=>by simp at h
  | x :: ls,[],a,k,l,v,_,h=>by simp at h
  | x :: ls,y :: cm,a,0,l,v,h1,h2=>by
    simp at h1 h2
    subst h1;subst h2
    rw [List.take_succ_cons,addL_cons,List.take_zero,addL_nil,List.take_zero,addL_nil]
  | x :: ls,y :: cm,a,k + 1,l,v,h1,h2=>by
    rw [List.take_succ_cons,addL_cons,addL_take (by simpa using h1) (by simpa using h2),List.take_succ_cons,addL_cons]
theorem addL_b {ls : List Lk} {cm a : Ls} (hl : ∀ l ∈ ls,0≤l.to) (hc : ∀ v ∈ cm,0≤v∧v≤1125899906842624) (ha : ∀ j,0≤gA a j∧gA a j≤1073741824) (hn : cm.length = ls.length) : ∀ k,k≤ls.length→∀ j,0≤gA (addL (ls.take k) cm a) j∧gA (addL (ls.take k) cm a) j≤1073741824 + 1125899906842624 * k
  | 0,_,j=>by rw [List.take_zero,addL_nil];have:=ha j;omega
  | k + 1,hk,j=>by
    have ih:=addL_b hl hc ha hn k (by omega)
    have e1:=List.getElem?_eq_getElem (show k < ls.length by omega)
    have e2:=List.getElem?_eq_getElem (show k < cm.length by omega)
    have h1:=hl _ (List.mem_of_getElem? e1)
    have h2:=hc _ (List.mem_of_getElem? e2)
    rw [addL_take e1 e2]
    rcases gA_setT (a:=addL (ls.take k) cm a) (j:=j) (v:=gA (addL (ls.take k) cm a) ls[k].to + cm[k]) h1 with e | e
    · rw [e];have:=ih j;omega
    · rw [e];have:=ih ls[k].to;omega
end Go.Proofs

namespace Go.Proofs
open Go Go.Abs
set_option linter.unusedSimpArgs false
set_option linter.unusedVariables false
set_option maxRecDepth 40000
def R_l34 : RT:=fun args k=>∃ l : Ls,args = [.c (.lst (eL l))]∧l.length≤9223372036854775807∧k (Bo true)
set_option maxHeartbeats 4000000 in
theorem truns_ok : FunR Tryz.prog 3 R_l34:=by
  intro args k h
  obtain ⟨l,rfl,hl,hk⟩:=h
  refine does_ex (qc:=qc1) (np:=[(7,[(1,3)]),(21,[(2,7),(2,9),(2,10),(3,7),(3,9),(3,10)])]) (CK:=ckK [(9,cSc R_tt),(10,cSc R_few),(11,cN R_new),(12,cB R_mkRi),(14,cB R_next),(13,cB R_mkSus),(15,cPu R_rn23),(16,cSc R_dfl),(17,cPu R_fo),(18,cSc R_sameL)]) mixed Tryz.func3 rfl rfl Tryz.ntmps3 Tryz.results3 τ_ok (by kernel_rfl) (ckK_ok ⟨cSc_ok sane_ok,cSc_ok few_ok,cN_ok new_ok rfl,cB_ok mkRi_ok rfl,cB_ok next_ok rfl,cB_ok mkSus_ok rfl,cPu_ok rn23_ok rfl,cSc_ok dfl_ok,cPu_ok follow_ok rfl,cSc_ok sameL_ok,trivial⟩) (by simp) ?_
  conv=>whnf
  refine ⟨rfl,?_⟩
  conv=>whnf
  refine Fork.mk (fun h=>by cases h) (fun _=>?_)
  conv=>whnf
  refine ⟨l,rfl,?_⟩
  conv=>whnf
  refine Fork.mk (fun h=>?_) (fun h=>?_)
  · conv=>whnf
    exact hk
  clear h
  conv=>whnf
  refine ⟨l,rfl,?_⟩
  conv=>whnf
  refine ⟨⟨l,0⟩,rfl,rfl,⟨Nat.zero_le _,hl⟩,fun c ds0 w n d hd hm hn hw=>?_⟩
  have hva:=hw.va hm
  have hcf:=hm.fin
  conv=>whnf
  refine ⟨d,rfl,hd,by omega,fun v d hd hv0 hv=>?_⟩
  obtain ⟨V,rfl⟩:=Int.eq_ofNat_of_zero_le hv0
  have e1 : IntKind.i64.wrap (1 + (V : Int)) = ((1 + V : Nat) : Int):=by rw [wrap_in (by omega) (by omega)];simp
  conv=>whnf
  rw [e1]
  refine ⟨d,c,1 + V,rfl,rfl,hd,by omega,⟨hm.k.r.n.1,hm.k.n⟩,hm.k.m,fun su d hd hsl hsm=>?_⟩
  conv=>whnf
  refine ⟨c,w,su,rfl,hcf,vaB_fin (vaB_of hva),by omega,fun p hp=>by have h:=hsm p hp;have:=h.n1;have:=h.n2;have:=h.n3;have:=hm.k.n;have:=hm.k.m;omega,fun s' xs e hxl hrun=>?_⟩
  conv=>whnf
  refine Fork.mk (fun h=>?_) (fun h=>?_)
  · conv=>whnf
    exact hk
  have h0 : e = 0:=by simpa using h
  clear h
  subst h0
  obtain ⟨_,hrun⟩:=hrun rfl
  have hlx:=hrun.len
  obtain ⟨_,hpd⟩:=runs_x hm hw hn hrun hsm (by omega)
  have hfo:=runs_all hm hw hn hrun hsm (by omega)
  have hrl:=hm.k.r.len
  have hcn:=hm.k.n
  have hcm:=hm.k.m
  have hmk:=eK_len c.rv.ls
  have hmp:=ePd_len xs
  have hms:=eSu_len su
  clear hrun
  conv=>whnf
  refine ⟨Nat,fun i=>([(4,.c (.ptr (.l 4 1) 0)),(5,.c (.ptr (.l 5 2) 0)),(6,.c (.lst (eSu su))),(10,.c (.view (.l 74 4) 0 i)),(11,.c (.view (.l 82 5) 0 i)),(12,.c (.view (.l 114 6) 0 i)),(51,.c (.lst (ePd xs))),(52,I (ePd xs).length),(53,I i)],
      ⟨[(.l 4 1,.blk (csC c)),(.l 5 2,.blk (flC w)),(.l 74 4,.arr 22 1 (eLw ((xs.map lvX).take i)) false),(.l 82 5,.arr 22 1 (eLw ((su.map (·.inf)).take i)) false),(.l 114 6,.arr 22 1 (eLw ((List.zipWith (arX c) su xs).take i)) false)],9,[]⟩),
    fun i=>i≤xs.length,fun i=>xs.length - i,0,Nat.zero_le _,Shift.trans (Shift.rename [] ⟨rfl,rfl,rfl,rfl,rfl,rfl,rfl,rfl,rfl,trivial⟩ ⟨rfl,rfl,rfl,rfl,rfl,trivial⟩ rfl rfl rfl) (Shift.trans (Shift.nilArr (t:=12) rfl 114 22 1) (Shift.trans (Shift.nilArr (t:=11) rfl 82 22 1) (Shift.nilArr (t:=10) rfl 74 22 1))),fun i hi=>?_⟩
  dsimp only
  have hL1 : (eLw ((xs.map lvX).take i)).length = i:=by rw [eLw_len,List.length_take,List.length_map];omega
  have hL2 : (eLw ((su.map (·.inf)).take i)).length = i:=by rw [eLw_len,List.length_take,List.length_map];omega
  have hL3 : (eLw ((List.zipWith (arX c) su xs).take i)).length = i:=by rw [eLw_len,List.length_take,List.length_zipWith];omega
  conv=>whnf
  refine Fork.mk (fun h=>?_) (fun h=>?_)
  rotate_left
  · have hie : i = xs.length:=by simp at h;omega
    clear h
    have f1 : (xs.map lvX).take i = xs.map lvX:=List.take_of_length_le (by rw [List.length_map];omega)
    have f2 : (su.map (·.inf)).take i = su.map (·.inf):=List.take_of_length_le (by rw [List.length_map];omega)
    have f3 : (List.zipWith (arX c) su xs).take i = List.zipWith (arX c) su xs:=List.take_of_length_le (by rw [List.length_zipWith];omega)
    rw [f1] at hL1
    rw [f2] at hL2
    rw [f3] at hL3
    have g1 : List.take i (List.drop 0 (eLw (xs.map lvX))) = eLw (xs.map lvX):=by rw [List.drop_zero,List.take_of_length_le (by omega)]
    have g2 : List.take i (List.drop 0 (eLw (su.map (·.inf)))) = eLw (su.map (·.inf)):=by rw [List.drop_zero,List.take_of_length_le (by omega)]
    have g3 : List.take i (List.drop 0 (eLw (List.zipWith (arX c) su xs))) = eLw (List.zipWith (arX c) su xs):=by rw [List.drop_zero,List.take_of_length_le (by omega)]
    rw [f1,f2,f3]
    conv=>whnf
    refine ⟨by omega,?_⟩
    conv=>whnf
    refine ⟨by omega,?_⟩
    conv=>whnf
    rw [g1,g2]
    refine ⟨c,w,xs.map lvX,su.map (·.inf),rfl,hcf,vaB_fin (vaB_of hva),⟨by rw [List.length_map];omega,fun q hq=>?_⟩,⟨by rw [List.length_map];omega,fun q hq=>?_⟩,?_⟩
    · obtain ⟨x,hx,rfl⟩:=List.mem_map.1 hq
      have:=(hpd x hx).lr
      rw [List.length_map]
      omega
    · obtain ⟨x,hx,rfl⟩:=List.mem_map.1 hq
      have:=(hsm x hx).n1
      omega
    rw [hfo]
    conv=>whnf
    refine Fork.mk (fun _=>?_) (fun h=>absurd h (by decide))
    conv=>whnf
    refine ⟨by omega,?_⟩
    conv=>whnf
    rw [g3]
    refine ⟨List.zipWith (arX c) su xs,List.zipWith (arX c) su xs,rfl,⟨by rw [List.length_zipWith];omega,fun q hq=>?_⟩,?_⟩
    · obtain ⟨j,hj⟩:=List.getElem?_of_mem hq
      rw [List.getElem?_zipWith] at hj
      split at hj
      · rename_i p x hp hx
        cases hj
        have:=(hsm p (List.mem_of_getElem? hp)).n1
        rw [arX,addL_len]
        omega
      · cases hj
    · conv=>whnf
      rw [show decide (List.zipWith (arX c) su xs = List.zipWith (arX c) su xs) = true by simp]
      exact hk
  have hi2 : i < xs.length:=by simp at h;omega
  clear h
  have hwi:=wr_succ (i:=i) (by omega)
  have hcx:=List.getElem?_eq_getElem hi2
  have hxo:=hpd _ (List.getElem_mem hi2)
  have hcp:=List.getElem?_eq_getElem (show i < su.length by omega)
  have hpo:=hsm _ (List.getElem_mem (show i < su.length by omega))
  have hc1 : (xs.map lvX)[i]? = some (lvX xs[i]):=by rw [List.getElem?_map,hcx];rfl
  have hc2 : (su.map (·.inf))[i]? = some (su[i]'(by omega)).inf:=by rw [List.getElem?_map,hcp];rfl
  have hc3 : (List.zipWith (arX c) su xs)[i]? = some (arX c (su[i]'(by omega)) xs[i]):=by rw [List.getElem?_zipWith,hcx,hcp]
  generalize xs[i] = x at hcx hxo hc1 hc3
  generalize su[i]'(by omega) = p at hcp hpo hc2 hc3
  have ht1:=tk_snoc hc1
  have ht2:=tk_snoc hc2
  have ht3:=tk_snoc hc3
  have hmr : (eRc x.re).length = x.re.length:=eRc_len _
  have hlr:=hxo.lr
  conv=>whnf
  refine ⟨by omega,pdC x,by rw [Int.toNat_natCast,List.getElem?_map,hcx];rfl,rfl,?_⟩
  conv=>whnf
  refine ⟨Nat,fun j=>([(4,.c (.ptr (.l 4 1) 0)),(5,.c (.ptr (.l 5 2) 0)),(6,.c (.lst (eSu su))),(10,.c (.view (.l 74 4) 0 i)),(11,.c (.view (.l 82 5) 0 i)),(12,.c (.view (.l 114 6) 0 i)),(13,I i),(14,.c (.ptr (.l 14 9) 0)),(15,.c (.view (.l 69 10) 0 j)),(51,.c (.lst (ePd xs))),(52,I (ePd xs).length),(53,I i),(59,.c (.lst (eRc x.re))),(60,I (eRc x.re).length),(61,I j)],
      ⟨[(.l 4 1,.blk (csC c)),(.l 5 2,.blk (flC w)),(.l 74 4,.arr 22 1 (eLw ((xs.map lvX).take i)) false),(.l 82 5,.arr 22 1 (eLw ((su.map (·.inf)).take i)) false),(.l 114 6,.arr 22 1 (eLw ((List.zipWith (arX c) su xs).take i)) false),(.l 14 9,.blk (pdC x)),(.l 69 10,.arr 3 1 (eL ((lvX x).take j)) false)],20,[]⟩),
    fun j=>j≤x.re.length,fun j=>x.re.length - j,0,Nat.zero_le _,Shift.trans (Shift.rename [] ⟨rfl,rfl,rfl,rfl,rfl,rfl,rfl,rfl,rfl,rfl,rfl,rfl,rfl,rfl,rfl,trivial⟩ ⟨rfl,rfl,rfl,rfl,rfl,rfl,rfl,trivial⟩ rfl rfl rfl) (Shift.nilArr (t:=15) rfl 69 3 1),fun j hj=>?_⟩
  dsimp only
  have hmj : (eL ((lvX x).take j)).length = j:=by rw [eL_len,List.length_take,List.length_map];omega
  conv=>whnf
  refine Fork.mk (fun h=>?_) (fun h=>?_)
  · have hj2 : j < x.re.length:=by simp at h;omega
    clear h
    have hwj:=wr_succ (i:=j) (by omega)
    have hcj:=List.getElem?_eq_getElem hj2
    have hro:=hxo.r _ (List.getElem_mem hj2)
    have hc4 : (lvX x)[j]? = some (floR x.re[j]):=by rw [lvX,List.getElem?_map,hcj];rfl
    generalize x.re[j] = r at hcj hro hc4
    have ht4:=tk_snoc hc4
    conv=>whnf
    refine ⟨by omega,rcC r,by rw [Int.toNat_natCast,List.getElem?_map,hcj];rfl,rfl,?_⟩
    conv=>whnf
    refine ⟨r,rfl,hro.1,by omega,?_⟩
    conv=>whnf
    refine ⟨by simp,?_⟩
    conv=>whnf
    refine ⟨rfl,?_⟩
    conv=>whnf
    refine ⟨⟨rfl,rfl,rfl,hmj.symm,by rw [hmj];simp;omega⟩,?_⟩
    conv=>whnf
    rw [hwj]
    refine ⟨j + 1,hj2,Shift.rename [(.l 69 10,.l 69 22)] ⟨rfl,rfl,rfl,rfl,rfl,rfl,rfl,rfl,?_,rfl,rfl,rfl,rfl,rfl,rfl,trivial⟩ ⟨rfl,rfl,rfl,rfl,rfl,rfl,?_,trivial⟩ rfl rfl rfl,by omega⟩
    · dsimp only;rw [show j + 1 = (eL ((lvX x).take j)).length + 1 by rw [hmj]];rfl
    · dsimp only;rw [ht4,← eL_snoc];rfl
  have hje : j = x.re.length:=by simp at h;omega
  clear h
  have hf4 : (lvX x).take j = lvX x:=List.take_of_length_le (by rw [List.length_map];omega)
  rw [hf4] at hmj
  rw [hf4]
  conv=>whnf
  have hj4 : List.take j (List.drop 0 (eL (lvX x))) = eL (lvX x):=by rw [List.drop_zero,List.take_of_length_le (by omega)]
  refine ⟨by omega,?_⟩
  conv=>whnf
  rw [hj4]
  refine ⟨by simp,?_⟩
  conv=>whnf
  refine ⟨rfl,?_⟩
  conv=>whnf
  refine ⟨⟨rfl,rfl,rfl,hL1.symm,by rw [hL1];simp;omega⟩,?_⟩
  conv=>whnf
  refine ⟨by omega,suC p,by rw [Int.toNat_natCast,List.getElem?_map,hcp];rfl,rfl,?_⟩
  conv=>whnf
  refine ⟨by simp,?_⟩
  conv=>whnf
  refine ⟨rfl,?_⟩
  conv=>whnf
  refine ⟨⟨rfl,rfl,rfl,hL2.symm,by rw [hL2];simp;omega⟩,?_⟩
  conv=>whnf
  refine ⟨by omega,suC p,by rw [Int.toNat_natCast,List.getElem?_map,hcp];rfl,rfl,?_⟩
  conv=>whnf
  refine ⟨eL_all _,?_⟩
  conv=>whnf
  have hmi:=eL_len p.inf
  have hpn:=hpo.n1
  have hrr:=hm.k.r
  have hlc:=hxo.lc
  refine ⟨by rw [hmi];simp;omega,?_⟩
  conv=>whnf
  refine ⟨Nat,fun m=>([(4,.c (.ptr (.l 4 1) 0)),(5,.c (.ptr (.l 5 2) 0)),(6,.c (.lst (eSu su))),(10,.c (.view (.l 74 4) 0 (i + 1))),(11,.c (.view (.l 82 5) 0 (i + 1))),(12,.c (.view (.l 114 6) 0 i)),(14,.c (.ptr (.l 14 9) 0)),(18,.c (.view (.l 88 21) 0 p.inf.length)),(51,.c (.lst (ePd xs))),(52,I (ePd xs).length),(53,I i),(91,.c (.lst (eK c.rv.ls))),(92,I (eK c.rv.ls).length),(93,I m)],
      ⟨[(.l 4 1,.blk (csC c)),(.l 5 2,.blk (flC w)),(.l 74 4,.arr 22 1 (eLw ((xs.map lvX).take (i + 1))) false),(.l 82 5,.arr 22 1 (eLw ((su.map (·.inf)).take (i + 1))) false),(.l 114 6,.arr 22 1 (eLw ((List.zipWith (arX c) su xs).take i)) false),(.l 14 9,.blk (pdC x)),(.l 88 21,.arr 3 1 (eL (addL (c.rv.ls.take m) x.came p.inf)) false)],30,[]⟩),
    fun m=>m≤c.rv.ls.length,fun m=>c.rv.ls.length - m,0,Nat.zero_le _,Shift.rename [(.l 74 4,.l 74 20),(.l 82 5,.l 82 20)] ⟨rfl,rfl,rfl,?_,?_,rfl,rfl,?_,rfl,rfl,rfl,rfl,rfl,rfl,trivial⟩ ⟨rfl,rfl,?_,?_,rfl,rfl,?_,trivial⟩ rfl rfl rfl,fun m hm2=>?_⟩
  · dsimp only;rw [show i + 1 = (eLw ((xs.map lvX).take i)).length + 1 by rw [hL1]];rfl
  · dsimp only;rw [show i + 1 = (eLw ((su.map (·.inf)).take i)).length + 1 by rw [hL2]];rfl
  · dsimp only;rw [← hmi];rfl
  · dsimp only;rw [ht1];rw [show eLw ((xs.map lvX).take i ++ [lvX x]) = eLw ((xs.map lvX).take i) ++ [lwC (lvX x)] from List.map_append];rfl
  · dsimp only;rw [ht2];rw [show eLw ((su.map (·.inf)).take i ++ [p.inf]) = eLw ((su.map (·.inf)).take i) ++ [lwC p.inf] from List.map_append];rfl
  · dsimp only;rw [List.take_zero,addL_nil];rfl
  dsimp only
  have hll:=addL_len (ls:=c.rv.ls.take m) (cm:=x.came) (a:=p.inf)
  have hma:=eL_len (addL (c.rv.ls.take m) x.came p.inf)
  conv=>whnf
  refine Fork.mk (fun h=>?_) (fun h=>?_)
  rotate_left
  · have hme : m = c.rv.ls.length:=by simp at h;omega
    clear h
    subst hme
    rw [List.take_length] at hll hma
    rw [List.take_length]
    have hrow : List.take p.inf.length (List.drop 0 (eL (addL c.rv.ls x.came p.inf))) = eL (arX c p x):=by rw [List.drop_zero,List.take_of_length_le (by omega)]
    conv=>whnf
    refine ⟨by omega,?_⟩
    conv=>whnf
    rw [hrow]
    refine ⟨by simp,?_⟩
    conv=>whnf
    refine ⟨rfl,?_⟩
    conv=>whnf
    refine ⟨⟨rfl,rfl,rfl,hL3.symm,by rw [hL3];simp;omega⟩,?_⟩
    conv=>whnf
    rw [hwi]
    refine ⟨i + 1,hi2,Shift.rename [(.l 114 6,.l 114 31)] ⟨rfl,rfl,rfl,rfl,rfl,?_,rfl,rfl,rfl,trivial⟩ ⟨rfl,rfl,rfl,rfl,?_,trivial⟩ rfl rfl rfl,by omega⟩
    · dsimp only;rw [show i + 1 = (eLw ((List.zipWith (arX c) su xs).take i)).length + 1 by rw [hL3]];rfl
    · dsimp only;rw [ht3];rw [show eLw ((List.zipWith (arX c) su xs).take i ++ [arX c p x]) = eLw ((List.zipWith (arX c) su xs).take i) ++ [lwC (arX c p x)] from List.map_append];rfl
  have hm3 : m < c.rv.ls.length:=by simp at h;omega
  clear h
  have hwm:=wr_succ (i:=m) (by omega)
  have hcl:=List.getElem?_eq_getElem hm3
  have hlk:=hrr.l _ (List.getElem_mem hm3)
  have hcv:=List.getElem?_eq_getElem (show m < x.came.length by omega)
  have hvb:=hxo.c _ (List.getElem_mem (show m < x.came.length by omega))
  generalize c.rv.ls[m] = L at hcl hlk
  generalize x.came[m]'(by omega) = v at hcv hvb
  have hab:=addL_b (ls:=c.rv.ls) (cm:=x.came) (a:=p.inf) (fun y hy=>by have g:=hrr.l y hy;have:=g.f;have:=g.o;omega) hxo.c (gA_b (by omega) fun y hy=>by have:=hpo.r1 y hy;omega) hlc m hm2 L.to
  have hat:=addL_take (a:=p.inf) hcl hcv
  have k1:=hlk.f
  have k2:=hlk.o
  have k3:=hlk.t
  generalize addL (c.rv.ls.take m) x.came p.inf = A at hll hma hab hat
  have hwv : IntKind.i64.wrap (gA A L.to + v) = gA A L.to + v:=wrap_in (by omega) (by omega)
  conv=>whnf
  refine ⟨by omega,lkC L,by rw [Int.toNat_natCast,List.getElem?_map,hcl];rfl,rfl,?_⟩
  conv=>whnf
  have hcell : (eL A)[0 + L.to.toNat]? = some (eI (gA A L.to)):=by
    obtain ⟨J,hJ⟩:=Int.eq_ofNat_of_zero_le (show 0≤L.to by omega)
    have : A[J]? = some (gA A J):=by rw [gA_nat];exact gN_get (by omega)
    rw [hJ,Nat.zero_add,Int.toNat_natCast,List.getElem?_map,this];rfl
  refine ⟨by omega,rfl,?_⟩
  conv=>whnf
  refine ⟨eI (gA A L.to),hcell,?_⟩
  conv=>whnf
  refine ⟨by omega,eI v,by rw [Int.toNat_natCast,List.getElem?_map,hcv];rfl,rfl,?_⟩
  conv=>whnf
  rw [hwv]
  refine ⟨by omega,rfl,?_⟩
  conv=>whnf
  refine ⟨eI (gA A L.to),hcell,Nat.le_refl _,?_⟩
  conv=>whnf
  rw [hwm]
  have q4 : (eL A).set (0 + L.to.toNat) (eI (gA A L.to + v)) = eL (A.set L.to.toNat (gA A L.to + v)):=by rw [Nat.zero_add,eL_set]
  refine ⟨m + 1,hm3,Shift.reset ⟨rfl,rfl,rfl,rfl,rfl,rfl,rfl,rfl,rfl,rfl,rfl,rfl,rfl,rfl,trivial⟩ ⟨rfl,rfl,rfl,rfl,rfl,rfl,?_,trivial⟩ rfl rfl,by omega⟩
  dsimp only;rw [hat,← q4];rfl
end Go.Proofs
