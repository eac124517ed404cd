/- Proved here: what functions of the given program come to, and the plain laws of it; no condition but those in the theorems. -/
import Derived.Test.YtgllikepncnpkaaGreatPMore
/- With more water never less has come up to any step: whole runs. No program. -/
namespace Go.Proofs
open Go Go.Abs
set_option linter.unusedSimpArgs false
set_option linter.unusedVariables false
/-- The same, with what the numbers are at most. -/
theorem fl_small2 {c : Cs} (hc : CsOk c) {B g : Int} (hB : 0≤B∧B≤1000000) (hg : 0≤g) : ∀ {lvs locs w : List Ls} {v : Ls} {K : Int},WvOk c.rv w→volOk c.rv.ls w v→lvs.length = locs.length →
    (∀ l ∈ lvs,l.length = c.si.length∧∀ x ∈ l,0≤x∧x≤B)→(∀ m ∈ locs,(m.length : Int) = c.rv.n∧(∀ x ∈ m,0≤x)∧m.sum≤g)→v.sum + (g + B * c.rv.ls.length) * lvs.length≤K→K≤1000000000 →
    ∃ r,flG c w lvs locs = .ok r∧r.length = lvs.length∧∀ a ∈ r,(a.length : Int) = c.rv.n∧∀ y ∈ a,0≤y∧y≤K
  | [],[],w,v,K,_,_,_,_,_,_,_=>⟨[],rfl,rfl,fun a h=>by simp at h⟩
  | [],_ :: _,_,_,_,_,_,h,_,_,_,_=>by simp at h
  | _ :: _,[],_,_,_,_,_,h,_,_,_,_=>by simp at h
  | l :: lvs,m :: locs,w,v,K,hw,hv,hn,h1,h2,hK,hK2=>by
    have hr:=hc.r
    obtain ⟨a1,a2⟩:=h1 l (by simp)
    obtain ⟨b1,b2,b3⟩:=h2 m (by simp)
    have hv0:=vol_nn hv hw.l
    have hBl : 0≤B * (c.rv.ls.length : Int):=Int.mul_nonneg hB.1 (by omega)
    rw [List.length_cons,Int.natCast_add,Int.mul_add] at hK
    have hG : 0≤(g + B * (c.rv.ls.length : Int)) * (lvs.length : Int):=Int.mul_nonneg (by omega) (by omega)
    simp only [Int.natCast_one,Int.mul_one] at hK
    obtain ⟨x,v',z1,z2,z3,z4,z5,z6⟩:=cGo_small (lv:=lvF c.si l) hB.1 (lvF_b a2) (K:=v.sum + m.sum + B * c.rv.ls.length) (by omega) (n:=c.rv.n) 0 (fun l hl=>⟨hr.l l hl,(hr.l l hl).f⟩) hr.p b1.symm hw.l hw.f hv b2 (by show (m.drop 0).sum + v.sum + _≤_;rw [List.drop_zero];omega)
    have hs:=stX_ok z1 a1 b1 (bad_no fun y hy=>by have:=a2 y hy;omega) (bad_no fun y hy=>by have:=(sum_nn b2).2 y hy;have:=b2 y hy;omega)
    obtain ⟨f1,f2,_⟩:=stX_fit hr hw hs
    obtain ⟨r,r1,r2,r3⟩:=fl_small2 hc hB hg (K:=K) f1 z2 (by simpa using hn) (fun y hy=>h1 y (by simp [hy])) (fun y hy=>h2 y (by simp [hy])) (by omega) hK2
    refine ⟨x.2 :: r,by rw [flG_ok hs,r1];rfl,by simp [r2],fun a ha=>?_⟩
    rcases List.mem_cons.1 ha with rfl | ha
    · refine ⟨by rw [f2];exact b1,fun y hy=>⟨z3 y hy,?_⟩⟩
      obtain ⟨i,hi⟩:=List.getElem?_of_mem hy
      have:=z5 i (Nat.zero_le _)
      unfold gN at this
      rw [List.getD_eq_getElem?_getD,hi,Option.getD_some] at this
      omega
    · exact r3 a ha
theorem stX_go {c : Cs} {ws : List Ls} {lv loc : Ls} {x : List Ls × Ls} (h : stX c ws lv loc = .ok x) : cGo (lvF c.si lv) c.rv.ls ws loc = some x∧lv.length = c.si.length∧(loc.length : Int) = c.rv.n:=by
  unfold stX at h
  split at h
  · cases h
  split at h
  · cases h
  split at h
  · cases h
  split at h
  · cases h
  split at h
  · cases h
  · rename_i e
    cases h
    exact ⟨e,by omega,by omega⟩
def leq (a b : Ls) : Prop:=a.length = b.length∧∀ (i : Nat) x y,a[i]? = some x→b[i]? = some y→x≤y
def leQ : List Ls→List Ls→Prop
  | a :: r,b :: t=>leq a b∧leQ r t
  | [],[]=>True
  | _,_=>False
/-- What has come more to a node in the first k steps. -/
def cumF : List Ls→List Ls→Nat→Int→Int
  | a :: r,b :: t,k + 1,j=>(gA b j - gA a j) + cumF r t k j
  | _,_,_,_=>0
theorem cumF_zero (r t : List Ls) (j : Int) : cumF r t 0 j = 0:=by cases r <;> cases t <;> rfl
theorem cumF_succ {j : Int} : ∀ {r t : List Ls} {k : Nat} {a b : Ls},r[k]? = some a→t[k]? = some b→cumF r t (k + 1) j = cumF r t k j + (gA b j - gA a j)
  | [],t,k,a,b,h,_=>by simp at h
  | x :: r,[],k,a,b,_,h=>by simp at h
  | x :: r,y :: t,0,a,b,h1,h2=>by
    simp at h1 h2
    subst h1;subst h2
    rw [cumF,cumF_zero,cumF_zero]
    omega
  | x :: r,y :: t,k + 1,a,b,h1,h2=>by
    rw [cumF,cumF_succ (by simpa using h1) (by simpa using h2),cumF]
    omega
theorem leq_gA {a b : Ls} (h : leq a b) (j : Int) : 0≤gA b j - gA a j:=by
  unfold gA
  rw [List.getD_eq_getElem?_getD,List.getD_eq_getElem?_getD]
  have hl:=h.1
  by_cases hj : j.toNat < a.length
  · have e1:=List.getElem?_eq_getElem hj
    have e2:=List.getElem?_eq_getElem (show j.toNat < b.length by omega)
    have:=h.2 _ _ _ e1 e2
    rw [e1,e2]
    simp
    omega
  · rw [List.getElem?_eq_none (by omega),List.getElem?_eq_none (by omega)]
    simp
/-- What has left the sites more. -/
def siteC (c : Cs) (cl : Int→Option Int) : Prop:=∀ x,if 0≤snA c.si x then ∃ q,cl x = some q∧0≤q else cl x = none
theorem siteC_next {c : Cs} {cl : Int→Option Int} (h : siteC c cl) {l m : Ls} (hl : l.length = c.si.length) (hlm : leq l m) : ∃ cm,clR cl (lvF c.si l) (lvF c.si m) cm∧siteC c cm:=by
  refine ⟨fun x=>match cl x,lvF c.si l x,lvF c.si m x with
    | some c,some q,some r=>some (c + (r - q))
    | _,_,_=>none,fun x=>?_,fun x=>?_⟩
  · have hx:=h x
    by_cases hs : 0≤snA c.si x
    · rw [if_pos hs] at hx
      obtain ⟨q0,e0,h0⟩:=hx
      have hlt : (snA c.si x).toNat < l.length:=by
        rcases snGo_is (x:=x) (l:=c.si) (i:=0) with ⟨h1,_⟩ | ⟨j,s,h1,_,h3⟩
        · unfold snA at hs;omega
        · have:=(List.getElem?_eq_some_iff.1 h1).1
          unfold snA
          omega
      have e1:=List.getElem?_eq_getElem hlt
      have e2:=List.getElem?_eq_getElem (show (snA c.si x).toNat < m.length by have:=hlm.1;omega)
      have hle:=hlm.2 _ _ _ e1 e2
      have f1 : lvF c.si l x = some (l[(snA c.si x).toNat]'hlt):=by unfold lvF;rw [if_pos hs];exact e1
      have f2 : lvF c.si m x = some (m[(snA c.si x).toNat]'(by have:=hlm.1;omega)):=by unfold lvF;rw [if_pos hs];exact e2
      exact .inr ⟨_,_,_,e0,f1,f2,by simp only [e0,f1,f2],by omega⟩
    · rw [if_neg hs] at hx
      have f1 : lvF c.si l x = none:=by unfold lvF;rw [if_neg hs]
      have f2 : lvF c.si m x = none:=by unfold lvF;rw [if_neg hs]
      exact .inl ⟨hx,f1,f2,by simp only [hx]⟩
  · have hx:=h x
    by_cases hs : 0≤snA c.si x
    · rw [if_pos hs] at hx ⊢
      obtain ⟨q0,e0,h0⟩:=hx
      have hlt : (snA c.si x).toNat < l.length:=by
        rcases snGo_is (x:=x) (l:=c.si) (i:=0) with ⟨h1,_⟩ | ⟨j,s,h1,_,h3⟩
        · unfold snA at hs;omega
        · have:=(List.getElem?_eq_some_iff.1 h1).1
          unfold snA
          omega
      have e1:=List.getElem?_eq_getElem hlt
      have e2:=List.getElem?_eq_getElem (show (snA c.si x).toNat < m.length by have:=hlm.1;omega)
      have hle:=hlm.2 _ _ _ e1 e2
      have f1 : lvF c.si l x = some (l[(snA c.si x).toNat]'hlt):=by unfold lvF;rw [if_pos hs];exact e1
      have f2 : lvF c.si m x = some (m[(snA c.si x).toNat]'(by have:=hlm.1;omega)):=by unfold lvF;rw [if_pos hs];exact e2
      exact ⟨q0 + (m[(snA c.si x).toNat]'(by have:=hlm.1;omega) - l[(snA c.si x).toNat]'hlt),by simp only [e0,f1,f2],by omega⟩
    · rw [if_neg hs] at hx ⊢
      simp only [hx]
theorem flG_more {c : Cs} (hc : CsOk c) : ∀ {lvs mvs locs nocs ws vs : List Ls} {r t : List Ls} {cl : Int→Option Int} {P F : Int→Int},leQ lvs mvs→leQ locs nocs→siteC c cl→ML cl c.rv.ls ws vs P F→(∀ j,0≤P j)→(∀ j,0≤F j) →
    flG c ws lvs locs = .ok r→flG c vs mvs nocs = .ok t→∀ k j,0≤F j + cumF r t k j
  | [],mvs,locs,nocs,ws,vs,r,t,cl,P,F,h1,h2,hs,hM,hP,hF,e1,e2=>by
    intro k j
    have : r = []:=by unfold flG at e1;cases e1;rfl
    subst this
    have:=hF j
    unfold cumF
    omega
  | l :: lvs,[],locs,nocs,ws,vs,r,t,cl,P,F,h1,h2,hs,hM,hP,hF,e1,e2=>h1.elim
  | l :: lvs,m :: mvs,[],nocs,ws,vs,r,t,cl,P,F,h1,h2,hs,hM,hP,hF,e1,e2=>by
    intro k j
    have : r = []:=by unfold flG at e1;cases e1;rfl
    subst this
    have:=hF j
    unfold cumF
    omega
  | l :: lvs,m :: mvs,p :: locs,[],ws,vs,r,t,cl,P,F,h1,h2,hs,hM,hP,hF,e1,e2=>h2.elim
  | l :: lvs,m :: mvs,p :: locs,q :: nocs,ws,vs,r,t,cl,P,F,h1,h2,hs,hM,hP,hF,e1,e2=>by
    intro k j
    obtain ⟨hlm,h1⟩:=h1
    obtain ⟨hpq,h2⟩:=h2
    unfold flG at e1 e2
    cases s1 : stX c ws l p with
    | error e=>rw [s1] at e1;cases e1
    | ok x =>
    cases s2 : stX c vs m q with
    | error e=>rw [s2] at e2;cases e2
    | ok y =>
    rw [s1] at e1
    rw [s2] at e2
    dsimp only at e1 e2
    cases r1 : flG c x.1 lvs locs with
    | error e=>rw [r1] at e1;cases e1
    | ok a =>
    cases r2 : flG c y.1 mvs nocs with
    | error e=>rw [r2] at e2;cases e2
    | ok b =>
    rw [r1] at e1
    rw [r2] at e2
    cases e1
    cases e2
    obtain ⟨g1,g2,g3⟩:=stX_go s1
    obtain ⟨k1,k2,k3⟩:=stX_go s2
    obtain ⟨cm,c1,c2⟩:=siteC_next hs g2 hlm
    have hP2 : ∀ j,0≤P j + (gA q j - gA p j):=fun j=>by have:=hP j;have:=leq_gA hpq j;omega
    obtain ⟨i1,i2⟩:=ml_step c1 hc.r.l g3.symm k3.symm hM hP2 g1 k1
    have ih:=flG_more hc h1 h2 c2 i1 hP2 i2 r1 r2
    cases k with
    | zero =>
      rw [cumF_zero]
      have:=hF j
      omega
    | succ k =>
      rw [cumF]
      have:=ih k j
      omega
/-- From the same waves. -/
theorem fo_more {c : Cs} (hc : CsOk c) {ws : List Ls} (hw : WvOk c.rv ws) {lvs mvs locs nocs r t : List Ls} (h1 : leQ lvs mvs) (h2 : leQ locs nocs) (e1 : flG c ws lvs locs = .ok r) (e2 : flG c ws mvs nocs = .ok t) (k : Nat) (j : Int) : 0≤cumF r t k j:=by
  have hM:=ML_refl (cl:=fun x=>if 0≤snA c.si x then some 0 else none) (fun x q h=>by
    split at h
    · cases h;rfl
    · cases h) hw.l (fun i l w a b=>(fits_facts (hw.f i l w a b)).1)
  have:=flG_more hc h1 h2 (cl:=fun x=>if 0≤snA c.si x then some 0 else none) (fun x=>by
    dsimp only
    split
    · exact ⟨0,rfl,Int.le_refl _⟩
    · rfl) hM (fun _=>Int.le_refl _) (fun _=>Int.le_refl _) e1 e2 k j
  omega
end Go.Proofs

/- With more water never less has come up to any step: what the statement asks. No program. -/
namespace Go.Proofs
open Go Go.Abs
set_option linter.unusedSimpArgs false
set_option linter.unusedVariables false
/-- A row of which the places ahead of the j-th may have grown. -/
structure upR (row R : Ls) (j : Nat) : Prop where
  l : R.length = row.length
  f : ∀ (i : Nat) x y,row[i]? = some x→R[i]? = some y→x≤y∧y≤x + 255∧(j≤i→y = x)
theorem upR.zero (row : Ls) : upR row row 0:=⟨rfl,fun i x y h1 h2=>by rw [h1] at h2;cases h2;omega⟩
theorem upR.skip {row R : Ls} {j k : Nat} (h : upR row R j) (hk : j≤k) : upR row R k:=⟨h.l,fun i x y h1 h2=>by
  obtain ⟨a,b,c⟩:=h.f i x y h1 h2
  exact ⟨a,b,fun h=>c (by omega)⟩⟩
theorem upR.put {row R : Ls} {j : Nat} {y v : Int} (h : upR row R j) (hy : R[j]? = some y) (hv : 0≤v∧v≤255) : upR row (R.set j (y + v)) (j + 1):=by
  refine ⟨by rw [List.length_set];exact h.l,fun i x z h1 h2=>?_⟩
  rw [List.getElem?_set] at h2
  split at h2
  · rename_i e
    subst e
    split at h2
    · cases h2
      obtain ⟨a,b,c⟩:=h.f _ x y h1 hy
      have:=c (Nat.le_refl _)
      omega
    · cases h2
  · obtain ⟨a,b,c⟩:=h.f _ x z h1 h2
    exact ⟨a,b,fun h=>c (by omega)⟩
theorem upR.leq {row R : Ls} {j : Nat} (h : upR row R j) : leq row R:=⟨h.l.symm,fun i x y h1 h2=>(h.f i x y h1 h2).1⟩
theorem upR.bd {row R : Ls} {j : Nat} {B : Int} (h : upR row R j) (hb : ∀ x ∈ row,0≤x∧x < B) : ∀ y ∈ R,0≤y∧y < B + 255:=fun y hy=>by
  obtain ⟨i,hi⟩:=List.getElem?_of_mem hy
  have hil:=(List.getElem?_eq_some_iff.1 hi).1
  have hl:=h.l
  have e:=List.getElem?_eq_getElem (show i < row.length by omega)
  have:=h.f i _ y e hi
  have:=hb _ (List.mem_of_getElem? e)
  omega
theorem leQ_snoc : ∀ {a b : List Ls} {x y : Ls},leQ a b→leq x y→leQ (a ++ [x]) (b ++ [y])
  | [],[],x,y,_,h=>⟨h,trivial⟩
  | [],_ :: _,x,y,h,_=>h.elim
  | _ :: _,[],x,y,h,_=>h.elim
  | p :: a,q :: b,x,y,h,h2=>⟨h.1,leQ_snoc h.2 h2⟩
theorem rows_sum {m : Ls} {B : Int} (hB : 0≤B) (hl : (m.length : Int)≤12) (h : ∀ x ∈ m,0≤x∧x < B) : m.sum≤B * 12:=by
  have h1 : m.sum≤B * m.length:=by
    clear hl
    induction m with
    | nil=>simp
    | cons x r ih =>
      have h1:=h x (by simp)
      have h2:=ih fun y hy=>h y (by simp [hy])
      rw [List.sum_cons,List.length_cons]
      have : B * ((r.length + 1 : Nat) : Int) = B * r.length + B:=by rw [Int.natCast_add,Int.mul_add];simp
      omega
  have h2:=Int.mul_le_mul_of_nonneg_left hl hB
  omega
theorem fo_ok {c : Cs} {l0 : List Dt} (hm : mkCs c l0) {n : Nat} {w : Fl} (hw : stepsC c (fl1 c l0) n w) (hn : n≤5) {lvs locs : List Ls} (hl : lvs.length = locs.length) (hl2 : lvs.length≤20)
    (h1 : ∀ l ∈ lvs,l.length = c.si.length∧∀ x ∈ l,0≤x∧x < 300) (h2 : ∀ m ∈ locs,(m.length : Int) = c.rv.n∧∀ x ∈ m,0≤x∧x < 300) :
    ∃ r,foX c w lvs locs = .ok r∧flG c w.ws lvs locs = .ok r∧r.length = lvs.length∧∀ a ∈ r,(a.length : Int) = c.rv.n∧∀ y ∈ a,0≤y∧y≤1000000:=by
  have hva:=hw.va hm
  have h0 : rdyE c w = 0:=by rw [rdyE,if_neg (by simp [csE_of hva.k]),if_neg (by simp [vaB_of hva])]
  obtain ⟨v,hv,hvs⟩:=stepsC_vol hm hw (by omega)
  have hrl:=hm.k.r.len
  have hb : v.sum + (3600 + 300 * (c.rv.ls.length : Int)) * (lvs.length : Int)≤1000000:=by
    have a1 : (3600 + 300 * (c.rv.ls.length : Int))≤15600:=by omega
    have a2:=Int.mul_le_mul_of_nonneg_right a1 (show (0 : Int)≤lvs.length by omega)
    omega
  obtain ⟨r,e1,e2,e3⟩:=fl_small2 hm.k (B:=300) (g:=3600) (by omega) (by omega) hva.w hv hl (fun l hl=>⟨(h1 l hl).1,fun x hx=>by have:=(h1 l hl).2 x hx;omega⟩) (fun m hm2=>by
    obtain ⟨g1,g2⟩:=h2 m hm2
    refine ⟨g1,fun x hx=>(g2 x hx).1,?_⟩
    have:=rows_sum (B:=300) (by omega) (by have:=hm.k.n;omega) g2
    omega) hb (by omega)
  refine ⟨r,?_,e1,e2,e3⟩
  rw [foX,if_neg (by simp [h0]),if_neg (by omega),if_neg (by omega)]
  exact e1
theorem cumF_b {j : Int} : ∀ {r t : List Ls},(∀ a ∈ r,∀ y ∈ a,0≤y∧y≤1000000)→(∀ a ∈ t,∀ y ∈ a,0≤y∧y≤1000000)→∀ k : Nat,cumF r t k j≤1000000 * k
  | [],t,_,_,k=>by unfold cumF;omega
  | _ :: _,[],_,_,k=>by unfold cumF;omega
  | a :: r,b :: t,h1,h2,0=>by rw [cumF_zero];omega
  | a :: r,b :: t,h1,h2,k + 1=>by
    rw [cumF]
    have:=cumF_b (j:=j) (fun z hz=>h1 z (List.mem_cons_of_mem _ hz)) (fun z hz=>h2 z (List.mem_cons_of_mem _ hz)) k
    have g1:=gA_b (by omega) (h1 a List.mem_cons_self) j
    have g2:=gA_b (by omega) (h2 b List.mem_cons_self) j
    omega
/-- While the rows are made that have more. -/
structure mrI (lvs locs : List Ls) (M S N E : Nat) (y : Nat × Nat × List Ls × List Ls) : Prop where
  k : y.1≤M
  e : y.2.1≤E
  l1 : y.2.2.1.length = y.1
  l2 : y.2.2.2.length = y.1
  q1 : leQ (lvs.take y.1) y.2.2.1
  q2 : leQ (locs.take y.1) y.2.2.2
  b1 : ∀ r ∈ y.2.2.1,r.length = S∧∀ x ∈ r,0≤x∧x < 300
  b2 : ∀ r ∈ y.2.2.2,r.length = N∧∀ x ∈ r,0≤x∧x < 300
theorem mrI.zero (lvs locs : List Ls) (M S N E : Nat) : mrI lvs locs M S N E (0,0,[],[]):=⟨Nat.zero_le _,Nat.zero_le _,rfl,rfl,by rw [List.take_zero];trivial,by rw [List.take_zero];trivial,fun r h=>by simp at h,fun r h=>by simp at h⟩
theorem mrI.next {lvs locs : List Ls} {M S N E k e e' : Nat} {MU MN : List Ls} (h : mrI lvs locs M S N E (k,e,MU,MN)) {a b A B : Ls} (ha : lvs[k]? = some a) (hb : locs[k]? = some b) (hk : k < M) (he : e'≤E) {i j : Nat} (hA : upR a A i) (hB : upR b B j)
    (h1 : a.length = S∧∀ x ∈ a,0≤x∧x < 30) (h2 : b.length = N∧∀ x ∈ b,0≤x∧x < 20) : mrI lvs locs M S N E (k + 1,e',MU ++ [A],MN ++ [B]):=by
  have t1 : lvs.take (k + 1) = lvs.take k ++ [a]:=by rw [List.take_add_one,ha];rfl
  have t2 : locs.take (k + 1) = locs.take k ++ [b]:=by rw [List.take_add_one,hb];rfl
  refine ⟨hk,he,by simp [h.l1],by simp [h.l2],?_,?_,fun r hr=>?_,fun r hr=>?_⟩
  · show leQ (lvs.take (k + 1)) _
    rw [t1];exact leQ_snoc h.q1 hA.leq
  · show leQ (locs.take (k + 1)) _
    rw [t2];exact leQ_snoc h.q2 hB.leq
  · rcases List.mem_append.1 hr with hr | hr
    · exact h.b1 r hr
    · have:=List.mem_singleton.1 hr
      subst this
      exact ⟨by rw [hA.l];exact h1.1,fun x hx=>by have:=hA.bd h1.2 x hx;omega⟩
  · rcases List.mem_append.1 hr with hr | hr
    · exact h.b2 r hr
    · have:=List.mem_singleton.1 hr
      subst this
      exact ⟨by rw [hB.l];exact h2.1,fun x hx=>by have:=hB.bd h2.2 x hx;omega⟩
end Go.Proofs

namespace Go.Proofs
open Go Go.Abs
set_option linter.unusedSimpArgs false
set_option linter.unusedVariables false
set_option maxRecDepth 40000
abbrev e8 (v : Int) : List Cell:=[.sc (.int .u8 v)]
def R_more : RT:=fun args k=>∃ l E : Ls,args = [.c (.lst (eL l)),.c (.lst (E.map e8))]∧(∀ v ∈ E,0≤v∧v≤255)∧l.length≤9223372036854775807∧k (Bo true)
set_option maxHeartbeats 8000000 in
theorem tmore_ok : FunR Tryz.prog 4 R_more:=by
  intro args k h
  obtain ⟨l,E,rfl,hE,hl,hk⟩:=h
  have hme : (E.map e8).length = E.length:=List.length_map _
  refine does_ex (qc:=qc1) (np:=[(8,[(5,10)]),(14,[(4,7),(4,8)])]) (CK:=ckK [(9,cSc R_tt),(10,cSc R_few),(11,cN R_new),(12,cB R_mkRi),(14,cB R_next),(19,cB R_flws),(17,cPu R_fo)]) mixed Tryz.func4 rfl rfl Tryz.ntmps4 Tryz.results4 τ_ok (by kernel_rfl) (ckK_ok ⟨cSc_ok sane_ok,cSc_ok few_ok,cN_ok new_ok rfl,cB_ok mkRi_ok rfl,cB_ok next_ok rfl,cB_ok flws_ok rfl,cPu_ok follow_ok rfl,trivial⟩) (by simp) ?_
  conv=>whnf
  refine ⟨rfl,?_⟩
  conv=>whnf
  refine Fork.mk (fun h=>by cases h) (fun _=>?_)
  conv=>whnf
  refine ⟨l,rfl,?_⟩
  conv=>whnf
  refine Fork.mk (fun h=>?_) (fun h=>?_)
  · conv=>whnf
    refine Fork.mk (fun _=>?_) (fun h=>by cases h)
    conv=>whnf
    exact hk
  clear h
  conv=>whnf
  refine Fork.mk (fun h=>?_) (fun h=>?_)
  · conv=>whnf
    exact hk
  have hE2 : E.length≤200:=by simp at h;omega
  clear h
  conv=>whnf
  refine ⟨l,rfl,?_⟩
  conv=>whnf
  refine ⟨⟨l,0⟩,rfl,rfl,⟨Nat.zero_le _,hl⟩,fun c ds0 w n d hd hm hn hw=>?_⟩
  have hc:=hm.k
  have hva:=hw.va hm
  have hcf:=hm.fin
  have hr:=hc.r
  have hrl:=hr.len
  have hrn:=hr.n
  have hcn:=hc.n
  have hcm:=hc.m
  have hmx:=eX_len c.si
  conv=>whnf
  refine ⟨d,rfl,hd,by omega,fun v d hd hv0 hv=>?_⟩
  obtain ⟨V,rfl⟩:=Int.eq_ofNat_of_zero_le hv0
  have e1 : IntKind.i64.wrap (1 + (V : Int)) = ((1 + V : Nat) : Int):=by rw [wrap_in (by omega) (by omega)];simp
  conv=>whnf
  rw [e1]
  refine ⟨d,1 + V,c.si.length,30,by rw [hmx];rfl,rfl,hd,by omega,by omega,by omega,fun lvs d hd hn1 hl1=>?_⟩
  conv=>whnf
  obtain ⟨N,hN⟩:=Int.eq_ofNat_of_zero_le (show 0≤c.rv.n by omega)
  refine ⟨d,1 + V,N,20,by rw [hN];rfl,rfl,hd,by omega,by omega,by omega,fun locs d hd hn2 hl2=>?_⟩
  have hN1 : 1 + V≤9:=by omega
  generalize 1 + V = M at hn1 hn2 hN1
  conv=>whnf
  refine ⟨Nat × Nat × List Ls × List Ls,fun y=>([(1,.c (.lst (E.map e8))),(6,.c (.ptr (.l 6 1) 0)),(7,.c (.ptr (.l 7 2) 0)),(8,I M),(9,.c (.lst (eLw lvs))),(10,.c (.lst (eLw locs))),(11,.c (.view (.l 122 3) 0 y.2.2.1.length)),(12,.c (.view (.l 126 4) 0 y.2.2.2.length)),(13,I y.2.1),(14,I y.1)],
      ⟨[(.l 6 1,.blk (csC c)),(.l 7 2,.blk (flC w)),(.l 122 3,.arr 22 1 (eLw y.2.2.1) false),(.l 126 4,.arr 22 1 (eLw y.2.2.2) false)],9,[]⟩),
    fun y=>mrI lvs locs M c.si.length N E.length y,fun y=>M - y.1,(0,0,[],[]),mrI.zero ..,Shift.trans (Shift.rename [] ⟨rfl,rfl,rfl,rfl,rfl,rfl,rfl,rfl,rfl,rfl,trivial⟩ ⟨rfl,rfl,rfl,rfl,trivial⟩ rfl rfl rfl) (Shift.trans (Shift.nilArr (t:=12) rfl 126 22 1) (Shift.nilArr (t:=11) rfl 122 22 1)),fun y hI=>?_⟩
  obtain ⟨t,e,MU,MN⟩:=y
  have g1:=hI.k
  have g2:=hI.e
  have g3:=hI.l1
  have g4:=hI.l2
  dsimp only at g1 g2 g3 g4 ⊢
  have hmU:=eLw_len MU
  have hmN:=eLw_len MN
  have hml:=eLw_len lvs
  have hmo:=eLw_len locs
  conv=>whnf
  refine Fork.mk (fun h=>?_) (fun h=>?_)
  · have ht : t < M:=by simp at h;omega
    clear h
    have hwt:=wr_succ (i:=t) (by omega)
    have hca:=List.getElem?_eq_getElem (show t < lvs.length by omega)
    have hra:=hl1 _ (List.getElem_mem (show t < lvs.length by omega))
    have hcb:=List.getElem?_eq_getElem (show t < locs.length by omega)
    have hrb:=hl2 _ (List.getElem_mem (show t < locs.length by omega))
    generalize lvs[t]'(by omega) = a at hca hra
    generalize locs[t]'(by omega) = b at hcb hrb
    have hma:=eL_len a
    have hmb:=eL_len b
    conv=>whnf
    refine ⟨by omega,lwC a,by rw [Int.toNat_natCast,List.getElem?_map,hca];rfl,rfl,?_⟩
    conv=>whnf
    refine ⟨eL_all _,?_⟩
    conv=>whnf
    refine ⟨by rw [hma];simp;omega,?_⟩
    conv=>whnf
    refine ⟨by omega,lwC b,by rw [Int.toNat_natCast,List.getElem?_map,hcb];rfl,rfl,?_⟩
    conv=>whnf
    refine ⟨eL_all _,?_⟩
    conv=>whnf
    refine ⟨by rw [hmb];simp;omega,?_⟩
    conv=>whnf
    refine ⟨Nat × Nat × Ls,fun y=>([(1,.c (.lst (E.map e8))),(6,.c (.ptr (.l 6 1) 0)),(7,.c (.ptr (.l 7 2) 0)),(8,I M),(9,.c (.lst (eLw lvs))),(10,.c (.lst (eLw locs))),(11,.c (.view (.l 122 3) 0 MU.length)),(12,.c (.view (.l 126 4) 0 MN.length)),(13,I y.2.1),(14,I t),(15,.c (.view (.l 67 9) 0 a.length)),(16,.c (.view (.l 72 9) 0 b.length)),(74,I a.length),(75,I y.1)],⟨[(.l 6 1,.blk (csC c)),(.l 7 2,.blk (flC w)),(.l 122 3,.arr 22 1 (eLw MU) false),(.l 126 4,.arr 22 1 (eLw MN) false),(.l 67 9,.arr 3 1 (eL y.2.2) false),(.l 72 9,.arr 3 1 (eL b) false)],20,[]⟩),
      fun y=>y.1≤a.length∧y.2.1≤E.length∧upR a y.2.2 y.1,fun y=>a.length - y.1,(0,e,a),⟨Nat.zero_le _,by dsimp only;omega,upR.zero _⟩,Shift.rename [] ⟨rfl,rfl,rfl,rfl,rfl,rfl,rfl,rfl,rfl,rfl,?_,?_,?_,rfl,trivial⟩ ⟨rfl,rfl,rfl,rfl,rfl,rfl,trivial⟩ rfl rfl rfl,fun y hy=>?_⟩
    · dsimp only;rw [← hma];rfl
    · dsimp only;rw [← hmb];rfl
    · dsimp only;rw [← hma];rfl
    obtain ⟨j,e,A⟩:=y
    obtain ⟨hj,he,hUA⟩:=hy
    dsimp only at hj he hUA ⊢
    have hlA:=hUA.l
    have hmA2:=eL_len A
    conv=>whnf
    refine Fork.mk (fun h=>?_) (fun h=>?_)
    · have hj2 : j < a.length:=by simp at h;omega
      clear h
      have hwj:=wr_succ (i:=j) (by omega)
      conv=>whnf
      refine Fork.mk (fun h=>?_) (fun h=>?_)
      · have he2 : e < E.length:=by simp at h;omega
        clear h
        have hwe:=wr_succ (i:=e) (by omega)
        have hcv:=List.getElem?_eq_getElem he2
        have hv:=hE _ (List.getElem_mem he2)
        have hcy:=List.getElem?_eq_getElem (show j < A.length by omega)
        have hcr:=List.getElem?_eq_getElem hj2
        have hyb:=hUA.f j _ _ hcr hcy
        have hrr:=hra.2 _ (List.getElem_mem hj2)
        generalize E[e] = v at hcv hv
        generalize A[j]'(by omega) = z at hcy hyb
        generalize a[j] = z0 at hcr hyb hrr
        have hcell : (eL A)[0 + ((j : Int)).toNat]? = some (eI z):=by rw [Nat.zero_add,Int.toNat_natCast,List.getElem?_map,hcy];rfl
        have hwv : IntKind.i64.wrap (z + v) = z + v:=wrap_in (by omega) (by omega)
        have hwv0 : IntKind.i64.wrap v = v:=wrap_in (by omega) (by omega)
        conv=>whnf
        refine ⟨by omega,rfl,?_⟩
        conv=>whnf
        refine ⟨eI z,hcell,?_⟩
        conv=>whnf
        refine ⟨by omega,e8 v,by rw [Int.toNat_natCast,List.getElem?_map,hcv];rfl,rfl,?_⟩
        conv=>whnf
        rw [hwv0,hwv]
        refine ⟨by omega,rfl,?_⟩
        conv=>whnf
        refine ⟨eI z,hcell,Nat.le_refl _,?_⟩
        conv=>whnf
        rw [hwe,hwj]
        have q4 : (eL A).set (0 + ((j : Int)).toNat) (eI (z + v)) = eL (A.set j (z + v)):=by rw [Nat.zero_add,Int.toNat_natCast,eL_set]
        refine ⟨(j + 1,e + 1,A.set j (z + v)),⟨hj2,he2,hUA.put hcy hv⟩,Shift.reset ⟨rfl,rfl,rfl,rfl,rfl,rfl,rfl,rfl,rfl,rfl,rfl,rfl,rfl,rfl,trivial⟩ ⟨rfl,rfl,rfl,rfl,?_,rfl,trivial⟩ rfl rfl,by dsimp only;omega⟩
        dsimp only;rw [← q4];rfl
      conv=>whnf
      rw [hwj]
      exact ⟨(j + 1,e,A),⟨hj2,he,hUA.skip (by omega)⟩,Shift.reset ⟨rfl,rfl,rfl,rfl,rfl,rfl,rfl,rfl,rfl,rfl,rfl,rfl,rfl,rfl,trivial⟩ ⟨rfl,rfl,rfl,rfl,rfl,rfl,trivial⟩ rfl rfl,by dsimp only;omega⟩
    have hje : j = a.length:=by simp at h;omega
    clear h
    subst hje
    conv=>whnf
    refine ⟨Nat × Nat × Ls,fun y=>([(1,.c (.lst (E.map e8))),(6,.c (.ptr (.l 6 1) 0)),(7,.c (.ptr (.l 7 2) 0)),(8,I M),(9,.c (.lst (eLw lvs))),(10,.c (.lst (eLw locs))),(11,.c (.view (.l 122 3) 0 MU.length)),(12,.c (.view (.l 126 4) 0 MN.length)),(13,I y.2.1),(14,I t),(15,.c (.view (.l 67 9) 0 a.length)),(16,.c (.view (.l 72 9) 0 b.length)),(97,I b.length),(98,I y.1)],⟨[(.l 6 1,.blk (csC c)),(.l 7 2,.blk (flC w)),(.l 122 3,.arr 22 1 (eLw MU) false),(.l 126 4,.arr 22 1 (eLw MN) false),(.l 67 9,.arr 3 1 (eL A) false),(.l 72 9,.arr 3 1 (eL y.2.2) false)],20,[]⟩),
      fun y=>y.1≤b.length∧y.2.1≤E.length∧upR b y.2.2 y.1,fun y=>b.length - y.1,(0,e,b),⟨Nat.zero_le _,by dsimp only;omega,upR.zero _⟩,Shift.rename [] ⟨rfl,rfl,rfl,rfl,rfl,rfl,rfl,rfl,rfl,rfl,rfl,rfl,rfl,rfl,trivial⟩ ⟨rfl,rfl,rfl,rfl,rfl,rfl,trivial⟩ rfl rfl rfl,fun y hy=>?_⟩
    obtain ⟨j,e,B⟩:=y
    obtain ⟨hj,he,hUB⟩:=hy
    dsimp only at hj he hUB ⊢
    have hlB:=hUB.l
    have hmB2:=eL_len B
    conv=>whnf
    refine Fork.mk (fun h=>?_) (fun h=>?_)
    · have hj2 : j < b.length:=by simp at h;omega
      clear h
      have hwj:=wr_succ (i:=j) (by omega)
      conv=>whnf
      refine Fork.mk (fun h=>?_) (fun h=>?_)
      · have he2 : e < E.length:=by simp at h;omega
        clear h
        have hwe:=wr_succ (i:=e) (by omega)
        have hcv:=List.getElem?_eq_getElem he2
        have hv:=hE _ (List.getElem_mem he2)
        have hcy:=List.getElem?_eq_getElem (show j < B.length by omega)
        have hcr:=List.getElem?_eq_getElem hj2
        have hyb:=hUB.f j _ _ hcr hcy
        have hrr:=hrb.2 _ (List.getElem_mem hj2)
        generalize E[e] = v at hcv hv
        generalize B[j]'(by omega) = z at hcy hyb
        generalize b[j] = z0 at hcr hyb hrr
        have hcell : (eL B)[0 + ((j : Int)).toNat]? = some (eI z):=by rw [Nat.zero_add,Int.toNat_natCast,List.getElem?_map,hcy];rfl
        have hwv : IntKind.i64.wrap (z + v) = z + v:=wrap_in (by omega) (by omega)
        have hwv0 : IntKind.i64.wrap v = v:=wrap_in (by omega) (by omega)
        conv=>whnf
        refine ⟨by omega,rfl,?_⟩
        conv=>whnf
        refine ⟨eI z,hcell,?_⟩
        conv=>whnf
        refine ⟨by omega,e8 v,by rw [Int.toNat_natCast,List.getElem?_map,hcv];rfl,rfl,?_⟩
        conv=>whnf
        rw [hwv0,hwv]
        refine ⟨by omega,rfl,?_⟩
        conv=>whnf
        refine ⟨eI z,hcell,Nat.le_refl _,?_⟩
        conv=>whnf
        rw [hwe,hwj]
        have q4 : (eL B).set (0 + ((j : Int)).toNat) (eI (z + v)) = eL (B.set j (z + v)):=by rw [Nat.zero_add,Int.toNat_natCast,eL_set]
        refine ⟨(j + 1,e + 1,B.set j (z + v)),⟨hj2,he2,hUB.put hcy hv⟩,Shift.reset ⟨rfl,rfl,rfl,rfl,rfl,rfl,rfl,rfl,rfl,rfl,rfl,rfl,rfl,rfl,trivial⟩ ⟨rfl,rfl,rfl,rfl,rfl,?_,trivial⟩ rfl rfl,by dsimp only;omega⟩
        dsimp only;rw [← q4];rfl
      conv=>whnf
      rw [hwj]
      exact ⟨(j + 1,e,B),⟨hj2,he,hUB.skip (by omega)⟩,Shift.reset ⟨rfl,rfl,rfl,rfl,rfl,rfl,rfl,rfl,rfl,rfl,rfl,rfl,rfl,rfl,trivial⟩ ⟨rfl,rfl,rfl,rfl,rfl,rfl,trivial⟩ rfl rfl,by dsimp only;omega⟩
    have hje : j = b.length:=by simp at h;omega
    clear h
    subst hje
    conv=>whnf
    have r1 : List.take a.length (List.drop 0 (eL A)) = eL A:=by rw [List.drop_zero,List.take_of_length_le (by omega)]
    have r2 : List.take b.length (List.drop 0 (eL B)) = eL B:=by rw [List.drop_zero,List.take_of_length_le (by omega)]
    have hI2:=hI.next hca hcb ht he hUA hUB hra hrb
    refine ⟨by omega,?_⟩
    conv=>whnf
    rw [r1]
    refine ⟨by simp,?_⟩
    conv=>whnf
    refine ⟨rfl,?_⟩
    conv=>whnf
    refine ⟨⟨rfl,rfl,rfl,hmU.symm,by rw [hmU];simp;omega⟩,?_⟩
    conv=>whnf
    refine ⟨by omega,?_⟩
    conv=>whnf
    rw [r2]
    refine ⟨by simp,?_⟩
    conv=>whnf
    refine ⟨rfl,?_⟩
    conv=>whnf
    refine ⟨⟨rfl,rfl,rfl,hmN.symm,by rw [hmN];simp;omega⟩,?_⟩
    conv=>whnf
    rw [hwt]
    refine ⟨(t + 1,e,MU ++ [A],MN ++ [B]),hI2,Shift.rename [(.l 122 3,.l 122 21),(.l 126 4,.l 126 23)] ⟨rfl,rfl,rfl,rfl,rfl,rfl,?_,?_,rfl,rfl,trivial⟩ ⟨rfl,rfl,?_,?_,trivial⟩ rfl rfl rfl,by dsimp only;omega⟩
    · dsimp only;rw [List.length_append,← hmU];rfl
    · dsimp only;rw [List.length_append,← hmN];rfl
    · dsimp only;rw [show eLw (MU ++ [A]) = eLw MU ++ [lwC A] from List.map_append];rfl
    · dsimp only;rw [show eLw (MN ++ [B]) = eLw MN ++ [lwC B] from List.map_append];rfl
  have hte : t = M:=by simp at h;omega
  clear h
  subst hte
  conv=>whnf
  have hq1:=hI.q1
  have hq2:=hI.q2
  have hb1:=hI.b1
  have hb2:=hI.b2
  dsimp only at hq1 hq2 hb1 hb2
  rw [List.take_of_length_le (by omega)] at hq1 hq2
  obtain ⟨ra,f1,p1,la,ba⟩:=fo_ok hm hw hn (lvs:=lvs) (locs:=locs) (by omega) (by omega) (fun l hl=>⟨(hl1 l hl).1,fun x hx=>by have:=(hl1 l hl).2 x hx;omega⟩) (fun l hl=>⟨by have:=(hl2 l hl).1;omega,fun x hx=>by have:=(hl2 l hl).2 x hx;omega⟩)
  obtain ⟨rb,f2,p2,lb,bb⟩:=fo_ok hm hw hn (lvs:=MU) (locs:=MN) (by omega) (by omega) (fun l hl=>hb1 l hl) (fun l hl=>⟨by have:=(hb2 l hl).1;omega,(hb2 l hl).2⟩)
  have hcum:=fun k j=>fo_more hc hva.w hq1 hq2 p1 p2 k j
  have hma:=eLw_len ra
  have hmb:=eLw_len rb
  have hv1 : vfin lvs:=⟨by omega,fun p hp=>by have:=(hl1 p hp).1;omega⟩
  have hv2 : vfin locs:=⟨by omega,fun p hp=>by have:=(hl2 p hp).1;omega⟩
  have hv3 : vfin MU:=⟨by omega,fun p hp=>by have:=(hb1 p hp).1;omega⟩
  have hv4 : vfin MN:=⟨by omega,fun p hp=>by have:=(hb2 p hp).1;omega⟩
  refine ⟨c,w,lvs,locs,rfl,hcf,vaB_fin (vaB_of hva),hv1,hv2,?_⟩
  rw [f1]
  conv=>whnf
  refine ⟨by omega,?_⟩
  conv=>whnf
  refine ⟨by omega,?_⟩
  conv=>whnf
  rw [List.drop_zero,List.drop_zero,List.take_of_length_le (show (eLw MU).length≤MU.length by omega),List.take_of_length_le (show (eLw MN).length≤MN.length by omega)]
  refine ⟨c,w,MU,MN,rfl,hcf,vaB_fin (vaB_of hva),hv3,hv4,?_⟩
  rw [f2]
  conv=>whnf
  refine Fork.mk (fun h=>absurd h (by decide)) (fun _=>?_)
  conv=>whnf
  refine Fork.mk (fun h=>absurd h (by decide)) (fun _=>?_)
  conv=>whnf
  rw [show decide ((((eLw ra).length : Nat) : Int) = (t : Int)) = true by rw [decide_eq_true_eq];omega]
  refine Fork.mk (fun h=>by cases h) (fun _=>?_)
  conv=>whnf
  rw [show decide ((((eLw rb).length : Nat) : Int) = (t : Int)) = true by rw [decide_eq_true_eq];omega]
  refine Fork.mk (fun h=>by cases h) (fun _=>?_)
  conv=>whnf
  have hNt : c.rv.n.toNat = N:=by omega
  refine ⟨⟨rfl,by omega,by show c.rv.n * 8≤_;omega⟩,?_⟩
  conv=>whnf
  refine ⟨Nat,fun k=>([(19,.c (.lst (eLw ra))),(21,.c (.lst (eLw rb))),(23,.c (.view (.l 164 9) 0 N)),(166,I (eLw ra).length),(167,I k)],⟨[(.l 164 9,.arr 3 1 (eL (tab N fun i=>cumF ra rb k i)) false)],20,[]⟩),
    fun k=>k≤t,fun k=>t - k,0,Nat.zero_le _,Shift.rename [] ⟨rfl,rfl,?_,rfl,rfl,trivial⟩ ⟨?_,trivial⟩ rfl rfl rfl,fun k hk2=>?_⟩
  · dsimp only;rw [← hNt];rfl
  · dsimp only;rw [show (tab N fun i=>cumF ra rb 0 i) = List.replicate N 0 by simp [tab,cumF_zero,List.map_const'],show eL (List.replicate N 0) = List.replicate N (eI 0) from List.map_replicate,← hNt];rfl
  dsimp only
  conv=>whnf
  refine Fork.mk (fun h=>?_) (fun h=>?_)
  rotate_left
  · conv=>whnf
    exact hk
  have hk3 : k < t:=by simp at h;omega
  clear h
  have hwk:=wr_succ (i:=k) (by omega)
  have hca:=List.getElem?_eq_getElem (show k < ra.length by omega)
  have hba:=ba _ (List.getElem_mem (show k < ra.length by omega))
  have hcb:=List.getElem?_eq_getElem (show k < rb.length by omega)
  have hbb:=bb _ (List.getElem_mem (show k < rb.length by omega))
  generalize ra[k]'(by omega) = a at hca hba
  generalize rb[k]'(by omega) = b at hcb hbb
  have hst:=fun j=>cumF_succ (j:=j) hca hcb
  conv=>whnf
  refine ⟨Nat,fun i=>([(19,.c (.lst (eLw ra))),(21,.c (.lst (eLw rb))),(23,.c (.view (.l 164 9) 0 N)),(24,I k),(166,I (eLw ra).length),(167,I k),(171,I N),(172,I i)],⟨[(.l 164 9,.arr 3 1 (eL (tab N fun q=>if q < i then cumF ra rb (k + 1) q else cumF ra rb k q)) false)],20,[]⟩),
    fun i=>i≤N,fun i=>N - i,0,Nat.zero_le _,Shift.rename [] ⟨rfl,rfl,rfl,rfl,rfl,rfl,rfl,rfl,trivial⟩ ⟨?_,trivial⟩ rfl rfl rfl,fun i hi=>?_⟩
  · dsimp only
    rw [show (tab N fun q=>if q < 0 then cumF ra rb (k + 1) q else cumF ra rb k q) = tab N fun q=>cumF ra rb k q from tab_ext fun q _=>if_neg (by omega)]
    rfl
  dsimp only
  conv=>whnf
  refine Fork.mk (fun h=>?_) (fun h=>?_)
  rotate_left
  · have hie : i = N:=by simp at h;omega
    clear h
    subst hie
    conv=>whnf
    rw [hwk]
    refine ⟨k + 1,hk3,Shift.rename [] ⟨rfl,rfl,rfl,rfl,rfl,trivial⟩ ⟨?_,trivial⟩ rfl rfl rfl,by omega⟩
    dsimp only
    rw [show (tab i fun q=>if q < i then cumF ra rb (k + 1) q else cumF ra rb k q) = tab i fun q=>cumF ra rb (k + 1) q from tab_ext fun q hq=>if_pos hq]
    rfl
  have hi2 : i < N:=by simp at h;omega
  clear h
  have hwi:=wr_succ (i:=i) (by omega)
  have hs1:=hst (i : Int)
  have hg0:=hcum k i
  have hg1:=hcum (k + 1) i
  have hg2:=cumF_b (j:=(i : Int)) (fun a h=>(ba a h).2) (fun a h=>(bb a h).2) k
  have hxa : a[i]? = some (gA a i):=by rw [gA_nat];exact gN_get (by omega)
  have hxb : b[i]? = some (gA b i):=by rw [gA_nat];exact gN_get (by omega)
  have hya:=gA_b (by omega) hba.2 (i : Int)
  have hyb:=gA_b (by omega) hbb.2 (i : Int)
  have hcell : (eL (tab N fun q=>if q < i then cumF ra rb (k + 1) q else cumF ra rb k q))[0 + ((i : Int)).toNat]? = some (eI (cumF ra rb k i)):=by
    rw [Int.toNat_natCast,eL_tab hi2,if_neg (by omega)]
  have hsub : IntKind.i64.wrap (gA b i - gA a i) = gA b i - gA a i:=wrap_in (by omega) (by omega)
  have hadd : IntKind.i64.wrap (cumF ra rb k i + (gA b i - gA a i)) = cumF ra rb (k + 1) i:=by rw [hs1];exact wrap_in (by omega) (by omega)
  have hset : (eL (tab N fun q=>if q < i then cumF ra rb (k + 1) q else cumF ra rb k q)).set (0 + ((i : Int)).toNat) (eI (cumF ra rb (k + 1) i)) = eL (tab N fun q=>if q < i + 1 then cumF ra rb (k + 1) q else cumF ra rb k q):=by
    rw [Nat.zero_add,Int.toNat_natCast,eL_set,tab_set]
    congr 1
    refine tab_ext fun q hq=>?_
    by_cases e : q = i
    · subst e
      rw [if_pos rfl,if_pos (by omega)]
    · rw [if_neg e]
      by_cases e2 : q < i
      · rw [if_pos e2,if_pos (by omega)]
      · rw [if_neg e2,if_neg (by omega)]
  conv=>whnf
  refine ⟨by omega,rfl,?_⟩
  conv=>whnf
  refine ⟨_,hcell,?_⟩
  conv=>whnf
  refine ⟨by omega,lwC b,by rw [Int.toNat_natCast,List.getElem?_map,hcb];rfl,rfl,?_⟩
  conv=>whnf
  refine ⟨by omega,eI (gA b i),by rw [Int.toNat_natCast,List.getElem?_map,hxb];rfl,rfl,?_⟩
  conv=>whnf
  refine ⟨by omega,lwC a,by rw [Int.toNat_natCast,List.getElem?_map,hca];rfl,rfl,?_⟩
  conv=>whnf
  refine ⟨by omega,eI (gA a i),by rw [Int.toNat_natCast,List.getElem?_map,hxa];rfl,rfl,?_⟩
  conv=>whnf
  rw [hsub,hadd]
  refine ⟨by omega,rfl,?_⟩
  conv=>whnf
  refine ⟨_,hcell,Nat.le_refl _,?_⟩
  conv=>whnf
  have hcell2 : ((eL (tab N fun q=>if q < i then cumF ra rb (k + 1) q else cumF ra rb k q)).set (0 + ((i : Int)).toNat) (eI (cumF ra rb (k + 1) i)))[0 + ((i : Int)).toNat]? = some (eI (cumF ra rb (k + 1) i)):=by
    rw [hset,Int.toNat_natCast,eL_tab hi2,if_pos (by omega)]
  refine ⟨by omega,rfl,?_⟩
  conv=>whnf
  refine ⟨_,hcell2,?_⟩
  conv=>whnf
  refine Fork.mk (fun h=>?_) (fun _=>?_)
  · rw [decide_eq_true_eq] at h
    omega
  conv=>whnf
  rw [hwi]
  refine ⟨i + 1,hi2,Shift.reset ⟨rfl,rfl,rfl,rfl,rfl,rfl,rfl,rfl,trivial⟩ ⟨?_,trivial⟩ rfl rfl,by omega⟩
  dsimp only;rw [← hset];rfl
end Go.Proofs
