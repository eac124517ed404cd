/- Proved here: what functions of the given program come to, and the plain laws of it; no condition but those in the theorems. -/
import Derived.Test.YtgllikepncnpkaaGreatAbsP
import Derived.KernelRfl
namespace Go.Proofs
open Go Go.Abs
set_option linter.unusedSimpArgs false
set_option linter.unusedVariables false
abbrev IC (n:Int):Cell:=.sc (.int .i64 n)
def eI (x:Int):List Cell:=[IC x]
abbrev I (n:Int):AV:=.c (.sc (.int .i64 n))
abbrev Bo (b:Bool):AV:=.c (.sc (.bool b))
abbrev BC (b:Bool):Cell:=.sc (.bool b)
abbrev Ls:=List Int
abbrev eL (l:Ls):List (List Cell):=l.map eI
theorem eL_len (l:Ls):(eL l).length=l.length:=List.length_map _
theorem map_at {α β:Type} (e:α→β) (l:List α) {j:Nat} (h:j < l.length):(l.map e)[(j:Int).toNat]?=some (e l[j]):=by
  rw [Int.toNat_natCast,List.getElem?_map,List.getElem?_eq_getElem h];rfl
theorem map_at0 {α β:Type} (e:α→β) (l:List α) {j:Nat} (h:j < l.length):(l.map e)[0+j]?=some (e l[j]):=by
  rw [Nat.zero_add,List.getElem?_map,List.getElem?_eq_getElem h];rfl
theorem wr_succ {i:Nat} (h:i < 9223372036854775807):IntKind.i64.wrap ((i:Int)+1)=((i+1:Nat):Int):=by rw [wrap_in (by omega) (by omega)];omega
def R_within:RT:=fun args k=>match args with
  | [.c (.sc (.int .i64 x)),.c (.sc (.int .i64 most))]=>k (Bo (decide (0≤x) && decide (x≤most)))
  | _=>False
theorem tmod_lo (x:Int) {n:Int} (h:0 < n):-n < x.tmod n:=by
  rcases Int.le_total 0 x with hx | hx
  · have:=Int.tmod_nonneg n hx;omega
  · have h1:=Int.neg_tmod (a:=-x) (b:=n)
    have h2:=Int.tmod_lt_of_pos (-x) h
    rw [Int.neg_neg] at h1
    omega
theorem mod_val (x:Int) {n:Int} (h:0 < n) (h2:n≤4611686018427387904):(IntKind.i64.wrap (x.tmod n+n)).tmod n=x % n:=by
  have a:=tmod_lo x h
  have b:=Int.tmod_lt_of_pos x h
  rw [Go.Abs.wrap_in (by omega) (by omega),Int.tmod_eq_emod_of_nonneg (by omega),Int.tmod_def,show x - n * x.tdiv n+n=x+n * (1 - x.tdiv n) by rw [Int.mul_sub];omega,Int.add_mul_emod_self_left]
def R_mod:RT:=fun args k=>match args with
  | [.c (.sc (.int .i64 x)),.c (.sc (.int .i64 n))]=>(0 < n∧n≤4611686018427387904)∧k (I (x % n))
  | _=>False
structure Dk where
  L:List Int
  at_:Nat
def Dk.ok (d:Dk):Prop:=d.at_≤d.L.length∧d.L.length≤9223372036854775807
def dkC (d:Dk):List Cell:=[.lst (d.L.map eI),IC d.at_]
def R_next:RB:=fun cs args k=>match args with
  | [.c (.sc (.int .i64 n))]=>∃ d:Dk,cs=dkC d∧d.ok∧n≤4611686018427387904∧∀ v d',Dk.ok d'→0≤v→(v < n ∨ v=0)→k (I v) (dkC d')
  | _=>False
def R_new:RN:=fun args k=>match args with
  | [.c (.lst es)]=>∃ l:List Int,es=l.map eI∧k (dkC ⟨l,0⟩)
  | _=>False
theorem sum_take {l:Ls} {i:Nat} (h:i < l.length):(l.take (i+1)).sum=(l.take i).sum+l[i]:=by
  rw [show l.take (i+1)=l.take i ++ [l[i]] from (List.take_append_getElem h).symm,List.sum_append];simp
theorem sum_in {l:Ls} {a:Int} (ha:0≤a) (h:∀ x ∈ l,0≤x∧x≤a):0≤l.sum∧l.sum≤a * l.length:=by
  induction l with
  | nil=>simp
  | cons x r ih =>
    have h1:=h x (by simp)
    have h2:=ih fun y hy=>h y (by simp [hy])
    rw [List.sum_cons,List.length_cons]
    have:a * ((r.length+1:Nat):Int)=a * r.length+a:=by rw [Int.natCast_add,Int.mul_add];simp
    omega
theorem eL_all (l:Ls):(eL l).all (fun e=>e.length == 1)=true:=by simp [List.all_eq_true,eL,eI]
theorem eL_take (l:Ls) (n:Nat):(eL l).take n=eL (l.take n):=(List.map_take ..).symm
theorem eL_drop (l:Ls) (n:Nat):(eL l).drop n=eL (l.drop n):=(List.map_drop ..).symm
theorem eL_snoc (l:Ls) (a:Int):eL l ++ [[IC a]]=eL (l ++ [a]):=by simp [eL,eI]
theorem eL_set (l:Ls) (i:Nat) (v:Int):(eL l).set i (eI v)=eL (l.set i v):=(List.map_set ..).symm
theorem leaf_l {k:AV→List Cell→Prop} (l:Ls) {n:Nat} {cs:List Cell} (h:n=l.length) (hc:noCs cs=true) (hk:k (.c (.lst (eL l))) cs) :
    noA (.c (.lst (List.take n (List.drop 0 (eL l)))))=true∧noCs cs=true∧k (.c (.lst (List.take n (List.drop 0 (eL l))))) cs:=by
  subst h
  rw [List.drop_zero,List.take_of_length_le (by rw [eL_len];exact Nat.le_refl _)]
  exact ⟨rfl,hc,hk⟩
abbrev Pt:=Int × Int
def ePt (p:Pt):List Cell:=[IC p.1,IC p.2]
abbrev eP (l:List Pt):List (List Cell):=l.map ePt
theorem eP_len (l:List Pt):(eP l).length=l.length:=List.length_map _
theorem eP_snoc (l:List Pt) (p:Pt):eP l ++ [[IC p.1,IC p.2]]=eP (l ++ [p]):=by simp [ePt]
theorem leaf_p {k:AV→List Cell→Prop} (l:List Pt) {n:Nat} {cs:List Cell} (h:n=l.length) (hc:noCs cs=true) (hk:k (.c (.lst (eP l))) cs) :
    noA (.c (.lst (List.take n (List.drop 0 (eP l)))))=true∧noCs cs=true∧k (.c (.lst (List.take n (List.drop 0 (eP l))))) cs:=by
  subst h
  rw [List.drop_zero,List.take_of_length_le (by rw [eP_len];exact Nat.le_refl _)]
  exact ⟨rfl,hc,hk⟩
end Go.Proofs

namespace Go.Proofs
open Go Go.Abs
set_option linter.unusedSimpArgs false
set_option linter.unusedVariables false
def okPt (p:Pt):Bool:=(decide (0≤p.1) && decide (p.1≤1073741824)) && (decide (0≤p.2) && decide (p.2≤274877906944))
def steepB (dx dy:Int):Bool:=decide (0 < dx) && decide (4611686018427387904 / dx < dy)
def ckGo:Pt→List Pt→Int
  | _,[]=>0
  | q,p :: r=>if okPt p=false then 1 else if p.1≤q.1 ∨ p.2 < q.2 then 4 else if steepB (p.1 - q.1) (p.2 - q.2)=true then 1 else ckGo p r
def ckC:List Pt→Int
  | []=>3
  | p :: r=>if 100 < (p :: r).length then 10 else if okPt p=false then 1 else ckGo p r
def vGo:Pt→List Pt→Int→Int
  | p,[],_=>p.2
  | p,q :: r,x=>if x≤q.1 then p.2+(q.2 - p.2) * (x - p.1) / (q.1 - p.1) else vGo q r x
def valC:List Pt→Int→Int
  | [],_=>0
  | p :: r,x=>if x≤p.1 then p.2 else vGo p r x
theorem okPt_in {p:Pt} (h:okPt p=true):(0≤p.1∧p.1≤1073741824)∧0≤p.2∧p.2≤274877906944:=by simpa [okPt] using h
theorem okPt_of {p:Pt} (h:(0≤p.1∧p.1≤1073741824)∧0≤p.2∧p.2≤274877906944):okPt p=true:=by simp [okPt];omega
theorem steep_f {dx dy:Int} (h0:0 < dx) (h:steepB dx dy=false):dy * dx≤4611686018427387904:=by
  simp [steepB,h0] at h
  exact Int.le_trans (Int.mul_le_mul_of_nonneg_right h (by omega)) (Int.ediv_mul_le _ (by omega))
theorem steep_of {dx dy:Int} (h0:0 < dx) (h:dy * dx≤4611686018427387904):steepB dx dy=false:=by
  simp [steepB,h0]
  exact Int.le_ediv_of_mul_le h0 h
theorem ckGo_eq (q p:Pt) (r:List Pt):ckGo q (p :: r)=if okPt p=false then 1 else if p.1≤q.1 ∨ p.2 < q.2 then 4 else if steepB (p.1 - q.1) (p.2 - q.2)=true then 1 else ckGo p r:=rfl
theorem ckC_eq (p:Pt) (r:List Pt):ckC (p :: r)=if 100 < (p :: r).length then 10 else if okPt p=false then 1 else ckGo p r:=rfl
theorem ckGo_cons {q p:Pt} {r:List Pt}:ckGo q (p :: r)=0 ↔ okPt p=true∧q.1 < p.1∧q.2≤p.2∧(p.2 - q.2) * (p.1 - q.1)≤4611686018427387904∧ckGo p r=0:=by
  rw [ckGo_eq]
  constructor
  · intro h
    split at h
    · cases h
    · rename_i h1
      split at h
      · cases h
      · rename_i h2
        split at h
        · cases h
        · rename_i h3
          refine ⟨by simpa using h1,by omega,by omega,steep_f (by omega) (by simpa using h3),h⟩
  · rintro ⟨h1,h2,h3,h4,h5⟩
    rw [if_neg (by rw [h1];simp),if_neg (by omega),if_neg (by rw [steep_of (by omega) h4];simp)]
    exact h5
theorem ckC_cons {p:Pt} {r:List Pt}:ckC (p :: r)=0 ↔ r.length≤99∧okPt p=true∧ckGo p r=0:=by
  rw [ckC_eq]
  constructor
  · intro h
    split at h
    · cases h
    · rename_i h1
      split at h
      · cases h
      · rename_i h2
        exact ⟨by simp at h1;omega,by simpa using h2,h⟩
  · rintro ⟨h1,h2,h3⟩
    rw [if_neg (by simp;omega),if_neg (by rw [h2];simp)]
    exact h3
theorem ckC_ne {c:List Pt} (h:ckC c=0):c ≠ []∧c.length≤100:=by
  cases c with
  | nil=>simp [ckC] at h
  | cons p r=>exact ⟨by simp,by have:=(ckC_cons.1 h).1;simp;omega⟩
theorem ckGo_ok {p:Pt}:∀ {r:List Pt},ckGo p r=0→∀ q ∈ r,okPt q=true
  | [],_,q,hq=>by simp at hq
  | a :: r,h,q,hq=>by
    obtain ⟨h1,_,_,_,h5⟩:=ckGo_cons.1 h
    rcases List.mem_cons.1 hq with rfl | hq
    · exact h1
    · exact ckGo_ok h5 q hq
theorem ckC_ok {c:List Pt} (h:ckC c=0):∀ q ∈ c,okPt q=true:=by
  cases c with
  | nil=>simp [ckC] at h
  | cons p r =>
    obtain ⟨_,h2,h3⟩:=ckC_cons.1 h
    intro q hq
    rcases List.mem_cons.1 hq with rfl | hq
    · exact h2
    · exact ckGo_ok h3 q hq
theorem seg_in {p q:Pt} {x:Int} (h1:p.1 < q.1) (h2:p.2≤q.2) (hx:p.1≤x) (hx2:x≤q.1):0≤(q.2 - p.2) * (x - p.1)∧(q.2 - p.2) * (x - p.1)≤(q.2 - p.2) * (q.1 - p.1)∧0≤(q.2 - p.2) * (x - p.1) / (q.1 - p.1)∧(q.2 - p.2) * (x - p.1) / (q.1 - p.1)≤q.2 - p.2:=by
  have e1:0≤(q.2 - p.2) * (x - p.1):=Int.mul_nonneg (by omega) (by omega)
  have e2:(q.2 - p.2) * (x - p.1)≤(q.2 - p.2) * (q.1 - p.1):=Int.mul_le_mul_of_nonneg_left (by omega) (by omega)
  refine ⟨e1,e2,Int.ediv_nonneg e1 (by omega),?_⟩
  have:=Int.ediv_le_ediv (show 0 < q.1 - p.1 by omega) e2
  rwa [Int.mul_ediv_cancel _ (by omega)] at this
theorem vGo_ge:∀ {r:List Pt} {p:Pt} {x:Int},ckGo p r=0→p.1≤x→p.2≤vGo p r x
  | [],p,x,_,_=>Int.le_refl _
  | q :: r,p,x,h,hx=>by
    obtain ⟨_,h2,h3,_,h5⟩:=ckGo_cons.1 h
    unfold vGo
    split
    · rename_i hq
      have:=(seg_in h2 h3 hx hq).2.2.1
      omega
    · have:=vGo_ge (x:=x) h5 (by omega)
      omega
theorem vGo_mono:∀ {r:List Pt} {p:Pt} {x y:Int},ckGo p r=0→p.1≤x→x≤y→vGo p r x≤vGo p r y
  | [],p,x,y,_,_,_=>Int.le_refl _
  | q :: r,p,x,y,h,hx,hxy=>by
    obtain ⟨_,h2,h3,_,h5⟩:=ckGo_cons.1 h
    unfold vGo
    by_cases h1:x≤q.1
    · by_cases hy:y≤q.1
      · rw [if_pos h1,if_pos hy]
        have:=Int.ediv_le_ediv (show 0 < q.1 - p.1 by omega) (Int.mul_le_mul_of_nonneg_left (show x - p.1≤y - p.1 by omega) (show 0≤q.2 - p.2 by omega))
        omega
      · rw [if_pos h1,if_neg hy]
        have:=(seg_in h2 h3 hx h1).2.2.2
        have:=vGo_ge (x:=y) h5 (by omega)
        omega
    · rw [if_neg h1,if_neg (by omega)]
      exact vGo_mono h5 (by omega) hxy
theorem valC_eq (p:Pt) (r:List Pt) (x:Int):valC (p :: r) x=if x≤p.1 then p.2 else vGo p r x:=rfl
theorem valC_mono {c:List Pt} (h:ckC c=0) {x y:Int} (hxy:x≤y):valC c x≤valC c y:=by
  cases c with
  | nil=>exact Int.le_refl _
  | cons p r =>
    obtain ⟨_,_,h3⟩:=ckC_cons.1 h
    rw [valC_eq,valC_eq]
    by_cases h1:x≤p.1
    · rw [if_pos h1]
      split
      · exact Int.le_refl _
      · exact vGo_ge h3 (by omega)
    · rw [if_neg h1,if_neg (by omega)]
      exact vGo_mono h3 (by omega) hxy
theorem vGo_in:∀ {r:List Pt} {p:Pt} {x:Int},okPt p=true→ckGo p r=0→p.1≤x→0≤vGo p r x∧vGo p r x≤274877906944
  | [],p,x,hp,_,_=>by have:=okPt_in hp;unfold vGo;omega
  | q :: r,p,x,hp,h,hx=>by
    obtain ⟨h1,h2,h3,_,h5⟩:=ckGo_cons.1 h
    have a:=okPt_in hp
    have b:=okPt_in h1
    unfold vGo
    split
    · rename_i hq
      have:=seg_in h2 h3 hx hq
      omega
    · exact vGo_in h1 h5 (by omega)
theorem valC_in {c:List Pt} (h:ckC c=0) (x:Int):0≤valC c x∧valC c x≤274877906944:=by
  cases c with
  | nil=>simp [ckC] at h
  | cons p r =>
    obtain ⟨_,h2,h3⟩:=ckC_cons.1 h
    have a:=okPt_in h2
    rw [valC_eq]
    split
    · omega
    · exact vGo_in h2 h3 (by omega)
def R_ckC:RT:=fun args k=>match args with
  | [.c (.lst es)]=>∃ c:List Pt,es=eP c∧c.length≤9223372036854775807∧k (I (ckC c))
  | _=>False
def R_val:RT:=fun args k=>match args with
  | [.c (.lst es),.c (.sc (.int .i64 x))]=>∃ c:List Pt,es=eP c∧ckC c=0∧k (I (valC c x))
  | _=>False
def R_steep:RT:=fun args k=>match args with
  | [.c (.sc (.int .i64 dx)),.c (.sc (.int .i64 dy))]=>k (Bo (steepB dx dy))
  | _=>False
def ckAt (c:List Pt) (i:Nat):Prop:=i=0 ∨ ∃ q,c[i - 1]?=some q∧okPt q=true∧ckC c=ckGo q (c.drop i)
def vAt (c:List Pt) (x:Int) (i:Nat):Prop:=i=0 ∨ ∃ q,c[i - 1]?=some q∧q.1 < x∧valC c x=vGo q (c.drop i) x∧ckGo q (c.drop i)=0∧okPt q=true
theorem eP_at (c:List Pt) {i:Nat} {p:Pt} (h:c[i]?=some p):(eP c)[i]?=some (ePt p):=by rw [List.getElem?_map,h];rfl
theorem drop_of {α:Type} {c:List α} {i:Nat} {p:α} (h:c[i]?=some p):c.drop i=p :: c.drop (i+1):=by
  obtain ⟨hi,rfl⟩:=List.getElem?_eq_some_iff.1 h
  exact List.drop_eq_getElem_cons hi
end Go.Proofs

namespace Go.Proofs
open Go Go.Abs
set_option linter.unusedSimpArgs false
set_option linter.unusedVariables false
def chainP (dx lo hi:Int):Pt→List Pt→Prop
  | _,[]=>True
  | p,q :: r=>(p.1 < q.1∧q.1≤p.1+dx)∧(p.2+lo≤q.2∧q.2≤p.2+hi)∧chainP dx lo hi q r
def endP:Pt→List Pt→Pt
  | p,[]=>p
  | _,q :: r=>endP q r
theorem endP_snoc:∀ (p:Pt) (r:List Pt) (n:Pt),endP p (r ++ [n])=n
  | _,[],_=>rfl
  | _,q :: r,n=>endP_snoc q r n
theorem chain_snoc {dx lo hi:Int}:∀ {p:Pt} {r:List Pt} {n:Pt},chainP dx lo hi p r→(endP p r).1 < n.1∧n.1≤(endP p r).1+dx→(endP p r).2+lo≤n.2∧n.2≤(endP p r).2+hi→chainP dx lo hi p (r ++ [n])
  | p,[],n,_,h1,h2=>⟨h1,h2,trivial⟩
  | p,q :: r,n,h,h1,h2=>⟨h.1,h.2.1,chain_snoc h.2.2 h1 h2⟩
theorem end_in {dx lo hi:Int} (h0:0≤lo) (hd:0≤dx) (hh:0≤hi):∀ {p:Pt} {r:List Pt},chainP dx lo hi p r→p.1≤(endP p r).1∧(endP p r).1≤p.1+dx * r.length∧p.2≤(endP p r).2∧(endP p r).2≤p.2+hi * r.length
  | p,[],_=>by simp [endP]
  | p,q :: r,h=>by
    have ih:=end_in h0 hd hh h.2.2
    have e1:dx * ((q :: r).length:Int)=dx * r.length+dx:=by rw [List.length_cons,Int.natCast_add,Int.mul_add];simp
    have e2:hi * ((q :: r).length:Int)=hi * r.length+hi:=by rw [List.length_cons,Int.natCast_add,Int.mul_add];simp
    have h1:=h.1
    have h2:=h.2.1
    rw [e1,e2]
    unfold endP
    omega
theorem chain_ck {dx lo hi:Int} (h0:0≤lo) (hp:hi * dx≤4611686018427387904):∀ {r:List Pt} {p:Pt},chainP dx lo hi p r→(∀ q ∈ r,okPt q=true)→ckGo p r=0
  | [],_,_,_=>rfl
  | q :: r,p,h,hq=>by
    refine ckGo_cons.2 ⟨hq q (by simp),h.1.1,by have:=h.2.1;omega,?_,chain_ck h0 hp h.2.2 fun x hx=>hq x (by simp [hx])⟩
    have h1:=h.1
    have h2:=h.2.1
    have e1:(q.2 - p.2) * (q.1 - p.1)≤hi * (q.1 - p.1):=Int.mul_le_mul_of_nonneg_right (by omega) (by omega)
    have e2:hi * (q.1 - p.1)≤hi * dx:=Int.mul_le_mul_of_nonneg_left (by omega) (by omega)
    omega
theorem chain_in {dx lo hi:Int} (h0:0≤lo) (hd:0≤dx) (hh:0≤hi):∀ {r:List Pt} {p:Pt},chainP dx lo hi p r→∀ q ∈ r,p.1 < q.1∧q.1≤p.1+dx * r.length∧p.2≤q.2∧q.2≤p.2+hi * r.length
  | [],_,_,q,hq=>by simp at hq
  | a :: r,p,h,q,hq=>by
    have e1:dx * ((a :: r).length:Int)=dx * r.length+dx:=by rw [List.length_cons,Int.natCast_add,Int.mul_add];simp
    have e2:hi * ((a :: r).length:Int)=hi * r.length+hi:=by rw [List.length_cons,Int.natCast_add,Int.mul_add];simp
    have e3:0≤dx * (r.length:Int):=Int.mul_nonneg hd (by omega)
    have e4:0≤hi * (r.length:Int):=Int.mul_nonneg hh (by omega)
    rw [e1,e2]
    have h1:=h.1
    have h2:=h.2.1
    rcases List.mem_cons.1 hq with rfl | hq
    · omega
    · have:=chain_in h0 hd hh h.2.2 q hq
      omega
def loB (b:Bool):Int:=match b with
  | true=>1
  | false=>0
def R_curve:RB:=fun cs args k=>match args with
  | [.c (.sc (.int .i64 x)),.c (.sc (.int .i64 y)),.c (.sc (.int .i64 dx)),.c (.sc (.int .i64 dy)),.c (.sc (.bool b))]=>∃ d:Dk,cs=dkC d∧d.ok∧(0≤x∧x≤1000000)∧(0≤y∧y≤1000000)∧(1≤dx∧dx≤10000)∧(1≤dy∧dy≤10000) ∧
      ∀ (r:List Pt) d',Dk.ok d'→1≤r.length→r.length≤4→chainP dx (loB b) (loB b+dy - 1) (x,y) r→k (.c (.lst (eP ((x,y) :: r)))) (dkC d')
  | _=>False
end Go.Proofs

namespace Go.Proofs
open Go Go.Abs
set_option linter.unusedSimpArgs false
set_option linter.unusedVariables false
def inB (a b x:Int):Bool:=decide (a≤x) && decide (x≤b)
end Go.Proofs

namespace Go.Proofs
open Go Go.Abs
set_option linter.unusedSimpArgs false
set_option linter.unusedVariables false
theorem vGo_end:∀ {r:List Pt} {p:Pt} {x:Int},ckGo p r=0→(endP p r).1≤x→vGo p r x=(endP p r).2
  | [],p,x,_,_=>rfl
  | q :: r,p,x,h,hx=>by
    obtain ⟨_,h2,h3,_,h5⟩:=ckGo_cons.1 h
    have hx:(endP q r).1≤x:=hx
    have hq:q.1≤(endP q r).1:=by
      have:∀ {r:List Pt} {q:Pt},ckGo q r=0→q.1≤(endP q r).1:=fun {r}=>by
        induction r with
        | nil=>intro q _;exact Int.le_refl _
        | cons a r ih =>
          intro q h
          obtain ⟨_,h2,_,_,h5⟩:=ckGo_cons.1 h
          have:=ih h5
          show q.1≤(endP a r).1
          omega
      exact this h5
    show vGo p (q :: r) x=(endP q r).2
    unfold vGo
    by_cases hxq:x≤q.1
    · rw [if_pos hxq,← vGo_end h5 hx]
      have e:x=q.1:=by omega
      have e2:q.1=(endP q r).1:=by omega
      rw [e,Int.mul_ediv_cancel _ (by omega)]
      have:vGo q r q.1=q.2:=by
        cases r with
        | nil=>rfl
        | cons a r =>
          obtain ⟨_,g2,_,_,g5⟩:=ckGo_cons.1 h5
          have:a.1≤(endP a r).1:=by
            have h6:∀ {r:List Pt} {q:Pt},ckGo q r=0→q.1≤(endP q r).1:=fun {r}=>by
              induction r with
              | nil=>intro q _;exact Int.le_refl _
              | cons a r ih =>
                intro q h
                obtain ⟨_,h2,_,_,h5⟩:=ckGo_cons.1 h
                have:=ih h5
                show q.1≤(endP a r).1
                omega
            exact h6 g5
          have e3:q.1=(endP a r).1:=e2
          omega
      rw [this]
      omega
    · rw [if_neg hxq]
      exact vGo_end h5 hx
theorem endP_at:∀ (p:Pt) (r:List Pt),(p :: r)[r.length]?=some (endP p r)
  | _,[]=>rfl
  | _,q :: r=>by
    show (q :: r)[r.length]?=some (endP q r)
    exact endP_at q r
end Go.Proofs

namespace Go.Proofs
open Go Go.Abs
set_option linter.unusedSimpArgs false
set_option linter.unusedVariables false
def lGo:Pt→List Pt→Int→Int
  | q,[],_=>q.1
  | q,p :: r,y=>if y < p.2 then q.1+((y - q.2+1) * (p.1 - q.1) - 1) / (p.2 - q.2) else lGo p r y
def lastV (c:List Pt) (y:Int):Int × Bool × Int:=if ckC c ≠ 0 then (0,false,ckC c) else match c with
  | []=>(0,false,0)
  | p :: r=>if y < p.2 then (0,false,0) else (lGo p r y,true,0)
def hgt (c:List Pt) (y:Int):Int:=match c with
  | []=>0
  | p :: r=>if y < p.2 then p.1 else lGo p r y
def lastP (c:List Pt):Pt:=match c with
  | []=>(0,0)
  | p :: r=>endP p r
def riseB:List Pt→Bool
  | p :: q :: r=>decide (p.2 < q.2) && riseB (q :: r)
  | _=>true
def srt:List Int→Bool
  | a :: b :: r=>decide (a≤b) && srt (b :: r)
  | _=>true
structure Rs where
  st:List Pt
  dead:Int
  low:Int
  full:Int
  sur:Int
  crest:Int
def Rs.lv (r:Rs):List Int:=[(r.st.headD (0,0)).1,r.dead,r.low,r.full,r.sur,r.crest,(lastP r.st).1]
def rsC (r:Rs):List Cell:=[.lst (eP r.st),IC r.dead,IC r.low,IC r.full,IC r.sur,IC r.crest]
def ckS (r:Rs):Int:=if ckC r.st ≠ 0 then ckC r.st else if r.st.length < 2 then 3 else if 16777216 < (lastP r.st).1 then 1 else if riseB r.st=false then 4 else if srt r.lv=false then 4 else 0
def askS (r:Rs) (v l:Int):Int:=if ckS r ≠ 0 then ckS r else if inB 0 274877906944 v=true∧inB 0 16777216 l=true then 0 else 1
def volS (r:Rs) (x:Int):Int × Int:=if askS r 0 x ≠ 0 then (0,askS r 0 x) else (valC r.st x,0)
def levS (r:Rs) (v:Int):Int × Int:=if askS r v 0 ≠ 0 then (0,askS r v 0) else (hgt r.st v,0)
def mx (a b:Int):Int:=if a < b then b else a
theorem riseB_cons {p q:Pt} {r:List Pt}:riseB (p :: q :: r)=true ↔ p.2 < q.2∧riseB (q :: r)=true:=by simp [riseB]
theorem srt_cons {a b:Int} {r:List Int}:srt (a :: b :: r)=true ↔ a≤b∧srt (b :: r)=true:=by simp [srt]
theorem srt_bad {a b:Int} {r:List Int} (h:b < a):srt (a :: b :: r)=false:=by simp [srt];omega
theorem srt_good {a b:Int} {r:List Int} (h:¬ b < a):srt (a :: b :: r)=srt (b :: r):=by simp [srt];omega
theorem rise_bad {p q:Pt} {r:List Pt} (h:q.2≤p.2):riseB (p :: q :: r)=false:=by simp [riseB];omega
theorem rise_good {p q:Pt} {r:List Pt} (h:¬ q.2≤p.2):riseB (p :: q :: r)=riseB (q :: r):=by simp [riseB];omega
theorem seg_l {p q:Pt} {y:Int} (h1:p.1 < q.1) (h2:p.2 < q.2) (hy:p.2≤y) (hy2:y < q.2) :
    0≤(y - p.2+1) * (q.1 - p.1) - 1∧(y - p.2+1) * (q.1 - p.1)≤(q.2 - p.2) * (q.1 - p.1)∧0≤((y - p.2+1) * (q.1 - p.1) - 1) / (q.2 - p.2)∧((y - p.2+1) * (q.1 - p.1) - 1) / (q.2 - p.2) < q.1 - p.1:=by
  have e1:0 < (y - p.2+1) * (q.1 - p.1):=Int.mul_pos (by omega) (by omega)
  have e2:(y - p.2+1) * (q.1 - p.1)≤(q.2 - p.2) * (q.1 - p.1):=Int.mul_le_mul_of_nonneg_right (by omega) (by omega)
  refine ⟨by omega,e2,Int.ediv_nonneg (by omega) (by omega),?_⟩
  refine Int.ediv_lt_of_lt_mul (by omega) ?_
  rw [Int.mul_comm (q.1 - p.1)]
  omega
theorem lGo_in:∀ {r:List Pt} {p:Pt} {y:Int},ckGo p r=0→riseB (p :: r)=true→p.2≤y→p.1≤lGo p r y∧lGo p r y≤(endP p r).1
  | [],p,y,_,_,_=>⟨Int.le_refl _,Int.le_refl _⟩
  | q :: r,p,y,h,hr,hy=>by
    obtain ⟨_,h2,h3,_,h5⟩:=ckGo_cons.1 h
    obtain ⟨g1,g2⟩:=riseB_cons.1 hr
    have hq:q.1≤(endP q r).1:=(by
      have:=lGo_in (y:=q.2) h5 g2 (Int.le_refl _)
      omega)
    show p.1≤lGo p (q :: r) y∧lGo p (q :: r) y≤(endP q r).1
    unfold lGo
    split
    · rename_i h6
      have:=seg_l h2 g1 hy h6
      omega
    · have:=lGo_in (y:=y) h5 g2 (by omega)
      omega
theorem hgt_in {c:List Pt} (h:ckC c=0) (hr:riseB c=true) (y:Int):(c.headD (0,0)).1≤hgt c y∧hgt c y≤(lastP c).1:=by
  cases c with
  | nil=>simp [ckC] at h
  | cons p r =>
    have hc:=(ckC_cons.1 h).2.2
    show p.1≤hgt (p :: r) y∧hgt (p :: r) y≤(endP p r).1
    unfold hgt
    dsimp only
    split
    · have:=lGo_in (y:=p.2) hc hr (Int.le_refl _)
      omega
    · exact lGo_in hc hr (by omega)
theorem hgt_lo {c:List Pt} {y:Int} (hy:y < (c.headD (0,0)).2):hgt c y=(c.headD (0,0)).1:=by
  cases c with
  | nil=>rfl
  | cons p r=>exact if_pos hy
theorem lastV_ok {c:List Pt} (h:ckC c=0) (y:Int):lastV c y=if y < (c.headD (0,0)).2 then (0,false,0) else (hgt c y,true,0):=by
  cases c with
  | nil=>simp [ckC] at h
  | cons p r =>
    unfold lastV
    rw [if_neg (by rw [h];simp)]
    show (if y < p.2 then _ else _)=if y < p.2 then _ else _
    split
    · rfl
    · rename_i h1
      rw [show hgt (p :: r) y=lGo p r y from if_neg h1]
theorem ckS_ok {r:Rs} (h:ckS r=0):ckC r.st=0∧2≤r.st.length∧(lastP r.st).1≤16777216∧riseB r.st=true∧srt r.lv=true:=by
  unfold ckS at h
  split at h
  · rename_i h1;exact absurd h h1
  · rename_i h1
    split at h
    · cases h
    · split at h
      · cases h
      · split at h
        · cases h
        · split at h
          · cases h
          · rename_i h2 h3 h4 h5
            exact ⟨by simpa using h1,by omega,by omega,by simpa using h4,by simpa using h5⟩
theorem ckS_of {r:Rs} (h1:ckC r.st=0) (h2:2≤r.st.length) (h3:(lastP r.st).1≤16777216) (h4:riseB r.st=true) (h5:srt r.lv=true):ckS r=0:=by
  unfold ckS
  rw [if_neg (by rw [h1];simp),if_neg (by omega),if_neg (by omega),if_neg (by rw [h4];simp),if_neg (by rw [h5];simp)]
theorem askS_of {r:Rs} {v l:Int} (h:ckS r=0) (hv:0≤v∧v≤274877906944) (hl:0≤l∧l≤16777216):askS r v l=0:=by
  unfold askS
  rw [if_neg (by rw [h];simp),if_pos (by simp [inB];omega)]
theorem askS_ok {r:Rs} {v l:Int} (h:askS r v l=0):ckS r=0∧(0≤v∧v≤274877906944)∧(0≤l∧l≤16777216):=by
  unfold askS at h
  split at h
  · rename_i h1;exact absurd h h1
  · rename_i h1
    split at h
    · rename_i h2;simp [inB] at h2;exact ⟨by simpa using h1,by omega,by omega⟩
    · cases h
theorem volS_of {r:Rs} {x:Int} (h:ckS r=0) (hl:0≤x∧x≤16777216):volS r x=(valC r.st x,0):=by
  unfold volS
  rw [if_neg (by rw [askS_of h (by omega) hl];simp)]
theorem levS_of {r:Rs} {v:Int} (h:ckS r=0) (hv:0≤v∧v≤274877906944):levS r v=(hgt r.st v,0):=by
  unfold levS
  rw [if_neg (by rw [askS_of h hv (by omega)];simp)]
theorem lastP_at {c:List Pt} (h:c ≠ []):c[c.length - 1]?=some (lastP c):=by
  cases c with
  | nil=>exact absurd rfl h
  | cons p r=>exact endP_at p r
theorem head_at {c:List Pt} (h:c ≠ []):c[0]?=some (c.headD (0,0)):=by
  cases c with
  | nil=>exact absurd rfl h
  | cons p r=>rfl
def R_last:RT:=fun args k=>match args with
  | [.c (.lst es),.c (.sc (.int .i64 y))]=>∃ c:List Pt,es=eP c∧c.length≤9223372036854775807∧k (.tup [I (lastV c y).1,Bo (lastV c y).2.1,I (lastV c y).2.2])
  | _=>False
def R_rs (f:Rs→Int):RT:=fun args k=>match args with
  | [.agg [.lst es,.sc (.int .i64 a),.sc (.int .i64 b),.sc (.int .i64 c),.sc (.int .i64 d),.sc (.int .i64 e)]]=>∃ st:List Pt,es=eP st∧st.length≤9223372036854775807∧k (I (f ⟨st,a,b,c,d,e⟩))
  | _=>False
def R_rs1 (f:Rs→Int→Int × Int):RT:=fun args k=>match args with
  | [.agg [.lst es,.sc (.int .i64 a),.sc (.int .i64 b),.sc (.int .i64 c),.sc (.int .i64 d),.sc (.int .i64 e)],.c (.sc (.int .i64 x))]=>∃ st:List Pt,es=eP st∧st.length≤9223372036854775807∧k (.tup [I (f ⟨st,a,b,c,d,e⟩ x).1,I (f ⟨st,a,b,c,d,e⟩ x).2])
  | _=>False
structure Rs.made (r:Rs):Prop where
  ck:ckS r=0
  lo:100≤(r.st.headD (0,0)).1∧(r.st.headD (0,0)).1 < 110
  hi:(lastP r.st).1 < 270
  vlo:0≤(r.st.headD (0,0)).2∧(r.st.headD (0,0)).2 < 20
  lv:(r.st.headD (0,0)).1≤r.dead∧r.dead≤r.low∧r.low≤r.full∧r.full≤r.sur∧r.sur≤r.crest∧r.crest≤(lastP r.st).1
  vhi:∀ q ∈ r.st,q.2≤1000
def R_resv:RB:=fun cs args k=>match args with
  | []=>∃ d:Dk,cs=dkC d∧d.ok∧∀ (r:Rs) d',Dk.ok d'→r.made→r.st.length≤5→k (.agg (rsC r)) (dkC d')
  | _=>False
theorem chain_rise {dx lo hi:Int} (h0:0 < lo):∀ {r:List Pt} {p:Pt},chainP dx lo hi p r→riseB (p :: r)=true
  | [],_,_=>rfl
  | q :: r,p,h=>riseB_cons.2 ⟨by have:=h.2.1;omega,chain_rise h0 h.2.2⟩
theorem made_of {p:Pt} {r:List Pt} {a b c d e:Int} (h1:100≤p.1∧p.1 < 110) (h2:0≤p.2∧p.2 < 20) (h3:1≤r.length∧r.length≤4) (h4:chainP 40 1 200 p r)
    (h5:p.1≤a∧a≤b∧b≤c∧c≤d∧d≤e∧e≤(endP p r).1):Rs.made ⟨p :: r,a,b,c,d,e⟩:=by
  have hin:=chain_in (by omega) (by omega) (by omega) h4
  have hen:=end_in (by omega) (by omega) (by omega) h4
  have hok:∀ q ∈ r,okPt q=true:=fun q hq=>okPt_of (by have:=hin q hq;omega)
  have hck:ckC (p :: r)=0:=ckC_cons.2 ⟨by omega,okPt_of (by omega),chain_ck (by omega) (by omega) h4 hok⟩
  have hend:(endP p r).1 < 270:=by omega
  refine ⟨ckS_of hck (by simp;omega) (by show (endP p r).1≤_;omega) (chain_rise (by omega) h4) ?_,h1,hend,h2,h5,fun q hq=>by
    rcases List.mem_cons.1 hq with rfl | hq
    · omega
    · have:=hin q hq;omega⟩
  show srt [p.1,a,b,c,d,e,(endP p r).1]=true
  simp only [srt_cons]
  exact ⟨h5.1,h5.2.1,h5.2.2.1,h5.2.2.2.1,h5.2.2.2.2.1,h5.2.2.2.2.2,rfl⟩
end Go.Proofs

namespace Go.Proofs
open Go Go.Abs
set_option linter.unusedSimpArgs false
set_option linter.unusedVariables false
theorem ck_end:∀ {r:List Pt} {q:Pt},ckGo q r=0→q.1≤(endP q r).1
  | [],_,_=>Int.le_refl _
  | a :: r,q,h=>by
    obtain ⟨_,h2,_,_,h5⟩:=ckGo_cons.1 h
    have:=ck_end h5
    show q.1≤(endP a r).1
    omega
theorem lGo_in':∀ {r:List Pt} {p:Pt} {y:Int},ckGo p r=0→p.2≤y→p.1≤lGo p r y∧lGo p r y≤(endP p r).1
  | [],p,y,_,_=>⟨Int.le_refl _,Int.le_refl _⟩
  | q :: r,p,y,h,hy=>by
    obtain ⟨_,h2,h3,_,h5⟩:=ckGo_cons.1 h
    have hq:=ck_end h5
    show p.1≤lGo p (q :: r) y∧lGo p (q :: r) y≤(endP q r).1
    unfold lGo
    split
    · rename_i h6
      have:=seg_l h2 (by omega) hy h6
      omega
    · have:=lGo_in' (y:=y) h5 (by omega)
      omega
theorem gal_go':∀ {r:List Pt} {p:Pt} {x y:Int},ckGo p r=0→p.2≤y→p.1≤x→x≤(endP p r).1→(x≤lGo p r y ↔ vGo p r x≤y)
  | [],p,x,y,_,hy,hx,hx2=>by
    have:x≤p.1:=hx2
    unfold lGo vGo
    omega
  | q :: r,p,x,y,h,hy,hx,hx2=>by
    obtain ⟨_,h2,h3,_,h5⟩:=ckGo_cons.1 h
    have hx2:x≤(endP q r).1:=hx2
    unfold lGo vGo
    by_cases h6:y < q.2
    · rw [if_pos h6]
      have hs:=seg_l h2 (by omega) hy h6
      by_cases h7:x≤q.1
      · rw [if_pos h7]
        have a1:(q.2 - p.2) * (x - p.1) / (q.1 - p.1) < y - p.2+1 ↔ (q.2 - p.2) * (x - p.1) < (y - p.2+1) * (q.1 - p.1):=Int.ediv_lt_iff_lt_mul (by omega)
        have a2:x - p.1≤((y - p.2+1) * (q.1 - p.1) - 1) / (q.2 - p.2) ↔ (x - p.1) * (q.2 - p.2)≤(y - p.2+1) * (q.1 - p.1) - 1:=Int.le_ediv_iff_mul_le (by omega)
        rw [Int.mul_comm (x - p.1)] at a2
        omega
      · rw [if_neg h7]
        have:=vGo_ge (x:=x) h5 (by omega)
        omega
    · rw [if_neg h6]
      have:=(lGo_in' (y:=y) h5 (by omega)).1
      by_cases h7:x≤q.1
      · rw [if_pos h7]
        have:=seg_in h2 h3 hx h7
        omega
      · rw [if_neg h7]
        exact gal_go' h5 (by omega) (by omega) hx2
theorem hgt_in' {c:List Pt} (h:ckC c=0) (y:Int):(c.headD (0,0)).1≤hgt c y∧hgt c y≤(lastP c).1:=by
  cases c with
  | nil=>simp [ckC] at h
  | cons p r =>
    have hc:=(ckC_cons.1 h).2.2
    show p.1≤hgt (p :: r) y∧hgt (p :: r) y≤(endP p r).1
    unfold hgt
    dsimp only
    split
    · have:=ck_end hc
      omega
    · exact lGo_in' hc (by omega)
theorem hgt_gal' {c:List Pt} (h:ckC c=0) {x y:Int} (hy:(c.headD (0,0)).2≤y) (hx:(c.headD (0,0)).1≤x) (hx2:x≤(lastP c).1):x≤hgt c y ↔ valC c x≤y:=by
  cases c with
  | nil=>simp [ckC] at h
  | cons p r =>
    have hc:=(ckC_cons.1 h).2.2
    have hy:p.2≤y:=hy
    have hx:p.1≤x:=hx
    rw [valC_eq,show hgt (p :: r) y=lGo p r y from if_neg (by omega),gal_go' hc hy hx hx2]
    by_cases h1:x≤p.1
    · rw [if_pos h1]
      have e:x=p.1:=by omega
      have:=(gal_go' hc hy hx hx2).1 (by have:=lGo_in' hc hy;omega)
      constructor <;> intro <;> assumption
    · rw [if_neg h1]
theorem vGo_at {r:List Pt} {q:Pt} (h:ckGo q r=0):vGo q r q.1=q.2:=by
  cases r with
  | nil=>rfl
  | cons a r =>
    obtain ⟨_,h2,_,_,_⟩:=ckGo_cons.1 h
    unfold vGo
    rw [if_pos (by omega),Int.sub_self,Int.mul_zero,Int.zero_ediv,Int.add_zero]
theorem vGo_next {r:List Pt} {q p:Pt} {x:Int} (h:ckGo q (p :: r)=0) (hx:¬ x < p.1):vGo q (p :: r) x=vGo p r x:=by
  obtain ⟨_,h2,_,_,h5⟩:=ckGo_cons.1 h
  by_cases e:x=p.1
  · subst e
    rw [vGo_at h5]
    unfold vGo
    rw [if_pos (Int.le_refl _),Int.mul_ediv_cancel _ (by omega)]
    omega
  · show (if x≤p.1 then _ else _)=_
    rw [if_neg (by omega)]
def atV (c:List Pt) (x:Int):Int × Int:=if ckC c ≠ 0 then (0,ckC c) else (valC c x,0)
def R_at:RT:=fun args k=>match args with
  | [.c (.lst es),.c (.sc (.int .i64 x))]=>∃ c:List Pt,es=eP c∧c.length≤9223372036854775807∧k (.tup [I (atV c x).1,I (atV c x).2])
  | _=>False
def rAt (c:List Pt) (x:Int) (i:Nat):Prop:=∃ q,c[i - 1]?=some q∧q.1≤x∧valC c x=vGo q (c.drop i) x∧ckGo q (c.drop i)=0∧okPt q=true
def R_rsI (f:Rs→Int→Int):RT:=fun args k=>match args with
  | [.agg [.lst es,.sc (.int .i64 a),.sc (.int .i64 b),.sc (.int .i64 c),.sc (.int .i64 d),.sc (.int .i64 e)],.c (.sc (.int .i64 x))]=>∃ st:List Pt,es=eP st∧st.length≤9223372036854775807∧k (I (f ⟨st,a,b,c,d,e⟩ x))
  | _=>False
theorem ck_le_end:∀ {r:List Pt} {q:Pt},ckGo q r=0→∀ a ∈ q :: r,a.1≤(endP q r).1
  | [],q,_,a,ha=>by simp at ha;subst ha;exact Int.le_refl _
  | b :: r,q,h,a,ha=>by
    rcases List.mem_cons.1 ha with rfl | ha
    · exact ck_end h
    · exact ck_le_end (ckGo_cons.1 h).2.2.2.2 a ha
theorem le_last {c:List Pt} (h:ckC c=0):∀ a ∈ c,a.1≤(lastP c).1:=by
  cases c with
  | nil=>simp [ckC] at h
  | cons p r=>exact ck_le_end (ckC_cons.1 h).2.2
theorem last_mem {c:List Pt} (h:c ≠ []):lastP c ∈ c:=List.mem_of_getElem? (lastP_at h)
theorem srt_lv {r:Rs} (h:ckS r=0):(r.st.headD (0,0)).1≤r.dead∧r.dead≤r.low∧r.low≤r.full∧r.full≤r.sur∧r.sur≤r.crest∧r.crest≤(lastP r.st).1:=by
  have:=(ckS_ok h).2.2.2.2
  unfold Rs.lv at this
  simp only [srt_cons] at this
  obtain ⟨a,b,c,d,e,f,_⟩:=this
  exact ⟨a,b,c,d,e,f⟩
theorem dead_in {r:Rs} (h:ckS r=0):0≤r.dead∧r.dead≤16777216:=by
  have a:=srt_lv h
  obtain ⟨h1,_,h3,_,_⟩:=ckS_ok h
  have hc0:=(ckC_ne h1).1
  have:=okPt_in (ckC_ok h1 _ (List.mem_of_getElem? (head_at hc0)))
  omega
end Go.Proofs
