/- Proved here: what functions of the given program come to, and the plain laws of it; no condition but those in the theorems. -/
import Derived.Test.YtgllikepncnpkaaGreatPStorage2
import Derived.Test.YtgllikepncnpkaaGreatAbsS
namespace Go.Proofs
open Go Go.Abs
set_option linter.unusedSimpArgs false
set_option linter.unusedVariables false
structure Un where
  tb:List Pt
  lo:Int
  mo:Int
  rg:List Pt
  up:Int
  dn:Int
def unC (u:Un):List Cell:=[.lst (eP u.tb),IC u.lo,IC u.mo,.lst (eP u.rg),IC u.up,IC u.dn]
structure Un.fin (u:Un):Prop where
  tb:u.tb.length≤9223372036854775807
  rg:u.rg.length≤9223372036854775807
structure Us where
  fl:Int
  si:Int
  ot:Bool
def usC (s:Us):List Cell:=[IC s.fl,IC s.si,BC s.ot]
def zE:List Pt→Int
  | []=>0
  | z :: r=>if (inB 0 1073741824 z.1 && inB 0 1073741824 z.2)=false then 1 else if z.2≤z.1 then 4 else zE r
def ckU (u:Un):Int:=if ckC u.tb ≠ 0 then ckC u.tb else if 1073741824 < (lastP u.tb).2 then 1 else if u.lo < 1 ∨ u.mo < u.lo ∨ 1073741824 < u.mo then 1 else if 10 < u.rg.length then 10 else if zE u.rg ≠ 0 then zE u.rg else if (inB 0 1000 u.up && inB 0 1000 u.dn)=false then 1 else 0
theorem zE_cons (z:Pt) (r:List Pt):zE (z :: r)=if (inB 0 1073741824 z.1 && inB 0 1073741824 z.2)=false then 1 else if z.2≤z.1 then 4 else zE r:=rfl
theorem zE_ok:∀ {l:List Pt},zE l=0 ↔ ∀ z ∈ l,(0≤z.1∧z.1≤1073741824)∧(0≤z.2∧z.2≤1073741824)∧z.1 < z.2
  | []=>by simp [zE]
  | z :: r=>by
    have ih:=zE_ok (l:=r)
    rw [List.forall_mem_cons,← ih,zE_cons]
    split
    · rename_i h
      simp [inB] at h
      refine ⟨fun e=>by omega,fun ⟨a,_⟩=>?_⟩
      exact absurd a.2.1.2 (by have:=h (by omega) (by omega) (by omega);omega)
    · rename_i h
      simp [inB] at h
      split
      · exact ⟨fun e=>by omega,fun ⟨a,_⟩=>by omega⟩
      · exact ⟨fun e=>⟨⟨⟨by omega,by omega⟩,⟨by omega,by omega⟩,by omega⟩,e⟩,fun ⟨_,b⟩=>b⟩
structure UOk (u:Un):Prop where
  c:ckC u.tb=0
  y:(lastP u.tb).2≤1073741824
  l1:1≤u.lo
  lm:u.lo≤u.mo
  m:u.mo≤1073741824
  n:u.rg.length≤10
  z:∀ z ∈ u.rg,(0≤z.1∧z.1≤1073741824)∧(0≤z.2∧z.2≤1073741824)∧z.1 < z.2
  hup:0≤u.up∧u.up≤1000
  hdn:0≤u.dn∧u.dn≤1000
theorem ckU_ok {u:Un} (h:ckU u=0):UOk u:=by
  unfold ckU at h
  split at h
  · rename_i e;exact absurd h e
  rename_i h1
  split at h
  · omega
  split at h
  · omega
  split at h
  · omega
  split at h
  · rename_i e;exact absurd h e
  rename_i h5
  split at h
  · omega
  rename_i h6
  simp [inB] at h6
  exact ⟨by omega,by omega,by omega,by omega,by omega,by omega,zE_ok.1 (by omega),by omega,by omega⟩
theorem ckU_of {u:Un} (h:UOk u):ckU u=0:=by
  have hz:=zE_ok.2 h.z
  obtain ⟨h1,h2,h3,h4,h5,h6,_,⟨h7,h8⟩,h9,h10⟩:=h
  unfold ckU
  rw [if_neg (by simp [h1]),if_neg (by omega),if_neg (by omega),if_neg (by omega),if_neg (by simp [hz]),if_neg (by simp [inB,h7,h8,h9,h10])]
def outZ (l:List Pt) (q:Int):Bool:=l.all fun z=>!(decide (z.1 < q) && decide (q < z.2))
def runB (u:Un) (q:Int):Bool:=(decide (u.lo≤q) && decide (q≤u.mo)) && outZ u.rg q
theorem outZ_iff {l:List Pt} {q:Int}:outZ l q=true ↔ ∀ z ∈ l,¬ (z.1 < q∧q < z.2):=by
  simp only [outZ,List.all_eq_true]
  refine forall_congr' fun z=>forall_congr' fun _=>?_
  simp;omega
theorem runB_iff {u:Un} {q:Int}:runB u q=true ↔ (u.lo≤q∧q≤u.mo)∧outZ u.rg q=true:=by simp [runB]
def runS (u:Un) (q:Int):Bool:=decide (ckU u=0) && runB u q
def fitB (u:Un) (s:Us):Bool:=inB 0 1000 s.si && (decide (s.fl=0) || (!s.ot && runB u s.fl))
def validB (u:Un) (s:Us):Bool:=decide (ckU u=0) && fitB u s
def mayB (u:Un) (s:Us) (q:Int):Bool:=if q=0 then (if 0 < s.fl then decide (u.up≤s.si) else true) else if s.ot=true ∨ (s.fl=0∧s.si < u.dn) then false else runB u q
def mayV (u:Un) (s:Us) (q:Int):Bool:=validB u s && mayB u s q
def us0:Us:=⟨0,0,false⟩
def mn (a b:Int):Int:=if b < a then b else a
def nextS (u:Un) (s:Us) (q:Int):Us × Bool × Int :=
  if ckU u ≠ 0 then (us0,false,ckU u) else if fitB u s=false then (us0,false,3) else if mayB u s q=false then (us0,false,15)
  else (⟨q,if decide (0 < q)=decide (0 < s.fl) then mn (s.si+1) 1000 else 1,s.ot⟩,decide (0 < q) && decide (s.fl=0),0)
def isBey (l:List Pt) (f r:Int):Prop:=f≤r∧outZ l r=true∧(∀ x,f≤x→x < r→outZ l x=false)∧(r=f ∨ ∃ z ∈ l,r=z.2)
theorem isBey_eq {l:List Pt} {f r:Int} (h:isBey l f r):decide (r=f)=outZ l f:=by
  obtain ⟨h1,h2,h3,_⟩:=h
  by_cases e:r=f
  · subst e;simp [h2]
  · rw [h3 f (Int.le_refl _) (by omega)];simp [e]
def insZ:List Pt→Int→Int × Bool
  | [],_=>(0,false)
  | z :: r,q=>if z.1 < q∧q < z.2 then (z.2,true) else insZ r q
theorem insZ_iff:∀ {l:List Pt} {q:Int},(insZ l q).2=!outZ l q
  | [],q=>rfl
  | z :: r,q=>by
    have ih:=insZ_iff (l:=r) (q:=q)
    unfold insZ
    by_cases h:z.1 < q∧q < z.2
    · rw [if_pos h];simp [outZ,h]
    · rw [if_neg h,ih]
      have:(decide (z.1 < q) && decide (q < z.2))=false:=by simp;omega
      simp [outZ,this]
theorem insZ_mem:∀ {l:List Pt} {q:Int},(insZ l q).2=true→∃ z ∈ l,z.1 < q∧q < z.2∧(insZ l q).1=z.2
  | [],q,h=>by cases h
  | z :: r,q,h=>by
    unfold insZ at h ⊢
    by_cases e:z.1 < q∧q < z.2
    · rw [if_pos e];exact ⟨z,by simp,e.1,e.2,rfl⟩
    · rw [if_neg e] at h ⊢
      obtain ⟨y,h1,h2⟩:=insZ_mem h
      exact ⟨y,List.mem_cons_of_mem _ h1,h2⟩
theorem outZ_f {l:List Pt} {q:Int} {z:Pt} (h:z ∈ l) (h1:z.1 < q) (h2:q < z.2):outZ l q=false:=by
  cases h0:outZ l q with
  | false=>rfl
  | true=>exact absurd ⟨h1,h2⟩ (outZ_iff.1 h0 z h)
def zAb (l:List Pt) (f:Int):Nat:=(l.filter fun z=>decide (f < z.2)).length
theorem zAb_le:∀ {l:List Pt} {f g:Int},f≤g→zAb l g≤zAb l f
  | [],_,_,_=>Nat.le_refl _
  | z :: r,f,g,h=>by
    have ih:=zAb_le (l:=r) h
    unfold zAb at *
    simp only [List.filter_cons]
    split <;> split <;> simp at * <;> omega
theorem zAb_lt:∀ {l:List Pt} {f:Int} {z:Pt},z ∈ l→f < z.2→zAb l z.2 < zAb l f
  | [],_,_,h,_=>by cases h
  | y :: r,f,z,h,hf=>by
    rcases List.mem_cons.1 h with rfl | h
    · have:=zAb_le (l:=r) (Int.le_of_lt hf)
      unfold zAb at *
      simp only [List.filter_cons]
      split <;> split <;> simp at * <;> omega
    · have ih:=zAb_lt h hf
      unfold zAb at *
      simp only [List.filter_cons]
      split <;> split <;> simp at * <;> omega
def okQ (u:Un) (g q:Int):Bool:=decide (q % g=0) && outZ u.rg q
def flN (u:Un) (g:Int):Nat→Ls
  | 0=>[]
  | n+1=>flN u g n ++ (if okQ u g (u.lo+n)=true then [u.lo+n] else [])
theorem flN_succ (u:Un) (g:Int) (n:Nat):flN u g (n+1)=flN u g n ++ (if okQ u g (u.lo+n)=true then [u.lo+n] else []):=rfl
def flT (u:Un) (g x:Int):Ls:=flN u g (x - u.lo).toNat
theorem flT_one {u:Un} {g x:Int} (h:u.lo≤x):flT u g (x+1)=flT u g x ++ (if okQ u g x=true then [x] else []):=by
  unfold flT
  rw [show (x+1 - u.lo).toNat=(x - u.lo).toNat+1 by omega]
  rw [flN_succ,show u.lo+((x - u.lo).toNat:Int)=x by omega]
theorem flT_lo {u:Un} {g x:Int} (h:x≤u.lo):flT u g x=[]:=by
  unfold flT
  rw [show (x - u.lo).toNat=0 by omega]
  rfl
theorem flT_skip {u:Un} {g:Int}:∀ (n:Nat) {a:Int},(∀ x,a≤x→x < a+n→okQ u g x=false)→flT u g (a+n)=flT u g a
  | 0,a,_=>by simp
  | n+1,a,h=>by
    have ih:=flT_skip n (a:=a) fun x h1 h2=>h x h1 (by omega)
    by_cases hl:u.lo≤a+n
    · rw [show a+((n+1:Nat):Int)=a+n+1 by omega,flT_one hl,ih,h (a+n) (by omega) (by omega)];simp
    · rw [flT_lo (by omega),flT_lo (by omega)]
theorem flT_to {u:Un} {g a b:Int} (hab:a≤b) (h:∀ x,a≤x→x < b→okQ u g x=false):flT u g b=flT u g a:=by
  have:=flT_skip (b - a).toNat (u:=u) (g:=g) (a:=a) fun x h1 h2=>h x h1 (by omega)
  rwa [show a+((b - a).toNat:Int)=b by omega] at this
theorem flN_mem {u:Un} {g:Int}:∀ {n:Nat} {x:Int},x ∈ flN u g n ↔ (u.lo≤x∧x < u.lo+n)∧okQ u g x=true
  | 0,x=>by simp [flN];omega
  | n+1,x=>by
    unfold flN
    rw [List.mem_append,flN_mem (n:=n)]
    constructor
    · rintro (h | h)
      · exact ⟨by omega,h.2⟩
      · split at h
        · rename_i e;simp at h;subst h;exact ⟨by omega,e⟩
        · simp at h
    · rintro ⟨h1,h2⟩
      by_cases e:x=u.lo+n
      · subst e;right;rw [if_pos h2];simp
      · left;exact ⟨by omega,h2⟩
theorem flT_mem {u:Un} {g t x:Int}:x ∈ flT u g t ↔ (u.lo≤x∧x < t)∧okQ u g x=true:=by
  unfold flT
  rw [flN_mem]
  constructor
  · rintro ⟨h1,h2⟩;exact ⟨by omega,h2⟩
  · rintro ⟨h1,h2⟩;exact ⟨by omega,h2⟩
theorem flN_len {u:Un} {g:Int}:∀ {n:Nat},(flN u g n).length≤n
  | 0=>Nat.le_refl _
  | n+1=>by
    have:=flN_len (u:=u) (g:=g) (n:=n)
    unfold flN
    rw [List.length_append]
    split <;> simp <;> omega
theorem flN_mono {u:Un} {g:Int} {n:Nat}:∀ {m:Nat},n≤m→(flN u g n).length≤(flN u g m).length
  | 0,h=>by rw [show n=0 by omega];exact Nat.le_refl _
  | m+1,h=>by
    by_cases e:n=m+1
    · rw [e];exact Nat.le_refl _
    · have:=flN_mono (u:=u) (g:=g) (m:=m) (n:=n) (by omega)
      rw [show flN u g (m+1)=flN u g m ++ (if okQ u g (u.lo+m)=true then [u.lo+m] else []) from rfl,List.length_append]
      omega
theorem flT_mono {u:Un} {g a b:Int} (h:a≤b):(flT u g a).length≤(flT u g b).length:=flN_mono (by omega)
def flS (u:Un) (g:Int):Ls × Int:=if ckU u ≠ 0 then ([],ckU u) else if g < 1 ∨ 1073741824 < g then ([],1) else if 200 < (flT u g (u.mo+1)).length then ([],10) else (flT u g (u.mo+1),0)
theorem up_mul {f g:Int} (hf:0≤f) (hg:0 < g):(f+g - 1) / g * g % g=0∧f≤(f+g - 1) / g * g∧(f+g - 1) / g * g < f+g∧∀ x,f≤x→x < (f+g - 1) / g * g→x % g ≠ 0:=by
  have h1:=Int.mul_ediv_add_emod (f+g - 1) g
  have h2:=Int.emod_nonneg (f+g - 1) (show g ≠ 0 by omega)
  have h3:=Int.emod_lt_of_pos (f+g - 1) hg
  rw [Int.mul_comm] at h1
  refine ⟨Int.mul_emod_left _ _,by omega,by omega,fun x hx hx2 hm=>?_⟩
  have h4:=Int.mul_ediv_add_emod x g
  rw [hm,Int.mul_comm] at h4
  have h5:x / g < (f+g - 1) / g:=Int.lt_of_mul_lt_mul_right (a:=g) (by omega) (by omega)
  have h6:(x / g+1) * g≤(f+g - 1) / g * g:=Int.mul_le_mul_of_nonneg_right (by omega) (by omega)
  rw [Int.add_mul] at h6
  omega
def R_unI (f:Un→Int):RT:=fun args k=>∃ u:Un,args=[.agg (unC u)]∧u.fin∧k (I (f u))
def R_unQB (f:Un→Int→Bool):RT:=fun args k=>∃ (u:Un) (q:Int),args=[.agg (unC u),I q]∧u.fin∧k (Bo (f u q))
def R_bey:RT:=fun args k=>∃ (u:Un) (q:Int),args=[.agg (unC u),I q]∧u.fin∧∀ r,isBey u.rg q r→k (I r)
def R_ins:RT:=fun args k=>∃ (u:Un) (q:Int),args=[.agg (unC u),I q]∧u.fin∧k (.tup [I (insZ u.rg q).1,Bo (insZ u.rg q).2])
def R_unQ2 (f:Un→Int→Int × Int):RT:=fun args k=>∃ (u:Un) (q:Int),args=[.agg (unC u),I q]∧u.fin∧k (.tup [I (f u q).1,I (f u q).2])
def R_flS:RT:=fun args k=>∃ (u:Un) (q:Int),args=[.agg (unC u),I q]∧u.fin∧k (.tup [.c (.lst (eL (flS u q).1)),I (flS u q).2])
def R_usB (f:Un→Us→Bool):RT:=fun args k=>∃ (u:Un) (s:Us),args=[.agg (unC u),.agg (usC s)]∧u.fin∧k (Bo (f u s))
def R_usQB (f:Un→Us→Int→Bool):RT:=fun args k=>∃ (u:Un) (s:Us) (q:Int),args=[.agg (unC u),.agg (usC s),I q]∧u.fin∧k (Bo (f u s q))
def R_nextS:RT:=fun args k=>∃ (u:Un) (s:Us) (q:Int),args=[.agg (unC u),.agg (usC s),I q]∧u.fin∧k (.tup [.agg (usC (nextS u s q).1),Bo (nextS u s q).2.1,I (nextS u s q).2.2])
def powS (u:Un) (q:Int):Int × Int:=if ckU u ≠ 0 then (0,ckU u) else if q=0 then (0,0) else if runB u q=false then (0,1) else (valC u.tb q,0)
structure mkU (u:Un):Prop where
  ok:UOk u
  m:u.mo≤19
  hup:u.up≤2
  hdn:u.dn≤2
theorem mkU.fin {u:Un} (h:mkU u):u.fin:=⟨by have:=(ckC_ne h.ok.c).2;omega,by have:=h.ok.n;omega⟩
def R_mkU:RB:=fun cs args k=>∃ d:Dk,args=[]∧cs=dkC d∧d.ok∧∀ (u:Un) d',Dk.ok d'→mkU u→k (.agg (unC u)) (dkC d')
structure mkS (u:Un) (s:Us):Prop where
  f:fitB u s=true
  s:0≤s.si∧s.si≤4
def R_mkS:RB:=fun cs args k=>∃ (d:Dk) (u:Un),args=[.agg (unC u)]∧cs=dkC d∧d.ok∧mkU u∧∀ (s:Us) d',Dk.ok d'→mkS u s→k (.agg (usC s)) (dkC d')
theorem kB {k:AV→Prop} {a b:Bool} (h:k (Bo a)) (e:a=b):k (Bo b):=e ▸ h
theorem kI {k:AV→Prop} {a b:Int} (h:k (I a)) (e:a=b):k (I b):=e ▸ h
theorem kI2 {k:AV→Prop} {r:Int × Int} {a b:Int} (h:k (.tup [I r.1,I r.2])) (e:r=(a,b)):k (.tup [I a,I b]):=by subst e;exact h
theorem kN {k:AV→Prop} {r:Us × Bool × Int} {a b e:Int} {c d:Bool} (h:k (.tup [.agg (usC r.1),Bo r.2.1,I r.2.2])) (h2:r=(⟨a,b,c⟩,d,e)):k (.tup [.agg [IC a,IC b,BC c],Bo d,I e]):=by subst h2;exact h
theorem kL {k:AV→Prop} {l:Ls} {e:Int} {n:Nat} {r:Ls × Int} (h:k (.tup [.c (.lst (eL r.1)),I r.2])) (h1:n=l.length) (h2:r=(l,e)):k (.tup [.c (.lst (List.take n (List.drop 0 (eL l)))),I e]):=by
  subst h2;subst h1
  rw [List.drop_zero,List.take_of_length_le (by rw [eL_len];exact Nat.le_refl _)]
  exact h
theorem valC_last {c:List Pt} (h:ckC c=0) (x:Int):valC c x≤(lastP c).2:=by
  have h1:valC c x≤valC c (mx x (lastP c).1):=valC_mono h (by unfold mx;split <;> omega)
  cases c with
  | nil=>exact absurd rfl (ckC_ne h).1
  | cons p r =>
    have h2:=(ckC_cons.1 h).2.2
    have h3:(endP p r).1≤mx x (lastP (p :: r)).1:=by show (lastP (p :: r)).1≤_;unfold mx;split <;> omega
    have h4:=ck_end h2
    have h5:valC (p :: r) (mx x (lastP (p :: r)).1)=(endP p r).2:=by
      rw [valC_eq]
      split
      · rename_i h6
        have h9:(endP p r).1≤p.1:=by omega
        cases r with
        | nil=>rfl
        | cons q r =>
          have h7:=(ckGo_cons.1 h2).2.1
          have h8:=ck_end (ckGo_cons.1 h2).2.2.2.2
          change (endP q r).1≤p.1 at h9
          omega
      · exact vGo_end h2 h3
    rw [h5] at h1
    exact h1
theorem flS_ok {u:Un} {g:Int} (h:(flS u g).2=0):ckU u=0∧(1≤g∧g≤1073741824)∧(flS u g).1=flT u g (u.mo+1)∧(flT u g (u.mo+1)).length≤200:=by
  unfold flS at h ⊢
  split at h
  · rename_i e;exact absurd h e
  rename_i h1
  split at h
  · simp at h
  rename_i h2
  split at h
  · simp at h
  rename_i h3
  rw [if_neg h1,if_neg h2,if_neg h3]
  exact ⟨by omega,by omega,rfl,by omega⟩
theorem flS_mem {u:Un} {g q:Int} (h:(flS u g).2=0) (hq:q ∈ (flS u g).1):(1≤q∧q≤1073741824)∧runB u q=true∧q % g=0:=by
  obtain ⟨h1,h2,h3,_⟩:=flS_ok h
  have ho:=ckU_ok h1
  rw [h3,flT_mem] at hq
  have h4:=ho.l1
  have h5:=ho.m
  obtain ⟨h6,h7⟩:=hq
  simp [okQ] at h7
  exact ⟨by omega,runB_iff.2 ⟨by omega,h7.2⟩,h7.1⟩
theorem mkU_of {r:List Pt} {lo mo up dn:Int} {rg:List Pt} (h3:1≤r.length) (h3':r.length≤4) (h4:chainP 10 0 29 (0,0) r) (hl:1≤lo∧lo≤8) (hm:lo≤mo∧mo≤lo+11) (hn:rg.length≤2) (hz:∀ z ∈ rg,0≤z.1∧z.1 < z.2∧z.2≤20) (hu:0≤up∧up≤2) (hd:0≤dn∧dn≤2):mkU ⟨(0,0) :: r,lo,mo,rg,up,dn⟩:=by
  have hin:=chain_in (by omega) (by omega) (by omega) h4
  have hok:∀ q ∈ r,okPt q=true:=fun q hq=>okPt_of (by have:=hin q hq;omega)
  have hck:=chain_ck (by omega) (by omega) h4 hok
  have he:=end_in (by omega) (by omega) (by omega) h4
  refine ⟨⟨ckC_cons.2 ⟨by omega,okPt_of (by simp),hck⟩,?_,hl.1,hm.1,by dsimp only;omega,by dsimp only;omega,fun z hz'=>by have:=hz z hz';omega,by dsimp only;omega,by dsimp only;omega⟩,by dsimp only;omega,hu.2,hd.2⟩
  show (endP (0,0) r).2≤_
  dsimp only at he
  omega
theorem flT_mk {u:Un} {g:Int} (h:mkU u):(flT u g (u.mo+1)).length≤20:=by
  have:=flN_len (u:=u) (g:=g) (n:=(u.mo+1 - u.lo).toNat)
  have h1:=h.m
  have h2:=h.ok.l1
  unfold flT
  omega
theorem flS_mk {u:Un} {g:Int} (h:mkU u) (h1:1≤g) (h2:g≤1073741824):flS u g=(flT u g (u.mo+1),0):=by
  have:=flT_mk (g:=g) h
  rw [flS,if_neg (by simp [ckU_of h.ok]),if_neg (by omega),if_neg (by omega)]
def R_tt:RT:=fun args k=>args=[]∧k (Bo true)
theorem nextU_ok {u:Un} {s:Us} {q:Int} (h:ckU u=0) (hf:fitB u s=true) (hm:mayB u s q=true):nextS u s q=(⟨q,if decide (0 < q)=decide (0 < s.fl) then mn (s.si+1) 1000 else 1,s.ot⟩,decide (0 < q) && decide (s.fl=0),0):=by
  rw [nextS,if_neg (by simp [h]),if_neg (by simp [hf]),if_neg (by simp [hm])]
theorem fit_si {u:Un} {s:Us} (hf:fitB u s=true):0≤s.si∧s.si≤1000:=by simp [fitB,inB] at hf;omega
theorem fit_next {u:Un} {s:Us} {q:Int} (h:ckU u=0) (hf:fitB u s=true) (hm:mayB u s q=true):fitB u (nextS u s q).1=true:=by
  have:=fit_si hf
  rw [nextU_ok h hf hm]
  have h1:inB 0 1000 (if decide (0 < q)=decide (0 < s.fl) then mn (s.si+1) 1000 else 1)=true:=by
    unfold mn inB
    split
    · split <;> simp <;> omega
    · simp
  unfold fitB
  dsimp only
  rw [h1]
  unfold mayB at hm
  by_cases h0:q=0
  · simp [h0]
  · rw [if_neg h0] at hm
    split at hm
    · cases hm
    · rename_i h2
      simp [hm]
      right
      cases ho:s.ot with
      | false=>rfl
      | true=>exact absurd (.inl ho) h2
end Go.Proofs

namespace Go.Proofs
open Go Go.Abs
set_option linter.unusedSimpArgs false
set_option linter.unusedVariables false
abbrev Rt:=Int × List Pt
def rtC (r:Rt):List Cell:=[IC r.1,.lst (eP r.2)]
structure Gt where
  rt:List Rt
  mo:Int
  mv:Int
def gtC (g:Gt):List Cell:=[.lst (g.rt.map rtC),IC g.mo,IC g.mv]
structure Gs where
  op:Int
  jm:Bool
  deriving DecidableEq
def gsC (s:Gs):List Cell:=[IC s.op,BC s.jm]
structure Gt.fin (g:Gt):Prop where
  n:g.rt.length≤9223372036854775807
  c:∀ r ∈ g.rt,r.2.length≤9223372036854775807
def qle:Option Int→Int→Bool
  | none,_=>false
  | some q,x=>decide (x≤q)
def rE:Option Int→List Rt→Int
  | _,[]=>0
  | q,r :: l=>if inB 0 16777216 r.1=false then 1 else if qle q r.1=true then 4 else if ckC r.2 ≠ 0 then ckC r.2 else if r.2.headD (0,0) ≠ (0,0) then 3 else if 1073741824 < (lastP r.2).2 then 1 else rE (some r.1) l
theorem rE_cons (q:Option Int) (r:Rt) (l:List Rt):rE q (r :: l)=if inB 0 16777216 r.1=false then 1 else if qle q r.1=true then 4 else if ckC r.2 ≠ 0 then ckC r.2 else if r.2.headD (0,0) ≠ (0,0) then 3 else if 1073741824 < (lastP r.2).2 then 1 else rE (some r.1) l:=rfl
def ckG (g:Gt):Int:=if g.rt.length=0 then 3 else if 10 < g.rt.length then 10 else if rE none g.rt ≠ 0 then rE none g.rt else if (inB 0 1000 g.mo && inB 0 1000 g.mv)=false then 1 else 0
structure vcv (l:List Pt):Prop where
  c:ckC l=0
  h:l.headD (0,0)=(0,0)
  y:(lastP l).2≤1073741824
theorem rE_ok:∀ {l:List Rt} {q:Option Int},rE q l=0→(∀ r ∈ l,(0≤r.1∧r.1≤16777216)∧vcv r.2)∧(∀ x,q=some x→∀ r ∈ l,x < r.1)∧l.Pairwise (fun a b=>a.1 < b.1)
  | [],q,_=>⟨fun r h=>(by simp at h),fun _ _ r h=>(by simp at h),.nil⟩
  | a :: l,q,h=>by
    rw [rE_cons] at h
    split at h
    · omega
    rename_i h1
    split at h
    · omega
    rename_i h2
    split at h
    · rename_i e;exact absurd h e
    rename_i h3
    split at h
    · omega
    rename_i h4
    split at h
    · omega
    rename_i h5
    obtain ⟨i1,i2,i3⟩:=rE_ok h
    simp [inB] at h1
    have hq:∀ x,q=some x→x < a.1:=fun x e=>by
      subst e
      simp [qle] at h2
      omega
    have h4':a.2.headD (0,0)=(0,0):=Classical.byContradiction h4
    refine ⟨fun r hr=>?_,fun x e r hr=>?_,List.pairwise_cons.2 ⟨fun b hb=>i2 a.1 rfl b hb,i3⟩⟩
    · rcases List.mem_cons.1 hr with rfl | hr
      · exact ⟨by omega,by omega,h4',by omega⟩
      · exact i1 r hr
    · rcases List.mem_cons.1 hr with rfl | hr
      · exact hq x e
      · have:=i2 a.1 rfl r hr;have:=hq x e;omega
structure GOk (g:Gt):Prop where
  n0:1≤g.rt.length
  n:g.rt.length≤10
  r:∀ r ∈ g.rt,(0≤r.1∧r.1≤16777216)∧vcv r.2
  a:g.rt.Pairwise (fun a b=>a.1 < b.1)
  o:0≤g.mo∧g.mo≤1000
  v:0≤g.mv∧g.mv≤1000
theorem ckG_ok {g:Gt} (h:ckG g=0):GOk g:=by
  unfold ckG at h
  split at h
  · omega
  split at h
  · omega
  split at h
  · rename_i e;exact absurd h e
  rename_i h1 h2 h3
  split at h
  · omega
  rename_i h4
  simp [inB] at h4
  obtain ⟨a,_,b⟩:=rE_ok (show rE none g.rt=0 by omega)
  exact ⟨by omega,by omega,a,b,by omega,by omega⟩
theorem rE_of:∀ {l:List Rt} {q:Option Int},(∀ r ∈ l,(0≤r.1∧r.1≤16777216)∧vcv r.2)→(∀ x,q=some x→∀ r ∈ l,x < r.1)→l.Pairwise (fun a b=>a.1 < b.1)→rE q l=0
  | [],q,_,_,_=>rfl
  | a :: l,q,h1,h2,h3=>by
    obtain ⟨⟨a1,a2⟩,v⟩:=h1 a (by simp)
    have h3':=List.pairwise_cons.1 h3
    have hq:qle q a.1=false:=by
      cases q with
      | none=>rfl
      | some x=>have:=h2 x rfl a (by simp);simp [qle];omega
    rw [rE_cons,if_neg (by simp [inB,a1,a2]),if_neg (by simp [hq]),if_neg (by simp [v.c]),if_neg (fun e=>e v.h),if_neg (by have:=v.y;omega)]
    exact rE_of (fun r hr=>h1 r (by simp [hr])) (fun x e r hr=>by cases e;exact h3'.1 r hr) h3'.2
theorem ckG_of {g:Gt} (h:GOk g):ckG g=0:=by
  have:=rE_of (q:=none) h.r (fun x e=>by cases e) h.a
  have h1:=h.n0
  have h2:=h.n
  rw [ckG,if_neg (by omega),if_neg (by omega),if_neg (by simp [this]),if_neg (by have:=h.o;have:=h.v;simp [inB];omega)]
def atL:List Pt→List Rt→Int→List Pt
  | a,[],_=>a
  | a,r :: l,x=>atL (if r.1≤x then r.2 else a) l x
def atG (g:Gt) (x:Int):List Pt:=atL [] g.rt x
def okc (c:List Pt):Prop:=c=[] ∨ vcv c
theorem atL_ok:∀ {l:List Rt} {a:List Pt} {x:Int},okc a→(∀ r ∈ l,vcv r.2)→okc (atL a l x)
  | [],_,_,h,_=>h
  | r :: l,a,x,h,hv=>by
    refine atL_ok (l:=l) ?_ fun r' hr=>hv r' (by simp [hr])
    split
    · exact .inr (hv r (by simp))
    · exact h
theorem atG_ok {g:Gt} (h:ckG g=0) (x:Int):okc (atG g x):=atL_ok (.inl rfl) fun r hr=>((ckG_ok h).r r hr).2
def gfl (c:List Pt) (x:Int):Int:=match c with
  | []=>0
  | c=>valC c x
theorem gfl_ne {c:List Pt} (h:c ≠ []) (x:Int):gfl c x=valC c x:=by
  cases c with
  | nil=>exact absurd rfl h
  | cons _ _=>rfl
theorem valC_last' {c:List Pt} (h:ckC c=0) (x:Int):valC c x≤(lastP c).2:=by
  have h1:valC c x≤valC c (mx x (lastP c).1):=valC_mono h (by unfold mx;split <;> omega)
  cases c with
  | nil=>exact absurd rfl (ckC_ne h).1
  | cons p r =>
    have h2:=(ckC_cons.1 h).2.2
    have h3:(endP p r).1≤mx x (lastP (p :: r)).1:=by show (lastP (p :: r)).1≤_;unfold mx;split <;> omega
    have h4:=ck_end h2
    have h5:valC (p :: r) (mx x (lastP (p :: r)).1)=(endP p r).2:=by
      rw [valC_eq]
      split
      · rename_i h6
        have h9:(endP p r).1≤p.1:=by omega
        cases r with
        | nil=>rfl
        | cons q r =>
          have h7:=(ckGo_cons.1 h2).2.1
          have h8:=ck_end (ckGo_cons.1 h2).2.2.2.2
          change (endP q r).1≤p.1 at h9
          omega
      · exact vGo_end h2 h3
    rw [h5] at h1
    exact h1
theorem gfl_in {c:List Pt} (h:okc c) (x:Int):0≤gfl c x∧gfl c x≤1073741824:=by
  rcases h with rfl | h
  · exact ⟨Int.le_refl _,by show (0:Int)≤_;omega⟩
  · rw [gfl_ne (ckC_ne h.c).1]
    exact ⟨(valC_in h.c x).1,by have:=valC_last' h.c x;have:=h.y;omega⟩
theorem gfl_mono {c:List Pt} (h:okc c) {x y:Int} (hxy:x≤y):gfl c x≤gfl c y:=by
  rcases h with rfl | h
  · exact Int.le_refl _
  · rw [gfl_ne (ckC_ne h.c).1,gfl_ne (ckC_ne h.c).1]
    exact valC_mono h.c hxy
def okS (g:Gt) (s:Gs):Bool:=inB 0 g.mo s.op
def badS:List Gt→List Gs→Bool
  | g :: gs,s :: ss=>if okS g s=false then true else badS gs ss
  | _,_=>false
def ckGs:List Gt→Int
  | []=>0
  | g :: gs=>if ckG g ≠ 0 then ckG g else ckGs gs
theorem ckGs_ok:∀ {gs:List Gt},ckGs gs=0→∀ g ∈ gs,ckG g=0
  | [],_,g,h=>by simp at h
  | a :: gs,h,g,hg=>by
    simp only [ckGs] at h
    split at h
    · rename_i e;exact absurd h e
    · rename_i e
      rcases List.mem_cons.1 hg with rfl | hg
      · exact Classical.byContradiction e
      · exact ckGs_ok h g hg
def askG (gs:List Gt) (ss:List Gs) (lv:Int):Int:=if 8 < gs.length then 10 else if gs.length ≠ ss.length then 3 else if badS gs ss=true then 3 else if ckGs gs ≠ 0 then ckGs gs else if inB 0 16777216 lv=false then 1 else 0
structure AOk (gs:List Gt) (ss:List Gs) (lv:Int):Prop where
  n:gs.length≤8
  l:gs.length=ss.length
  s:badS gs ss=false
  g:∀ g ∈ gs,ckG g=0
  lv:0≤lv∧lv≤16777216
theorem askG_ok {gs:List Gt} {ss:List Gs} {lv:Int} (h:askG gs ss lv=0):AOk gs ss lv:=by
  unfold askG at h
  split at h
  · omega
  split at h
  · omega
  split at h
  · omega
  split at h
  · rename_i e;exact absurd h e
  split at h
  · omega
  rename_i h1 h2 h3 h4 h5
  simp [inB] at h5
  exact ⟨by omega,by omega,by simpa using h3,ckGs_ok (by omega),by omega⟩
def totL:List Gt→Ls→Int→Int
  | g :: gs,o :: os,lv=>gfl (atG g lv) o+totL gs os lv
  | _,_,_=>0
theorem totL_in {gs:List Gt} {lv:Int}:∀ {os:Ls},(∀ g ∈ gs,ckG g=0)→0≤totL gs os lv∧totL gs os lv≤1073741824 * gs.length:=by
  induction gs with
  | nil=>intro os _;cases os <;> simp [totL]
  | cons g gs ih =>
    intro os h
    cases os with
    | nil=>simp [totL];omega
    | cons o os =>
      have h1:=gfl_in (atG_ok (h g (by simp)) lv) o
      have h2:=ih (os:=os) fun g' hg=>h g' (by simp [hg])
      rw [totL,List.length_cons]
      omega
def opsL (ss:List Gs):Ls:=ss.map (·.op)
def mnG (a b:Int):Int:=if b < a then b else a
def rch (g:Gt) (s:Gs):Int × Int:=if s.jm=true then (s.op,s.op) else (mx (s.op - g.mv) 0,mnG (s.op+g.mv) g.mo)
theorem rch_in {g:Gt} {s:Gs} (h:ckG g=0) (hs:okS g s=true):(0≤(rch g s).1∧(rch g s).1≤(rch g s).2)∧(rch g s).2≤g.mo∧g.mo≤1000:=by
  have ho:=(ckG_ok h).o
  have hv:=(ckG_ok h).v
  simp [okS,inB] at hs
  unfold rch
  split
  · dsimp only;omega
  · unfold mx mnG
    dsimp only
    split <;> split <;> omega
def losL:List Gt→List Gs→Ls
  | g :: gs,s :: ss=>(rch g s).1 :: losL gs ss
  | _,_=>[]
def hisL:List Gt→List Gs→Ls
  | g :: gs,s :: ss=>(rch g s).2 :: hisL gs ss
  | _,_=>[]
theorem losL_len:∀ {gs:List Gt} {ss:List Gs},gs.length=ss.length→(losL gs ss).length=gs.length∧(hisL gs ss).length=gs.length
  | [],[],_=>⟨rfl,rfl⟩
  | _ :: gs,_ :: ss,h=>by
    obtain ⟨a,b⟩:=losL_len (gs:=gs) (ss:=ss) (by simpa using h)
    exact ⟨by simp [losL,a],by simp [hisL,b]⟩
  | [],_ :: _,h=>by simp at h
  | _ :: _,[],h=>by simp at h
def fstO (c:List Pt) (t:Int):Int→Nat→Int
  | lo,0=>lo
  | lo,n+1=>if t≤gfl c lo then lo else fstO c t (lo+1) n
def isFst (c:List Pt) (t lo hi o:Int):Prop:=(lo≤o∧o≤hi)∧(∀ x,lo≤x→x < o→gfl c x < t)∧(o=hi ∨ t≤gfl c o)
theorem fstO_is {c:List Pt} {t:Int}:∀ {n:Nat} {lo:Int},isFst c t lo (lo+n) (fstO c t lo n)
  | 0,lo=>⟨⟨Int.le_refl _,by simp [fstO]⟩,fun x h1 h2=>by simp [fstO] at h2;omega,.inl (by simp [fstO])⟩
  | n+1,lo=>by
    unfold fstO
    split
    · rename_i h
      exact ⟨⟨Int.le_refl _,by omega⟩,fun x h1 h2=>by omega,.inr h⟩
    · rename_i h
      obtain ⟨⟨a1,a2⟩,b,c'⟩:=fstO_is (c:=c) (t:=t) (n:=n) (lo:=lo+1)
      refine ⟨⟨by omega,by omega⟩,fun x h1 h2=>?_,c'.imp (fun e=>by rw [e];omega) id⟩
      by_cases e:x=lo
      · subst e;omega
      · exact b x (by omega) h2
def opO (c:List Pt) (w s lo hi:Int):Int:=if s < w then fstO c (w - (s - gfl c lo)) lo (hi - lo).toNat else lo
theorem opO_is {c:List Pt} {w s lo hi:Int} (h:lo≤hi) (hs:s < w):isFst c (w - (s - gfl c lo)) lo hi (opO c w s lo hi):=by
  rw [opO,if_pos hs]
  have:=fstO_is (c:=c) (t:=w - (s - gfl c lo)) (n:=(hi - lo).toNat) (lo:=lo)
  rwa [show lo+((hi - lo).toNat:Int)=hi by omega] at this
theorem opO_in {c:List Pt} {w s lo hi:Int} (h:lo≤hi):lo≤opO c w s lo hi∧opO c w s lo hi≤hi:=by
  by_cases hs:s < w
  · exact (opO_is h hs).1
  · rw [opO,if_neg hs];omega
def setL (w lv:Int):Int→List Gt→List Gs→List Gs × Int
  | s,g :: gs,z :: zs=>(⟨opO (atG g lv) w s (rch g z).1 (rch g z).2,z.jm⟩ :: (setL w lv (s - gfl (atG g lv) (rch g z).1+gfl (atG g lv) (opO (atG g lv) w s (rch g z).1 (rch g z).2)) gs zs).1,
      (setL w lv (s - gfl (atG g lv) (rch g z).1+gfl (atG g lv) (opO (atG g lv) w s (rch g z).1 (rch g z).2)) gs zs).2)
  | s,_,_=>([],s)
def setS (gs:List Gt) (ss:List Gs) (lv w:Int):List Gs × Int × Int:=if askG gs ss lv ≠ 0 then ([],0,askG gs ss lv) else if inB 0 1073741824 w=false then ([],0,1) else ((setL w lv (totL gs (losL gs ss) lv) gs ss).1,(setL w lv (totL gs (losL gs ss) lv) gs ss).2,0)
abbrev eG (gs:List Gt):List (List Cell):=gs.map gtC
abbrev eS (ss:List Gs):List (List Cell):=ss.map gsC
theorem eG_len (l:List Gt):(eG l).length=l.length:=List.length_map _
theorem eS_len (l:List Gs):(eS l).length=l.length:=List.length_map _
structure fins (gs:List Gt) (ss:List Gs):Prop where
  g:gs.length≤9223372036854775807
  s:ss.length≤9223372036854775807
  f:∀ g ∈ gs,g.fin
def R_gI (f:Gt→Int):RT:=fun args k=>∃ g:Gt,args=[.agg (gtC g)]∧g.fin∧k (I (f g))
def R_rflow:RT:=fun args k=>∃ (g:Gt) (x lv:Int),args=[.agg (gtC g),I x,I lv]∧ckG g=0∧k (I (gfl (atG g lv) x))
def R_okS:RT:=fun args k=>∃ (g:Gt) (s:Gs),args=[.agg (gtC g),.agg (gsC s)]∧k (Bo (okS g s))
def R_askG:RT:=fun args k=>∃ (gs:List Gt) (ss:List Gs) (lv:Int),args=[.c (.lst (eG gs)),.c (.lst (eS ss)),I lv]∧fins gs ss∧k (I (askG gs ss lv))
def R_rtot:RT:=fun args k=>∃ (gs:List Gt) (os:Ls) (lv:Int),args=[.c (.lst (eG gs)),.c (.lst (eL os)),I lv]∧gs.length≤os.length∧gs.length≤8∧(∀ g ∈ gs,ckG g=0)∧k (I (totL gs os lv))
def R_rch:RT:=fun args k=>∃ (g:Gt) (s:Gs),args=[.agg (gtC g),.agg (gsC s)]∧ckG g=0∧okS g s=true∧k (.agg [IC (rch g s).1,IC (rch g s).2])
def R_setS:RT:=fun args k=>∃ (gs:List Gt) (ss:List Gs) (lv w:Int),args=[.c (.lst (eG gs)),.c (.lst (eS ss)),I lv,I w]∧fins gs ss∧k (.tup [.c (.lst (eS (setS gs ss lv w).1)),I (setS gs ss lv w).2.1,I (setS gs ss lv w).2.2])
def R_ends (ti:Nat):RA:=fun args k=>∃ (gs:List Gt) (ss:List Gs),args=[.c (.lst (eG gs)),.c (.lst (eS ss))]∧(gs.length≤8∧gs.length=ss.length∧badS gs ss=false)∧(∀ g ∈ gs,ckG g=0) ∧
  k (.tup [.c (.view (.x 0) 0 (losL gs ss).length),.c (.lst (eL (hisL gs ss)))]) (.arr ti 1 (eL (losL gs ss)) false)
theorem badS_at:∀ {gs:List Gt} {ss:List Gs} {i:Nat} {g:Gt} {z:Gs},badS gs ss=false→gs[i]?=some g→ss[i]?=some z→okS g z=true
  | [],_,_,_,_,_,h,_=>by simp at h
  | _ :: _,[],_,_,_,_,_,h=>by simp at h
  | a :: gs,b :: ss,0,g,z,h,h1,h2=>by
    simp at h1 h2
    subst h1;subst h2
    cases e:okS a b
    · rw [badS,if_pos e] at h;cases h
    · rfl
  | a :: gs,b :: ss,i+1,g,z,h,h1,h2=>by
    rw [badS] at h
    split at h
    · cases h
    · exact badS_at h (by simpa using h1) (by simpa using h2)
theorem losL_take:∀ {gs:List Gt} {ss:List Gs} {i:Nat} {g:Gt} {z:Gs},gs[i]?=some g→ss[i]?=some z→(losL gs ss).take (i+1)=(losL gs ss).take i ++ [(rch g z).1]∧(hisL gs ss).take (i+1)=(hisL gs ss).take i ++ [(rch g z).2]
  | [],_,_,_,_,h,_=>by simp at h
  | _ :: _,[],_,_,_,_,h=>by simp at h
  | a :: gs,b :: ss,0,g,z,h1,h2=>by
    simp at h1 h2
    subst h1;subst h2
    exact ⟨rfl,rfl⟩
  | a :: gs,b :: ss,i+1,g,z,h1,h2=>by
    obtain ⟨q1,q2⟩:=losL_take (gs:=gs) (ss:=ss) (i:=i) (g:=g) (z:=z) (by simpa using h1) (by simpa using h2)
    exact ⟨by simp only [losL,List.take_succ_cons,q1,List.cons_append],by simp only [hisL,List.take_succ_cons,q2,List.cons_append]⟩
abbrev sNx (w lv s:Int) (g:Gt) (z:Gs):Int:=s - gfl (atG g lv) (rch g z).1+gfl (atG g lv) (opO (atG g lv) w s (rch g z).1 (rch g z).2)
theorem setL_cons (w lv s:Int) (g:Gt) (gs:List Gt) (z:Gs) (zs:List Gs):setL w lv s (g :: gs) (z :: zs)=(⟨opO (atG g lv) w s (rch g z).1 (rch g z).2,z.jm⟩ :: (setL w lv (sNx w lv s g z) gs zs).1,(setL w lv (sNx w lv s g z) gs zs).2):=rfl
theorem vcv_mk {r:List Pt} (h3:1≤r.length) (h3':r.length≤4) (h4:chainP 6 0 19 (0,0) r):vcv ((0,0) :: r)∧(lastP ((0,0) :: r)).2≤100:=by
  have hin:=chain_in (by omega) (by omega) (by omega) h4
  have hok:∀ q ∈ r,okPt q=true:=fun q hq=>okPt_of (by have:=hin q hq;omega)
  have hck:=chain_ck (by omega) (by omega) h4 hok
  have he:=end_in (by omega) (by omega) (by omega) h4
  have hl:(lastP ((0,0) :: r)).2≤100:=by
    show (endP (0,0) r).2≤_
    dsimp only at he
    omega
  exact ⟨⟨ckC_cons.2 ⟨by omega,okPt_of (by simp),hck⟩,rfl,by omega⟩,hl⟩
structure mkG (g:Gt):Prop where
  ok:GOk g
  m:g.mo≤11
  b:∀ r ∈ g.rt,(lastP r.2).2≤100
theorem GOk.fin {g:Gt} (h:GOk g):g.fin:=⟨by have:=h.n;omega,fun r hr=>by have:=(ckC_ne (h.r r hr).2.c).2;omega⟩
theorem mkG.fin {g:Gt} (h:mkG g):g.fin:=h.ok.fin
def R_mkG:RB:=fun cs args k=>∃ d:Dk,args=[]∧cs=dkC d∧d.ok∧∀ (g:Gt) d',Dk.ok d'→mkG g→k (.agg (gtC g)) (dkC d')
structure mkGs (gs:List Gt) (ss:List Gs):Prop where
  l:gs.length=ss.length
  g:∀ g ∈ gs,mkG g
  s:badS gs ss=false
theorem badS_snoc:∀ {gs:List Gt} {ss:List Gs} {g:Gt} {z:Gs},gs.length=ss.length→badS gs ss=false→okS g z=true→badS (gs ++ [g]) (ss ++ [z])=false
  | [],[],g,z,_,_,h=>by simp [badS,h]
  | a :: gs,b :: ss,g,z,hl,hb,h=>by
    rw [badS] at hb
    split at hb
    · cases hb
    rename_i e
    show badS (a :: (gs ++ [g])) (b :: (ss ++ [z]))=false
    rw [badS,if_neg e]
    exact badS_snoc (by simpa using hl) hb h
  | [],_ :: _,_,_,h,_,_=>by simp at h
  | _ :: _,[],_,_,h,_,_=>by simp at h
theorem mkGs.snoc {gs:List Gt} {ss:List Gs} {g:Gt} {z:Gs} (h:mkGs gs ss) (hg:mkG g) (hz:okS g z=true):mkGs (gs ++ [g]) (ss ++ [z]) :=
  ⟨by simp [h.l],fun x hx=>(List.mem_append.1 hx).elim (h.g x) fun hx=>by simp at hx;subst hx;exact hg,badS_snoc h.l h.s hz⟩
def R_mkGs:RB:=fun cs args k=>∃ (d:Dk) (n:Int),args=[I n]∧cs=dkC d∧d.ok∧(0≤n∧n≤10)∧∀ (gs:List Gt) (ss:List Gs) d',Dk.ok d'→gs.length≤n→mkGs gs ss→k (.tup [.c (.lst (eG gs)),.c (.lst (eS ss))]) (dkC d')
structure mkR (l:List Rt) (x:Int):Prop where
  r:∀ r ∈ l,(0≤r.1∧r.1 < x)∧vcv r.2∧(lastP r.2).2≤100
  p:l.Pairwise (fun a b=>a.1 < b.1)
theorem mkR.snoc {l:List Rt} {x y:Int} {c:List Pt} (h:mkR l x) (hx:0≤x) (hy:x < y) (hc:vcv c∧(lastP c).2≤100):mkR (l ++ [(x,c)]) y:=by
  refine ⟨fun r hr=>?_,List.pairwise_append.2 ⟨h.p,by simp,fun a ha b hb=>?_⟩⟩
  · rcases List.mem_append.1 hr with hr | hr
    · have:=h.r r hr;exact ⟨by omega,this.2⟩
    · simp at hr;subst hr;exact ⟨⟨hx,hy⟩,hc⟩
  · simp at hb;subst hb
    exact (h.r a ha).1.2
theorem mkR.gate {l:List Rt} {x mo mv:Int} (h:mkR l x) (hl:1≤l.length) (hl':l.length≤10) (hx:x≤16777216) (ho:0≤mo∧mo≤11) (hv:0≤mv∧mv≤1000):mkG ⟨l,mo,mv⟩ :=
  ⟨⟨hl,hl',fun r hr=>by have:=h.r r hr;exact ⟨by omega,this.2.1⟩,h.p,by dsimp only;omega,by dsimp only;omega⟩,ho.2,fun r hr=>(h.r r hr).2.2⟩
end Go.Proofs
