/- Proved here: what functions of the given program come to, and the plain laws of it; no condition but those in the theorems. -/
import Derived.Test.YtgllikepncnpkaaGreatD34
import Derived.Test.YtgllikepncnpkaaGreatAbsRg
import Derived.Test.YtgllikepncnpkaaGreatAbsS
namespace Go.Proofs
open Go Go.Abs
set_option linter.unusedSimpArgs false
set_option linter.unusedVariables false
set_option maxRecDepth 4000
abbrev kO (k:Int):List MObj:=[.blk [IC k]]
def R_link1:RG:=fun args os k=>∃ (l:Lk) (x:Int),args=[.agg (lkC l),.c (.ptr (.x 0) 0)]∧os=kO x∧k (Bo (decide (l.fr=x))) (kO x)
theorem link1_ok:FunG Tryz.prog 136 R_link1:=by
  intro args os k h
  obtain ⟨l,x,rfl,rfl,hk⟩:=h
  refine doesG_ex (qc:=qc1) (np:=[]) (CK:=ckK []) mixed Tryz.func136 rfl rfl Tryz.ntmps136 Tryz.results136 τ_ok (by kernel_rfl) (ckK_ok trivial) (by simp) rfl rfl ?_
  conv=>whnf
  exact ⟨rfl,rfl,hk⟩
def R_idxL:RG:=fun args os k=>∃ (ls:List Lk) (x:Int),args=[.c (.lst (eK ls)),.c (.fn 136 [.ptr (.x 0) 0])]∧os=kO x∧ls.length≤9223372036854775807∧k (I (lnk ls x)) (kO x)
theorem kI1 {k:AV→List MObj→Prop} {a b:Int} {o:List MObj} (h:k (I a) o) (e:a=b):k (I b) o:=e ▸ h
theorem idxL_ok:FunG Tryz.prog 109 R_idxL:=by
  intro args os k h
  obtain ⟨ls,x,rfl,rfl,hl,hk⟩:=h
  have hm:=eK_len ls
  refine doesG_ex (qc:=qc1) (np:=[]) (CK:=ckK [(136,cGr R_link1)]) mixed Tryz.func109 rfl rfl Tryz.ntmps109 Tryz.results109 τ_ok (by kernel_rfl) (ckK_ok ⟨cGr_ok link1_ok,trivial⟩) (by simp) rfl rfl ?_
  conv=>whnf
  refine ⟨Nat,fun i=>([(0,.c (.lst (eK ls))),(1,.c (.fn 136 [.ptr (.x 0) 0])),(7,I (eK ls).length),(8,I i)],⟨[(.x 0,.blk [IC x])],9,[]⟩),
    fun i=>i≤ls.length∧lnk ls x=lnGo x i (ls.drop i),fun i=>ls.length - i,0,⟨Nat.zero_le _,rfl⟩,Shift.reset ⟨rfl,rfl,rfl,rfl,trivial⟩ ⟨rfl,trivial⟩ rfl rfl,fun i hi=>?_⟩
  obtain ⟨hi1,hi2⟩:=hi
  dsimp only
  conv=>whnf
  refine Fork.mk (fun h=>?_) (fun h=>?_)
  rotate_left
  · have hie:i=ls.length:=by simp at h;omega
    rw [hie,List.drop_length] at hi2
    conv=>whnf
    exact ⟨rfl,rfl,kI1 hk (by rw [hi2];rfl)⟩
  have hi:i < ls.length:=by simp at h;omega
  clear h
  have hci:=List.getElem?_eq_getElem hi
  generalize ls[i]=l at hci
  rw [dropC hci,lnGo] at hi2
  have hw1:=wr_succ (i:=i) (by omega)
  conv=>whnf
  refine ⟨by omega,lkC l,by rw [Int.toNat_natCast,List.getElem?_map,hci];rfl,rfl,?_⟩
  conv=>whnf
  refine ⟨[.x 0],rfl,rfl,?_⟩
  conv=>whnf
  refine ⟨rfl,?_⟩
  conv=>whnf
  refine ⟨l,x,rfl,rfl,?_⟩
  conv=>whnf
  refine ⟨rfl,?_⟩
  conv=>whnf
  refine Fork.mk (fun h=>?_) (fun h=>?_)
  · rw [if_pos (by simpa using h)] at hi2
    conv=>whnf
    exact ⟨rfl,rfl,kI1 hk hi2⟩
  rw [if_neg (by simpa using h)] at hi2
  clear h
  conv=>whnf
  rw [hw1]
  exact ⟨i+1,⟨hi,hi2⟩,Shift.reset ⟨rfl,rfl,rfl,rfl,trivial⟩ ⟨rfl,trivial⟩ rfl rfl,by omega⟩
def R_lnk:RT:=fun args k=>∃ (r:Rv) (x:Int),args=[.agg (rvC r),I x]∧r.ls.length≤9223372036854775807∧k (I (lnk r.ls x))
theorem link_ok:FunR Tryz.prog 118 R_lnk:=by
  intro args k h
  obtain ⟨r,x,rfl,hl,hk⟩:=h
  refine does_ex (qc:=qc1) (np:=[]) (CK:=ckK [(109,cGr R_idxL)]) mixed Tryz.func118 rfl rfl Tryz.ntmps118 Tryz.results118 τ_ok (by kernel_rfl) (ckK_ok ⟨cGr_ok idxL_ok,trivial⟩) (by simp) ?_
  conv=>whnf
  refine ⟨[.l 3 1],rfl,rfl,?_⟩
  conv=>whnf
  refine ⟨rfl,?_⟩
  conv=>whnf
  refine ⟨r.ls,x,rfl,rfl,hl,?_⟩
  conv=>whnf
  refine ⟨rfl,?_⟩
  conv=>whnf
  exact hk
end Go.Proofs

namespace Go.Proofs
open Go Go.Abs
set_option linter.unusedSimpArgs false
set_option linter.unusedVariables false
set_option maxRecDepth 4000
def empS (r:Rv):List Ls × Int:=if rvE r ≠ 0 then ([],rvE r) else (List.replicate r.ls.length [],0)
def R_empS:RT:=fun args k=>∃ r:Rv,args=[.agg (rvC r)]∧r.fin∧k (.tup [.c (.lst (eV (empS r).1)),I (empS r).2])
theorem kEmp {k:AV→Prop} {x y:List Ls × Int} (h:k (.tup [.c (.lst (eV x.1)),I x.2])) (e:x=y):k (.tup [.c (.lst (eV y.1)),I y.2]):=by subst e;exact h
theorem rempS_ok:FunR Tryz.prog 85 R_empS:=by
  intro args k h
  obtain ⟨r,rfl,hf,hk⟩:=h
  have hmk:=eK_len r.ls
  refine does_ex (qc:=qc1) (np:=[]) (CK:=ckK [(48,cSc R_rvE)]) mixed Tryz.func85 rfl rfl Tryz.ntmps85 Tryz.results85 τ_ok (by kernel_rfl) (ckK_ok ⟨cSc_ok rrvE_ok,trivial⟩) (by simp) ?_
  conv=>whnf
  refine ⟨r,rfl,hf,?_⟩
  conv=>whnf
  refine Fork.mk (fun h=>?_) (fun h=>?_)
  · have h1:rvE r ≠ 0:=by simpa using h
    conv=>whnf
    exact kEmp (y:=([],rvE r)) hk (by rw [empS,if_pos h1])
  have h1:rvE r=0:=by simpa using h
  have hr:=rvE_ok h1
  have hrl:=hr.len
  clear h
  conv=>whnf
  refine ⟨⟨rfl,by omega,by show (((eK r.ls).length:Nat):Int) * 24≤_;omega⟩,?_⟩
  conv=>whnf
  refine ⟨by simp,?_⟩
  conv=>whnf
  have e:List.take (Int.toNat ((eK r.ls).length:Int)) (List.drop 0 (List.replicate (Int.toNat ((eK r.ls).length:Int)) (wvC [])))=eV (List.replicate r.ls.length []):=by
    rw [Int.toNat_natCast,hmk,List.drop_zero,List.take_of_length_le (by simp),show eV (List.replicate r.ls.length [])=List.replicate r.ls.length (wvC []) from List.map_replicate]
  show k (.tup [.c (.lst (List.take (Int.toNat ((eK r.ls).length:Int)) (List.drop 0 (List.replicate (Int.toNat ((eK r.ls).length:Int)) (wvC []))))),I 0])
  rw [e]
  exact kEmp (y:=(List.replicate r.ls.length [],0)) hk (by rw [empS,if_neg (by simp [h1])])
end Go.Proofs

namespace Go.Proofs
open Go Go.Abs
set_option linter.unusedSimpArgs false
set_option linter.unusedVariables false
def gN (a:Ls) (j:Nat):Int:=a.getD j 0
theorem gN_at {a:Ls} {j:Nat} {v:Int} (h:a[j]?=some v):gN a j=v:=by rw [gN,List.getD_eq_getElem?_getD,h];rfl
theorem gN_get {a:Ls} {j:Nat} (h:j < a.length):a[j]?=some (gN a j):=by
  have c:=List.getElem?_eq_getElem h
  rw [gN_at c];exact c
theorem gA_nat (a:Ls) (j:Nat):gA a (j:Int)=gN a j:=by rw [gA,Int.toNat_natCast];rfl
theorem gN_set {a:Ls} {i j:Nat} {v:Int} (h:i < a.length):gN (a.set i v) j=if j=i then v else gN a j:=by
  unfold gN
  rw [List.getD_eq_getElem?_getD,List.getD_eq_getElem?_getD,List.getElem?_set]
  by_cases e:i=j
  · subst e;rw [if_pos rfl,if_pos h,if_pos rfl];rfl
  · rw [if_neg e,if_neg (Ne.symm e)]
def atS (loc arr:Ls) (k:Nat):Ls:=tab arr.length fun j=>gN arr j+if j < k then 0 else gN loc j
theorem atS_len (loc arr:Ls) (k:Nat):(atS loc arr k).length=arr.length:=tab_len _ _
theorem atS_get {loc arr:Ls} {k j:Nat} (h:j < arr.length):gN (atS loc arr k) j=gN arr j+if j < k then 0 else gN loc j:=gN_at (tab_get h)
theorem atS_none {loc arr:Ls} {k:Nat} (h:k < arr.length):atS loc (arr.set k (gN arr k+gN loc k)) (k+1)=atS loc arr k:=by
  unfold atS
  rw [List.length_set]
  refine tab_ext fun j hj=>?_
  rw [gN_set h]
  by_cases e:j=k
  · subst e;rw [if_pos rfl,if_pos (by omega),if_neg (by omega)];omega
  · rw [if_neg e]
    by_cases e2:j < k
    · rw [if_pos (by omega),if_pos e2]
    · rw [if_neg (by omega),if_neg e2]
theorem atS_set {loc arr:Ls} {k t:Nat} {v:Int} (h:t < arr.length) (hk:k≤t):atS loc (arr.set t (gN arr t+v)) k=(atS loc arr k).set t (gN (atS loc arr k) t+v):=by
  rw [atS_get h,if_neg (by omega)]
  unfold atS
  rw [tab_set,List.length_set]
  refine tab_ext fun j hj=>?_
  rw [gN_set h]
  by_cases e:j=t
  · subst e;rw [if_pos rfl,if_pos rfl,if_neg (by omega)];omega
  · rw [if_neg e,if_neg e]
theorem atS_end {loc arr:Ls} {k:Nat} (h:arr.length≤k):atS loc arr k=arr:=by
  apply List.ext_getElem?
  intro j
  by_cases hj:j < arr.length
  · unfold atS
    rw [tab_get hj,if_pos (by omega),Int.add_zero,gN_get hj]
  · rw [List.getElem?_eq_none (by rw [atS_len];omega),List.getElem?_eq_none (by omega)]
theorem atS_zero {loc:Ls} {n:Nat} (h:loc.length=n):atS loc (List.replicate n 0) 0=loc:=by
  apply List.ext_getElem?
  intro j
  by_cases hj:j < n
  · unfold atS
    rw [List.length_replicate,tab_get hj,if_neg (by omega),gN_at (a:=List.replicate n 0) (v:=0) (by simp [hj]),Int.zero_add,gN_get (by omega)]
  · rw [List.getElem?_eq_none (by rw [atS_len,List.length_replicate];omega),List.getElem?_eq_none (by omega)]
structure passI (r:Rv) (W:List Ls) (loc arr:Ls) (w:List Ls) (k i:Nat):Prop where
  cut:cutK r.ls k i
  len:arr.length=loc.length
  wl:w.length=W.length
  wd:∀ j,i≤j→w[j]?=W[j]?
  eq:lkGo r.ls W loc=(lkGo (r.ls.drop i) (W.drop i) (atS loc arr k)).map fun x=>(w.take i ++ x.1,x.2)
  inq:∀ j,j < k→inQ (gN loc j)=true
  b:∀ j,j < arr.length→0≤gN arr j∧gN arr j+(if j < k then 0 else 1073741824)≤1073741824+1125899906842624 * (i:Int)
  fit:WvOk r w
theorem passI.zero {r:Rv} {W:List Ls} {loc:Ls} {n:Nat} (hr:RvOk r) (hw:WvOk r W) (hl:loc.length=n):passI r W loc (List.replicate n 0) W 0 0:=by
  refine ⟨⟨Nat.zero_le _,fun j x h=>by omega,fun j x _ e=>(hr.l x (List.mem_of_getElem? e)).f⟩,by simp [hl],rfl,fun _ _=>rfl,?_,fun j h=>by omega,fun j h=>?_,hw⟩
  · rw [atS_zero hl,List.drop_zero,List.drop_zero]
    cases lkGo r.ls W loc <;> simp
  · rw [List.length_replicate] at h
    rw [gN_at (v:=0) (by simp [h]),if_neg (by omega)]
    omega
theorem passI.bound {r:Rv} {W:List Ls} {loc arr:Ls} {w:List Ls} {k i:Nat} (h:passI r W loc arr w k i) (hr:RvOk r):∀ j,j < arr.length→0≤gN arr j∧gN arr j≤72057594037927936:=fun j hj=>by
  have hb:=h.b j hj
  have:=h.cut.n
  have:=hr.len
  split at hb <;> omega
theorem inQ_in {x:Int} (h:inQ x=true):0≤x∧x≤1073741824:=by simpa [inQ] using h
theorem lkGo_cons (l : Lk) (r : List Lk) (w : Ls) (ws : List Ls) (a : Ls) : lkGo (l :: r) (w :: ws) a = if stG l w (gA a l.fr) = true then
      (lkGo r ws (a.set l.to.toNat (gA a l.to+outF l.ws l.den w (gA a l.fr)))).map fun x=>(stepF l.ws l.den w (gA a l.fr) :: x.1,x.2)
    else none:=rfl
theorem passI.link {r:Rv} {W:List Ls} {loc arr:Ls} {w:List Ls} {k i m:Nat} {l:Lk} {p:Ls} (hr:RvOk r) (h:passI r W loc arr w k i) (hN:(arr.length:Int)=r.n) (hk:k < arr.length) (hq:inQ (gN loc k)=true) (hl:r.ls[m]?=some l) (hf:l.fr=k) (hp:w[m]?=some p) :
    (stG l p (gN arr k+gN loc k)=false→lkGo r.ls W loc=none) ∧
    (stG l p (gN arr k+gN loc k)=true→(0≤l.to∧l.to.toNat < arr.length)∧passI r W loc ((arr.set k (gN arr k+gN loc k)).set l.to.toNat (gN (arr.set k (gN arr k+gN loc k)) l.to.toNat+outF l.ws l.den p (gN arr k+gN loc k))) (w.set m (stepF l.ws l.den p (gN arr k+gN loc k))) (k+1) (i+1)):=by
  have h0:=h
  obtain ⟨hm,hcut⟩:=h.cut.some hr.p hl hf
  subst hm
  have hlo:=hr.l l (List.mem_of_getElem? hl)
  have ht0:=hlo.t
  have ho:=hlo.o
  have hto:0≤l.to∧l.to.toNat < arr.length:=by have:=hlo.f;omega
  have hWp:W[m]?=some p:=by rw [← h.wd m (Nat.le_refl _)];exact hp
  have hmW:m < w.length:=(List.getElem?_eq_some_iff.1 hp).1
  have hfit:=h.fit.f m l p hl hp
  have eq:=h.eq
  have hgk:gA (atS loc arr k) l.fr=gN arr k+gN loc k:=by
    rw [hf,gA_nat,atS_get hk,if_neg (by omega)]
  rw [dropC hl,dropC hWp,lkGo_cons,hgk] at eq
  refine ⟨fun e=>by rw [eq,if_neg (by rw [e];simp)];rfl,fun e=>?_⟩
  rw [if_pos e] at eq
  refine ⟨hto,?_⟩
  have hout:=out_in hlo.r hfit e
  generalize hq2:gN arr k+gN loc k=q at *
  generalize hO:outF l.ws l.den p q=o at *
  generalize hS:stepF l.ws l.den p q=p' at *
  have hkt:k+1≤l.to.toNat:=by omega
  have hA:(atS loc arr k).set l.to.toNat (gA (atS loc arr k) l.to+o)=atS loc ((arr.set k q).set l.to.toNat (gN (arr.set k q) l.to.toNat+o)) (k+1):=by
    rw [atS_set (by rw [List.length_set];exact hto.2) hkt,← hq2,atS_none hk]
    rfl
  refine ⟨by exact_mod_cast hcut,by rw [List.length_set,List.length_set];exact h.len,by rw [List.length_set];exact h.wl,fun j hj=>?_,?_,fun j hj=>?_,fun j hj=>?_,⟨by rw [List.length_set];exact h.fit.l,fun j a v ha hv=>?_⟩⟩
  · rw [List.getElem?_set,if_neg (by omega)]
    exact h.wd j (by omega)
  · rw [eq,hA]
    have ht:(w.set m p').take (m+1)=w.take m ++ [p']:=by
      rw [List.take_add_one,List.getElem?_set,if_pos rfl,if_pos hmW]
      simp [List.take_set_of_le]
    rw [ht]
    cases lkGo (r.ls.drop (m+1)) (W.drop (m+1)) (atS loc ((arr.set k q).set l.to.toNat (gN (arr.set k q) l.to.toNat+o)) (k+1)) <;> simp
  · rcases Nat.lt_or_ge j k with e' | e'
    · exact h.inq j e'
    · rw [show j=k by omega];exact hq
  · rw [List.length_set,List.length_set] at hj
    have hb:=h.b j hj
    have hbk:=h.b k hk
    have hbt:=h.b l.to.toNat hto.2
    rw [if_neg (by omega)] at hbk hbt
    have:=inQ_in hq
    have e3:((m+1:Nat):Int)=(m:Int)+1:=by omega
    rw [gN_set (by rw [List.length_set];exact hto.2),gN_set hk,gN_set hk,if_neg (by omega:¬ l.to.toNat=k)]
    by_cases e1:j=l.to.toNat
    · subst e1
      rw [if_pos rfl,if_neg (by omega)]
      omega
    · rw [if_neg e1]
      by_cases e2:j=k
      · subst e2
        rw [if_pos rfl,if_pos (by omega)]
        omega
      · rw [if_neg e2]
        by_cases e3:j < k
        · rw [if_pos (by omega)];rw [if_pos e3] at hb;omega
        · rw [if_neg (by omega)];rw [if_neg e3] at hb;omega
  · rw [List.getElem?_set] at hv
    by_cases e1:m=j
    · subst e1
      rw [if_pos rfl,if_pos hmW] at hv
      simp at hv
      subst hv
      rw [hl] at ha
      cases ha
      obtain ⟨s0,s1,s2⟩:=stG_ok e
      rw [← hS]
      have hz:=step_fits hlo.r hfit s0 s1 s2
      exact hz
    · rw [if_neg e1] at hv
      exact h.fit.f j a v ha hv
theorem passI.done {r:Rv} {W:List Ls} {loc arr:Ls} {w:List Ls} {k i:Nat} (h:passI r W loc arr w k i) (hr:RvOk r) (hW:WvOk r W) (hN:(arr.length:Int)=r.n) (hk:arr.length≤k):lkGo r.ls W loc=some (w,arr)∧loc.all inQ=true:=by
  have hi:=h.cut.end_ (n:=r.n) (fun x hx=>by have h1:=(hr.l x hx).o;have h2:=(hr.l x hx).t;omega) (by omega)
  have eq:=h.eq
  rw [hi,List.drop_length,atS_end hk] at eq
  refine ⟨?_,List.all_eq_true.2 fun x hx=>?_⟩
  · rw [eq,show w.take r.ls.length=w from List.take_of_length_le (by rw [h.fit.l];exact Nat.le_refl _)]
    cases W.drop r.ls.length <;> simp [lkGo]
  · obtain ⟨j,hj⟩:=List.getElem?_of_mem hx
    have:=(List.getElem?_eq_some_iff.1 hj).1
    have h2:=h.inq j (by have:=h.len;omega)
    rw [gN_at hj] at h2
    exact h2
end Go.Proofs

namespace Go.Proofs
open Go Go.Abs
set_option linter.unusedSimpArgs false
set_option linter.unusedVariables false
theorem WvOk.fin {r:Rv} {w:List Ls} (hr:RvOk r) (hw:WvOk r w):vfin w∧w.length≤40∧∀ p ∈ w,p.length≤24:=by
  have h1:=hr.len
  have h2:=hw.l
  have h3:∀ p ∈ w,p.length≤24:=fun p hp=>by
    obtain ⟨i,hi⟩:=List.getElem?_of_mem hp
    have hl:=(List.getElem?_eq_some_iff.1 hi).1
    have c:=List.getElem?_eq_getElem (show i < r.ls.length by omega)
    obtain ⟨a1,_⟩:=fits_facts (hw.f i _ p c hi)
    have:=(rk_facts (hr.l _ (List.mem_of_getElem? c)).r).2.1
    exact Nat.le_trans a1 this
  exact ⟨⟨by omega,fun p hp=>by have:=h3 p hp;omega⟩,by omega,h3⟩
theorem RvOk.fin {r:Rv} (h:RvOk r):r.fin:=⟨by have:=h.len;omega,fun l hl=>by have:=(rk_facts (h.l l hl).r).2.1;omega⟩
structure refI (r:Rv) (W:List Ls) (loc a:Ls) (d:List Ls) (k i:Nat):Prop where
  cut:cutK r.ls k i
  len:a.length=loc.length
  dl:d.length=i
  eq:lkGo r.ls W loc=(lkGo (r.ls.drop i) (W.drop i) a).map fun x=>(d ++ x.1,x.2)
  b:∀ j,j < a.length→0≤gN a j∧gN a j≤1073741824+1125899906842624 * (i:Int)
theorem refI.zero {r:Rv} {W:List Ls} {loc:Ls} (hr:RvOk r) (hq:loc.all inQ=true):refI r W loc loc [] 0 0:=by
  refine ⟨⟨Nat.zero_le _,fun j x h=>by omega,fun j x _ e=>(hr.l x (List.mem_of_getElem? e)).f⟩,rfl,rfl,?_,fun j h=>?_⟩
  · rw [List.drop_zero,List.drop_zero]
    cases lkGo r.ls W loc <;> simp
  · have:=inQ_in (List.all_eq_true.1 hq _ (List.mem_of_getElem? (gN_get h)))
    omega
theorem refI.bound {r:Rv} {W:List Ls} {loc a:Ls} {d:List Ls} {k i:Nat} (h:refI r W loc a d k i) (hr:RvOk r):∀ j,j < a.length→0≤gN a j∧gN a j≤72057594037927936:=fun j hj=>by
  have hb:=h.b j hj
  have:=h.cut.n
  have:=hr.len
  omega
theorem refI.link {r:Rv} {W:List Ls} {loc a:Ls} {d:List Ls} {k i m:Nat} {l:Lk} {p:Ls} (hr:RvOk r) (hW:WvOk r W) (h:refI r W loc a d k i) (hN:(a.length:Int)=r.n) (hk:k < a.length) (hl:r.ls[m]?=some l) (hf:l.fr=k) (hp:W[m]?=some p) :
    m=i∧(stG l p (gN a k)=false→lkGo r.ls W loc=none) ∧
    (stG l p (gN a k)=true→(0≤l.to∧l.to.toNat < a.length)∧refI r W loc (a.set l.to.toNat (gN a l.to.toNat+outF l.ws l.den p (gN a k))) (d ++ [stepF l.ws l.den p (gN a k)]) (k+1) (i+1)):=by
  obtain ⟨hm,hcut⟩:=h.cut.some hr.p hl hf
  subst hm
  have hlo:=hr.l l (List.mem_of_getElem? hl)
  have ht0:=hlo.t
  have ho:=hlo.o
  have hto:0≤l.to∧l.to.toNat < a.length:=by have:=hlo.f;omega
  have hfit:=hW.f m l p hl hp
  have eq:=h.eq
  have hgk:gA a l.fr=gN a k:=by rw [hf,gA_nat]
  rw [dropC hl,dropC hp,lkGo_cons,hgk] at eq
  refine ⟨rfl,fun e=>by rw [eq,if_neg (by rw [e];simp)];rfl,fun e=>?_⟩
  rw [if_pos e] at eq
  refine ⟨hto,by exact_mod_cast hcut,by rw [List.length_set];exact h.len,by simp [h.dl],?_,fun j hj=>?_⟩
  · rw [eq,show gA a l.to=gN a l.to.toNat from rfl]
    cases lkGo (r.ls.drop (m+1)) (W.drop (m+1)) (a.set l.to.toNat (gN a l.to.toNat+outF l.ws l.den p (gN a k))) <;> simp
  · rw [List.length_set] at hj
    have hout:=out_in hlo.r hfit e
    have hb:=h.b j hj
    have hbt:=h.b l.to.toNat hto.2
    have e3:((m+1:Nat):Int)=(m:Int)+1:=by omega
    rw [gN_set hto.2]
    split <;> omega
theorem refI.done {r:Rv} {W:List Ls} {loc a:Ls} {d:List Ls} {k i:Nat} (h:refI r W loc a d k i) (hr:RvOk r) (hN:(a.length:Int)=r.n) (hk:a.length≤k):lkGo r.ls W loc=some (d,a)∧d.length=r.ls.length:=by
  have hi:=h.cut.end_ (n:=r.n) (fun x hx=>by have h1:=(hr.l x hx).o;have h2:=(hr.l x hx).t;omega) (by omega)
  have eq:=h.eq
  rw [hi,List.drop_length] at eq
  refine ⟨?_,by rw [h.dl,hi]⟩
  rw [eq]
  cases W.drop r.ls.length <;> simp [lkGo]
end Go.Proofs

namespace Go.Proofs
open Go Go.Abs
set_option linter.unusedSimpArgs false
set_option linter.unusedVariables false
def smallL (l:Lk):Prop:=l.ws.length≤5∧(∀ w ∈ l.ws,0≤w∧w≤4)
structure mkLs (N:Int) (ls:List Lk) (n:Int):Prop where
  l:∀ x ∈ ls,LkOk N x∧x.fr < n∧smallL x
  p:ls.Pairwise (fun a b=>a.fr < b.fr)
theorem mkLs.nil (N n:Int):mkLs N [] n:=⟨fun x h=>by simp at h,.nil⟩
theorem mkLs.mono {N n m:Int} {ls:List Lk} (h:mkLs N ls n) (hm:n≤m):mkLs N ls m:=⟨fun x hx=>⟨(h.l x hx).1,by have:=(h.l x hx).2.1;omega,(h.l x hx).2.2⟩,h.p⟩
theorem mkLs.snoc {N n:Int} {ls:List Lk} {x:Lk} (h:mkLs N ls n) (hx:LkOk N x) (hs:smallL x) (hf:x.fr=n):mkLs N (ls ++ [x]) (n+1):=by
  refine ⟨fun y hy=>?_,List.pairwise_append.2 ⟨h.p,by simp,fun a ha b hb=>?_⟩⟩
  · rcases List.mem_append.1 hy with hy | hy
    · exact ⟨(h.l y hy).1,by have:=(h.l y hy).2.1;omega,(h.l y hy).2.2⟩
    · simp at hy;subst hy;exact ⟨hx,by omega,hs⟩
  · simp at hb;subst hb;have:=(h.l a ha).2.1;omega
structure mkRv (r:Rv):Prop where
  ok:RvOk r
  n:1≤r.n∧r.n≤6
  l:r.ls.length≤6
  s:∀ x ∈ r.ls,smallL x
theorem mkRv.of {N:Int} {ls:List Lk} {n:Int} (hN:1≤N∧N≤6) (h:mkLs N ls n):mkRv ⟨N,ls⟩:=by
  have hok:RvOk ⟨N,ls⟩:=⟨by dsimp only;omega,fun x hx=>(h.l x hx).1,h.p⟩
  refine ⟨hok,hN,?_,fun x hx=>(h.l x hx).2.2⟩
  have:=pw_len (n:=N) (a:=0) (l:=ls) (fun x hx=>⟨(hok.l x hx).f,by have h1:=(hok.l x hx).o;have h2:=(hok.l x hx).t;dsimp only at h2;omega⟩) h.p (by omega)
  dsimp only
  omega
def R_river:RB:=fun cs args k=>∃ d:Dk,args=[]∧cs=dkC d∧d.ok∧∀ (r:Rv) d',Dk.ok d'→mkRv r→k (.agg (rvC r)) (dkC d')
structure volOk (ls:List Lk) (ws:List Ls) (v:Ls):Prop where
  l:v.length=ls.length
  b:∀ (i:Nat) l p x,ls[i]?=some l→ws[i]?=some p→v[i]?=some x→0≤x∧p.sum≤l.den * x
def tailS (a:Ls) (k:Nat):Int:=(a.drop k).sum
theorem nn_tail {a:Ls} (h:∀ x ∈ a,0≤x) (k:Nat):0≤tailS a k:=(sum_nn fun x hx=>h x (List.mem_of_mem_drop hx)).1
theorem tail_cons {a:Ls} {k:Nat} {v:Int} (h:a[k]?=some v):tailS a k=v+tailS a (k+1):=by
  unfold tailS
  rw [dropC h,List.sum_cons]
theorem tail_set {a:Ls} {t:Nat} {v:Int} (h:t < a.length):∀ k,tailS (a.set t (gN a t+v)) k=tailS a k+if k≤t then v else 0:=by
  have key:∀ (n k:Nat),a.length - k=n→tailS (a.set t (gN a t+v)) k=tailS a k+if k≤t then v else 0:=by
    intro n
    induction n with
    | zero =>
      intro k hk
      have h1:tailS (a.set t (gN a t+v)) k=0:=by unfold tailS;rw [List.drop_eq_nil_of_le (by rw [List.length_set];omega)];rfl
      have h2:tailS a k=0:=by unfold tailS;rw [List.drop_eq_nil_of_le (by omega)];rfl
      rw [h1,h2,if_neg (by omega)];rfl
    | succ n ih =>
      intro k hk
      have hkl:k < a.length:=by omega
      have c1:=gN_get hkl
      have c2:=gN_get (a:=a.set t (gN a t+v)) (j:=k) (by rw [List.length_set];exact hkl)
      rw [tail_cons c1,tail_cons c2,ih (k+1) (by omega),gN_set h]
      by_cases e:k=t
      · subst e
        rw [if_pos rfl,if_neg (by omega),if_pos (by omega)];omega
      · rw [if_neg e]
        by_cases e2:k≤t
        · rw [if_pos (by omega),if_pos e2];omega
        · rw [if_neg (by omega),if_neg e2];omega
  exact fun k=>key _ k rfl
theorem gN_nn {a:Ls} (h:∀ x ∈ a,0≤x) (j:Nat):0≤gN a j:=by
  by_cases hj:j < a.length
  · exact h _ (List.mem_of_getElem? (gN_get hj))
  · rw [gN,List.getD_eq_getElem?_getD,List.getElem?_eq_none (by omega)];exact Int.le_refl _
theorem le_tail {a:Ls} (h:∀ x ∈ a,0≤x):∀ {k j:Nat},k≤j→gN a j≤tailS a k:=by
  intro k j hkj
  by_cases hj:j < a.length
  · have:=(sum_nn (l:=a.drop k) fun x hx=>h x (List.mem_of_mem_drop hx)).2 (gN a j) (by
      have:=gN_get hj
      exact List.mem_of_getElem? (i:=j - k) (by rw [List.getElem?_drop,show k+(j - k)=j by omega];exact this))
    exact this
  · have:gN a j=0:=by rw [gN,List.getD_eq_getElem?_getD,List.getElem?_eq_none (by omega)];rfl
    rw [this];exact nn_tail h k
theorem tail_mono {a:Ls} (h:∀ x ∈ a,0≤x) {k j:Nat} (hkj:k≤j):tailS a j≤tailS a k:=by
  obtain ⟨d,rfl⟩:∃ d,j=k+d:=⟨j - k,by omega⟩
  clear hkj
  induction d with
  | zero=>exact Int.le_refl _
  | succ d ih =>
    refine Int.le_trans ?_ ih
    by_cases hkl:k+d < a.length
    · rw [tail_cons (gN_get hkl)]
      have:=gN_nn h (k+d)
      show tailS a (k+d+1)≤_
      omega
    · have h2:tailS a (k+(d+1))=0:=by unfold tailS;rw [List.drop_eq_nil_of_le (by omega)];rfl
      rw [h2];exact nn_tail h _
end Go.Proofs

namespace Go.Proofs
open Go Go.Abs
set_option linter.unusedSimpArgs false
set_option linter.unusedVariables false
set_option maxRecDepth 4000
theorem river_ok:FunB Tryz.prog 51 R_river:=by
  intro cs args k h
  obtain ⟨d,rfl,rfl,hd,hk⟩:=h
  refine doesB_ex (qc:=qc1) (np:=[(6,[(1,11),(1,14),(1,16)])]) (CK:=ckK [(14,cB R_next),(80,cB R_reach)]) mixed Tryz.func51 rfl rfl Tryz.ntmps51 Tryz.results51 τ_ok (by kernel_rfl) (ckK_ok ⟨cB_ok next_ok rfl,cB_ok reach_ok rfl,trivial⟩) (by simp) rfl rfl ?_
  conv=>whnf
  refine ⟨d,rfl,hd,by omega,fun v d hd hv1 hv2=>?_⟩
  have e1:IntKind.i64.wrap (1+v)=1+v:=wrap_in (by omega) (by omega)
  conv=>whnf
  rw [e1]
  have hN:1≤1+v∧1+v≤6:=by omega
  generalize 1+v=N at hN
  clear hv1 hv2 e1
  refine ⟨List Lk × Dk × Nat,fun s=>([(0,.c (.ptr (.x 0) 0)),(2,.c (.ptr (.l 2 0) 0)),(3,.c (.ptr (.l 3 1) 0)),(4,I s.2.2)],⟨[(.x 0,.blk (dkC s.2.1)),(.l 2 0,.blk [IC 0,.sc (.slice none 0 0)]),(.l 3 1,.blk [IC N,.view (.l 36 2) 0 s.1.length]),(.l 36 2,.arr 58 4 (eK s.1) false)],3,[]⟩),
    fun s=>s.2.1.ok∧mkLs N s.1 s.2.2∧s.2.2≤5∧s.1.length≤s.2.2,fun s=>5 - s.2.2,([],d,0),⟨hd,.nil _ _,Nat.zero_le _,Nat.le_refl _⟩,
    Shift.trans (Shift.rename [] ⟨rfl,rfl,rfl,rfl,trivial⟩ ⟨rfl,rfl,rfl,rfl,trivial⟩ rfl rfl rfl) (Shift.nilCell (i:=.l 3 1) (cs:=[IC N,.sc (.slice none 0 0)]) (j:=1) rfl rfl 36 58 4),fun s hs=>?_⟩
  obtain ⟨ls,d,n⟩:=s
  obtain ⟨hd,hls,hn5,hll⟩:=hs
  dsimp only at hd hls hn5 hll ⊢
  have hm:=eK_len ls
  have hw1:=wr_succ (i:=n) (by omega)
  conv=>whnf
  rw [hw1]
  refine Fork.mk (fun h=>?_) (fun h=>?_)
  rotate_left
  · conv=>whnf
    refine ⟨by rw [hm];omega,?_⟩
    conv=>whnf
    rw [List.drop_zero,List.take_of_length_le (by rw [hm];exact Nat.le_refl _)]
    exact ⟨rfl,rfl,hk ⟨N,ls⟩ d hd (mkRv.of hN hls)⟩
  have hnN:(n:Int)+1 < N:=by simp at h;omega
  clear h
  conv=>whnf
  refine ⟨d,rfl,hd,by omega,fun u d hd hu1 hu2=>?_⟩
  conv=>whnf
  refine Fork.mk (fun h=>?_) (fun h=>?_)
  · have e2:IntKind.i64.wrap (N - n)=N - n:=wrap_in (by omega) (by omega)
    have e3:IntKind.i64.wrap (N - n - 1)=N - n - 1:=wrap_in (by omega) (by omega)
    conv=>whnf
    rw [e2,e3]
    refine ⟨d,rfl,hd,by omega,fun x d hd hx1 hx2=>?_⟩
    have e4:IntKind.i64.wrap (((n+1:Nat):Int)+x)=((n+1:Nat):Int)+x:=wrap_in (by omega) (by omega)
    conv=>whnf
    rw [hw1,e4]
    refine ⟨d,rfl,hd,fun ws den d hd hrk hw5 hww=>?_⟩
    conv=>whnf
    refine ⟨by simp,?_⟩
    conv=>whnf
    refine ⟨rfl,?_⟩
    conv=>whnf
    refine ⟨⟨rfl,rfl,rfl,hm.symm,by rw [hm];simp;omega⟩,?_⟩
    conv=>whnf
    rw [hw1]
    refine ⟨(ls ++ [⟨n,((n+1:Nat):Int)+x,ws,den⟩],d,n+1),⟨hd,?_,by dsimp only;omega,by dsimp only;simp;omega⟩,Shift.rename [(.l 36 2,.l 36 3)] ⟨rfl,rfl,rfl,rfl,trivial⟩ ⟨rfl,rfl,?_,?_,trivial⟩ rfl rfl rfl,by dsimp only;omega⟩
    · have:=hls.snoc (x:=⟨n,((n+1:Nat):Int)+x,ws,den⟩) ⟨by dsimp only;omega,by dsimp only;omega,by dsimp only;omega,hrk⟩ ⟨hw5,hww⟩ rfl
      exact_mod_cast this
    · dsimp only;rw [List.length_append,← hm];rfl
    · dsimp only;rw [show eK (ls ++ [⟨n,((n+1:Nat):Int)+x,ws,den⟩])=eK ls ++ [lkC ⟨n,((n+1:Nat):Int)+x,ws,den⟩] from List.map_append];rfl
  conv=>whnf
  rw [hw1]
  exact ⟨(ls,d,n+1),⟨hd,hls.mono (by dsimp only;omega),by dsimp only;omega,by dsimp only;omega⟩,Shift.rename [] ⟨rfl,rfl,rfl,rfl,trivial⟩ ⟨rfl,rfl,rfl,rfl,trivial⟩ rfl rfl rfl,by dsimp only;omega⟩
end Go.Proofs

namespace Go.Proofs
open Go Go.Abs
set_option linter.unusedSimpArgs false
set_option linter.unusedVariables false
def wayL (ls:List Lk):Nat→Int→List Nat
  | 0,_=>[]
  | m+1,k=>if lnk ls k < 0 then [] else (lnk ls k).toNat :: wayL ls m (match ls[(lnk ls k).toNat]? with | some l=>l.to | none=>k)
def toOf (ls:List Lk) (i:Nat):Int:=match ls[i]? with | some l=>l.to | none=>0
theorem wayL_end {ls:List Lk} {k:Int} (h:lnk ls k < 0):∀ m,wayL ls m k=[]
  | 0=>rfl
  | m+1=>by rw [wayL,if_pos h]
theorem wayL_step {ls:List Lk} {k:Int} {i:Nat} {l:Lk} {m:Nat} (h:lnk ls k=i) (hl:ls[i]?=some l):wayL ls (m+1) k=i :: wayL ls m l.to:=by
  rw [wayL,if_neg (by omega),h,Int.toNat_natCast,hl]
theorem wayL_more {r:Rv} (hr:RvOk r):∀ (m:Nat) (k:Int),(r.n - k).toNat≤m→wayL r.ls (m+1) k=wayL r.ls m k
  | 0,k,h=>by
    rcases lnk_spec r.ls k with ⟨e,_⟩ | ⟨i,l,e1,e2,e3⟩
    · rw [wayL_end (by omega),wayL_end (by omega)]
    · have hl:=hr.l l (List.mem_of_getElem? e1)
      have:=hl.o
      have:=hl.t
      omega
  | m+1,k,h=>by
    rcases lnk_spec r.ls k with ⟨e,_⟩ | ⟨i,l,e1,e2,e3⟩
    · rw [wayL_end (by omega),wayL_end (by omega)]
    · have hl:=hr.l l (List.mem_of_getElem? e1)
      have h1:=hl.o
      have h2:=hl.t
      rw [wayL_step e3 e1,wayL_step e3 e1,wayL_more hr m l.to (by omega)]
def wayR (r:Rv) (k:Int):List Nat:=wayL r.ls 40 k
theorem wayR_end {r:Rv} {k:Int} (h:lnk r.ls k < 0):wayR r k=[]:=wayL_end h _
theorem wayR_step {r:Rv} (hr:RvOk r) {k:Int} (hk:0≤k) {i:Nat} {l:Lk} (h:lnk r.ls k=i) (hl:r.ls[i]?=some l) (hf:l.fr=k):wayR r k=i :: wayR r l.to:=by
  have hlo:=hr.l l (List.mem_of_getElem? hl)
  have h1:=hlo.o
  have h2:=hlo.t
  have h3:=hr.n
  unfold wayR
  rw [← wayL_more hr 40 k (by omega),wayL_step h hl]
def pathR (r:Rv) (k:Int):Ls:=k :: (wayR r k).map (toOf r.ls)
theorem path_end {r:Rv} {k:Int} (h:lnk r.ls k < 0):pathR r k=[k]:=by rw [pathR,wayR_end h];rfl
theorem path_step {r:Rv} (hr:RvOk r) {k:Int} (hk:0≤k) {i:Nat} {l:Lk} (h:lnk r.ls k=i) (hl:r.ls[i]?=some l) (hf:l.fr=k):pathR r k=k :: pathR r l.to:=by
  rw [pathR,wayR_step hr hk h hl hf,List.map_cons,pathR]
  unfold toOf
  rw [hl]
theorem path_facts {r:Rv} (hr:RvOk r):∀ (m:Nat) (k:Int),(r.n - k).toNat≤m→0≤k∧k < r.n→(∀ x ∈ pathR r k,k≤x∧x < r.n)∧(∀ (i:Nat) l,r.ls[i]?=some l→l.fr ∈ pathR r k→l.to ∈ pathR r k)∧(wayR r k).length≤m
  | 0,k,h,hk=>by omega
  | m+1,k,h,hk=>by
    rcases lnk_spec r.ls k with ⟨e,e0⟩ | ⟨i,l,e1,e2,e3⟩
    · rw [path_end (by omega),wayR_end (by omega)]
      refine ⟨fun x hx=>by simp at hx;omega,fun i l hl hf=>?_,by simp⟩
      simp at hf
      exact absurd hf (e0 l (List.mem_of_getElem? hl))
    · have hlo:=hr.l l (List.mem_of_getElem? e1)
      have h1:=hlo.o
      have h2:=hlo.t
      obtain ⟨i1,i2,i3⟩:=path_facts hr m l.to (by omega) (by omega)
      rw [path_step hr hk.1 e3 e1 e2,wayR_step hr hk.1 e3 e1 e2]
      refine ⟨fun x hx=>?_,fun j b hb hf=>?_,by rw [List.length_cons];omega⟩
      · rcases List.mem_cons.1 hx with rfl | hx
        · omega
        · have:=i1 x hx;omega
      · rcases List.mem_cons.1 hf with hf | hf
        · have:j=i:=by
            rcases Nat.lt_trichotomy j i with e | e | e
            · have:=pwK_lt hr.p e hb e1;omega
            · exact e
            · have:=pwK_lt hr.p e e1 hb;omega
          subst this
          rw [e1] at hb;cases hb
          exact List.mem_cons_of_mem _ (by unfold pathR;exact List.mem_cons_self)
        · exact List.mem_cons_of_mem _ (i2 j b hb hf)
theorem path_len {r:Rv} (hr:RvOk r) {k:Int} (hk:0≤k∧k < r.n):(wayR r k).length≤40:=by
  have:=(path_facts hr (r.n - k).toNat k (Nat.le_refl _) hk).2.2
  have:=hr.n
  omega
end Go.Proofs

namespace Go.Proofs
open Go Go.Abs
set_option linter.unusedSimpArgs false
set_option linter.unusedVariables false
set_option maxRecDepth 4000
def R_way:RT:=fun args k=>∃ (r:Rv) (x:Int),args=[.agg (rvC r),I x]∧RvOk r∧(0≤x∧x < r.n)∧k (.c (.lst (eL ((wayR r x).map Int.ofNat))))
theorem way_ok:FunR Tryz.prog 88 R_way:=by
  intro args k h
  obtain ⟨r,x,rfl,hr,hx,hk⟩:=h
  have hm:=eK_len r.ls
  have hrl:=hr.len
  have hpl:=path_len hr hx
  refine does_ex (qc:=qc1) (np:=[(5,[(2,5),(2,7),(2,9),(3,5),(3,7),(3,9)])]) (CK:=ckK [(118,cSc R_lnk)]) mixed Tryz.func88 rfl rfl Tryz.ntmps88 Tryz.results88 τ_ok (by kernel_rfl) (ckK_ok ⟨cSc_ok link_ok,trivial⟩) (by simp) ?_
  conv=>whnf
  refine ⟨r,x,rfl,by omega,?_⟩
  conv=>whnf
  refine ⟨List Nat × Int,fun s=>([(2,.c (.ptr (.l 2 0) 0)),(5,.c (.view (.l 18 1) 0 s.1.length)),(6,I (lnk r.ls s.2))],⟨[(.l 2 0,.blk (rvC r)),(.l 18 1,.arr 3 1 (eL (s.1.map Int.ofNat)) false)],2,[]⟩),
    fun s=>(0≤s.2∧s.2 < r.n)∧wayR r x=s.1 ++ wayR r s.2,fun s=>(r.n - s.2).toNat,([],x),⟨hx,rfl⟩,
    Shift.trans (Shift.rename [] ⟨rfl,rfl,rfl,trivial⟩ ⟨rfl,rfl,trivial⟩ rfl rfl rfl) (Shift.nilArr (t:=5) rfl 18 3 1),fun s hs=>?_⟩
  obtain ⟨o,y⟩:=s
  obtain ⟨hy,hw⟩:=hs
  dsimp only at hy hw ⊢
  have hmo:(eL (o.map Int.ofNat)).length=o.length:=by rw [eL_len,List.length_map]
  have hol:o.length≤40:=by have:=congrArg List.length hw;rw [List.length_append] at this;omega
  rcases lnk_spec r.ls y with ⟨e,_⟩ | ⟨i,l,e1,e2,e3⟩
  · rw [wayR_end (k:=y) (by omega),List.append_nil] at hw
    rw [e]
    conv=>whnf
    (repeat ((first | refine fork_t ?_ | refine fork_f ?_);(conv=>whnf)))
    refine ⟨by rw [hmo];omega,?_⟩
    conv=>whnf
    have ht:List.take o.length (List.drop 0 (eL (o.map Int.ofNat)))=eL (o.map Int.ofNat):=by rw [List.drop_zero,List.take_of_length_le (by rw [hmo];exact Nat.le_refl _)]
    show k (.c (.lst (List.take o.length (List.drop 0 (eL (o.map Int.ofNat))))))
    rw [ht,← hw]
    exact hk
  rw [e3]
  rw [wayR_step hr hy.1 e3 e1 e2] at hw
  have hil:=(List.getElem?_eq_some_iff.1 e1).1
  have hlo:=hr.l l (List.mem_of_getElem? e1)
  have h1:=hlo.o
  have h2:=hlo.t
  conv=>whnf
  refine Fork.mk (fun h=>?_) (fun h=>?_)
  rotate_left
  · exfalso;simp at h
  clear h
  conv=>whnf
  refine ⟨by first | exact Nat.le_refl _ | (simp;done),?_⟩
  conv=>whnf
  refine ⟨rfl,?_⟩
  conv=>whnf
  refine ⟨⟨rfl,rfl,rfl,hmo.symm,by rw [hmo];simp;omega⟩,?_⟩
  conv=>whnf
  refine ⟨by omega,lkC l,by rw [Int.toNat_natCast,List.getElem?_map,e1];rfl,rfl,?_⟩
  conv=>whnf
  refine ⟨r,l.to,rfl,by omega,?_⟩
  conv=>whnf
  refine ⟨(o ++ [i],l.to),⟨by dsimp only;omega,by dsimp only;rw [hw];simp⟩,Shift.rename [(.l 18 1,.l 18 2)] ⟨rfl,?_,rfl,trivial⟩ ⟨rfl,?_,trivial⟩ rfl rfl rfl,by dsimp only;omega⟩
  · dsimp only;rw [List.length_append,← hmo];rfl
  · dsimp only;rw [List.map_append,show eL (o.map Int.ofNat ++ List.map Int.ofNat [i])=eL (o.map Int.ofNat) ++ [eI (i:Int)] from List.map_append];rfl
theorem kPth {k:AV→Prop} {x y:Ls × Int} (h:k (.tup [.c (.lst (eL x.1)),I x.2])) (e:x=y):k (.tup [.c (.lst (eL y.1)),I y.2]):=by subst e;exact h
end Go.Proofs
