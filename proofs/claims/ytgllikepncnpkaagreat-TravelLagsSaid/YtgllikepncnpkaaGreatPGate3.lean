/- Proved here: what functions of the given program come to, and the plain laws of it; no condition but those in the theorems. -/
import Derived.Test.YtgllikepncnpkaaGreatPGate
namespace Go.Proofs
open Go Go.Abs
set_option linter.unusedSimpArgs false
set_option linter.unusedVariables false
def sAt (w lv:Int):Int→List Gt→List Gs→Nat→Int
  | s,_,_,0=>s
  | s,g :: gs,z :: zs,i+1=>sAt w lv (sNx w lv s g z) gs zs i
  | s,_,_,_=>s
theorem sAt_0 (w lv s:Int) (gs:List Gt) (ss:List Gs):sAt w lv s gs ss 0=s:=by
  cases gs <;> cases ss <;> rfl
structure SetF (w lv s:Int) (gs:List Gt) (ss:List Gs):Prop where
  len:(setL w lv s gs ss).1.length=gs.length
  bad:badS gs (setL w lv s gs ss).1=false
  tot:totL gs (opsL (setL w lv s gs ss).1) lv=(setL w lv s gs ss).2 - s+totL gs (losL gs ss) lv
  lo:s≤(setL w lv s gs ss).2
  hi:(setL w lv s gs ss).2≤s+totL gs (hisL gs ss) lv - totL gs (losL gs ss) lv
  en:w≤(setL w lv s gs ss).2 ∨ (setL w lv s gs ss).2=s+totL gs (hisL gs ss) lv - totL gs (losL gs ss) lv
  fin:(setL w lv s gs ss).2=sAt w lv s gs ss gs.length
theorem nx_in {w lv s:Int} {g:Gt} {z:Gs} (hg:ckG g=0) (hz:okS g z=true) :
    s≤sNx w lv s g z∧sNx w lv s g z≤s+gfl (atG g lv) (rch g z).2 - gfl (atG g lv) (rch g z).1∧(w≤sNx w lv s g z ∨ sNx w lv s g z=s+gfl (atG g lv) (rch g z).2 - gfl (atG g lv) (rch g z).1):=by
  have hr:=rch_in hg hz
  have hc:=atG_ok hg lv
  have h1:=opO_in (c:=atG g lv) (w:=w) (s:=s) hr.1.2
  have h2:=gfl_mono hc h1.1
  have h3:=gfl_mono hc h1.2
  refine ⟨by unfold sNx;omega,by unfold sNx;omega,?_⟩
  by_cases h:s < w
  · rcases (opO_is (c:=atG g lv) hr.1.2 h).2.2 with e | e
    · right;unfold sNx;rw [e];omega
    · left;unfold sNx;omega
  · left;unfold sNx;omega
theorem setF {w lv:Int}:∀ {gs:List Gt} {ss:List Gs} {s:Int},gs.length=ss.length→(∀ g ∈ gs,ckG g=0)→badS gs ss=false→SetF w lv s gs ss
  | [],[],s,_,_,_=>⟨rfl,rfl,by simp [setL,totL,opsL],by simp [setL],by simp [setL,totL,losL,hisL],.inr (by simp [setL,totL,losL,hisL]),rfl⟩
  | [],_ :: _,_,h,_,_=>by simp at h
  | _ :: _,[],_,h,_,_=>by simp at h
  | g :: gs,z :: zs,s,hl,hg,hb=>by
    have hb0:=hb
    rw [badS] at hb
    split at hb
    · cases hb
    rename_i hz
    have hz:okS g z=true:=by simpa using hz
    have hgg:=hg g (by simp)
    have F:=setF (w:=w) (lv:=lv) (s:=sNx w lv s g z) (show gs.length=zs.length by simpa using hl) (fun g' h=>hg g' (by simp [h])) hb
    have hr:=rch_in hgg hz
    have hc:=atG_ok hgg lv
    have h1:=opO_in (c:=atG g lv) (w:=w) (s:=s) hr.1.2
    obtain ⟨n1,n2,n3⟩:=nx_in (w:=w) (lv:=lv) (s:=s) hgg hz
    have f3:=F.tot
    have f4:=F.lo
    have f5:=F.hi
    have f6:=F.en
    have f7:=F.fin
    have ho:okS g ⟨opO (atG g lv) w s (rch g z).1 (rch g z).2,z.jm⟩=true:=by simp [okS,inB];omega
    have e1:totL (g :: gs) (losL (g :: gs) (z :: zs)) lv=gfl (atG g lv) (rch g z).1+totL gs (losL gs zs) lv:=rfl
    have e2:totL (g :: gs) (hisL (g :: gs) (z :: zs)) lv=gfl (atG g lv) (rch g z).2+totL gs (hisL gs zs) lv:=rfl
    have e3:totL (g :: gs) (opsL (setL w lv s (g :: gs) (z :: zs)).1) lv=gfl (atG g lv) (opO (atG g lv) w s (rch g z).1 (rch g z).2)+totL gs (opsL (setL w lv (sNx w lv s g z) gs zs).1) lv:=rfl
    have e4:(setL w lv s (g :: gs) (z :: zs)).2=(setL w lv (sNx w lv s g z) gs zs).2:=rfl
    have e5:sNx w lv s g z=s - gfl (atG g lv) (rch g z).1+gfl (atG g lv) (opO (atG g lv) w s (rch g z).1 (rch g z).2):=rfl
    refine ⟨by rw [setL_cons];simp [F.len],by rw [setL_cons,badS,if_neg (by simp [ho])];exact F.bad,?_,?_,?_,?_,by rw [e4,f7];rfl⟩
    · rw [e3,e4,e1,f3];omega
    · rw [e4];omega
    · rw [e4,e1,e2];omega
    · rw [e4,e1,e2]
      rcases f6 with f6 | f6
      · exact .inl f6
      · rcases n3 with n3 | n3
        · exact .inl (by omega)
        · exact .inr (by omega)
theorem set_at {w lv:Int}:∀ {gs:List Gt} {ss:List Gs} {s:Int} {i:Nat} {g:Gt} {z:Gs},gs[i]?=some g→ss[i]?=some z →
    (setL w lv s gs ss).1[i]?=some ⟨opO (atG g lv) w (sAt w lv s gs ss i) (rch g z).1 (rch g z).2,z.jm⟩∧sAt w lv s gs ss (i+1)=sNx w lv (sAt w lv s gs ss i) g z
  | [],_,_,_,_,_,h,_=>by simp at h
  | _ :: _,[],_,_,_,_,_,h=>by simp at h
  | a :: gs,b :: ss,s,0,g,z,h1,h2=>by
    simp at h1 h2
    subst h1;subst h2
    exact ⟨rfl,sAt_0 ..⟩
  | a :: gs,b :: ss,s,i+1,g,z,h1,h2=>by
    obtain ⟨q1,q2⟩:=set_at (w:=w) (lv:=lv) (s:=sNx w lv s a b) (gs:=gs) (ss:=ss) (i:=i) (by simpa using h1) (by simpa using h2)
    exact ⟨by rw [setL_cons,List.getElem?_cons_succ];exact q1,q2⟩
theorem nx_same {w lv s:Int} {g:Gt} {z:Gs} (h:opO (atG g lv) w s (rch g z).1 (rch g z).2=(rch g z).1):sNx w lv s g z=s:=by
  unfold sNx;rw [h];omega
theorem nx_moved {w lv s:Int} {g:Gt} {z:Gs} (hg:ckG g=0) (hz:okS g z=true) (h:(rch g z).1 < opO (atG g lv) w s (rch g z).1 (rch g z).2) :
    s < w∧gfl (atG g lv) (opO (atG g lv) w s (rch g z).1 (rch g z).2 - 1) < w - (s - gfl (atG g lv) (rch g z).1)∧(opO (atG g lv) w s (rch g z).1 (rch g z).2 < (rch g z).2→w≤sNx w lv s g z):=by
  have hr:=rch_in hg hz
  by_cases hs:s < w
  · obtain ⟨a,b,c⟩:=opO_is (c:=atG g lv) hr.1.2 hs
    refine ⟨hs,b _ (by omega) (by omega),fun hlt=>?_⟩
    rcases c with c | c
    · omega
    · unfold sNx;omega
  · rw [opO,if_neg hs] at h;omega
theorem totL_set {lv:Int}:∀ {gs:List Gt} {os:Ls} {i:Nat} {g:Gt} {o o':Int},gs[i]?=some g→os[i]?=some o→totL gs (os.set i o') lv=totL gs os lv - gfl (atG g lv) o+gfl (atG g lv) o'
  | [],_,_,_,_,_,h,_=>by simp at h
  | _ :: _,[],_,_,_,_,_,h=>by simp at h
  | a :: gs,b :: os,0,g,o,o',h1,h2=>by
    simp at h1 h2
    subst h1;subst h2
    simp only [List.set_cons_zero,totL];omega
  | a :: gs,b :: os,i+1,g,o,o',h1,h2=>by
    have:=totL_set (lv:=lv) (gs:=gs) (os:=os) (i:=i) (o':=o') (by simpa using h1) (by simpa using h2)
    simp only [List.set_cons_succ,totL,this];omega
theorem los_his:∀ {gs:List Gt} {ss:List Gs},(∀ (i:Nat) g z,gs[i]?=some g→ss[i]?=some z→(rch g z).1=(rch g z).2)→losL gs ss=hisL gs ss
  | [],_,_=>rfl
  | _ :: _,[],_=>rfl
  | a :: gs,b :: ss,h=>by
    rw [losL,hisL,h 0 a b rfl rfl,los_his fun i g z h1 h2=>h (i+1) g z (by simpa using h1) (by simpa using h2)]
structure lastI (w lv T:Int) (gs:List Gt) (ss:List Gs) (i:Nat) (o:Option Nat):Prop where
  m:∀ m,o=some m→m < i∧∃ g z,gs[m]?=some g∧ss[m]?=some z∧(rch g z).1 < opO (atG g lv) w (sAt w lv T gs ss m) (rch g z).1 (rch g z).2
  r:∀ j,j < i→(∀ m,o=some m→m < j)→∀ g z,gs[j]?=some g→ss[j]?=some z→opO (atG g lv) w (sAt w lv T gs ss j) (rch g z).1 (rch g z).2=(rch g z).1
theorem sAt_run {w lv T:Int} {gs:List Gt} {ss:List Gs} {a:Nat}:∀ {n:Nat},a+n≤gs.length→gs.length=ss.length→(∀ j,a≤j→j < a+n→∀ g z,gs[j]?=some g→ss[j]?=some z→opO (atG g lv) w (sAt w lv T gs ss j) (rch g z).1 (rch g z).2=(rch g z).1)→sAt w lv T gs ss (a+n)=sAt w lv T gs ss a
  | 0,_,_,_=>rfl
  | n+1,h1,h2,h3=>by
    have ih:=sAt_run (w:=w) (lv:=lv) (T:=T) (gs:=gs) (ss:=ss) (a:=a) (n:=n) (by omega) h2 fun j a1 a2=>h3 j a1 (by omega)
    have c1:=List.getElem?_eq_getElem (show a+n < gs.length by omega)
    have c2:=List.getElem?_eq_getElem (show a+n < ss.length by omega)
    have:=(set_at (w:=w) (lv:=lv) (s:=T) c1 c2).2
    rw [show a+(n+1)=a+n+1 by omega,this,nx_same (h3 (a+n) (by omega) (by omega) _ _ c1 c2),ih]
theorem lastI.sum {w lv T:Int} {gs:List Gt} {ss:List Gs} {i:Nat} {o:Option Nat} (h:lastI w lv T gs ss i o) (hi:i≤gs.length) (hl:gs.length=ss.length):sAt w lv T gs ss i=match o with | none=>T | some m=>sAt w lv T gs ss (m+1):=by
  cases o with
  | none =>
    have:=sAt_run (w:=w) (lv:=lv) (T:=T) (gs:=gs) (ss:=ss) (a:=0) (n:=i) (by omega) hl fun j _ hj g z=>h.r j (by omega) (fun m e=>by cases e) g z
    rw [Nat.zero_add,sAt_0] at this
    exact this
  | some m =>
    have hm:=(h.m m rfl).1
    have:=sAt_run (w:=w) (lv:=lv) (T:=T) (gs:=gs) (ss:=ss) (a:=m+1) (n:=i - (m+1)) (by omega) hl fun j a1 a2 g z=>h.r j (by omega) (fun m' e=>by cases e;omega) g z
    rwa [show m+1+(i - (m+1))=i by omega] at this
theorem lastI.step {w lv T:Int} {gs:List Gt} {ss:List Gs} {i:Nat} {o:Option Nat} {g:Gt} {z:Gs} (h:lastI w lv T gs ss i o) (hl:gs.length=ss.length) (hA:∀ g ∈ gs,ckG g=0) (hb:badS gs ss=false) (h1:gs[i]?=some g) (h2:ss[i]?=some z)
    (hm:(rch g z).1 < opO (atG g lv) w (sAt w lv T gs ss i) (rch g z).1 (rch g z).2) :
    lastI w lv T gs ss (i+1) (some i)∧∀ m,o=some m→∃ g' z',gs[m]?=some g'∧ss[m]?=some z'∧opO (atG g' lv) w (sAt w lv T gs ss m) (rch g' z').1 (rch g' z').2=(rch g' z').2:=by
  have hi:=(List.getElem?_eq_some_iff.1 h1).1
  refine ⟨⟨fun m e=>by cases e;exact ⟨by omega,g,z,h1,h2,hm⟩,fun j hj hj' g z=>by have:=hj' i rfl;omega⟩,fun m e=>?_⟩
  subst e
  obtain ⟨q1,g',z',q2,q3,q4⟩:=h.m m rfl
  have hs:=h.sum (by omega) hl
  dsimp only at hs
  have hg':=hA g' (List.mem_of_getElem? q2)
  have hz':=badS_at hb q2 q3
  have hr:=rch_in hg' hz'
  have hin:=opO_in (c:=atG g' lv) (w:=w) (s:=sAt w lv T gs ss m) hr.1.2
  refine ⟨g',z',q2,q3,Classical.byContradiction fun e=>?_⟩
  have:=(nx_moved hg' hz' q4).2.2 (by omega)
  rw [← (set_at (w:=w) (lv:=lv) (s:=T) q2 q3).2,← hs] at this
  have:=(nx_moved (hA g (List.mem_of_getElem? h1)) (badS_at hb h1 h2) hm).1
  omega
theorem lastI.skip {w lv T:Int} {gs:List Gt} {ss:List Gs} {i:Nat} {o:Option Nat} {g:Gt} {z:Gs} (h:lastI w lv T gs ss i o) (h1:gs[i]?=some g) (h2:ss[i]?=some z)
    (hm:opO (atG g lv) w (sAt w lv T gs ss i) (rch g z).1 (rch g z).2=(rch g z).1):lastI w lv T gs ss (i+1) o :=
  ⟨fun m e=>by obtain ⟨a,b⟩:=h.m m e;exact ⟨by omega,b⟩,fun j hj hj' g' z' e1 e2=>by
    by_cases e:j=i
    · subst e;rw [h1] at e1;rw [h2] at e2;cases e1;cases e2;exact hm
    · exact h.r j (by omega) hj' g' z' e1 e2⟩
theorem lastI.none {w lv T:Int} {gs:List Gt} {ss:List Gs} (h:lastI w lv T gs ss gs.length none) (hl:gs.length=ss.length) (hA:∀ g ∈ gs,ckG g=0) (hb:badS gs ss=false) (hT:T < w):losL gs ss=hisL gs ss:=by
  refine los_his fun i g z h1 h2=>?_
  have hi:=(List.getElem?_eq_some_iff.1 h1).1
  have hr:=rch_in (hA g (List.mem_of_getElem? h1)) (badS_at hb h1 h2)
  have e:=h.r i hi (fun m e=>by cases e) g z h1 h2
  have hs:sAt w lv T gs ss i=T:=by
    have:=sAt_run (w:=w) (lv:=lv) (T:=T) (gs:=gs) (ss:=ss) (a:=0) (n:=i) (by omega) hl fun j _ hj g z=>h.r j (by omega) (fun m e=>by cases e) g z
    rw [Nat.zero_add,sAt_0] at this
    exact this
  obtain ⟨_,_,c⟩:=opO_is (c:=atG g lv) (w:=w) (s:=sAt w lv T gs ss i) hr.1.2 (by omega)
  rcases c with c | c
  · omega
  · rw [e] at c;omega
theorem ckGs_of:∀ {gs:List Gt},(∀ g ∈ gs,ckG g=0)→ckGs gs=0
  | [],_=>rfl
  | a :: gs,h=>by rw [ckGs,if_neg (by simp [h a (by simp)])];exact ckGs_of fun g hg=>h g (by simp [hg])
theorem askG_of {gs:List Gt} {ss:List Gs} {lv:Int} (h1:gs.length≤8) (h2:gs.length=ss.length) (h3:badS gs ss=false) (h4:∀ g ∈ gs,ckG g=0) (h5:0≤lv∧lv≤16777216):askG gs ss lv=0:=by
  rw [askG,if_neg (by omega),if_neg (by omega),if_neg (by simp [h3]),if_neg (by simp [ckGs_of h4]),if_neg (by simp [inB];omega)]
end Go.Proofs

namespace Go.Proofs
open Go Go.Abs
set_option linter.unusedSimpArgs false
set_option linter.unusedVariables false
theorem losL_cons (g:Gt) (gs:List Gt) (z:Gs) (zs:List Gs):losL (g :: gs) (z :: zs)=(rch g z).1 :: losL gs zs:=rfl
theorem opsL_cons (w lv s:Int) (g:Gt) (gs:List Gt) (z:Gs) (zs:List Gs):opsL (setL w lv s (g :: gs) (z :: zs)).1=opO (atG g lv) w s (rch g z).1 (rch g z).2 :: opsL (setL w lv (sNx w lv s g z) gs zs).1:=rfl
theorem tot_mix {w lv:Int}:∀ {gs:List Gt} {ss:List Gs} {s:Int} {i:Nat},gs.length=ss.length→i≤gs.length →
    totL gs ((opsL (setL w lv s gs ss).1).take i ++ (losL gs ss).drop i) lv=sAt w lv s gs ss i+(totL gs (losL gs ss) lv - s)
  | gs,ss,s,0,_,_=>by rw [List.take_zero,List.nil_append,List.drop_zero,sAt_0];omega
  | [],_,_,_+1,_,h=>by simp at h
  | _ :: _,[],_,_+1,h,_=>by simp at h
  | g :: gs,z :: zs,s,i+1,hl,hi=>by
    have ih:=tot_mix (w:=w) (lv:=lv) (gs:=gs) (ss:=zs) (s:=sNx w lv s g z) (i:=i) (by simpa using hl) (by simpa using hi)
    rw [opsL_cons,losL_cons,List.take_succ_cons,List.drop_succ_cons,List.cons_append]
    have e1:∀ (o:Int) (os:Ls),totL (g :: gs) (o :: os) lv=gfl (atG g lv) o+totL gs os lv:=fun _ _=>rfl
    rw [e1,e1,ih,show sAt w lv s (g :: gs) (z :: zs) (i+1)=sAt w lv (sNx w lv s g z) gs zs i from rfl]
    unfold sNx
    omega
theorem set_enough {w lv:Int}:∀ {gs:List Gt} {ss:List Gs} {s:Int},gs.length=ss.length→w≤s→opsL (setL w lv s gs ss).1=losL gs ss
  | [],[],_,_,_=>rfl
  | [],_ :: _,_,h,_=>by simp at h
  | _ :: _,[],_,h,_=>by simp at h
  | g :: gs,z :: zs,s,hl,h=>by
    have e:opO (atG g lv) w s (rch g z).1 (rch g z).2=(rch g z).1:=by rw [opO,if_neg (by omega)]
    rw [opsL_cons,losL_cons,nx_same e,e,set_enough (by simpa using hl) h]
theorem drop_enough {w lv:Int}:∀ {gs:List Gt} {ss:List Gs} {s:Int} {i:Nat},gs.length=ss.length→i≤gs.length→w≤sAt w lv s gs ss i→(opsL (setL w lv s gs ss).1).drop i=(losL gs ss).drop i
  | gs,ss,s,0,hl,_,h=>by rw [List.drop_zero,List.drop_zero];rw [sAt_0] at h;exact set_enough hl h
  | [],_,_,_+1,_,h,_=>by simp at h
  | _ :: _,[],_,_+1,h,_,_=>by simp at h
  | g :: gs,z :: zs,s,i+1,hl,hi,h=>by
    rw [opsL_cons,losL_cons,List.drop_succ_cons,List.drop_succ_cons]
    exact drop_enough (by simpa using hl) (by simpa using hi) h
theorem set_mid {l m:Ls} {i:Nat} {v:Int} (h1:i≤l.length) (h2:i < m.length):(l.take i ++ m.drop i).set i v=l.take i ++ v :: m.drop (i+1):=by
  rw [List.set_append,if_neg (by rw [List.length_take];omega),List.length_take,show i - min i l.length=0 by omega,List.drop_eq_getElem_cons h2,List.set_cons_zero]
def mixL (w lv T:Int) (gs:List Gt) (ss:List Gs) (i:Nat) (v:Int):Ls:=((opsL (setL w lv T gs ss).1).take i ++ (losL gs ss).drop i).set i v
structure mixI (w lv T:Int) (gs:List Gt) (ss:List Gs) (i:Nat) (v:Int):Prop where
  n:i≤gs.length
  v:∀ g z,gs[i]?=some g→ss[i]?=some z→(rch g z).1≤v∧v≤opO (atG g lv) w (sAt w lv T gs ss i) (rch g z).1 (rch g z).2
section
variable {w lv:Int} {gs:List Gt} {ss:List Gs} (hl:gs.length=ss.length) (hA:∀ g ∈ gs,ckG g=0) (hb:badS gs ss=false)
include hl hA hb
theorem mix_len {i:Nat} {v:Int} (hi:i≤gs.length):(mixL w lv (totL gs (losL gs ss) lv) gs ss i v).length=gs.length:=by
  have h1:=(setF (w:=w) (lv:=lv) (s:=totL gs (losL gs ss) lv) hl hA hb).len
  have h2:=(losL_len hl).1
  have h3:(opsL (setL w lv (totL gs (losL gs ss) lv) gs ss).1).length=gs.length:=by rw [opsL,List.length_map];exact h1
  rw [mixL,List.length_set,List.length_append,List.length_take,List.length_drop]
  omega
theorem mix_low {i:Nat} {g:Gt} {z:Gs} (h1:gs[i]?=some g) (h2:ss[i]?=some z) :
    ((opsL (setL w lv (totL gs (losL gs ss) lv) gs ss).1).take i ++ (losL gs ss).drop i)[i]?=some (rch g z).1∧(hisL gs ss)[i]?=some (rch g z).2:=by
  have hi:=(List.getElem?_eq_some_iff.1 h1).1
  have q1:=(setF (w:=w) (lv:=lv) (s:=totL gs (losL gs ss) lv) hl hA hb).len
  have q3:(opsL (setL w lv (totL gs (losL gs ss) lv) gs ss).1).length=gs.length:=by rw [opsL,List.length_map];exact q1
  obtain ⟨q4,q5⟩:=losL_len hl
  obtain ⟨t1,t2⟩:=losL_take h1 h2
  constructor
  · rw [List.getElem?_append_right (by rw [List.length_take];omega),List.getElem?_drop,List.length_take,show i+(i - min i (opsL (setL w lv (totL gs (losL gs ss) lv) gs ss).1).length)=i by omega]
    have:((losL gs ss).take (i+1))[i]?=(losL gs ss)[i]?:=by rw [List.getElem?_take,if_pos (by omega)]
    rw [← this,t1,List.getElem?_append_right (by rw [List.length_take];omega),List.length_take,show i - min i (losL gs ss).length=0 by omega]
    rfl
  · have:((hisL gs ss).take (i+1))[i]?=(hisL gs ss)[i]?:=by rw [List.getElem?_take,if_pos (by omega)]
    rw [← this,t2,List.getElem?_append_right (by rw [List.length_take];omega),List.length_take,show i - min i (hisL gs ss).length=0 by omega]
    rfl
theorem mix_get {i:Nat} {v:Int} {g:Gt} {z:Gs} (h1:gs[i]?=some g) (h2:ss[i]?=some z):(mixL w lv (totL gs (losL gs ss) lv) gs ss i v)[i]?=some v:=by
  have hi:=(List.getElem?_eq_some_iff.1 (mix_low (w:=w) (lv:=lv) hl hA hb h1 h2).1).1
  rw [mixL,List.getElem?_set_self hi]
theorem mix_tot {i:Nat} {v:Int} {g:Gt} {z:Gs} (h1:gs[i]?=some g) (h2:ss[i]?=some z) :
    totL gs (mixL w lv (totL gs (losL gs ss) lv) gs ss i v) lv=sAt w lv (totL gs (losL gs ss) lv) gs ss i - gfl (atG g lv) (rch g z).1+gfl (atG g lv) v:=by
  have hi:=(List.getElem?_eq_some_iff.1 h1).1
  rw [mixL,totL_set h1 (mix_low (w:=w) (lv:=lv) hl hA hb h1 h2).1,tot_mix hl (by omega)]
  omega
theorem mix_next {i:Nat} {v:Int} {g:Gt} {z:Gs} (h:mixI w lv (totL gs (losL gs ss) lv) gs ss i v) (h1:gs[i]?=some g) (h2:ss[i]?=some z) (hv:v=(rch g z).2) :
    ∃ v',mixI w lv (totL gs (losL gs ss) lv) gs ss (i+1) v'∧mixL w lv (totL gs (losL gs ss) lv) gs ss i v=mixL w lv (totL gs (losL gs ss) lv) gs ss (i+1) v':=by
  have hi:=(List.getElem?_eq_some_iff.1 h1).1
  have hg:=hA g (List.mem_of_getElem? h1)
  have hr:=rch_in hg (badS_at hb h1 h2)
  have hin:=opO_in (c:=atG g lv) (w:=w) (s:=sAt w lv (totL gs (losL gs ss) lv) gs ss i) hr.1.2
  have hv2:=h.v g z h1 h2
  have q1:=(setF (w:=w) (lv:=lv) (s:=totL gs (losL gs ss) lv) hl hA hb).len
  have q3:(opsL (setL w lv (totL gs (losL gs ss) lv) gs ss).1).length=gs.length:=by rw [opsL,List.length_map];exact q1
  have q4:=(losL_len hl).1
  have hF:(opsL (setL w lv (totL gs (losL gs ss) lv) gs ss).1)[i]?=some v:=by
    rw [opsL,List.getElem?_map,(set_at h1 h2).1]
    show some _=some v
    congr 1
    show opO (atG g lv) w (sAt w lv (totL gs (losL gs ss) lv) gs ss i) (rch g z).1 (rch g z).2=v
    omega
  have e:mixL w lv (totL gs (losL gs ss) lv) gs ss i v=(opsL (setL w lv (totL gs (losL gs ss) lv) gs ss).1).take (i+1) ++ (losL gs ss).drop (i+1):=by
    have hlo:=(mix_low (w:=w) (lv:=lv) hl hA hb h1 h2).1
    rw [List.take_add_one,hF,mixL,set_mid (by omega) (by omega),List.append_assoc]
    rfl
  by_cases hn:i+1 < gs.length
  · have c1:=List.getElem?_eq_getElem hn
    have c2:=List.getElem?_eq_getElem (show i+1 < ss.length by omega)
    have hr':=rch_in (hA _ (List.mem_of_getElem? c1)) (badS_at hb c1 c2)
    refine ⟨(rch gs[i+1] ss[i+1]).1,⟨by omega,fun g' z' d1 d2=>?_⟩,?_⟩
    · rw [c1] at d1;rw [c2] at d2;cases d1;cases d2
      exact ⟨Int.le_refl _,(opO_in hr'.1.2).1⟩
    · have hlo:=(mix_low (w:=w) (lv:=lv) hl hA hb c1 c2).1
      rw [e,mixL]
      exact (List.ext_getElem? fun k=>by
        by_cases hk:k=i+1
        · subst hk;rw [hlo,List.getElem?_set_self (List.getElem?_eq_some_iff.1 hlo).1]
        · rw [List.getElem?_set_ne (by omega)])
  · refine ⟨0,⟨by omega,fun g' z' d1 _=>?_⟩,?_⟩
    · have:=(List.getElem?_eq_some_iff.1 d1).1;omega
    · rw [e,mixL,List.set_eq_of_length_le (by rw [List.length_append,List.length_take,List.length_drop];omega)]
theorem mix_up {i:Nat} {v:Int} {g:Gt} {z:Gs} (h:mixI w lv (totL gs (losL gs ss) lv) gs ss i v) (h1:gs[i]?=some g) (h2:ss[i]?=some z) (hv:v < (rch g z).2)
    (hw:totL gs (mixL w lv (totL gs (losL gs ss) lv) gs ss i v) lv < w):mixI w lv (totL gs (losL gs ss) lv) gs ss i (v+1):=by
  have hi:=(List.getElem?_eq_some_iff.1 h1).1
  have hg:=hA g (List.mem_of_getElem? h1)
  have hr:=rch_in hg (badS_at hb h1 h2)
  have hv2:=h.v g z h1 h2
  rw [mix_tot hl hA hb h1 h2] at hw
  have hm:=gfl_mono (atG_ok hg lv) hv2.1
  refine ⟨h.n,fun g' z' d1 d2=>?_⟩
  rw [h1] at d1;rw [h2] at d2;cases d1;cases d2
  obtain ⟨_,_,c⟩:=opO_is (c:=atG g lv) (w:=w) (s:=sAt w lv (totL gs (losL gs ss) lv) gs ss i) hr.1.2 (by omega)
  refine ⟨by omega,?_⟩
  rcases c with c | c
  · omega
  · by_cases e:v=opO (atG g lv) w (sAt w lv (totL gs (losL gs ss) lv) gs ss i) (rch g z).1 (rch g z).2
    · rw [← e] at c;omega
    · omega
theorem mix_start:∃ v,mixI w lv (totL gs (losL gs ss) lv) gs ss 0 v∧losL gs ss=mixL w lv (totL gs (losL gs ss) lv) gs ss 0 v:=by
  by_cases hn:0 < gs.length
  · have c1:=List.getElem?_eq_getElem hn
    have c2:=List.getElem?_eq_getElem (show 0 < ss.length by omega)
    have hr:=rch_in (hA _ (List.mem_of_getElem? c1)) (badS_at hb c1 c2)
    have hlo:=(mix_low (w:=w) (lv:=lv) hl hA hb c1 c2).1
    rw [List.take_zero,List.nil_append,List.drop_zero] at hlo
    refine ⟨(rch gs[0] ss[0]).1,⟨Nat.zero_le _,fun g' z' d1 d2=>?_⟩,?_⟩
    · rw [c1] at d1;rw [c2] at d2;cases d1;cases d2
      exact ⟨Int.le_refl _,(opO_in hr.1.2).1⟩
    · rw [mixL,List.take_zero,List.nil_append,List.drop_zero]
      exact List.ext_getElem? fun k=>by
        by_cases hk:k=0
        · subst hk;rw [hlo,List.getElem?_set_self (List.getElem?_eq_some_iff.1 hlo).1]
        · rw [List.getElem?_set_ne (by omega)]
  · refine ⟨0,⟨Nat.zero_le _,fun g' z' d1 _=>?_⟩,?_⟩
    · have:=(List.getElem?_eq_some_iff.1 d1).1;omega
    · rw [mixL,List.set_eq_of_length_le (by rw [List.length_append,List.length_take,List.length_drop,(losL_len hl).1];omega),List.take_zero,List.nil_append,List.drop_zero]
theorem mix_end {i:Nat} {v:Int} (h:mixI w lv (totL gs (losL gs ss) lv) gs ss i v) (he:i=gs.length ∨ w≤totL gs (mixL w lv (totL gs (losL gs ss) lv) gs ss i v) lv) :
    mixL w lv (totL gs (losL gs ss) lv) gs ss i v=opsL (setL w lv (totL gs (losL gs ss) lv) gs ss).1:=by
  have q1:=(setF (w:=w) (lv:=lv) (s:=totL gs (losL gs ss) lv) hl hA hb).len
  have q3:(opsL (setL w lv (totL gs (losL gs ss) lv) gs ss).1).length=gs.length:=by rw [opsL,List.length_map];exact q1
  have q4:=(losL_len hl).1
  by_cases hn:i=gs.length
  · subst hn
    rw [mixL,List.set_eq_of_length_le (by rw [List.length_append,List.length_take,List.length_drop];omega),List.take_of_length_le (by omega),List.drop_eq_nil_of_le (by omega),List.append_nil]
  have hi:i < gs.length:=by have:=h.n;omega
  have he:=he.resolve_left hn
  have c1:=List.getElem?_eq_getElem hi
  have c2:=List.getElem?_eq_getElem (show i < ss.length by omega)
  generalize gs[i]=g at c1
  generalize ss[i]=z at c2
  have hg:=hA g (List.mem_of_getElem? c1)
  have hr:=rch_in hg (badS_at hb c1 c2)
  have hv2:=h.v g z c1 c2
  rw [mix_tot hl hA hb c1 c2] at he
  have hF:=set_at (w:=w) (lv:=lv) (s:=totL gs (losL gs ss) lv) c1 c2
  have hin:=opO_in (c:=atG g lv) (w:=w) (s:=sAt w lv (totL gs (losL gs ss) lv) gs ss i) hr.1.2
  have hvF:v=opO (atG g lv) w (sAt w lv (totL gs (losL gs ss) lv) gs ss i) (rch g z).1 (rch g z).2:=by
    by_cases hs:sAt w lv (totL gs (losL gs ss) lv) gs ss i < w
    · obtain ⟨_,b,_⟩:=opO_is (c:=atG g lv) hr.1.2 hs
      have:=b v hv2.1
      omega
    · have:opO (atG g lv) w (sAt w lv (totL gs (losL gs ss) lv) gs ss i) (rch g z).1 (rch g z).2=(rch g z).1:=by rw [opO,if_neg hs]
      omega
  have hs2:w≤sAt w lv (totL gs (losL gs ss) lv) gs ss (i+1):=by
    rw [hF.2];unfold sNx;rw [← hvF];exact he
  have hd:=drop_enough hl (show i+1≤gs.length by omega) hs2
  have hFi:(opsL (setL w lv (totL gs (losL gs ss) lv) gs ss).1)[i]?=some v:=by
    rw [opsL,List.getElem?_map,hF.1,hvF];rfl
  rw [mixL,set_mid (by omega) (by omega),← hd]
  have:(opsL (setL w lv (totL gs (losL gs ss) lv) gs ss).1).take (i+1)=(opsL (setL w lv (totL gs (losL gs ss) lv) gs ss).1).take i ++ [v]:=by rw [List.take_add_one,hFi];rfl
  rw [← List.singleton_append,← List.append_assoc,← this,List.take_append_drop]
end
theorem set_zip {w lv:Int} {gs:List Gt} {ss:List Gs} {i:Nat} {g:Gt} {z:Gs} {T:Int} (h1:gs[i]?=some g) (h2:ss[i]?=some z):∃ o,(opsL (setL w lv T gs ss).1)[i]?=some o∧(setL w lv T gs ss).1.take (i+1)=(setL w lv T gs ss).1.take i ++ [⟨o,z.jm⟩]:=by
  have hF:=(set_at (w:=w) (lv:=lv) (s:=T) h1 h2).1
  exact ⟨_,by rw [opsL,List.getElem?_map,hF];rfl,by rw [List.take_add_one,hF];rfl⟩
theorem mix_set {w lv:Int} {gs:List Gt} {ss:List Gs} {i:Nat} {v v':Int}:(mixL w lv (totL gs (losL gs ss) lv) gs ss i v).set i v'=mixL w lv (totL gs (losL gs ss) lv) gs ss i v':=by
  rw [mixL,mixL,List.set_set]
def muG (gs:List Gt) (ss:List Gs) (i:Nat) (v:Int):Nat:=(gs.length - i) * 2000+(if i < gs.length then ((hisL gs ss).getD i 0 - v).toNat else 0)
theorem mu_next {w lv:Int} {gs:List Gt} {ss:List Gs} {i:Nat} {v v':Int} (hl:gs.length=ss.length) (hA:∀ g ∈ gs,ckG g=0) (hb:badS gs ss=false) (h:mixI w lv (totL gs (losL gs ss) lv) gs ss (i+1) v') (hi:i < gs.length):muG gs ss (i+1) v' < muG gs ss i v:=by
  have key:(if i+1 < gs.length then ((hisL gs ss).getD (i+1) 0 - v').toNat else 0)≤1000:=by
    split
    · rename_i hn
      have c1:=List.getElem?_eq_getElem hn
      have c2:=List.getElem?_eq_getElem (show i+1 < ss.length by omega)
      have hr:=rch_in (hA _ (List.mem_of_getElem? c1)) (badS_at hb c1 c2)
      have hv:=(h.v _ _ c1 c2).1
      have hh:=(mix_low (w:=w) (lv:=lv) hl hA hb c1 c2).2
      rw [List.getD_eq_getElem?_getD,hh]
      show ((rch gs[i+1] ss[i+1]).2 - v').toNat≤1000
      omega
    · omega
  unfold muG
  omega
theorem mu_up {gs:List Gt} {ss:List Gs} {i:Nat} {v v' hi:Int} (hi':i < gs.length) (hh:(hisL gs ss)[i]?=some hi) (h1:v < v') (h2:v'≤hi):muG gs ss i v' < muG gs ss i v:=by
  unfold muG
  rw [if_pos hi',if_pos hi',List.getD_eq_getElem?_getD,hh]
  show _+(hi - v').toNat < _+(hi - v).toNat
  omega
end Go.Proofs
