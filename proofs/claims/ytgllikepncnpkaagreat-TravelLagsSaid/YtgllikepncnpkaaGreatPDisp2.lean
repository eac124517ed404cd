/- Proved here: what functions of the given program come to, and the plain laws of it; no condition but those in the theorems. -/
import Derived.Test.YtgllikepncnpkaaGreatB34
import Derived.Test.YtgllikepncnpkaaGreatZ34
namespace Go.Proofs
open Go Go.Abs
set_option linter.unusedSimpArgs false
set_option linter.unusedVariables false
def w19 (us:List Un) (ss:List Us) (g:Int):Int:=if 6 < us.length then 10 else if us.length ≠ ss.length then 3 else if usB us ss=false then 3 else if g < 1 ∨ 1073741824 < g then 1 else 0
def R_w19:RT:=fun args k=>∃ (us:List Un) (ss:List Us) (g:Int),args=[.c (.lst (eU us)),.c (.lst (eQ ss)),I g]∧us.length≤9223372036854775807∧ss.length≤9223372036854775807∧(∀ u ∈ us,u.fin)∧k (I (w19 us ss g))
def optL (u:Un) (z:Us) (g:Int):Ls:=(0 :: z.fl :: (flS u g).1).filter (mayV u z)
def optF (u:Un) (z:Us) (g:Int):Ls × Int:=if (flS u g).2 ≠ 0 then ([],(flS u g).2) else (optL u z g,0)
def R_opt:RT:=fun args k=>∃ (u:Un) (z:Us) (g:Int),args=[.agg (unC u),.agg (usC z),I g]∧u.fin∧k (.tup [.c (.lst (eL (optF u z g).1)),I (optF u z g).2])
def lwC (l:Ls):List Cell:=[.lst (eL l)]
abbrev eLw (l:List Ls):List (List Cell):=l.map lwC
theorem eLw_len (l:List Ls):(eLw l).length=l.length:=List.length_map _
def allG:List Un→List Us→Int→Option (List Ls)
  | u :: us,z :: ss,g=>if (flS u g).2 ≠ 0 then none else match allG us ss g with
    | none=>none
    | some l=>some (optL u z g :: l)
  | _,_,_=>some []
def allF (us:List Un) (ss:List Us) (g:Int):List Ls × Int:=match allG us ss g with
  | none=>([],10)
  | some l=>(l,0)
def R_all:RT:=fun args k=>∃ (us:List Un) (ss:List Us) (g:Int),args=[.c (.lst (eU us)),.c (.lst (eQ ss)),I g]∧us.length≤6∧us.length=ss.length∧(∀ u ∈ us,u.fin)∧k (.tup [.c (.lst (eLw (allF us ss g).1)),I (allF us ss g).2])
def R_bef:RT:=fun args k=>∃ a b:Ls,args=[.c (.lst (eL a)),.c (.lst (eL b))]∧a.length≤1000∧b.length≤1000∧∀ c:Bool,k (Bo c)
def R_bet:RT:=fun args k=>∃ (x1 x2 y1 y2:Int) (a b:Ls),args=[.agg [IC x1,IC x2],.agg [IC y1,IC y2],.c (.lst (eL a)),.c (.lst (eL b))]∧a.length≤1000∧b.length≤1000∧∀ c:Bool,k (Bo c)
def mayL:List Un→List Us→Ls→Bool
  | u :: us,z :: ss,q :: qs=>mayV u z q && mayL us ss qs
  | [],[],[]=>true
  | _,_,_=>false
def R_val19:RT:=fun args k=>∃ (us:List Un) (ss:List Us) (qs:Ls),args=[.c (.lst (eU us)),.c (.lst (eQ ss)),.c (.lst (eL qs))]∧us.length≤6∧mayL us ss qs=true∧(∀ u ∈ us,u.fin)∧∀ p c:Int,k (.tup [I qs.sum,I p,I c,Bo true])
theorem mayL_len:∀ {us:List Un} {ss:List Us} {qs:Ls},mayL us ss qs=true→us.length=qs.length∧ss.length=qs.length
  | [],[],[],_=>⟨rfl,rfl⟩
  | u :: us,z :: ss,q :: qs,h=>by
    simp only [mayL,Bool.and_eq_true] at h
    obtain ⟨h1,h2⟩:=mayL_len h.2
    simp [h1,h2]
  | [],[],_ :: _,h=>by simp [mayL] at h
  | [],_ :: _,_,h=>by simp [mayL] at h
  | _ :: _,[],_,h=>by simp [mayL] at h
  | _ :: _,_ :: _,[],h=>by simp [mayL] at h
theorem mayL_at:∀ {us:List Un} {ss:List Us} {qs:Ls},mayL us ss qs=true→∀ {i:Nat} {u:Un} {z:Us} {q:Int},us[i]?=some u→ss[i]?=some z→qs[i]?=some q→mayV u z q=true
  | u :: us,z :: ss,q :: qs,h,0,u',z',q',h1,h2,h3=>by
    simp only [mayL,Bool.and_eq_true] at h
    simp at h1 h2 h3
    subst h1 h2 h3
    exact h.1
  | u :: us,z :: ss,q :: qs,h,i+1,u',z',q',h1,h2,h3=>by
    simp only [mayL,Bool.and_eq_true] at h
    exact mayL_at h.2 (by simpa using h1) (by simpa using h2) (by simpa using h3)
  | [],_,_,_,i,_,_,_,h1,_,_=>by simp at h1
  | _ :: _,[],_,_,i,_,_,_,_,h2,_=>by simp at h2
  | _ :: _,_ :: _,[],_,i,_,_,_,_,_,h3=>by simp at h3
theorem mayL_of:∀ {us:List Un} {ss:List Us} {qs:Ls},us.length=qs.length→ss.length=qs.length→(∀ (i:Nat) u z q,us[i]?=some u→ss[i]?=some z→qs[i]?=some q→mayV u z q=true)→mayL us ss qs=true
  | [],[],[],_,_,_=>rfl
  | u :: us,z :: ss,q :: qs,h1,h2,h=>by
    simp only [mayL,Bool.and_eq_true]
    exact ⟨h 0 u z q rfl rfl rfl,mayL_of (by simpa using h1) (by simpa using h2) fun i a b c ha hb hc=>h (i+1) a b c (by simpa using ha) (by simpa using hb) (by simpa using hc)⟩
  | [],[],_ :: _,h1,_,_=>by simp at h1
  | [],_ :: _,[],_,h2,_=>by simp at h2
  | [],_ :: _,_ :: _,h1,_,_=>by simp at h1
  | _ :: _,[],[],h1,_,_=>by simp at h1
  | _ :: _,[],_ :: _,_,h2,_=>by simp at h2
  | _ :: _,_ :: _,[],h1,_,_=>by simp at h1
theorem mayV_in {u:Un} {z:Us} {q:Int} (h:mayV u z q=true):validB u z=true∧mayB u z q=true:=by
  simpa [mayV] using h
theorem mayV_q {u:Un} {z:Us} {q:Int} (h:mayV u z q=true):0≤q∧q≤1073741824:=by
  obtain ⟨h1,h2⟩:=mayV_in h
  have hok:=ckU_ok (by simp [validB] at h1;exact h1.1)
  unfold mayB at h2
  split at h2
  · omega
  · split at h2
    · cases h2
    · simp [runB] at h2
      have:=hok.l1
      have:=hok.m
      omega
theorem optL_pos {u:Un} {z:Us} {g:Int} (h:validB u z=true):1≤(optL u z g).length:=by
  have hv:=h
  simp [validB,fitB] at h
  obtain ⟨h1,h2,h3⟩:=h
  have key:∃ q,(q=0 ∨ q=z.fl)∧mayV u z q=true:=by
    rcases h3 with h3 | ⟨h3,h4⟩
    · exact ⟨0,.inl rfl,by simp [mayV,hv,mayB,h3]⟩
    · have hlo:=(ckU_ok h1).l1
      have h4':=h4
      simp [runB] at h4'
      refine ⟨z.fl,.inr rfl,?_⟩
      simp only [mayV,hv,Bool.true_and,mayB]
      rw [if_neg (by omega),if_neg (by simp [h3];omega)]
      exact h4
  obtain ⟨q,hq,hm⟩:=key
  have:q ∈ optL u z g:=List.mem_filter.2 ⟨by rcases hq with rfl | rfl <;> simp,hm⟩
  exact List.length_pos_of_mem this
end Go.Proofs

namespace Go.Proofs
open Go Go.Abs
set_option linter.unusedSimpArgs false
set_option linter.unusedVariables false
set_option maxRecDepth 4000
theorem w19_ok:FunR Tryz.prog 139 R_w19:=by
  intro args k h
  obtain ⟨us,ss,g,rfl,hu,hs,hfu,hk⟩:=h
  have hmu:=eU_len us
  have hmz:=eQ_len ss
  refine does_ex (qc:=qc1) (np:=[]) (CK:=ckK [(96,cSc (R_usB validB))]) mixed Tryz.func139 rfl rfl Tryz.ntmps139 Tryz.results139 τ_ok (by kernel_rfl) (ckK_ok ⟨cSc_ok rvalid_ok,trivial⟩) (by simp) ?_
  conv=>whnf
  refine Fork.mk (fun h=>?_) (fun h=>?_)
  · conv=>whnf
    exact kI hk (by rw [w19,if_pos (by simp at h;omega)])
  have h1:¬ 6 < us.length:=by simp at h;omega
  clear h
  conv=>whnf
  refine Fork.mk (fun h=>?_) (fun h=>?_)
  · conv=>whnf
    exact kI hk (by rw [w19,if_neg h1,if_pos (by simp at h;omega)])
  have h2:us.length=ss.length:=by simp at h;omega
  clear h
  have e2:¬ us.length ≠ ss.length:=by simp [h2]
  conv=>whnf
  refine ⟨Nat,fun i=>([(1,.c (.lst (eQ ss))),(2,I g),(17,.c (.lst (eU us))),(18,I (eU us).length),(19,I i)],⟨[],9,[]⟩),
    fun i=>i≤us.length∧usB us ss=usB (us.drop i) (ss.drop i),fun i=>us.length - i,0,⟨Nat.zero_le _,rfl⟩,Shift.reset ⟨rfl,rfl,rfl,rfl,rfl,trivial⟩ trivial rfl rfl,fun i hi=>?_⟩
  obtain ⟨hi1,hi2⟩:=hi
  dsimp only
  conv=>whnf
  refine Fork.mk (fun h=>?_) (fun h=>?_)
  · have hi:i < us.length:=by simp at h;omega
    clear h
    have hci:=List.getElem?_eq_getElem hi
    have hcs:=List.getElem?_eq_getElem (show i < ss.length by omega)
    have hf1:=hfu _ (List.getElem_mem hi)
    generalize us[i]=u at hci hf1
    generalize ss[i]=z at hcs
    rw [drop_of hci,drop_of hcs,usB] at hi2
    have hw1:=wr_succ (i:=i) (by omega)
    conv=>whnf
    refine ⟨by omega,unC u,by rw [Int.toNat_natCast,List.getElem?_map,hci];rfl,rfl,?_⟩
    conv=>whnf
    refine ⟨by omega,usC z,by rw [Int.toNat_natCast,List.getElem?_map,hcs];rfl,rfl,?_⟩
    conv=>whnf
    refine ⟨u,z,rfl,hf1,?_⟩
    conv=>whnf
    refine Fork.mk (fun h=>?_) (fun h=>?_)
    · have h4:validB u z=false:=by simpa using h
      rw [h4] at hi2
      conv=>whnf
      exact kI hk (by rw [w19,if_neg h1,if_neg e2,if_pos (by rw [hi2];rfl)])
    have h4:validB u z=true:=by simpa using h
    rw [h4,Bool.true_and] at hi2
    conv=>whnf
    rw [hw1]
    exact ⟨i+1,⟨hi,hi2⟩,Shift.reset ⟨rfl,rfl,rfl,rfl,rfl,trivial⟩ trivial rfl rfl,by omega⟩
  have hie:i=us.length:=by simp at h;omega
  clear h
  rw [hie,List.drop_length] at hi2
  have hub:¬ usB us ss=false:=by rw [hi2];simp [usB]
  clear hi1 hi2 hie
  conv=>whnf
  refine Fork.mk (fun h=>?_) (fun h=>?_)
  · conv=>whnf
    repeat' ((first | refine fork_t ?_ | refine fork_f ?_ | (refine Fork.mk (fun h=>?_) (fun h=>?_);focus (simp at h;done)) | fail) <;> (conv=>whnf))
    exact kI hk (by rw [w19,if_neg h1,if_neg e2,if_neg hub,if_pos (by left;simpa using h)])
  conv=>whnf
  refine Fork.mk (fun h'=>?_) (fun h'=>?_)
  · conv=>whnf
    repeat' ((first | refine fork_t ?_ | refine fork_f ?_ | (refine Fork.mk (fun h=>?_) (fun h=>?_);focus (simp at h;done)) | fail) <;> (conv=>whnf))
    exact kI hk (by rw [w19,if_neg h1,if_neg e2,if_neg hub,if_pos (by right;simpa using h')])
  conv=>whnf
  exact kI hk (by rw [w19,if_neg h1,if_neg e2,if_neg hub,if_neg (by simp at h h';omega)])
theorem leaf_lo {k:AV→Prop} (l:Ls) {n:Nat} {e:Int} (h:n=l.length) (hk:k (.tup [.c (.lst (eL l)),I e])):k (.tup [.c (.lst (List.take n (List.drop 0 (eL l)))),I e]):=by
  rw [List.drop_zero,List.take_of_length_le (by rw [eL_len];omega)];exact hk
theorem flS_len {u:Un} {g:Int}:(flS u g).1.length≤200:=by
  unfold flS
  split
  · simp
  split
  · simp
  split
  · simp
  · dsimp only;omega
theorem opt_ok:FunR Tryz.prog 148 R_opt:=by
  intro args k h
  obtain ⟨u,z,g,rfl,hu,hk⟩:=h
  refine does_ex (qc:=qc1) (np:=[]) (CK:=ckK [(134,cPq R_flS),(143,cSc (R_usQB mayV))]) mixed Tryz.func148 rfl rfl Tryz.ntmps148 Tryz.results148 τ_ok (by kernel_rfl) (ckK_ok ⟨cPq_ok rflows_ok,cSc_ok rMay_ok,trivial⟩) (by simp) ?_
  conv=>whnf
  refine ⟨u,g,rfl,hu,?_⟩
  conv=>whnf
  refine Fork.mk (fun h=>?_) (fun h=>?_)
  · have h1:(flS u g).2 ≠ 0:=by simpa using h
    rw [show optF u z g=([],(flS u g).2) from if_pos h1] at hk
    conv=>whnf
    exact hk
  have h1:¬ (flS u g).2 ≠ 0:=by simpa using h
  clear h
  rw [show optF u z g=(optL u z g,0) from if_neg h1] at hk
  unfold optL at hk
  have hfl:=flS_len (u:=u) (g:=g)
  generalize (flS u g).1=fl at hk hfl
  have hmf:=eL_len fl
  conv=>whnf
  refine ⟨eL_all _,?_⟩
  conv=>whnf
  refine ⟨⟨rfl,rfl,rfl,rfl,by rw [hmf];simp;omega⟩,?_⟩
  conv=>whnf
  have hm:=eL_len (0 :: z.fl :: fl)
  obtain ⟨L,hL⟩:∃ L:Ls,L=0 :: z.fl :: fl:=⟨_,rfl⟩
  rw [← hL] at hk hm
  have hLn:L.length≤202:=by rw [hL];simp;omega
  refine ⟨Nat,fun i=>([(3,.c (.ptr (.l 3 0) 0)),(4,.c (.ptr (.l 4 1) 0)),(10,.c (.view (.l 39 4) 0 ((L.take i).filter (mayV u z)).length)),(26,.c (.view (.l 26 3) 0 L.length)),(27,I L.length),(28,I i)],⟨[(.l 3 0,.blk (unC u)),(.l 4 1,.blk (usC z)),(.l 26 3,.arr 3 1 (eL L) false),(.l 39 4,.arr 3 1 (eL ((L.take i).filter (mayV u z))) false)],9,[]⟩),
    fun i=>i≤L.length,fun i=>L.length - i,0,Nat.zero_le _,?_,fun i hi=>?_⟩
  · subst hL
    have e0:(0 :: z.fl :: fl).length=[[IC 0],[IC z.fl]].length+(eL fl).length:=by rw [hmf];simp;omega
    rw [e0]
    exact Shift.trans (Shift.rename [] ⟨rfl,rfl,rfl,rfl,rfl,rfl,trivial⟩ ⟨rfl,rfl,rfl,rfl,trivial⟩ rfl rfl rfl) (Shift.nilArr (t:=10) rfl 39 3 1)
  clear hL
  dsimp only
  generalize hO:(L.take i).filter (mayV u z)=O
  have hmO:=eL_len O
  have hOn:O.length≤202:=by rw [← hO];have:=List.length_filter_le (mayV u z) (L.take i);rw [List.length_take] at this;omega
  conv=>whnf
  refine Fork.mk (fun h=>?_) (fun h=>?_)
  rotate_left
  · have hie:i=L.length:=by simp at h;omega
    rw [hie,List.take_length] at hO
    rw [hO] at hk
    conv=>whnf
    refine ⟨by rw [hmO,Nat.zero_add];exact Nat.le_refl _,?_⟩
    conv=>whnf
    exact leaf_lo O rfl hk
  have hi2:i < L.length:=by simp at h;omega
  clear h
  have hci:=List.getElem?_eq_getElem hi2
  have htk:L.take (i+1)=L.take i ++ [L[i]]:=(List.take_append_getElem hi2).symm
  generalize L[i]=x at hci htk
  have hw1:=wr_succ (i:=i) (by omega)
  conv=>whnf
  refine ⟨by omega,rfl,?_⟩
  conv=>whnf
  refine ⟨eI x,by rw [Int.toNat_natCast,Nat.zero_add,List.getElem?_map,hci];rfl,?_⟩
  conv=>whnf
  refine ⟨u,z,x,rfl,hu,?_⟩
  conv=>whnf
  refine Fork.mk (fun h=>?_) (fun h=>?_)
  · have hO2:(L.take (i+1)).filter (mayV u z)=O ++ [x]:=by rw [htk,List.filter_append,hO];simp [h]
    conv=>whnf
    refine ⟨by simp,?_⟩
    conv=>whnf
    refine ⟨rfl,?_⟩
    conv=>whnf
    refine ⟨⟨rfl,rfl,rfl,hmO.symm,by rw [hmO];simp;omega⟩,?_⟩
    conv=>whnf
    rw [hw1]
    refine ⟨i+1,hi2,?_,by omega⟩
    rw [hO2]
    refine Shift.rename [(.l 39 4,.l 39 10)] ⟨rfl,rfl,?_,rfl,rfl,rfl,trivial⟩ ⟨rfl,rfl,rfl,?_,trivial⟩ rfl rfl rfl
    · rw [show (O ++ [x]).length=(eL O).length+1 by rw [hmO];simp];rfl
    · rw [← eL_snoc];rfl
  · have hO2:(L.take (i+1)).filter (mayV u z)=O:=by rw [htk,List.filter_append,hO];simp [h]
    conv=>whnf
    rw [hw1]
    refine ⟨i+1,hi2,?_,by omega⟩
    rw [hO2]
    exact Shift.reset ⟨rfl,rfl,rfl,rfl,rfl,rfl,trivial⟩ ⟨rfl,rfl,rfl,rfl,trivial⟩ rfl rfl
end Go.Proofs

namespace Go.Proofs
open Go Go.Abs
set_option linter.unusedSimpArgs false
set_option linter.unusedVariables false
set_option maxRecDepth 4000
theorem allG_len:∀ {us:List Un} {ss:List Us} {g:Int} {l:List Ls},allG us ss g=some l→us.length=ss.length→l.length=us.length
  | [],[],_,l,h,_=>by simp [allG] at h;subst h;rfl
  | u :: us,z :: ss,g,l,h,hn=>by
    rw [allG] at h
    split at h
    · cases h
    split at h
    · cases h
    rename_i l' h1
    simp at h
    subst h
    simp [allG_len h1 (by simpa using hn)]
  | [],_ :: _,_,_,_,hn=>by simp at hn
  | _ :: _,[],_,_,_,hn=>by simp at hn
theorem optL_len {u:Un} {z:Us} {g:Int}:(optL u z g).length≤202:=by
  unfold optL
  have:=List.length_filter_le (mayV u z) (0 :: z.fl :: (flS u g).1)
  have:=flS_len (u:=u) (g:=g)
  simp at *
  omega
theorem all_ok:FunR Tryz.prog 140 R_all:=by
  intro args k h
  obtain ⟨us,ss,g,rfl,hu6,hn,hfu,hk⟩:=h
  have hmu:=eU_len us
  have hmz:=eQ_len ss
  refine does_ex (qc:=qc1) (np:=[]) (CK:=ckK [(148,cPu R_opt)]) mixed Tryz.func140 rfl rfl Tryz.ntmps140 Tryz.results140 τ_ok (by kernel_rfl) (ckK_ok ⟨cPu_ok opt_ok rfl,trivial⟩) (by simp) ?_
  conv=>whnf
  refine ⟨Nat × List Ls,fun y=>([(1,.c (.lst (eQ ss))),(2,I g),(8,.c (.view (.l 35 0) 0 y.2.length)),(13,.c (.lst (eU us))),(14,I (eU us).length),(15,I y.1)],⟨[(.l 35 0,.arr 22 1 (eLw y.2) false)],9,[]⟩),
    fun y=>y.1≤us.length∧y.2.length=y.1∧allG us ss g=(allG (us.drop y.1) (ss.drop y.1) g).map (y.2 ++ ·),fun y=>us.length - y.1,(0,[]),⟨Nat.zero_le _,rfl,by dsimp only;rw [List.drop_zero,List.drop_zero];cases allG us ss g <;> simp⟩,Shift.trans (Shift.rename [] ⟨rfl,rfl,rfl,rfl,rfl,rfl,trivial⟩ ⟨rfl,trivial⟩ rfl rfl rfl) (Shift.nilArr (t:=8) rfl 35 22 1),fun y hy=>?_⟩
  obtain ⟨i,O⟩:=y
  obtain ⟨hi,hO,hE⟩:=hy
  dsimp only at hi hO hE ⊢
  have hmO:=eLw_len O
  conv=>whnf
  refine Fork.mk (fun h=>?_) (fun h=>?_)
  rotate_left
  · have hie:i=us.length:=by simp at h;omega
    have hE2:allG us ss g=some O:=by rw [hE,hie,List.drop_length];simp [allG]
    have hF:allF us ss g=(O,0):=by unfold allF;rw [hE2]
    rw [hF] at hk
    conv=>whnf
    refine ⟨by rw [hmO,Nat.zero_add];exact Nat.le_refl _,?_⟩
    conv=>whnf
    rw [List.drop_zero,List.take_of_length_le (by rw [hmO];exact Nat.le_refl _)]
    exact hk
  have hi2:i < us.length:=by simp at h;omega
  clear h
  have hci:=List.getElem?_eq_getElem hi2
  have hcs:=List.getElem?_eq_getElem (show i < ss.length by omega)
  have hf1:=hfu _ (List.getElem_mem hi2)
  generalize us[i]=u at hci hf1
  generalize ss[i]=z at hcs
  rw [drop_of hci,drop_of hcs,allG] at hE
  have hw1:=wr_succ (i:=i) (by omega)
  conv=>whnf
  refine ⟨by omega,unC u,by rw [Int.toNat_natCast,List.getElem?_map,hci];rfl,rfl,?_⟩
  conv=>whnf
  refine ⟨by omega,usC z,by rw [Int.toNat_natCast,List.getElem?_map,hcs];rfl,rfl,?_⟩
  conv=>whnf
  refine ⟨u,z,g,rfl,hf1,?_⟩
  by_cases h1:(flS u g).2 ≠ 0
  · rw [if_pos h1] at hE
    rw [show optF u z g=([],(flS u g).2) from if_pos h1]
    have hF:allF us ss g=([],10):=by unfold allF;rw [hE];rfl
    rw [hF] at hk
    conv=>whnf
    refine Fork.mk (fun h=>?_) (fun h=>?_)
    · conv=>whnf
      exact hk
    · exact absurd (by simpa using h) h1
  rw [if_neg h1] at hE
  rw [show optF u z g=(optL u z g,0) from if_neg h1]
  have hol:=optL_len (u:=u) (z:=z) (g:=g)
  generalize optL u z g=o at hE hol
  conv=>whnf
  repeat' ((first | refine fork_t ?_ | refine fork_f ?_ | (refine Fork.mk (fun h=>?_) (fun h=>?_);focus (simp at h;done)) | fail) <;> (conv=>whnf))
  refine ⟨by simp,?_⟩
  conv=>whnf
  refine ⟨rfl,?_⟩
  conv=>whnf
  refine ⟨⟨rfl,rfl,rfl,hmO.symm,by rw [hmO];simp;omega⟩,?_⟩
  conv=>whnf
  rw [hw1]
  refine ⟨(i+1,O ++ [o]),⟨hi2,by simp [hO],?_⟩,Shift.rename [(.l 35 0,.l 35 11)] ⟨rfl,rfl,?_,rfl,rfl,rfl,trivial⟩ ⟨?_,trivial⟩ rfl rfl rfl,by dsimp only;omega⟩
  · dsimp only
    rw [hE]
    cases allG (us.drop (i+1)) (ss.drop (i+1)) g <;> simp
  · dsimp only;rw [show (O ++ [o]).length=(eLw O).length+1 by rw [hmO];simp];rfl
  · dsimp only;rw [show eLw (O ++ [o])=eLw O ++ [lwC o] from List.map_append];rfl
theorem bef_ok:FunR Tryz.prog 149 R_bef:=by
  intro args k h
  obtain ⟨a,b,rfl,ha,hb,hk⟩:=h
  have hma:=eL_len a
  have hmb:=eL_len b
  refine does_ex (qc:=qc1) (np:=[]) (CK:=ckK []) mixed Tryz.func149 rfl rfl Tryz.ntmps149 Tryz.results149 τ_ok (by kernel_rfl) (ckK_ok trivial) (by simp) ?_
  conv=>whnf
  refine ⟨Nat,fun i=>([(0,.c (.lst (eL a))),(1,.c (.lst (eL b))),(7,I (eL a).length),(8,I i)],⟨[],9,[]⟩),
    fun i=>i≤a.length,fun i=>a.length - i,0,Nat.zero_le _,Shift.reset ⟨rfl,rfl,rfl,rfl,trivial⟩ trivial rfl rfl,fun i hi=>?_⟩
  dsimp only
  conv=>whnf
  refine Fork.mk (fun h=>?_) (fun h=>?_)
  rotate_left
  · conv=>whnf
    exact hk _
  have hi2:i < a.length:=by simp at h;omega
  clear h
  have hci:=List.getElem?_eq_getElem hi2
  generalize a[i]=x at hci
  have hw1:=wr_succ (i:=i) (by omega)
  conv=>whnf
  refine Fork.mk (fun h=>?_) (fun h=>?_)
  · have hge:b.length≤i:=by simp at h;omega
    conv=>whnf
    repeat' ((first | refine fork_t ?_ | refine fork_f ?_ | (refine Fork.mk (fun h=>?_) (fun h=>?_);focus (simp at h;done)) | fail) <;> (conv=>whnf))
    refine Fork.mk (fun h=>?_) (fun h=>?_)
    · exfalso;simp at h;omega
    conv=>whnf
    repeat' ((first | refine fork_t ?_ | refine fork_f ?_ | (refine Fork.mk (fun h=>?_) (fun h=>?_);focus (simp at h;done)) | fail) <;> (conv=>whnf))
    exact hk _
  have hlt:i < b.length:=by simp at h;omega
  clear h
  have hcj:=List.getElem?_eq_getElem hlt
  generalize b[i]=y at hcj
  conv=>whnf
  refine ⟨by omega,eI x,by rw [Int.toNat_natCast,List.getElem?_map,hci];rfl,rfl,?_⟩
  conv=>whnf
  refine ⟨by omega,eI y,by rw [Int.toNat_natCast,List.getElem?_map,hcj];rfl,rfl,?_⟩
  conv=>whnf
  refine Fork.mk (fun h=>?_) (fun h=>?_)
  · conv=>whnf
    refine Fork.mk (fun h=>?_) (fun h=>?_)
    · conv=>whnf
      refine ⟨by omega,eI x,by rw [Int.toNat_natCast,List.getElem?_map,hci];rfl,rfl,?_⟩
      conv=>whnf
      refine ⟨by omega,eI y,by rw [Int.toNat_natCast,List.getElem?_map,hcj];rfl,rfl,?_⟩
      conv=>whnf
      exact hk _
    · conv=>whnf
      repeat' ((first | refine fork_t ?_ | refine fork_f ?_ | (refine Fork.mk (fun h=>?_) (fun h=>?_);focus (simp at h;done)) | fail) <;> (conv=>whnf))
      exact hk _
  conv=>whnf
  rw [hw1]
  exact ⟨i+1,hi2,Shift.reset ⟨rfl,rfl,rfl,rfl,trivial⟩ trivial rfl rfl,by omega⟩
theorem bet_ok:FunR Tryz.prog 141 R_bet:=by
  intro args k h
  obtain ⟨x1,x2,y1,y2,a,b,rfl,ha,hb,hk⟩:=h
  refine does_ex (qc:=qc1) (np:=[]) (CK:=ckK [(149,cSc R_bef)]) mixed Tryz.func141 rfl rfl Tryz.ntmps141 Tryz.results141 τ_ok (by kernel_rfl) (ckK_ok ⟨cSc_ok bef_ok,trivial⟩) (by simp) ?_
  conv=>whnf
  (repeat (refine ⟨by omega,?_⟩;(conv=>whnf)))
  refine Fork.mk (fun h=>?_) (fun h=>?_)
  · conv=>whnf
    (repeat (refine ⟨by omega,?_⟩;(conv=>whnf)))
    exact hk _
  conv=>whnf
  (repeat (refine ⟨by omega,?_⟩;(conv=>whnf)))
  refine Fork.mk (fun h=>?_) (fun h=>?_)
  · conv=>whnf
    (repeat (refine ⟨by omega,?_⟩;(conv=>whnf)))
    exact hk _
  conv=>whnf
  refine ⟨a,b,rfl,ha,hb,fun c=>?_⟩
  conv=>whnf
  exact hk _
theorem val19_ok:FunR Tryz.prog 124 R_val19:=by
  intro args k h
  obtain ⟨us,ss,qs,rfl,hu6,hmay,hfu,hk⟩:=h
  have hmu:=eU_len us
  have hmz:=eQ_len ss
  have hmq:=eL_len qs
  obtain ⟨n1,n2⟩:=mayL_len hmay
  refine does_ex (qc:=qc1) (np:=[(7,[(0,14),(3,14),(4,14),(7,14),(8,14),(9,14)])]) (CK:=ckK [(125,cSc R_nextS),(142,cSc (R_unQ2 powS))]) mixed Tryz.func124 rfl rfl Tryz.ntmps124 Tryz.results124 τ_ok (by kernel_rfl) (ckK_ok ⟨cSc_ok rnext_ok,cSc_ok rpower_ok,trivial⟩) (by simp) ?_
  conv=>whnf
  refine Fork.mk (fun h=>?_) (fun h=>?_)
  · exfalso;simp at h;omega
  clear h
  conv=>whnf
  refine Fork.mk (fun h=>?_) (fun h=>?_)
  · exfalso;simp at h;omega
  clear h
  conv=>whnf
  refine ⟨Nat × Int × Int,fun y=>([(1,.c (.lst (eQ ss))),(2,.c (.lst (eL qs))),(10,I (qs.take y.1).sum),(11,I y.2.1),(12,I y.2.2),(32,.c (.lst (eU us))),(33,I (eU us).length),(34,I y.1)],⟨[],9,[]⟩),
    fun y=>y.1≤us.length,fun y=>us.length - y.1,(0,0,0),Nat.zero_le _,Shift.reset ⟨rfl,rfl,rfl,rfl,rfl,rfl,rfl,rfl,trivial⟩ trivial rfl rfl,fun y hi=>?_⟩
  obtain ⟨i,p,c⟩:=y
  dsimp only at hi ⊢
  have hqb:∀ q ∈ qs,0≤q∧q≤1073741824:=fun q hq=>by
    obtain ⟨j,hj⟩:=List.getElem?_of_mem hq
    have hjl:=(List.getElem?_eq_some_iff.1 hj).1
    exact mayV_q (mayL_at hmay (List.getElem?_eq_getElem (show j < us.length by omega)) (List.getElem?_eq_getElem (show j < ss.length by omega)) hj)
  have hsb:0≤(qs.take i).sum∧(qs.take i).sum≤1073741824 * i:=by
    have key:∀ l:Ls,(∀ q ∈ l,0≤q∧q≤1073741824)→0≤l.sum∧l.sum≤1073741824 * l.length:=by
      intro l
      induction l with
      | nil=>intro _;simp
      | cons x l ih =>
        intro h
        have a:=h x (by simp)
        have b:=ih fun q hq=>h q (by simp [hq])
        rw [List.sum_cons,List.length_cons]
        omega
    have:=key (qs.take i) fun q hq=>hqb q (List.mem_of_mem_take hq)
    rw [List.length_take] at this
    omega
  conv=>whnf
  refine Fork.mk (fun h=>?_) (fun h=>?_)
  rotate_left
  · have hie:i=qs.length:=by simp at h;omega
    rw [hie,List.take_length]
    conv=>whnf
    exact hk p c
  have hi2:i < us.length:=by simp at h;omega
  clear h
  have hci:=List.getElem?_eq_getElem hi2
  have hcs:=List.getElem?_eq_getElem (show i < ss.length by omega)
  have hcq:=List.getElem?_eq_getElem (show i < qs.length by omega)
  have htk:qs.take (i+1)=qs.take i ++ [qs[i]]:=(List.take_append_getElem (show i < qs.length by omega)).symm
  have hf1:=hfu _ (List.getElem_mem hi2)
  have hqx:=hqb _ (List.getElem_mem (show i < qs.length by omega))
  generalize us[i]=u at hci hf1
  generalize ss[i]=z at hcs
  generalize qs[i]=q at hcq htk hqx
  have hm:=mayL_at hmay hci hcs hcq
  obtain ⟨hv,hmb⟩:=mayV_in hm
  have hck:ckU u=0:=by simp [validB] at hv;exact hv.1
  have hE:(nextS u z q).2.2=0:=by
    have hfb:fitB u z=true:=by simp [validB] at hv;exact hv.2
    unfold nextS
    rw [if_neg (by simp [hck]),if_neg (by simp [hfb]),if_neg (by simp [hmb])]
  have e1:IntKind.i64.wrap ((qs.take i).sum+q)=(qs.take (i+1)).sum:=by rw [wrap_in (by omega) (by omega),htk,List.sum_append];simp
  have hw1:=wr_succ (i:=i) (by omega)
  conv=>whnf
  refine ⟨by omega,unC u,by rw [Int.toNat_natCast,List.getElem?_map,hci];rfl,rfl,?_⟩
  conv=>whnf
  refine ⟨by omega,usC z,by rw [Int.toNat_natCast,List.getElem?_map,hcs];rfl,rfl,?_⟩
  conv=>whnf
  refine ⟨by omega,eI q,by rw [Int.toNat_natCast,List.getElem?_map,hcq];rfl,rfl,?_⟩
  conv=>whnf
  refine ⟨u,z,q,rfl,hf1,?_⟩
  conv=>whnf
  rw [hE]
  conv=>whnf
  repeat' ((first | refine fork_t ?_ | refine fork_f ?_ | (refine Fork.mk (fun h=>?_) (fun h=>?_);focus (simp at h;done)) | fail) <;> (conv=>whnf))
  refine ⟨by omega,eI q,by rw [Int.toNat_natCast,List.getElem?_map,hcq];rfl,rfl,?_⟩
  conv=>whnf
  refine ⟨u,q,rfl,hf1,?_⟩
  conv=>whnf
  refine ⟨by omega,eI q,by rw [Int.toNat_natCast,List.getElem?_map,hcq];rfl,rfl,?_⟩
  conv=>whnf
  rw [e1]
  refine Fork.mk (fun h=>?_) (fun h=>?_)
  · conv=>whnf
    rw [hw1]
    exact ⟨(i+1,_,_),hi2,Shift.reset ⟨rfl,rfl,rfl,rfl,rfl,rfl,rfl,rfl,trivial⟩ trivial rfl rfl,by dsimp only;omega⟩
  · conv=>whnf
    rw [hw1]
    exact ⟨(i+1,_,_),hi2,Shift.reset ⟨rfl,rfl,rfl,rfl,rfl,rfl,rfl,rfl,trivial⟩ trivial rfl rfl,by dsimp only;omega⟩
end Go.Proofs

namespace Go.Proofs
open Go Go.Abs
set_option linter.unusedSimpArgs false
set_option linter.unusedVariables false
abbrev nI (A:List Nat):Ls:=A.map Int.ofNat
def prodL:List Ls→Nat
  | []=>1
  | l :: r=>l.length * prodL r
def rk:List Ls→List Nat→Nat
  | l :: r,a :: az=>(l.length - 1 - a) * prodL r+rk r az
  | _,_=>0
def bumpA:Nat→List Nat→List Nat
  | 0,a :: az=>(a+1) :: List.replicate az.length 0
  | j+1,a :: az=>a :: bumpA j az
  | _,[]=>[]
theorem prodL_pos:∀ {L:List Ls},(∀ l ∈ L,1≤l.length)→1≤prodL L
  | [],_=>Nat.le_refl _
  | l :: r,h=>Nat.mul_le_mul (h l (by simp)) (prodL_pos fun x hx=>h x (by simp [hx]))
theorem rk_zero:∀ {L:List Ls} {n:Nat},(∀ l ∈ L,1≤l.length)→rk L (List.replicate n 0)+1≤prodL L
  | [],n,_=>by simp [rk,prodL]
  | l :: r,0,h=>by simpa [rk] using prodL_pos h
  | l :: r,n+1,h=>by
    have h1:=h l (by simp)
    have ih:=rk_zero (L:=r) (n:=n) fun x hx=>h x (by simp [hx])
    rw [List.replicate_succ,rk,prodL]
    obtain ⟨m,hm⟩:∃ m,l.length=m+1:=⟨l.length - 1,by omega⟩
    rw [hm,Nat.add_mul]
    simp
    omega
theorem rk_max:∀ {L:List Ls} {A:List Nat},(∀ (m:Nat) l a,L[m]?=some l→A[m]?=some a→a=l.length - 1)→rk L A=0
  | [],_,_=>by simp [rk]
  | _ :: _,[],_=>by simp [rk]
  | l :: r,a :: az,h=>by
    have h0:=h 0 l a rfl rfl
    rw [rk,rk_max fun m x y hx hy=>h (m+1) x y (by simpa using hx) (by simpa using hy),h0]
    simp
theorem rk_step:∀ {j:Nat} {L:List Ls} {A:List Nat} {l:Ls} {a:Nat},(∀ l ∈ L,1≤l.length)→L[j]?=some l→A[j]?=some a→a+1 < l.length→(∀ (m:Nat) l a,j < m→L[m]?=some l→A[m]?=some a→a=l.length - 1)→rk L (bumpA j A) < rk L A
  | 0,l :: r,a :: az,l',a',h,h1,h2,h3,h4=>by
    simp at h1 h2
    subst h1 h2
    have hz:=rk_zero (L:=r) (n:=az.length) fun x hx=>h x (by simp [hx])
    have hm:=rk_max (L:=r) (A:=az) fun m x y hx hy=>h4 (m+1) x y (by omega) (by simpa using hx) (by simpa using hy)
    rw [bumpA,rk,rk,hm]
    obtain ⟨m,hm⟩:∃ m,l.length - 1 - a=m+1:=⟨l.length - 1 - a - 1,by omega⟩
    rw [hm,show l.length - 1 - (a+1)=m by omega,Nat.add_mul]
    omega
  | j+1,l :: r,a :: az,l',a',h,h1,h2,h3,h4=>by
    have ih:=rk_step (j:=j) (L:=r) (A:=az) (fun x hx=>h x (by simp [hx])) (by simpa using h1) (by simpa using h2) h3 fun m x y hm hx hy=>h4 (m+1) x y (by omega) (by simpa using hx) (by simpa using hy)
    rw [bumpA,rk,rk]
    omega
  | _,[],_,_,_,_,h1,_,_,_=>by simp at h1
  | _,_ :: _,[],_,_,_,_,h2,_,_=>by simp at h2
theorem bumpA_len:∀ {j:Nat} {A:List Nat},(bumpA j A).length=A.length
  | 0,a :: az=>by simp [bumpA]
  | j+1,a :: az=>by simp [bumpA,bumpA_len (j:=j)]
  | 0,[]=>rfl
  | _+1,[]=>rfl
theorem bumpA_set:∀ {j:Nat} {A:List Nat} {a:Nat},A[j]?=some a→(A.take (j+1) ++ List.replicate (A.length - (j+1)) 0).set j (a+1)=bumpA j A
  | 0,a :: az,b,h=>by simp at h;subst h;simp [bumpA]
  | j+1,a :: az,b,h=>by
    have:=bumpA_set (j:=j) (A:=az) (a:=b) (by simpa using h)
    rw [bumpA,← this]
    simp
  | _,[],_,h=>by simp at h
theorem set_zero:∀ {j:Nat} {A:List Nat},j < A.length→(A.take (j+1) ++ List.replicate (A.length - (j+1)) 0).set j 0=A.take j ++ List.replicate (A.length - j) 0
  | 0,a :: az,_=>by simp [List.replicate_succ]
  | j+1,a :: az,h=>by
    have:=set_zero (j:=j) (A:=az) (by simpa using h)
    simp only [List.take_succ_cons,List.length_cons,List.cons_append,List.set_cons_succ,Nat.add_sub_add_right]
    rw [this]
  | _,[],h=>by simp at h
theorem nI_set (l:List Nat) (i v:Nat):(nI l).set i (v:Int)=nI (l.set i v):=(List.map_set ..).symm
theorem bumpA_at:∀ {j:Nat} {A:List Nat} {m b:Nat},(bumpA j A)[m]?=some b→b=0 ∨ (m < j∧A[m]?=some b) ∨ (m=j∧∃ a,A[j]?=some a∧b=a+1)
  | 0,a :: az,0,b,h=>by simp [bumpA] at h;subst h;exact .inr (.inr ⟨rfl,a,rfl,rfl⟩)
  | 0,a :: az,m+1,b,h=>by
    simp only [bumpA,List.getElem?_cons_succ] at h
    obtain ⟨h1,h2⟩:=List.getElem?_eq_some_iff.1 h
    rw [List.getElem_replicate] at h2
    exact .inl h2.symm
  | j+1,a :: az,0,b,h=>by simp [bumpA] at h;subst h;exact .inr (.inl ⟨by omega,rfl⟩)
  | j+1,a :: az,m+1,b,h=>by
    simp only [bumpA,List.getElem?_cons_succ] at h
    rcases bumpA_at h with h | ⟨h1,h2⟩ | ⟨h1,c,h2,h3⟩
    · exact .inl h
    · exact .inr (.inl ⟨by omega,by simpa using h2⟩)
    · exact .inr (.inr ⟨by omega,c,by simpa using h2,h3⟩)
  | 0,[],_,_,h=>by simp [bumpA] at h
  | _+1,[],_,_,h=>by simp [bumpA] at h
def pkL:List Ls→List Nat→Ls
  | l :: r,a :: az=>l.getD a 0 :: pkL r az
  | _,_=>[]
theorem pkL_len:∀ {L:List Ls} {A:List Nat},A.length=L.length→(pkL L A).length=L.length
  | [],[],_=>rfl
  | l :: r,a :: az,h=>by simp [pkL,pkL_len (L:=r) (A:=az) (by simpa using h)]
  | [],_ :: _,h=>by simp at h
  | _ :: _,[],h=>by simp at h
theorem pkL_at:∀ {L:List Ls} {A:List Nat} {i:Nat} {l:Ls} {a:Nat},L[i]?=some l→A[i]?=some a→(pkL L A)[i]?=some (l.getD a 0)
  | l :: r,a :: az,0,l',a',h1,h2=>by simp at h1 h2;subst h1 h2;rfl
  | l :: r,a :: az,i+1,l',a',h1,h2=>by
    rw [pkL,List.getElem?_cons_succ]
    exact pkL_at (by simpa using h1) (by simpa using h2)
  | [],_,_,_,_,h1,_=>by simp at h1
  | _ :: _,[],_,_,_,_,h2=>by simp at h2
theorem allG_at:∀ {us:List Un} {ss:List Us} {g:Int} {L:List Ls},allG us ss g=some L→us.length=ss.length→∀ {i:Nat} {u:Un} {z:Us} {l:Ls},us[i]?=some u→ss[i]?=some z→L[i]?=some l→l=optL u z g
  | u :: us,z :: ss,g,L,h,hn,i,u',z',l',h1,h2,h3=>by
    rw [allG] at h
    split at h
    · cases h
    split at h
    · cases h
    rename_i L' hL
    simp at h
    subst h
    cases i with
    | zero=>simp at h1 h2 h3;subst h1 h2 h3;rfl
    | succ i=>exact allG_at hL (by simpa using hn) (by simpa using h1) (by simpa using h2) (by simpa using h3)
  | [],_,_,_,_,_,_,_,_,_,h1,_,_=>by simp at h1
  | _ :: _,[],_,_,_,hn,_,_,_,_,_,_,_=>by simp at hn
theorem usB_at:∀ {us:List Un} {ss:List Us},usB us ss=true→∀ {i:Nat} {u:Un} {z:Us},us[i]?=some u→ss[i]?=some z→validB u z=true
  | u :: us,z :: ss,h,0,u',z',h1,h2=>by
    simp only [usB,Bool.and_eq_true] at h
    simp at h1 h2;subst h1 h2;exact h.1
  | u :: us,z :: ss,h,i+1,u',z',h1,h2=>by
    simp only [usB,Bool.and_eq_true] at h
    exact usB_at h.2 (by simpa using h1) (by simpa using h2)
  | [],_,_,_,_,_,h1,_=>by simp at h1
  | _ :: _,[],_,_,_,_,_,h2=>by simp at h2
structure okA (L:List Ls) (A:List Nat):Prop where
  n:A.length=L.length
  a:∀ (i:Nat) l a,L[i]?=some l→A[i]?=some a→a < l.length
theorem okA.zero {L:List Ls} (h:∀ l ∈ L,1≤l.length):okA L (List.replicate L.length 0):=⟨by simp,fun i l a h1 h2=>by
  obtain ⟨h3,h4⟩:=List.getElem?_eq_some_iff.1 h2
  rw [List.getElem_replicate] at h4
  subst h4
  exact h l (List.mem_of_getElem? h1)⟩
theorem okA.bump {L:List Ls} {A:List Nat} {j:Nat} {l:Ls} {a:Nat} (h:okA L A) (hp:∀ l ∈ L,1≤l.length) (h1:L[j]?=some l) (h2:A[j]?=some a) (h3:a+1 < l.length):okA L (bumpA j A):=⟨by rw [bumpA_len,h.n],fun i x b hx hb=>by
  rcases bumpA_at hb with rfl | ⟨_,hb⟩ | ⟨rfl,c,hc,rfl⟩
  · exact hp x (List.mem_of_getElem? hx)
  · exact h.a i x b hx hb
  · rw [h1] at hx;rw [h2] at hc;cases hx;cases hc;exact h3⟩
theorem okA.may {us:List Un} {ss:List Us} {g:Int} {L:List Ls} {A:List Nat} (h:okA L A) (hL:allG us ss g=some L) (hn:us.length=ss.length) (hl:L.length=us.length):mayL us ss (pkL L A)=true:=by
  have hp:=pkL_len h.n
  refine mayL_of (by omega) (by omega) fun i u z q hu hz hq=>?_
  have hi:=(List.getElem?_eq_some_iff.1 hu).1
  have c1:=List.getElem?_eq_getElem (show i < L.length by omega)
  have c2:=List.getElem?_eq_getElem (show i < A.length by have:=h.n;omega)
  have e:=pkL_at c1 c2
  rw [hq] at e
  have ho:=allG_at hL hn hu hz c1
  have hlt:=h.a i _ _ c1 c2
  have:q ∈ L[i]'(by omega):=by
    rw [Option.some.inj e,List.getD_eq_getElem?_getD,List.getElem?_eq_getElem hlt]
    exact List.getElem_mem _
  rw [ho] at this
  exact (List.mem_filter.1 this).2
def R_best19:RT:=fun args k=>∃ (us:List Un) (ss:List Us) (g r:Int),args=[.c (.lst (eU us)),.c (.lst (eQ ss)),I g,I r]∧us.length≤9223372036854775807∧ss.length≤9223372036854775807∧(∀ u ∈ us,u.fin) ∧
  ∀ (p:Ls) (e:Int),(e=0→mayL us ss p=true∧p.sum≤r∧w19 us ss g=0)→p.length≤6→k (.tup [.c (.lst (eL p)),I e])
end Go.Proofs
