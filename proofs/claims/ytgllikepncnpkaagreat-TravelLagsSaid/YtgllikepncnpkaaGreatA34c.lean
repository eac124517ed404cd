/- Proved here: what functions of the given program come to, for the statements of this chapter; no condition but those in the theorems. -/
import Derived.Test.YtgllikepncnpkaaGreatPDisp2
namespace Go.Proofs
open Go Go.Abs
set_option linter.unusedSimpArgs false
set_option linter.unusedVariables false
set_option maxRecDepth 20000
set_option maxHeartbeats 4000000 in
theorem best19_ok:FunR Tryz.prog 123 R_best19:=by
  intro args k h
  obtain ⟨us,ss,g,rel,rfl,hu,hs,hfu,hk⟩:=h
  refine does_ex (qc:=qc1) (np:=[]) (CK:=ckK [(139,cSc R_w19),(49,cSc R_within),(140,cPu R_all),(124,cSc R_val19),(141,cSc R_bet)]) mixed Tryz.func123 rfl rfl Tryz.ntmps123 Tryz.results123 τ_ok (by kernel_rfl) (ckK_ok ⟨cSc_ok w19_ok,cSc_ok rIn_ok,cPu_ok all_ok rfl,cSc_ok val19_ok,cSc_ok bet_ok,trivial⟩) (by simp) ?_
  conv=>whnf
  refine ⟨us,ss,g,rfl,hu,hs,hfu,?_⟩
  conv=>whnf
  refine Fork.mk (fun h=>?_) (fun h=>?_)
  · have h1:w19 us ss g ≠ 0:=by simpa using h
    conv=>whnf
    exact hk [] _ (fun e=>absurd e h1) (by simp)
  have h1:w19 us ss g=0:=by simpa using h
  clear h
  obtain ⟨hn6,hn,hub,hg⟩:us.length≤6∧us.length=ss.length∧usB us ss=true∧(1≤g∧g≤1073741824):=by
    have h2:=h1
    unfold w19 at h2
    split at h2
    · omega
    split at h2
    · omega
    split at h2
    · omega
    split at h2
    · omega
    rename_i a1 a2 a3 a4
    exact ⟨by omega,by omega,by simpa using a3,by omega⟩
  conv=>whnf
  refine Fork.mk (fun h=>?_) (fun h=>?_)
  · conv=>whnf
    exact hk [] 1 (fun e=>by cases e) (by simp)
  clear h
  have e2:IntKind.i64.wrap (200 * g)=200 * g:=wrap_in (by omega) (by omega)
  conv=>whnf
  refine Fork.mk (fun h=>?_) (fun h=>?_)
  · conv=>whnf
    exact hk [] 10 (fun e=>by cases e) (by simp)
  clear h e2
  conv=>whnf
  refine ⟨us,ss,g,rfl,hn6,hn,hfu,?_⟩
  cases hL:allG us ss g with
  | none =>
    rw [show allF us ss g=([],10) by unfold allF;rw [hL]]
    conv=>whnf
    repeat' ((first | refine fork_t ?_ | refine fork_f ?_ | (refine Fork.mk (fun h=>?_) (fun h=>?_);focus (simp at h;done)) | fail) <;> (conv=>whnf))
    exact hk [] 10 (fun e=>by cases e) (by simp)
  | some L =>
  rw [show allF us ss g=(L,0) by unfold allF;rw [hL]]
  have hLn:=allG_len hL hn
  have hpos:∀ l ∈ L,1≤l.length:=fun l hl=>by
    obtain ⟨i,hi⟩:=List.getElem?_of_mem hl
    have hil:=(List.getElem?_eq_some_iff.1 hi).1
    have c1:=List.getElem?_eq_getElem (show i < us.length by omega)
    have c2:=List.getElem?_eq_getElem (show i < ss.length by omega)
    rw [allG_at hL hn c1 c2 hi]
    exact optL_pos (usB_at hub c1 c2)
  have hL200:∀ l ∈ L,l.length≤202:=fun l hl=>by
    obtain ⟨i,hi⟩:=List.getElem?_of_mem hl
    have hil:=(List.getElem?_eq_some_iff.1 hi).1
    rw [allG_at hL hn (List.getElem?_eq_getElem (show i < us.length by omega)) (List.getElem?_eq_getElem (show i < ss.length by omega)) hi]
    exact optL_len
  have hmL:=eLw_len L
  conv=>whnf
  repeat' ((first | refine fork_t ?_ | refine fork_f ?_ | (refine Fork.mk (fun h=>?_) (fun h=>?_);focus (simp at h;done)) | fail) <;> (conv=>whnf))
  refine ⟨⟨rfl,by rw [hmL];omega,by rw [hmL];show _ * (8:Int)≤_;omega⟩,?_⟩
  conv=>whnf
  rw [show Int.toNat ((eLw L).length:Int)=L.length by rw [hmL];exact Int.toNat_natCast _]
  refine ⟨List Nat × Bool × Ls × Int × Int,fun y=>([(0,.c (.lst (eU us))),(1,.c (.lst (eQ ss))),(3,I rel),(11,.c (.lst (eLw L))),(13,Bo y.2.1),(14,.c (.lst (eL y.2.2.1))),(15,.c (.ptr (.l 15 0) 0)),(16,.c (.view (.l 53 1) 0 L.length))],⟨[(.l 15 0,.blk [IC y.2.2.2.1,IC y.2.2.2.2]),(.l 53 1,.arr 3 1 (eL (nI y.1)) false)],20,[]⟩),
    fun y=>okA L y.1∧(y.2.1=true→mayL us ss y.2.2.1=true∧y.2.2.1.sum≤rel)∧y.2.2.1.length≤6,fun y=>rk L y.1,(List.replicate L.length 0,false,[],0,0),⟨okA.zero hpos,(fun e=>by cases e),Nat.zero_le _⟩,?_,fun y hy=>?_⟩
  · have ez:eL (nI (List.replicate L.length 0))=List.replicate L.length [IC 0]:=by simp [eL,nI,eI]
    dsimp only
    rw [ez]
    exact Shift.trans (Shift.rename [] ⟨rfl,rfl,rfl,rfl,rfl,rfl,rfl,rfl,trivial⟩ ⟨rfl,rfl,trivial⟩ rfl rfl rfl) (Shift.nilLst (t:=14) rfl)
  obtain ⟨A,fnd,best,aa,bb⟩:=y
  obtain ⟨hA,hfnd,hbl⟩:=hy
  dsimp only at hA hfnd hbl ⊢
  have hAn:=hA.n
  have hpk:=pkL_len hAn
  have hmay:=hA.may hL hn hLn
  have hmA:=eL_len (nI A)
  rw [List.length_map] at hmA
  have hqb:∀ q ∈ pkL L A,0≤q∧q≤1073741824:=fun q hq=>by
    obtain ⟨j,hj⟩:=List.getElem?_of_mem hq
    have hjl:=(List.getElem?_eq_some_iff.1 hj).1
    exact mayV_q (mayL_at hmay (List.getElem?_eq_getElem (show j < us.length by omega)) (List.getElem?_eq_getElem (show j < ss.length by omega)) hj)
  have hsb:∀ i,i≤6→0≤((pkL L A).take i).sum∧((pkL L A).take i).sum≤1073741824 * i:=fun i hi=>by
    have key:∀ l:Ls,(∀ q ∈ l,0≤q∧q≤1073741824)→0≤l.sum∧l.sum≤1073741824 * l.length:=by
      intro l
      induction l with
      | nil=>intro _;simp
      | cons x l ih =>
        intro h
        have a:=h x (by simp)
        have b:=ih fun q hq=>h q (by simp [hq])
        rw [List.sum_cons,List.length_cons]
        omega
    have:=key ((pkL L A).take i) fun q hq=>hqb q (List.mem_of_mem_take hq)
    rw [List.length_take] at this
    omega
  conv=>whnf
  refine ⟨⟨rfl,by rw [hmL];omega,by rw [hmL];show _ * (8:Int)≤_;omega⟩,?_⟩
  conv=>whnf
  rw [show Int.toNat ((eLw L).length:Int)=L.length by rw [hmL];exact Int.toNat_natCast _]
  refine ⟨Nat,fun i=>([(0,.c (.lst (eU us))),(1,.c (.lst (eQ ss))),(3,I rel),(11,.c (.lst (eLw L))),(13,Bo fnd),(14,.c (.lst (eL best))),(15,.c (.ptr (.l 15 0) 0)),(16,.c (.view (.l 53 1) 0 L.length)),(17,.c (.view (.l 56 20) 0 L.length)),(18,I ((pkL L A).take i).sum),(57,.c (.view (.l 53 1) 0 L.length)),(58,I L.length),(59,I i)],⟨[(.l 15 0,.blk [IC aa,IC bb]),(.l 53 1,.arr 3 1 (eL (nI A)) false),(.l 56 20,.arr 3 1 (eL ((pkL L A).take i ++ List.replicate (L.length - i) 0)) false)],40,[]⟩),
    fun i=>i≤L.length,fun i=>L.length - i,0,Nat.zero_le _,?_,fun i hi=>?_⟩
  · have ez:eL ((pkL L A).take 0 ++ List.replicate (L.length - 0) 0)=List.replicate L.length [IC 0]:=by simp [eL,eI]
    dsimp only
    rw [ez]
    exact Shift.rename [] ⟨rfl,rfl,rfl,rfl,rfl,rfl,rfl,rfl,rfl,rfl,rfl,rfl,rfl,trivial⟩ ⟨rfl,rfl,rfl,trivial⟩ rfl rfl rfl
  dsimp only
  have hPl:((pkL L A).take i ++ List.replicate (L.length - i) (0:Int)).length=L.length:=by simp;omega
  have hmP:=eL_len ((pkL L A).take i ++ List.replicate (L.length - i) (0:Int))
  rw [hPl] at hmP
  conv=>whnf
  refine Fork.mk (fun h=>?_) (fun h=>?_)
  · have hi2:i < L.length:=by simp at h;omega
    clear h
    have hiL:=List.getElem?_eq_getElem hi2
    have hiA:=List.getElem?_eq_getElem (show i < A.length by omega)
    have hla:=hA.a i _ _ hiL hiA
    have hll:=hL200 _ (List.getElem_mem hi2)
    have hq:=pkL_at hiL hiA
    generalize L[i]=row at hiL hla hq hll
    generalize A[i]=a0 at hiA hla hq
    rw [List.getD_eq_getElem?_getD,List.getElem?_eq_getElem hla,Option.getD_some] at hq
    have hrq:=List.getElem?_eq_getElem hla
    generalize row[a0]=q at hq hrq
    have hqr:=hqb q (List.mem_of_getElem? hq)
    have htk:(pkL L A).take (i+1)=(pkL L A).take i ++ [q]:=by rw [List.take_add_one,hq];rfl
    have hset:((pkL L A).take i ++ List.replicate (L.length - i) (0:Int)).set i q=(pkL L A).take (i+1) ++ List.replicate (L.length - (i+1)) 0:=by
      rw [List.set_append_right _ _ (by rw [List.length_take];omega),List.length_take,Nat.min_eq_left (by omega),Nat.sub_self,htk,show L.length - i=(L.length - (i+1))+1 by omega,List.replicate_succ,List.set_cons_zero,List.append_assoc]
      rfl
    have hs1:=hsb i (by omega)
    have e1:IntKind.i64.wrap (((pkL L A).take i).sum+q)=((pkL L A).take (i+1)).sum:=by rw [wrap_in (by omega) (by omega),htk,List.sum_append];simp
    have hmr:=eL_len row
    have hw1:=wr_succ (i:=i) (by omega)
    conv=>whnf
    refine ⟨by omega,rfl,?_⟩
    conv=>whnf
    refine ⟨eI (a0:Int),by rw [Int.toNat_natCast,Nat.zero_add,List.getElem?_map,List.getElem?_map,hiA];rfl,?_⟩
    conv=>whnf
    refine ⟨by omega,lwC row,by rw [Int.toNat_natCast,List.getElem?_map,hiL];rfl,rfl,?_⟩
    conv=>whnf
    refine ⟨by omega,eI q,by rw [Int.toNat_natCast,List.getElem?_map,hrq];rfl,rfl,?_⟩
    conv=>whnf
    refine ⟨by omega,rfl,?_⟩
    conv=>whnf
    refine ⟨eI 0,by rw [Nat.zero_add,Int.toNat_natCast,List.getElem?_map,List.getElem?_append_right (by rw [List.length_take];omega),List.length_take,Nat.min_eq_left (by omega),Nat.sub_self,List.getElem?_replicate,if_pos (by omega)];rfl,Nat.le_refl _,?_⟩
    conv=>whnf
    refine ⟨by omega,rfl,?_⟩
    conv=>whnf
    have hset2:(eL ((pkL L A).take i ++ List.replicate (L.length - i) (0:Int))).set (0+((i:Int)).toNat) (eI q)=eL ((pkL L A).take (i+1) ++ List.replicate (L.length - (i+1)) 0):=by rw [← hset,eL_set,Nat.zero_add,Int.toNat_natCast]
    refine ⟨eI q,(congrArg (fun l=>l[0+((i:Int)).toNat]?) hset2).trans (by
      rw [Nat.zero_add,Int.toNat_natCast,List.getElem?_map,List.getElem?_append_left (by rw [List.length_take];omega),List.getElem?_take_of_lt (by omega),hq];rfl),?_⟩
    conv=>whnf
    rw [e1,hw1]
    refine ⟨i+1,hi2,Shift.rename [] ⟨rfl,rfl,rfl,rfl,rfl,rfl,rfl,rfl,rfl,rfl,rfl,rfl,rfl,trivial⟩ ⟨rfl,rfl,?_,trivial⟩ rfl rfl rfl,by omega⟩
    rw [← hset2]
    rfl
  have hie:i=L.length:=by simp at h;omega
  clear h
  subst hie
  rw [Nat.sub_self,List.replicate_zero,List.append_nil,List.take_of_length_le (by omega)]
  have hsum:=hsb 6 (Nat.le_refl _)
  rw [List.take_of_length_le (by omega)] at hsum
  have hm1:=eL_len (pkL L A)
  have hm1b:L.length=(eL (pkL L A)).length:=by omega
  have e26:IntKind.i64.wrap ((L.length:Int) - 1)=(L.length:Int) - 1:=wrap_in (by omega) (by omega)
  conv=>whnf
  refine Fork.mk (fun h=>?_) (fun h=>?_)
  rotate_left
  · conv=>whnf
    rw [e26]
    refine ⟨Nat,fun i=>([(0,.c (.lst (eU us))),(1,.c (.lst (eQ ss))),(3,I rel),(11,.c (.lst (eLw L))),(13,Bo fnd),(14,.c (.lst (eL best))),(15,.c (.ptr (.l 15 0) 0)),(16,.c (.view (.l 53 1) 0 L.length)),(26,I ((i:Int) - 1))],⟨[(.l 15 0,.blk [IC aa,IC bb]),(.l 53 1,.arr 3 1 (eL (nI (A.take i ++ List.replicate (L.length - i) 0))) false)],60,[]⟩),
      fun i=>i≤L.length∧(∀ (m:Nat) l a,i≤m→L[m]?=some l→A[m]?=some a→a=l.length - 1),fun i=>i,L.length,⟨Nat.le_refl _,fun m l a hm hx=>by have:=(List.getElem?_eq_some_iff.1 hx).1;omega⟩,?_,fun i hi=>?_⟩
    · dsimp only
      rw [Nat.sub_self,List.replicate_zero,List.append_nil,List.take_of_length_le (by omega)]
      exact Shift.reset ⟨rfl,rfl,rfl,rfl,rfl,rfl,rfl,rfl,rfl,trivial⟩ ⟨rfl,rfl,trivial⟩ rfl rfl
    obtain ⟨hi1,hi2⟩:=hi
    dsimp only
    have hB:(A.take i ++ List.replicate (L.length - i) 0).length=L.length:=by simp;omega
    have hmB:(eL (nI (A.take i ++ List.replicate (L.length - i) 0))).length=L.length:=by rw [eL_len,List.length_map];exact hB
    conv=>whnf
    refine Fork.mk (fun h=>?_) (fun h=>?_)
    rotate_left
    · have hi0:i=0:=by simp at h;omega
      clear h
      subst hi0
      conv=>whnf
      repeat' ((first | refine fork_t ?_ | refine fork_f ?_ | (refine Fork.mk (fun h=>?_) (fun h=>?_);focus (simp at h;done)) | fail) <;> (conv=>whnf))
      refine Fork.mk (fun h=>?_) (fun h=>?_)
      · conv=>whnf
        exact hk [] 9 (fun e=>by cases e) (by simp)
      have hf:fnd=true:=by simpa using h
      conv=>whnf
      exact hk best 0 (fun _=>⟨(hfnd hf).1,(hfnd hf).2,h1⟩) hbl
    have hi0:1≤i:=by simp at h;omega
    clear h
    obtain ⟨j,rfl⟩:∃ j,i=j+1:=⟨i - 1,by omega⟩
    have e1:(((j+1:Nat):Int) - 1)=(j:Int):=by omega
    rw [e1]
    have hjL:=List.getElem?_eq_getElem (show j < L.length by omega)
    have hjA:=List.getElem?_eq_getElem (show j < A.length by omega)
    have hla:=hA.a j _ _ hjL hjA
    have hlp:=hpos _ (List.getElem_mem (show j < L.length by omega))
    have hll:=hL200 _ (List.getElem_mem (show j < L.length by omega))
    generalize L[j]=row at hjL hla hlp hll
    generalize A[j]=a0 at hjA hla
    have hjB:(eL (nI (A.take (j+1) ++ List.replicate (L.length - (j+1)) 0)))[j]?=some (eI (a0:Int)):=by
      rw [List.getElem?_map,List.getElem?_map,List.getElem?_append_left (by rw [List.length_take];omega),List.getElem?_take_of_lt (by omega),hjA];rfl
    have hmr:=eL_len row
    have e3:IntKind.i64.wrap (((eL row).length:Int) - 1)=((row.length - 1:Nat):Int):=by rw [hmr,wrap_in (by omega) (by omega)];omega
    conv=>whnf
    refine ⟨by omega,rfl,?_⟩
    conv=>whnf
    refine ⟨eI (a0:Int),by rw [Int.toNat_natCast,Nat.zero_add];exact hjB,?_⟩
    conv=>whnf
    refine ⟨by omega,lwC row,by rw [Int.toNat_natCast,List.getElem?_map,hjL];rfl,rfl,?_⟩
    conv=>whnf
    rw [e3]
    refine Fork.mk (fun h=>?_) (fun h=>?_)
    · have ha:a0=row.length - 1:=by simp at h;omega
      clear h
      have e4:IntKind.i64.wrap ((j:Int) - 1)=(j:Int) - 1:=wrap_in (by omega) (by omega)
      conv=>whnf
      refine ⟨by omega,rfl,?_⟩
      conv=>whnf
      refine ⟨eI (a0:Int),by rw [Int.toNat_natCast,Nat.zero_add];exact hjB,Nat.le_refl _,?_⟩
      conv=>whnf
      rw [e4]
      refine ⟨j,⟨by omega,fun m l a hm hx hy=>?_⟩,Shift.rename [] ⟨rfl,rfl,rfl,rfl,rfl,rfl,rfl,rfl,rfl,trivial⟩ ⟨rfl,?_,trivial⟩ rfl rfl rfl,by omega⟩
      · rcases Nat.eq_or_lt_of_le hm with e | e
        · subst e
          rw [hjL] at hx;rw [hjA] at hy;cases hx;cases hy;exact ha
        · exact hi2 m l a e hx hy
      · have e5:=set_zero (j:=j) (A:=A) (by omega)
        rw [hAn] at e5
        have e7:(eL (nI (A.take (j+1) ++ List.replicate (L.length - (j+1)) 0))).set (0+((j:Int)).toNat) (eI ((0:Nat):Int))=eL (nI (A.take j ++ List.replicate (L.length - j) 0)):=by rw [Nat.zero_add,Int.toNat_natCast,eL_set,nI_set,e5]
        rw [← e7]
        rfl
    have ha:a0+1 < row.length:=by simp at h;omega
    clear h
    conv=>whnf
    repeat' ((first | refine fork_t ?_ | refine fork_f ?_ | (refine Fork.mk (fun h=>?_) (fun h=>?_);focus (simp at h;done)) | fail) <;> (conv=>whnf))
    have e6:IntKind.i64.wrap ((a0:Int)+1)=((a0+1:Nat):Int):=wr_succ (by omega)
    conv=>whnf
    refine ⟨by omega,rfl,?_⟩
    conv=>whnf
    refine ⟨eI (a0:Int),by rw [Int.toNat_natCast,Nat.zero_add];exact hjB,?_⟩
    conv=>whnf
    refine ⟨by omega,rfl,?_⟩
    conv=>whnf
    refine ⟨eI (a0:Int),by rw [Int.toNat_natCast,Nat.zero_add];exact hjB,Nat.le_refl _,?_⟩
    conv=>whnf
    rw [e6]
    refine ⟨(bumpA j A,fnd,best,aa,bb),⟨hA.bump hpos hjL hjA ha,hfnd,hbl⟩,Shift.rename [] ⟨rfl,rfl,rfl,rfl,rfl,rfl,rfl,rfl,trivial⟩ ⟨rfl,?_,trivial⟩ rfl rfl rfl,rk_step hpos hjL hjA ha fun m l a hm=>hi2 m l a hm⟩
    have e5:=bumpA_set hjA
    rw [hAn] at e5
    have e7:(eL (nI (A.take (j+1) ++ List.replicate (L.length - (j+1)) 0))).set (0+((j:Int)).toNat) (eI ((a0+1:Nat):Int))=eL (nI (bumpA j A)):=by rw [Nat.zero_add,Int.toNat_natCast,eL_set,nI_set,e5]
    dsimp only
    rw [← e7]
    rfl
  have hsr:(pkL L A).sum≤rel:=by simpa using h
  clear h
  have t1:List.take L.length (List.drop 0 (eL (pkL L A)))=eL (pkL L A):=by rw [List.drop_zero,List.take_of_length_le (by omega)]
  conv=>whnf
  refine ⟨by omega,?_⟩
  conv=>whnf
  rw [t1]
  refine ⟨us,ss,pkL L A,rfl,by omega,hmay,hfu,fun p c=>?_⟩
  conv=>whnf
  refine Fork.mk (fun h=>?_) (fun h=>?_)
  · clear h
    conv=>whnf
    repeat' ((first | refine fork_t ?_ | refine fork_f ?_ | (refine Fork.mk (fun h=>?_) (fun h=>?_);focus (simp at h;done)) | fail) <;> (conv=>whnf))
    rw [e26]
    refine ⟨Nat,fun i=>([(0,.c (.lst (eU us))),(1,.c (.lst (eQ ss))),(3,I rel),(11,.c (.lst (eLw L))),(13,Bo true),(14,.c (.lst (eL (pkL L A)))),(15,.c (.ptr (.l 15 0) 0)),(16,.c (.view (.l 53 1) 0 L.length)),(26,I ((i:Int) - 1))],⟨[(.l 15 0,.blk [IC p,IC c]),(.l 53 1,.arr 3 1 (eL (nI (A.take i ++ List.replicate (L.length - i) 0))) false)],60,[]⟩),
      fun i=>i≤L.length∧(∀ (m:Nat) l a,i≤m→L[m]?=some l→A[m]?=some a→a=l.length - 1),fun i=>i,L.length,⟨Nat.le_refl _,fun m l a hm hx=>by have:=(List.getElem?_eq_some_iff.1 hx).1;omega⟩,?_,fun i hi=>?_⟩
    · dsimp only
      rw [Nat.sub_self,List.replicate_zero,List.append_nil,List.take_of_length_le (by omega)]
      refine Shift.trans ?_ (Shift.purV (t:=14) (i:=.l 56 20) (e:=3) (sz:=1) (n:=L.length) (es:=eL (pkL L A)) (f:=false) rfl rfl hm1b)
      exact Shift.rename [] ⟨rfl,rfl,rfl,rfl,rfl,rfl,rfl,rfl,rfl,trivial⟩ ⟨rfl,rfl,trivial⟩ rfl rfl rfl
    obtain ⟨hi1,hi2⟩:=hi
    dsimp only
    have hB:(A.take i ++ List.replicate (L.length - i) 0).length=L.length:=by simp;omega
    have hmB:(eL (nI (A.take i ++ List.replicate (L.length - i) 0))).length=L.length:=by rw [eL_len,List.length_map];exact hB
    conv=>whnf
    refine Fork.mk (fun h=>?_) (fun h=>?_)
    rotate_left
    · have hi0:i=0:=by simp at h;omega
      clear h
      subst hi0
      conv=>whnf
      repeat' ((first | refine fork_t ?_ | refine fork_f ?_ | (refine Fork.mk (fun h=>?_) (fun h=>?_);focus (simp at h;done)) | fail) <;> (conv=>whnf))
      exact hk _ 0 (fun _=>⟨hmay,hsr,h1⟩) (by omega)
    have hi0:1≤i:=by simp at h;omega
    clear h
    obtain ⟨j,rfl⟩:∃ j,i=j+1:=⟨i - 1,by omega⟩
    have e1:(((j+1:Nat):Int) - 1)=(j:Int):=by omega
    rw [e1]
    have hjL:=List.getElem?_eq_getElem (show j < L.length by omega)
    have hjA:=List.getElem?_eq_getElem (show j < A.length by omega)
    have hla:=hA.a j _ _ hjL hjA
    have hlp:=hpos _ (List.getElem_mem (show j < L.length by omega))
    have hll:=hL200 _ (List.getElem_mem (show j < L.length by omega))
    generalize L[j]=row at hjL hla hlp hll
    generalize A[j]=a0 at hjA hla
    have hjB:(eL (nI (A.take (j+1) ++ List.replicate (L.length - (j+1)) 0)))[j]?=some (eI (a0:Int)):=by
      rw [List.getElem?_map,List.getElem?_map,List.getElem?_append_left (by rw [List.length_take];omega),List.getElem?_take_of_lt (by omega),hjA];rfl
    have hmr:=eL_len row
    have e3:IntKind.i64.wrap (((eL row).length:Int) - 1)=((row.length - 1:Nat):Int):=by rw [hmr,wrap_in (by omega) (by omega)];omega
    conv=>whnf
    refine ⟨by omega,rfl,?_⟩
    conv=>whnf
    refine ⟨eI (a0:Int),by rw [Int.toNat_natCast,Nat.zero_add];exact hjB,?_⟩
    conv=>whnf
    refine ⟨by omega,lwC row,by rw [Int.toNat_natCast,List.getElem?_map,hjL];rfl,rfl,?_⟩
    conv=>whnf
    rw [e3]
    refine Fork.mk (fun h=>?_) (fun h=>?_)
    · have ha:a0=row.length - 1:=by simp at h;omega
      clear h
      have e4:IntKind.i64.wrap ((j:Int) - 1)=(j:Int) - 1:=wrap_in (by omega) (by omega)
      conv=>whnf
      refine ⟨by omega,rfl,?_⟩
      conv=>whnf
      refine ⟨eI (a0:Int),by rw [Int.toNat_natCast,Nat.zero_add];exact hjB,Nat.le_refl _,?_⟩
      conv=>whnf
      rw [e4]
      refine ⟨j,⟨by omega,fun m l a hm hx hy=>?_⟩,Shift.rename [] ⟨rfl,rfl,rfl,rfl,rfl,rfl,rfl,rfl,rfl,trivial⟩ ⟨rfl,?_,trivial⟩ rfl rfl rfl,by omega⟩
      · rcases Nat.eq_or_lt_of_le hm with e | e
        · subst e
          rw [hjL] at hx;rw [hjA] at hy;cases hx;cases hy;exact ha
        · exact hi2 m l a e hx hy
      · have e5:=set_zero (j:=j) (A:=A) (by omega)
        rw [hAn] at e5
        have e7:(eL (nI (A.take (j+1) ++ List.replicate (L.length - (j+1)) 0))).set (0+((j:Int)).toNat) (eI ((0:Nat):Int))=eL (nI (A.take j ++ List.replicate (L.length - j) 0)):=by rw [Nat.zero_add,Int.toNat_natCast,eL_set,nI_set,e5]
        rw [← e7]
        rfl
    have ha:a0+1 < row.length:=by simp at h;omega
    clear h
    conv=>whnf
    repeat' ((first | refine fork_t ?_ | refine fork_f ?_ | (refine Fork.mk (fun h=>?_) (fun h=>?_);focus (simp at h;done)) | fail) <;> (conv=>whnf))
    have e6:IntKind.i64.wrap ((a0:Int)+1)=((a0+1:Nat):Int):=wr_succ (by omega)
    conv=>whnf
    refine ⟨by omega,rfl,?_⟩
    conv=>whnf
    refine ⟨eI (a0:Int),by rw [Int.toNat_natCast,Nat.zero_add];exact hjB,?_⟩
    conv=>whnf
    refine ⟨by omega,rfl,?_⟩
    conv=>whnf
    refine ⟨eI (a0:Int),by rw [Int.toNat_natCast,Nat.zero_add];exact hjB,Nat.le_refl _,?_⟩
    conv=>whnf
    rw [e6]
    refine ⟨(bumpA j A,true,(pkL L A),p,c),⟨hA.bump hpos hjL hjA ha,(fun _=>⟨hmay,hsr⟩),(by show (pkL L A).length≤6;omega)⟩,Shift.rename [] ⟨rfl,rfl,rfl,rfl,rfl,rfl,rfl,rfl,trivial⟩ ⟨rfl,?_,trivial⟩ rfl rfl rfl,rk_step hpos hjL hjA ha fun m l a hm=>hi2 m l a hm⟩
    have e5:=bumpA_set hjA
    rw [hAn] at e5
    have e7:(eL (nI (A.take (j+1) ++ List.replicate (L.length - (j+1)) 0))).set (0+((j:Int)).toNat) (eI ((a0+1:Nat):Int))=eL (nI (bumpA j A)):=by rw [Nat.zero_add,Int.toNat_natCast,eL_set,nI_set,e5]
    dsimp only
    rw [← e7]
    rfl
  conv=>whnf
  refine ⟨by omega,?_⟩
  conv=>whnf
  rw [t1]
  refine ⟨p,c,aa,bb,pkL L A,best,rfl,by omega,by omega,fun b=>?_⟩
  conv=>whnf
  refine Fork.mk (fun h=>?_) (fun h=>?_)
  · clear h
    conv=>whnf
    rw [e26]
    refine ⟨Nat,fun i=>([(0,.c (.lst (eU us))),(1,.c (.lst (eQ ss))),(3,I rel),(11,.c (.lst (eLw L))),(13,Bo true),(14,.c (.lst (eL (pkL L A)))),(15,.c (.ptr (.l 15 0) 0)),(16,.c (.view (.l 53 1) 0 L.length)),(26,I ((i:Int) - 1))],⟨[(.l 15 0,.blk [IC p,IC c]),(.l 53 1,.arr 3 1 (eL (nI (A.take i ++ List.replicate (L.length - i) 0))) false)],60,[]⟩),
      fun i=>i≤L.length∧(∀ (m:Nat) l a,i≤m→L[m]?=some l→A[m]?=some a→a=l.length - 1),fun i=>i,L.length,⟨Nat.le_refl _,fun m l a hm hx=>by have:=(List.getElem?_eq_some_iff.1 hx).1;omega⟩,?_,fun i hi=>?_⟩
    · dsimp only
      rw [Nat.sub_self,List.replicate_zero,List.append_nil,List.take_of_length_le (by omega)]
      refine Shift.trans ?_ (Shift.purV (t:=14) (i:=.l 56 20) (e:=3) (sz:=1) (n:=L.length) (es:=eL (pkL L A)) (f:=false) rfl rfl hm1b)
      exact Shift.rename [] ⟨rfl,rfl,rfl,rfl,rfl,rfl,rfl,rfl,rfl,trivial⟩ ⟨rfl,rfl,trivial⟩ rfl rfl rfl
    obtain ⟨hi1,hi2⟩:=hi
    dsimp only
    have hB:(A.take i ++ List.replicate (L.length - i) 0).length=L.length:=by simp;omega
    have hmB:(eL (nI (A.take i ++ List.replicate (L.length - i) 0))).length=L.length:=by rw [eL_len,List.length_map];exact hB
    conv=>whnf
    refine Fork.mk (fun h=>?_) (fun h=>?_)
    rotate_left
    · have hi0:i=0:=by simp at h;omega
      clear h
      subst hi0
      conv=>whnf
      repeat' ((first | refine fork_t ?_ | refine fork_f ?_ | (refine Fork.mk (fun h=>?_) (fun h=>?_);focus (simp at h;done)) | fail) <;> (conv=>whnf))
      exact hk _ 0 (fun _=>⟨hmay,hsr,h1⟩) (by omega)
    have hi0:1≤i:=by simp at h;omega
    clear h
    obtain ⟨j,rfl⟩:∃ j,i=j+1:=⟨i - 1,by omega⟩
    have e1:(((j+1:Nat):Int) - 1)=(j:Int):=by omega
    rw [e1]
    have hjL:=List.getElem?_eq_getElem (show j < L.length by omega)
    have hjA:=List.getElem?_eq_getElem (show j < A.length by omega)
    have hla:=hA.a j _ _ hjL hjA
    have hlp:=hpos _ (List.getElem_mem (show j < L.length by omega))
    have hll:=hL200 _ (List.getElem_mem (show j < L.length by omega))
    generalize L[j]=row at hjL hla hlp hll
    generalize A[j]=a0 at hjA hla
    have hjB:(eL (nI (A.take (j+1) ++ List.replicate (L.length - (j+1)) 0)))[j]?=some (eI (a0:Int)):=by
      rw [List.getElem?_map,List.getElem?_map,List.getElem?_append_left (by rw [List.length_take];omega),List.getElem?_take_of_lt (by omega),hjA];rfl
    have hmr:=eL_len row
    have e3:IntKind.i64.wrap (((eL row).length:Int) - 1)=((row.length - 1:Nat):Int):=by rw [hmr,wrap_in (by omega) (by omega)];omega
    conv=>whnf
    refine ⟨by omega,rfl,?_⟩
    conv=>whnf
    refine ⟨eI (a0:Int),by rw [Int.toNat_natCast,Nat.zero_add];exact hjB,?_⟩
    conv=>whnf
    refine ⟨by omega,lwC row,by rw [Int.toNat_natCast,List.getElem?_map,hjL];rfl,rfl,?_⟩
    conv=>whnf
    rw [e3]
    refine Fork.mk (fun h=>?_) (fun h=>?_)
    · have ha:a0=row.length - 1:=by simp at h;omega
      clear h
      have e4:IntKind.i64.wrap ((j:Int) - 1)=(j:Int) - 1:=wrap_in (by omega) (by omega)
      conv=>whnf
      refine ⟨by omega,rfl,?_⟩
      conv=>whnf
      refine ⟨eI (a0:Int),by rw [Int.toNat_natCast,Nat.zero_add];exact hjB,Nat.le_refl _,?_⟩
      conv=>whnf
      rw [e4]
      refine ⟨j,⟨by omega,fun m l a hm hx hy=>?_⟩,Shift.rename [] ⟨rfl,rfl,rfl,rfl,rfl,rfl,rfl,rfl,rfl,trivial⟩ ⟨rfl,?_,trivial⟩ rfl rfl rfl,by omega⟩
      · rcases Nat.eq_or_lt_of_le hm with e | e
        · subst e
          rw [hjL] at hx;rw [hjA] at hy;cases hx;cases hy;exact ha
        · exact hi2 m l a e hx hy
      · have e5:=set_zero (j:=j) (A:=A) (by omega)
        rw [hAn] at e5
        have e7:(eL (nI (A.take (j+1) ++ List.replicate (L.length - (j+1)) 0))).set (0+((j:Int)).toNat) (eI ((0:Nat):Int))=eL (nI (A.take j ++ List.replicate (L.length - j) 0)):=by rw [Nat.zero_add,Int.toNat_natCast,eL_set,nI_set,e5]
        rw [← e7]
        rfl
    have ha:a0+1 < row.length:=by simp at h;omega
    clear h
    conv=>whnf
    repeat' ((first | refine fork_t ?_ | refine fork_f ?_ | (refine Fork.mk (fun h=>?_) (fun h=>?_);focus (simp at h;done)) | fail) <;> (conv=>whnf))
    have e6:IntKind.i64.wrap ((a0:Int)+1)=((a0+1:Nat):Int):=wr_succ (by omega)
    conv=>whnf
    refine ⟨by omega,rfl,?_⟩
    conv=>whnf
    refine ⟨eI (a0:Int),by rw [Int.toNat_natCast,Nat.zero_add];exact hjB,?_⟩
    conv=>whnf
    refine ⟨by omega,rfl,?_⟩
    conv=>whnf
    refine ⟨eI (a0:Int),by rw [Int.toNat_natCast,Nat.zero_add];exact hjB,Nat.le_refl _,?_⟩
    conv=>whnf
    rw [e6]
    refine ⟨(bumpA j A,true,(pkL L A),p,c),⟨hA.bump hpos hjL hjA ha,(fun _=>⟨hmay,hsr⟩),(by show (pkL L A).length≤6;omega)⟩,Shift.rename [] ⟨rfl,rfl,rfl,rfl,rfl,rfl,rfl,rfl,trivial⟩ ⟨rfl,?_,trivial⟩ rfl rfl rfl,rk_step hpos hjL hjA ha fun m l a hm=>hi2 m l a hm⟩
    have e5:=bumpA_set hjA
    rw [hAn] at e5
    have e7:(eL (nI (A.take (j+1) ++ List.replicate (L.length - (j+1)) 0))).set (0+((j:Int)).toNat) (eI ((a0+1:Nat):Int))=eL (nI (bumpA j A)):=by rw [Nat.zero_add,Int.toNat_natCast,eL_set,nI_set,e5]
    dsimp only
    rw [← e7]
    rfl
  clear h
  conv=>whnf
  rw [e26]
  refine ⟨Nat,fun i=>([(0,.c (.lst (eU us))),(1,.c (.lst (eQ ss))),(3,I rel),(11,.c (.lst (eLw L))),(13,Bo fnd),(14,.c (.lst (eL best))),(15,.c (.ptr (.l 15 0) 0)),(16,.c (.view (.l 53 1) 0 L.length)),(26,I ((i:Int) - 1))],⟨[(.l 15 0,.blk [IC aa,IC bb]),(.l 53 1,.arr 3 1 (eL (nI (A.take i ++ List.replicate (L.length - i) 0))) false)],60,[]⟩),
    fun i=>i≤L.length∧(∀ (m:Nat) l a,i≤m→L[m]?=some l→A[m]?=some a→a=l.length - 1),fun i=>i,L.length,⟨Nat.le_refl _,fun m l a hm hx=>by have:=(List.getElem?_eq_some_iff.1 hx).1;omega⟩,?_,fun i hi=>?_⟩
  · dsimp only
    rw [Nat.sub_self,List.replicate_zero,List.append_nil,List.take_of_length_le (by omega)]
    exact Shift.reset ⟨rfl,rfl,rfl,rfl,rfl,rfl,rfl,rfl,rfl,trivial⟩ ⟨rfl,rfl,trivial⟩ rfl rfl
  obtain ⟨hi1,hi2⟩:=hi
  dsimp only
  have hB:(A.take i ++ List.replicate (L.length - i) 0).length=L.length:=by simp;omega
  have hmB:(eL (nI (A.take i ++ List.replicate (L.length - i) 0))).length=L.length:=by rw [eL_len,List.length_map];exact hB
  conv=>whnf
  refine Fork.mk (fun h=>?_) (fun h=>?_)
  rotate_left
  · have hi0:i=0:=by simp at h;omega
    clear h
    subst hi0
    conv=>whnf
    repeat' ((first | refine fork_t ?_ | refine fork_f ?_ | (refine Fork.mk (fun h=>?_) (fun h=>?_);focus (simp at h;done)) | fail) <;> (conv=>whnf))
    refine Fork.mk (fun h=>?_) (fun h=>?_)
    · conv=>whnf
      exact hk [] 9 (fun e=>by cases e) (by simp)
    have hf:fnd=true:=by simpa using h
    conv=>whnf
    exact hk best 0 (fun _=>⟨(hfnd hf).1,(hfnd hf).2,h1⟩) hbl
  have hi0:1≤i:=by simp at h;omega
  clear h
  obtain ⟨j,rfl⟩:∃ j,i=j+1:=⟨i - 1,by omega⟩
  have e1:(((j+1:Nat):Int) - 1)=(j:Int):=by omega
  rw [e1]
  have hjL:=List.getElem?_eq_getElem (show j < L.length by omega)
  have hjA:=List.getElem?_eq_getElem (show j < A.length by omega)
  have hla:=hA.a j _ _ hjL hjA
  have hlp:=hpos _ (List.getElem_mem (show j < L.length by omega))
  have hll:=hL200 _ (List.getElem_mem (show j < L.length by omega))
  generalize L[j]=row at hjL hla hlp hll
  generalize A[j]=a0 at hjA hla
  have hjB:(eL (nI (A.take (j+1) ++ List.replicate (L.length - (j+1)) 0)))[j]?=some (eI (a0:Int)):=by
    rw [List.getElem?_map,List.getElem?_map,List.getElem?_append_left (by rw [List.length_take];omega),List.getElem?_take_of_lt (by omega),hjA];rfl
  have hmr:=eL_len row
  have e3:IntKind.i64.wrap (((eL row).length:Int) - 1)=((row.length - 1:Nat):Int):=by rw [hmr,wrap_in (by omega) (by omega)];omega
  conv=>whnf
  refine ⟨by omega,rfl,?_⟩
  conv=>whnf
  refine ⟨eI (a0:Int),by rw [Int.toNat_natCast,Nat.zero_add];exact hjB,?_⟩
  conv=>whnf
  refine ⟨by omega,lwC row,by rw [Int.toNat_natCast,List.getElem?_map,hjL];rfl,rfl,?_⟩
  conv=>whnf
  rw [e3]
  refine Fork.mk (fun h=>?_) (fun h=>?_)
  · have ha:a0=row.length - 1:=by simp at h;omega
    clear h
    have e4:IntKind.i64.wrap ((j:Int) - 1)=(j:Int) - 1:=wrap_in (by omega) (by omega)
    conv=>whnf
    refine ⟨by omega,rfl,?_⟩
    conv=>whnf
    refine ⟨eI (a0:Int),by rw [Int.toNat_natCast,Nat.zero_add];exact hjB,Nat.le_refl _,?_⟩
    conv=>whnf
    rw [e4]
    refine ⟨j,⟨by omega,fun m l a hm hx hy=>?_⟩,Shift.rename [] ⟨rfl,rfl,rfl,rfl,rfl,rfl,rfl,rfl,rfl,trivial⟩ ⟨rfl,?_,trivial⟩ rfl rfl rfl,by omega⟩
    · rcases Nat.eq_or_lt_of_le hm with e | e
      · subst e
        rw [hjL] at hx;rw [hjA] at hy;cases hx;cases hy;exact ha
      · exact hi2 m l a e hx hy
    · have e5:=set_zero (j:=j) (A:=A) (by omega)
      rw [hAn] at e5
      have e7:(eL (nI (A.take (j+1) ++ List.replicate (L.length - (j+1)) 0))).set (0+((j:Int)).toNat) (eI ((0:Nat):Int))=eL (nI (A.take j ++ List.replicate (L.length - j) 0)):=by rw [Nat.zero_add,Int.toNat_natCast,eL_set,nI_set,e5]
      rw [← e7]
      rfl
  have ha:a0+1 < row.length:=by simp at h;omega
  clear h
  conv=>whnf
  repeat' ((first | refine fork_t ?_ | refine fork_f ?_ | (refine Fork.mk (fun h=>?_) (fun h=>?_);focus (simp at h;done)) | fail) <;> (conv=>whnf))
  have e6:IntKind.i64.wrap ((a0:Int)+1)=((a0+1:Nat):Int):=wr_succ (by omega)
  conv=>whnf
  refine ⟨by omega,rfl,?_⟩
  conv=>whnf
  refine ⟨eI (a0:Int),by rw [Int.toNat_natCast,Nat.zero_add];exact hjB,?_⟩
  conv=>whnf
  refine ⟨by omega,rfl,?_⟩
  conv=>whnf
  refine ⟨eI (a0:Int),by rw [Int.toNat_natCast,Nat.zero_add];exact hjB,Nat.le_refl _,?_⟩
  conv=>whnf
  rw [e6]
  refine ⟨(bumpA j A,fnd,best,aa,bb),⟨hA.bump hpos hjL hjA ha,hfnd,hbl⟩,Shift.rename [] ⟨rfl,rfl,rfl,rfl,rfl,rfl,rfl,rfl,trivial⟩ ⟨rfl,?_,trivial⟩ rfl rfl rfl,rk_step hpos hjL hjA ha fun m l a hm=>hi2 m l a hm⟩
  have e5:=bumpA_set hjA
  rw [hAn] at e5
  have e7:(eL (nI (A.take (j+1) ++ List.replicate (L.length - (j+1)) 0))).set (0+((j:Int)).toNat) (eI ((a0+1:Nat):Int))=eL (nI (bumpA j A)):=by rw [Nat.zero_add,Int.toNat_natCast,eL_set,nI_set,e5]
  dsimp only
  rw [← e7]
  rfl
end Go.Proofs
