/- Proved here: what functions of the given program come to, and the plain laws of it; no condition but those in the theorems. -/
import Derived.Test.YtgllikepncnpkaaGreatA34s
import Derived.Test.YtgllikepncnpkaaGreatA34n
import Derived.Test.YtgllikepncnpkaaGreatA34q
import Derived.Test.YtgllikepncnpkaaGreatAbsDeep
namespace Go.Proofs
open Go Go.Abs
set_option linter.unusedSimpArgs false
set_option linter.unusedVariables false
set_option maxRecDepth 20000
theorem rrest_ok':FunR Tryz.prog 33 R_re:=by
  intro args k h
  obtain ⟨c,s,m,rfl,hc,hs,hk⟩:=h
  have hmx:=eX_len c.si
  refine does_ex (qc:=qc1) (np:=[(11,[(2,11),(2,12),(4,10),(4,11),(4,12),(5,10),(5,11),(5,12),(6,10),(6,11),(6,12)])]) (CK:=ckK [(38,cSc (R_csI csE)),(39,cSc (R_cfB vaB)),(31,cPu R_fo)]) mixed Tryz.func33 rfl rfl Tryz.ntmps33 Tryz.results33 τ_ok (by kernel_rfl) (ckK_ok ⟨cSc_ok rcsE_ok,cSc_ok rcvalid_ok,cPu_ok rfollow_ok rfl,trivial⟩) (by simp) ?_
  conv=>whnf
  refine ⟨c,rfl,hc,?_⟩
  conv=>whnf
  refine Fork.mk (fun h=>?_) (fun h=>?_)
  · have h1:csE c ≠ 0:=by simpa using h
    conv=>whnf
    exact kFo (y:=.error (csE c)) hk (by rw [reX,show rdyE c s=csE c by rw [rdyE,if_pos h1],if_pos h1])
  have h0:csE c=0:=by simpa using h
  clear h
  conv=>whnf
  refine ⟨c,s,rfl,hc,hs,?_⟩
  conv=>whnf
  refine Fork.mk (fun h=>?_) (fun h=>?_)
  · have h1:vaB c s=false:=by simpa using h
    conv=>whnf
    exact kFo (y:=.error 50) hk (by rw [reX,show rdyE c s=50 by rw [rdyE,if_neg (by simp [h0]),if_pos h1],if_pos (by simp)])
  have h1:rdyE c s=0:=by rw [rdyE,if_neg (by simp [h0]),if_neg (by rw [Bool.not_eq_false'] at h;simp [h])]
  have hva:=rdyE_ok h1
  have hcm:=hva.k.m
  have hcn:=hva.k.n
  have hrn:=hva.k.r.n
  clear h
  conv=>whnf
  refine Fork.mk (fun h=>?_) (fun h=>?_)
  · have h2:m < 0:=by simpa using h
    conv=>whnf
    repeat' ((first | refine fork_t ?_ | refine fork_f ?_ | (refine Fork.mk (fun h=>?_) (fun h=>?_);focus (simp at h;done)) | fail) <;> (conv=>whnf))
    exact kFo (y:=.error 10) hk (by rw [reX,if_neg (by simp [h1]),if_pos h2])
  have h2:¬ m < 0:=by simpa using h
  clear h
  conv=>whnf
  refine Fork.mk (fun h=>?_) (fun h=>?_)
  · have h3:400 < m:=by simpa using h
    conv=>whnf
    exact kFo (y:=.error 10) hk (by rw [reX,if_neg (by simp [h1]),if_neg h2,if_pos h3])
  have h3:¬ 400 < m:=by simpa using h
  clear h
  obtain ⟨M,rfl⟩:=Int.eq_ofNat_of_zero_le (show 0≤m by omega)
  obtain ⟨N,hN⟩:=Int.eq_ofNat_of_zero_le (show 0≤c.rv.n by omega)
  have e0:reX c s M=foX c s (zeL M c.si.length) (zeL M N):=by rw [reX,if_neg (by simp [h1]),if_neg h2,if_neg h3,hN];rfl
  rw [e0] at hk
  have ez:∀ n,eL (List.replicate n 0)=List.replicate n [IC 0]:=fun n=>by simp [eL,eI]
  conv=>whnf
  refine ⟨Nat,fun i=>([(2,I ((M:Int) - i)),(3,.c (.ptr (.l 3 0) 0)),(4,.c (.ptr (.l 4 1) 0)),(9,.c (.view (.l 36 2) 0 i)),(10,.c (.view (.l 43 3) 0 i))],⟨[(.l 3 0,.blk (csC c)),(.l 4 1,.blk (flC s)),(.l 36 2,.arr 22 1 (eLw (zeL i c.si.length)) false),(.l 43 3,.arr 22 1 (eLw (zeL i N)) false)],20,[]⟩),
    fun i=>i≤M,fun i=>M - i,0,Nat.zero_le _,Shift.trans (Shift.rename [] ⟨?_,rfl,rfl,rfl,rfl,trivial⟩ ⟨rfl,rfl,rfl,rfl,trivial⟩ rfl rfl rfl) (Shift.trans (Shift.nilArr (t:=10) rfl 43 22 1) (Shift.nilArr (t:=9) rfl 36 22 1)),fun i hi=>?_⟩
  · dsimp only;rw [show (M:Int) - ((0:Nat):Int)=M by omega];rfl
  dsimp only
  have hm1:(eLw (zeL i c.si.length)).length=i:=by simp [zeL]
  have hm2:(eLw (zeL i N)).length=i:=by simp [zeL]
  have hw1:IntKind.i64.wrap ((M:Int) - i - 1)=(M:Int) - ((i+1:Nat):Int):=by rw [wrap_in (by omega) (by omega)];omega
  conv=>whnf
  refine Fork.mk (fun h=>?_) (fun h=>?_)
  rotate_left
  · have hie:i=M:=by simp at h;omega
    subst hie
    have t1:List.take i (List.drop 0 (eLw (zeL i c.si.length)))=eLw (zeL i c.si.length):=by rw [List.drop_zero,List.take_of_length_le (by omega)]
    have t2:List.take i (List.drop 0 (eLw (zeL i N)))=eLw (zeL i N):=by rw [List.drop_zero,List.take_of_length_le (by omega)]
    conv=>whnf
    refine ⟨by omega,?_⟩
    conv=>whnf
    refine ⟨by omega,?_⟩
    conv=>whnf
    rw [t1,t2]
    have hvf:∀ n:Nat,n≤40→vfin (zeL i n):=fun n hn=>⟨by simp [zeL];omega,fun p hp=>by rw [(List.mem_replicate.1 hp).2];simp;omega⟩
    refine ⟨c,s,_,_,rfl,hc,hs,hvf _ (by omega),hvf _ (by omega),?_⟩
    obtain ⟨X,hX⟩:∃ X,foX c s (zeL i c.si.length) (zeL i N)=X:=⟨_,rfl⟩
    rw [hX] at hk ⊢
    cases X with
    | error e =>
      conv=>whnf
      exact hk
    | ok r =>
      conv=>whnf
      exact hk
  have hi2:i < M:=by simp at h;omega
  clear h
  conv=>whnf
  refine ⟨⟨rfl,by omega,by rw [hmx];show _ * (8:Int)≤_;omega⟩,?_⟩
  conv=>whnf
  rw [show Int.toNat ((eX c.si).length:Int)=c.si.length by omega]
  have tz:∀ n:Nat,List.take n (List.drop 0 (List.replicate n [Cell.sc (Value.int .i64 0)]))=eL (List.replicate n 0):=fun n=>by
    rw [List.drop_zero,List.take_of_length_le (by simp),ez]
  refine ⟨by simp,?_⟩
  conv=>whnf
  rw [tz]
  refine ⟨by simp,?_⟩
  conv=>whnf
  refine ⟨rfl,?_⟩
  conv=>whnf
  refine ⟨⟨rfl,rfl,rfl,hm1.symm,by rw [hm1];simp;omega⟩,?_⟩
  conv=>whnf
  refine ⟨⟨rfl,by omega,by show _ * (8:Int)≤_;omega⟩,?_⟩
  conv=>whnf
  rw [show Int.toNat c.rv.n=N by omega]
  refine ⟨by simp,?_⟩
  conv=>whnf
  rw [tz]
  refine ⟨by simp,?_⟩
  conv=>whnf
  refine ⟨rfl,?_⟩
  conv=>whnf
  refine ⟨⟨rfl,rfl,rfl,hm2.symm,by rw [hm2];simp;omega⟩,?_⟩
  conv=>whnf
  rw [hw1]
  have ze:∀ n,eLw (zeL (i+1) n)=eLw (zeL i n) ++ [lwC (List.replicate n 0)]:=fun n=>by
    rw [show zeL (i+1) n=zeL i n ++ [List.replicate n 0] from List.replicate_succ' ..]
    exact List.map_append
  refine ⟨i+1,hi2,Shift.rename [(.l 36 2,.l 36 20),(.l 43 3,.l 43 20)] ⟨rfl,rfl,rfl,?_,?_,trivial⟩ ⟨rfl,rfl,?_,?_,trivial⟩ rfl rfl rfl,by omega⟩
  · dsimp only;rw [hm1];rfl
  · dsimp only;rw [hm2];rfl
  · dsimp only;rw [ze];rfl
  · dsimp only;rw [ze];rfl
end Go.Proofs

/- The nodes below a site. No program. -/
namespace Go.Proofs
open Go Go.Abs
set_option linter.unusedSimpArgs false
set_option linter.unusedVariables false
def cutS (si:List Si):Ls→Ls
  | []=>[]
  | x :: r=>if 0≤snA si x then [x] else x :: cutS si r
/-- The nodes below a node, up to that of the next site. -/
def belP (c:Cs) (k:Int):Ls:=cutS c.si (pathR c.rv k).tail
theorem belP_end {c:Cs} {k:Int} (h:lnk c.rv.ls k < 0):belP c k=[]:=by rw [belP,path_end h];rfl
theorem belP_step {c:Cs} (hr:RvOk c.rv) {k:Int} (hk:0≤k) {i:Nat} {l:Lk} (h:lnk c.rv.ls k=i) (hl:c.rv.ls[i]?=some l) (hf:l.fr=k):belP c k=if 0≤snA c.si l.to then [l.to] else l.to :: belP c l.to:=by
  have e:pathR c.rv l.to=l.to :: (pathR c.rv l.to).tail:=rfl
  rw [belP,path_step hr hk h hl hf,List.tail_cons,e,cutS]
  rfl
def belF (c:Cs) (i:Nat):Ls:=match c.si[i]? with
  | some x=>belP c x.nd
  | none=>[]
def hitN (n:Int) (i:Nat) (l:Ls):Ls:=(l.filter fun y=>decide (y=n)).map fun _=>(i:Int)
theorem hitN_snoc (n:Int) (i:Nat) (l:Ls) (z:Int):hitN n i (l ++ [z])=if z=n then hitN n i l ++ [(i:Int)] else hitN n i l:=by
  unfold hitN
  rw [List.filter_append]
  by_cases h:z=n <;> simp [h]
theorem hitN_len (n:Int) (i:Nat) (l:Ls):(hitN n i l).length≤l.length:=by
  unfold hitN
  rw [List.length_map]
  exact List.length_filter_le ..
/-- The sites before the i-th above a node. -/
def abG (c:Cs) (n:Int):Nat→Ls
  | 0=>[]
  | i+1=>abG c n i ++ hitN n i (belF c i)
def abS (c:Cs) (n:Int):Ls × Int:=if csE c ≠ 0 then ([],csE c) else if n < 0 then ([],41) else if c.rv.n≤n then ([],41) else (abG c n c.si.length,0)
theorem cutS_len (si:List Si):∀ l:Ls,(cutS si l).length≤l.length
  | []=>Nat.le_refl _
  | x :: r=>by
    rw [cutS]
    split
    · simp
    · simp [cutS_len si r]
theorem belF_len {c:Cs} (hc:CsOk c) (i:Nat):(belF c i).length≤40:=by
  unfold belF
  cases hx:c.si[i]? with
  | none=>simp
  | some x =>
    have hxn:=(hc.s x (List.mem_of_getElem? hx)).1
    have h1:=cutS_len c.si (pathR c.rv x.nd).tail
    have h2:=path_len hc.r hxn
    rw [pathR,List.tail_cons,List.length_map] at h1
    dsimp only
    unfold belP
    rw [pathR,List.tail_cons]
    omega
theorem abG_len {c:Cs} (hc:CsOk c) (n:Int):∀ i,(abG c n i).length≤40 * i
  | 0=>Nat.le_refl _
  | i+1=>by
    have:=abG_len hc n i
    have:=hitN_len n i (belF c i)
    have:=belF_len hc i
    rw [abG,List.length_append]
    omega
/-- Steps one behind the other, with what passed. -/
inductive runsC (c:Cs) (s:Fl):List Su→List Pd→Fl→Prop
  | nil:runsC c s [] [] s
  | snoc {l:List Su} {xs:List Pd} {a b:Fl} {p:Su} {x:Pd}:runsC c s l xs a→stepC c a p b x→runsC c s (l ++ [p]) (xs ++ [x]) b
theorem runsC.va {c:Cs} {s:Fl} (h:VaOk c s) {l:List Su} {xs:List Pd} {b:Fl} (hs:runsC c s l xs b):VaOk c b:=by
  cases hs with
  | nil=>exact h
  | snoc _ h3=>exact h3.valid
end Go.Proofs

namespace Go.Proofs
open Go Go.Abs
set_option linter.unusedSimpArgs false
set_option linter.unusedVariables false
set_option maxRecDepth 20000
theorem pathR_hd (r:Rv) (k:Int):pathR r k=k :: (pathR r k).tail:=rfl
theorem rpth_ok:FunR Tryz.prog 21 R_pth:=by
  intro args k h
  obtain ⟨r,x,rfl,hf,hk⟩:=h
  refine does_ex (qc:=qc1) (np:=[]) (CK:=ckK [(48,cSc R_rvE),(49,cSc R_within),(50,cSc R_lnk)]) mixed Tryz.func21 rfl rfl Tryz.ntmps21 Tryz.results21 τ_ok (by kernel_rfl) (ckK_ok ⟨cSc_ok rrvE_ok,cSc_ok rIn_ok,cSc_ok leav_ok,trivial⟩) (by simp) ?_
  conv=>whnf
  refine ⟨r,rfl,hf,?_⟩
  conv=>whnf
  refine Fork.mk (fun h=>?_) (fun h=>?_)
  · have h1:rvE r ≠ 0:=by simpa using h
    conv=>whnf
    exact kPth (y:=([],rvE r)) hk (by rw [pthS,if_pos h1])
  have h1:rvE r=0:=by simpa using h
  have hr:=rvE_ok h1
  have hrn:=hr.n
  have hrl:=hr.len
  have hmk:=eK_len r.ls
  clear h
  have e1:IntKind.i64.wrap (r.n - 1)=r.n - 1:=wrap_in (by omega) (by omega)
  conv=>whnf
  rw [e1]
  refine Fork.mk (fun h=>?_) (fun h=>?_)
  · have h2:inN r.n x=false:=by rw [Bool.not_eq_true'] at h;exact h
    conv=>whnf
    exact kPth (y:=([],11)) hk (by rw [pthS,if_neg (by simp [h1]),if_pos h2])
  have h2:inN r.n x=true:=by rw [Bool.not_eq_false'] at h;exact h
  clear h
  have hx:0≤x∧x < r.n:=by simp [inN] at h2;omega
  have e0:pthS r x=(pathR r x,0):=by rw [pthS,if_neg (by simp [h1]),if_neg (by simp [h2])]
  rw [e0] at hk
  conv=>whnf
  refine ⟨r,x,rfl,by omega,?_⟩
  conv=>whnf
  refine ⟨Ls × Int,fun y=>([(2,.c (.ptr (.l 2 0) 0)),(7,.c (.view (.l 21 1) 0 y.1.length)),(8,I (lnk r.ls y.2))],⟨[(.l 2 0,.blk (rvC r)),(.l 21 1,.arr 3 1 (eL y.1) false)],9,[]⟩),
    fun y=>pathR r x=y.1 ++ (pathR r y.2).tail∧(0≤y.2∧y.2 < r.n)∧(y.1.length:Int)≤y.2+1,fun y=>(r.n - y.2).toNat,([x],x),⟨pathR_hd r x,hx,by simp;omega⟩,Shift.rename [] ⟨rfl,rfl,rfl,trivial⟩ ⟨rfl,rfl,trivial⟩ rfl rfl rfl,fun y hy=>?_⟩
  obtain ⟨O,q⟩:=y
  obtain ⟨hE,hq,hO⟩:=hy
  dsimp only at hE hq hO ⊢
  have hmO:=eL_len O
  conv=>whnf
  refine Fork.mk (fun h=>?_) (fun h=>?_)
  rotate_left
  · have hlt:lnk r.ls q < 0:=by simp at h;omega
    rw [path_end hlt,List.tail_cons,List.append_nil] at hE
    have t1:List.take O.length (List.drop 0 (eL O))=eL O:=by rw [List.drop_zero,List.take_of_length_le (by omega)]
    conv=>whnf
    refine ⟨by omega,?_⟩
    conv=>whnf
    rw [t1]
    exact kPth (y:=(O,0)) hk (by rw [hE])
  have hge:0≤lnk r.ls q:=by simpa using h
  clear h
  obtain ⟨J,l,hJ1,hJ2,hJ3⟩:∃ (j:Nat) (a:Lk),r.ls[j]?=some a∧a.fr=q∧lnk r.ls q=j:=by
    rcases lnk_spec r.ls q with ⟨h,_⟩ | h
    · omega
    · exact h
  have hJl:=(List.getElem?_eq_some_iff.1 hJ1).1
  have hkk:=hr.l l (List.mem_of_getElem? hJ1)
  have hk1:=hkk.o
  have hk2:=hkk.t
  rw [path_step hr hq.1 hJ3 hJ1 hJ2,List.tail_cons,pathR_hd r l.to] at hE
  rw [hJ3]
  conv=>whnf
  refine ⟨by omega,lkC l,by rw [Int.toNat_natCast,List.getElem?_map,hJ1];rfl,rfl,?_⟩
  conv=>whnf
  refine ⟨by simp,?_⟩
  conv=>whnf
  refine ⟨rfl,?_⟩
  conv=>whnf
  refine ⟨⟨rfl,rfl,rfl,hmO.symm,by rw [hmO];simp;omega⟩,?_⟩
  conv=>whnf
  refine ⟨r,l.to,rfl,by omega,?_⟩
  conv=>whnf
  refine ⟨(O ++ [l.to],l.to),⟨by simpa using hE,⟨by dsimp only;omega,hk2⟩,by dsimp only;simp;omega⟩,Shift.rename [(.l 21 1,.l 39 10)] ⟨rfl,?_,rfl,trivial⟩ ⟨rfl,?_,trivial⟩ rfl rfl rfl,by dsimp only;omega⟩
  · dsimp only;rw [List.length_append,← hmO];rfl
  · dsimp only;rw [show eL (O ++ [l.to])=eL O ++ [eI l.to] from List.map_append];rfl
def bwS (c:Cs) (i:Int):Ls × Int:=if csE c ≠ 0 then ([],csE c) else if i < 0 then ([],40) else if (c.si.length:Int)≤i then ([],40) else (belF c i.toNat,0)
def R_bw:RT:=fun args k=>∃ (c:Cs) (i:Int),args=[.agg (csC c),I i]∧c.fin∧k (.tup [.c (.lst (eL (bwS c i).1)),I (bwS c i).2])
theorem cutS_cons (si:List Si) (x:Int) (r:Ls):cutS si (x :: r)=if 0≤snA si x then [x] else x :: cutS si r:=rfl
theorem rbel_ok:FunR Tryz.prog 34 R_bw:=by
  intro args k h
  obtain ⟨c,i,rfl,hc,hk⟩:=h
  have hmx:=eX_len c.si
  refine does_ex (qc:=qc1) (np:=[]) (CK:=ckK [(38,cSc (R_csI csE)),(21,cPu R_pth),(58,cSc R_siA)]) mixed Tryz.func34 rfl rfl Tryz.ntmps34 Tryz.results34 τ_ok (by kernel_rfl) (ckK_ok ⟨cSc_ok rcsE_ok,cPu_ok rpth_ok rfl,cSc_ok rat34_ok,trivial⟩) (by simp) ?_
  conv=>whnf
  refine ⟨c,rfl,hc,?_⟩
  conv=>whnf
  refine Fork.mk (fun h=>?_) (fun h=>?_)
  · have h1:csE c ≠ 0:=by simpa using h
    conv=>whnf
    exact kPth (y:=([],csE c)) hk (by rw [bwS,if_pos h1])
  have h1:csE c=0:=by simpa using h
  have hok:=csE_ok h1
  have hr:=hok.r
  have hcm:=hok.m
  have hrn:=hr.n
  clear h
  conv=>whnf
  refine Fork.mk (fun h=>?_) (fun h=>?_)
  · have h2:i < 0:=by simpa using h
    conv=>whnf
    repeat' ((first | refine fork_t ?_ | refine fork_f ?_ | (refine Fork.mk (fun h=>?_) (fun h=>?_);focus (simp at h;done)) | fail) <;> (conv=>whnf))
    exact kPth (y:=([],40)) hk (by rw [bwS,if_neg (by simp [h1]),if_pos h2])
  have h2:¬ i < 0:=by simpa using h
  clear h
  conv=>whnf
  refine Fork.mk (fun h=>?_) (fun h=>?_)
  · have h3:(c.si.length:Int)≤i:=by simp at h;omega
    conv=>whnf
    exact kPth (y:=([],40)) hk (by rw [bwS,if_neg (by simp [h1]),if_neg h2,if_pos h3])
  have h3:¬ (c.si.length:Int)≤i:=by simp at h;omega
  clear h
  obtain ⟨I0,rfl⟩:=Int.eq_ofNat_of_zero_le (show 0≤i by omega)
  obtain ⟨x,hx⟩:∃ x,c.si[I0]?=some x:=⟨_,List.getElem?_eq_getElem (by omega)⟩
  have hxn:=(hok.s x (List.mem_of_getElem? hx)).1
  have e0:bwS c I0=(cutS c.si (pathR c.rv x.nd).tail,0):=by
    rw [bwS,if_neg (by simp [h1]),if_neg h2,if_neg h3,Int.toNat_natCast,belF,hx];rfl
  rw [e0] at hk
  have hP:pthS c.rv x.nd=(pathR c.rv x.nd,0):=by rw [pthS,if_neg (by simp [rvE_of hr]),if_neg (by simp [inN];omega)]
  have hpl:((pathR c.rv x.nd).tail).length≤40:=by
    have:=path_len hr hxn
    rw [pathR,List.tail_cons,List.length_map]
    omega
  conv=>whnf
  refine ⟨by omega,siC x,by rw [Int.toNat_natCast,List.getElem?_map,hx];rfl,rfl,?_⟩
  conv=>whnf
  refine ⟨c.rv,x.nd,rfl,hc.r,?_⟩
  rw [hP]
  dsimp only
  rw [pathR_hd c.rv x.nd]
  generalize (pathR c.rv x.nd).tail=P at hk hpl
  have hmP:=eL_len P
  have hm1:(eL (x.nd :: P)).length=P.length+1:=by simp
  have hdk:List.drop ((1:Int)).toNat (List.take (((eL (x.nd :: P)).length:Int)).toNat (eL (x.nd :: P)))=eL P:=by rw [Int.toNat_natCast,List.take_length];rfl
  conv=>whnf
  refine ⟨by omega,?_⟩
  conv=>whnf
  refine ⟨eL_all _,?_⟩
  rw [hdk]
  conv=>whnf
  refine ⟨Nat,fun i=>([(2,.c (.ptr (.l 2 0) 0)),(9,.c (.view (.l 48 1) 0 i)),(39,.c (.lst (eL P))),(40,I (eL P).length),(41,I i)],⟨[(.l 2 0,.blk (csC c)),(.l 48 1,.arr 3 1 (eL (P.take i)) false)],9,[]⟩),
    fun i=>i≤P.length∧cutS c.si P=P.take i ++ cutS c.si (P.drop i),fun i=>P.length - i,0,⟨Nat.zero_le _,by simp⟩,Shift.trans (Shift.rename [] ⟨rfl,rfl,rfl,rfl,rfl,trivial⟩ ⟨rfl,rfl,trivial⟩ rfl rfl rfl) (Shift.nilArr (t:=9) rfl 48 3 1),fun i hi=>?_⟩
  obtain ⟨hi1,hi2⟩:=hi
  dsimp only
  have hmt:(eL (P.take i)).length=i:=by rw [eL_len,List.length_take];omega
  conv=>whnf
  refine Fork.mk (fun h=>?_) (fun h=>?_)
  rotate_left
  · have hie:i=P.length:=by simp at h;omega
    rw [hie,List.drop_length,List.take_length,cutS,List.append_nil] at hi2
    have t1:List.take i (List.drop 0 (eL (P.take i)))=eL P:=by rw [List.drop_zero,List.take_of_length_le (by omega),hie,List.take_length]
    conv=>whnf
    refine ⟨by omega,?_⟩
    conv=>whnf
    rw [t1]
    exact kPth (y:=(P,0)) hk (by rw [hi2])
  have hi:i < P.length:=by simp at h;omega
  clear h
  have hci:=List.getElem?_eq_getElem hi
  generalize P[i]=z at hci
  rw [dropC hci,cutS_cons] at hi2
  have hw1:=wr_succ (i:=i) (by omega)
  have htk:=tk_snoc hci
  have hmz:(eL (P.take (i+1))).length=i+1:=by rw [eL_len,List.length_take];omega
  have hrow:eL (P.take (i+1))=eL (P.take i) ++ [eI z]:=by rw [htk];exact List.map_append
  conv=>whnf
  refine ⟨by omega,eI z,by rw [Int.toNat_natCast,List.getElem?_map,hci];rfl,rfl,?_⟩
  conv=>whnf
  refine ⟨by simp,?_⟩
  conv=>whnf
  refine ⟨rfl,?_⟩
  conv=>whnf
  refine ⟨⟨rfl,rfl,rfl,hmt.symm,by rw [hmt];simp;omega⟩,?_⟩
  conv=>whnf
  refine ⟨c,z,rfl,by omega,?_⟩
  conv=>whnf
  refine Fork.mk (fun h=>?_) (fun h=>?_)
  · rw [if_pos (by simpa using h),← htk] at hi2
    clear h
    conv=>whnf
    refine ⟨by rw [List.length_append,Nat.zero_add];exact Nat.le_refl _,?_⟩
    conv=>whnf
    show k (.tup [.c (.lst (List.take ((eL (P.take i)).length+1) (List.drop 0 (eL (P.take i) ++ [eI z])))),I 0])
    rw [← hrow,List.drop_zero,List.take_of_length_le (by rw [hmz,hmt];exact Nat.le_refl _)]
    exact kPth (y:=(P.take (i+1),0)) hk (by rw [hi2])
  rw [if_neg (by simpa using h),show z :: cutS c.si (P.drop (i+1))=[z] ++ cutS c.si (P.drop (i+1)) from rfl,← List.append_assoc,← htk] at hi2
  conv=>whnf
  rw [hw1]
  refine ⟨i+1,⟨hi,hi2⟩,Shift.rename [(.l 48 1,.l 48 10)] ⟨rfl,?_,rfl,rfl,rfl,trivial⟩ ⟨rfl,?_,trivial⟩ rfl rfl rfl,by omega⟩
  · dsimp only;rw [hmt];rfl
  · dsimp only;rw [hrow];rfl
end Go.Proofs

namespace Go.Proofs
open Go Go.Abs
set_option linter.unusedSimpArgs false
set_option linter.unusedVariables false
set_option maxRecDepth 20000
def R_abv:RT:=fun args k=>∃ (c:Cs) (n:Int),args=[.agg (csC c),I n]∧c.fin∧k (.tup [.c (.lst (eL (abS c n).1)),I (abS c n).2])
theorem rabv_ok:FunR Tryz.prog 36 R_abv:=by
  intro args k h
  obtain ⟨c,n,rfl,hc,hk⟩:=h
  have hmx:=eX_len c.si
  refine does_ex (qc:=qc1) (np:=[]) (CK:=ckK [(38,cSc (R_csI csE)),(34,cPu R_bw)]) mixed Tryz.func36 rfl rfl Tryz.ntmps36 Tryz.results36 τ_ok (by kernel_rfl) (ckK_ok ⟨cSc_ok rcsE_ok,cPu_ok rbel_ok rfl,trivial⟩) (by simp) ?_
  conv=>whnf
  refine ⟨c,rfl,hc,?_⟩
  conv=>whnf
  refine Fork.mk (fun h=>?_) (fun h=>?_)
  · have h1:csE c ≠ 0:=by simpa using h
    conv=>whnf
    exact kPth (y:=([],csE c)) hk (by rw [abS,if_pos h1])
  have h1:csE c=0:=by simpa using h
  have hok:=csE_ok h1
  have hcm:=hok.m
  clear h
  conv=>whnf
  refine Fork.mk (fun h=>?_) (fun h=>?_)
  · have h2:n < 0:=by simpa using h
    conv=>whnf
    repeat' ((first | refine fork_t ?_ | refine fork_f ?_ | (refine Fork.mk (fun h=>?_) (fun h=>?_);focus (simp at h;done)) | fail) <;> (conv=>whnf))
    exact kPth (y:=([],41)) hk (by rw [abS,if_neg (by simp [h1]),if_pos h2])
  have h2:¬ n < 0:=by simpa using h
  clear h
  conv=>whnf
  refine Fork.mk (fun h=>?_) (fun h=>?_)
  · have h3:c.rv.n≤n:=by simpa using h
    conv=>whnf
    exact kPth (y:=([],41)) hk (by rw [abS,if_neg (by simp [h1]),if_neg h2,if_pos h3])
  have h3:¬ c.rv.n≤n:=by simpa using h
  clear h
  have e0:abS c n=(abG c n c.si.length,0):=by rw [abS,if_neg (by simp [h1]),if_neg h2,if_neg h3]
  rw [e0] at hk
  conv=>whnf
  refine ⟨Nat,fun i=>([(1,I n),(2,.c (.ptr (.l 2 0) 0)),(7,.c (.view (.l 51 1) 0 (abG c n i).length)),(29,I (eX c.si).length),(30,I i)],⟨[(.l 2 0,.blk (csC c)),(.l 51 1,.arr 3 1 (eL (abG c n i)) false)],9,[]⟩),
    fun i=>i≤c.si.length,fun i=>c.si.length - i,0,Nat.zero_le _,Shift.trans (Shift.rename [] ⟨rfl,rfl,rfl,rfl,rfl,trivial⟩ ⟨rfl,rfl,trivial⟩ rfl rfl rfl) (Shift.nilArr (t:=7) rfl 51 3 1),fun i hi=>?_⟩
  dsimp only
  have hml:=eL_len (abG c n i)
  conv=>whnf
  refine Fork.mk (fun h=>?_) (fun h=>?_)
  rotate_left
  · have hie:i=c.si.length:=by simp at h;omega
    subst hie
    have t1:List.take (abG c n c.si.length).length (List.drop 0 (eL (abG c n c.si.length)))=eL (abG c n c.si.length):=by rw [List.drop_zero,List.take_of_length_le (by omega)]
    conv=>whnf
    refine ⟨by omega,?_⟩
    conv=>whnf
    rw [t1]
    exact hk
  have hi2:i < c.si.length:=by simp at h;omega
  clear h
  have hwi:=wr_succ (i:=i) (by omega)
  have hB:bwS c i=(belF c i,0):=by rw [bwS,if_neg (by simp [h1]),if_neg (by omega),if_neg (by omega),Int.toNat_natCast]
  have hbl:=belF_len hok i
  have hgl:=abG_len hok n i
  have hg1:abG c n (i+1)=abG c n i ++ hitN n i (belF c i):=rfl
  conv=>whnf
  refine ⟨c,i,rfl,hc,?_⟩
  rw [hB]
  dsimp only
  generalize belF c i=B at hbl hg1
  have hmB:=eL_len B
  conv=>whnf
  refine ⟨Nat,fun j=>([(1,I n),(2,.c (.ptr (.l 2 0) 0)),(7,.c (.view (.l 51 1) 0 (abG c n i ++ hitN n i (B.take j)).length)),(8,I i),(29,I (eX c.si).length),(30,I i),(39,.c (.lst (eL B))),(40,I (eL B).length),(41,I j)],⟨[(.l 2 0,.blk (csC c)),(.l 51 1,.arr 3 1 (eL (abG c n i ++ hitN n i (B.take j))) false)],20,[]⟩),
    fun j=>j≤B.length,fun j=>B.length - j,0,Nat.zero_le _,?_,fun j hj=>?_⟩
  · dsimp only
    rw [show abG c n i ++ hitN n i (B.take 0)=abG c n i by simp [hitN]]
    exact Shift.reset ⟨rfl,rfl,rfl,rfl,rfl,rfl,rfl,rfl,rfl,trivial⟩ ⟨rfl,rfl,trivial⟩ rfl rfl
  dsimp only
  have hmj:=eL_len (abG c n i ++ hitN n i (B.take j))
  have hjl:=hitN_len n i (B.take j)
  rw [List.length_take] at hjl
  have hjs:(abG c n i ++ hitN n i (B.take j)).length≤40 * i+40:=by rw [List.length_append];omega
  conv=>whnf
  refine Fork.mk (fun h=>?_) (fun h=>?_)
  rotate_left
  · have hje:j=B.length:=by simp at h;omega
    subst hje
    conv=>whnf
    rw [hwi]
    refine ⟨i+1,hi2,?_,by omega⟩
    rw [hg1,List.take_length]
    exact Shift.reset ⟨rfl,rfl,rfl,rfl,rfl,trivial⟩ ⟨rfl,rfl,trivial⟩ rfl rfl
  have hj2:j < B.length:=by simp at h;omega
  clear h
  have hcj:=List.getElem?_eq_getElem hj2
  generalize B[j]=z at hcj
  have htk:=tk_snoc hcj
  have hsn:=hitN_snoc n i (B.take j) z
  rw [← htk] at hsn
  have hwj:=wr_succ (i:=j) (by omega)
  conv=>whnf
  refine ⟨by omega,eI z,by rw [Int.toNat_natCast,List.getElem?_map,hcj];rfl,rfl,?_⟩
  conv=>whnf
  refine Fork.mk (fun h=>?_) (fun h=>?_)
  · have hz:z=n:=by simpa using h
    rw [if_pos hz] at hsn
    clear h
    conv=>whnf
    refine ⟨by simp,?_⟩
    conv=>whnf
    refine ⟨rfl,?_⟩
    conv=>whnf
    refine ⟨⟨rfl,rfl,rfl,hmj.symm,by rw [hmj];simp;simp at hjs;omega⟩,?_⟩
    conv=>whnf
    rw [hwj]
    have e2:abG c n i ++ hitN n i (B.take (j+1))=(abG c n i ++ hitN n i (B.take j)) ++ [(i:Int)]:=by rw [hsn,List.append_assoc]
    refine ⟨j+1,hj2,Shift.rename [(.l 51 1,.l 51 21)] ⟨rfl,rfl,?_,rfl,rfl,rfl,rfl,rfl,rfl,trivial⟩ ⟨rfl,?_,trivial⟩ rfl rfl rfl,by omega⟩
    · rw [show (abG c n i ++ hitN n i (B.take (j+1))).length=(eL (abG c n i ++ hitN n i (B.take j))).length+1 by rw [hmj,e2,List.length_append];rfl];rfl
    · rw [e2,show eL (abG c n i ++ hitN n i (B.take j) ++ [(i:Int)])=eL (abG c n i ++ hitN n i (B.take j)) ++ [eI (i:Int)] from List.map_append];rfl
  have hz:¬ z=n:=by simpa using h
  rw [if_neg hz] at hsn
  clear h
  conv=>whnf
  rw [hwj]
  refine ⟨j+1,hj2,?_,by omega⟩
  rw [hsn]
  exact Shift.reset ⟨rfl,rfl,rfl,rfl,rfl,rfl,rfl,rfl,rfl,trivial⟩ ⟨rfl,rfl,trivial⟩ rfl rfl
end Go.Proofs

namespace Go.Proofs
open Go Go.Abs
set_option linter.unusedSimpArgs false
set_option linter.unusedVariables false
set_option maxRecDepth 20000
end Go.Proofs

namespace Go.Proofs
open Go Go.Abs
set_option linter.unusedSimpArgs false
set_option linter.unusedVariables false
set_option maxRecDepth 40000
abbrev bO (c:Cs) (i:Nat):List MObj:=[.blk (csC c),.blk [IC i]]
def R_belw:RG:=fun args os k=>∃ (c:Cs) (i:Nat),args=[.agg (csC c),I i]∧os=[]∧k (.c (.fn 76 [.ptr (.x 0) 0,.ptr (.x 1) 0])) (bO c i)
theorem belw_ok:FunH Tryz.prog 47 R_belw:=by
  intro args os k h
  obtain ⟨c,i,rfl,rfl,hk⟩:=h
  refine doesH_ex (qc:=qc1) (np:=[]) (CK:=ckK []) mixed Tryz.func47 rfl rfl Tryz.ntmps47 Tryz.results47 τ_ok (by kernel_rfl) (ckK_ok trivial) (by simp) ?_
  conv=>whnf
  exact ⟨.l 2 0,.l 3 1,rfl,rfl,rfl,rfl,rfl,hk⟩
noncomputable def genBel:Gen Tryz.prog:=⟨76,Tryz.f76,bodyF Tryz.f76,_,[],qc1,ckK [(77,cSc R_lkF),(71,cSc R_siA)],Tryz.func76,rfl,rfl,Tryz.ntmps76,Tryz.results76,by kernel_rfl,ckK_ok ⟨cSc_ok lkF_ok,cSc_ok siA_ok,trivial⟩⟩
def R_apS:RG:=fun args os k=>∃ (c:Cs) (i:Nat),args=[.c (.sc (.slice none 0 0)),.c (.fn 76 [.ptr (.x 0) 0,.ptr (.x 1) 0])]∧os=bO c i∧CsOk c∧i < c.si.length∧k (.c (.lst (eL (belF c i)))) (bO c i)
theorem apS_ok:FunG Tryz.prog 75 R_apS:=by
  intro args os k h
  obtain ⟨c,i,rfl,rfl,hc,hi,hk⟩:=h
  have hr:=hc.r
  have hrn:=hr.n
  have hrl:=hr.len
  have hcm:=hc.m
  have hmx:=eX_len c.si
  have hmk:=eK_len c.rv.ls
  obtain ⟨x,hx⟩:∃ x,c.si[i]?=some x:=⟨_,List.getElem?_eq_getElem hi⟩
  have hxn:=(hc.s x (List.mem_of_getElem? hx)).1
  have hB:belF c i=belP c x.nd:=by unfold belF;rw [hx]
  rw [hB] at hk
  have hCK:∀ f args d m k,ckK [] f args d m k→callK Tryz.prog qc1 f args d m k:=ckK_ok trivial
  refine ⟨_,_,doesTG_of (qc:=qc1) (np:=[]) (CK:=ckK []) (RC:=rcN τ [] (ckK []) qc1 13 genBel) mixed Tryz.func75 rfl rfl Tryz.ntmps75 Tryz.results75 τ_ok (by kernel_rfl) hCK (rcN_ok τ_ok hCK mixed genBel) (by simp) ⟨rfl,rfl,rfl,rfl,rfl⟩ ?_,hk⟩
  conv=>whnf
  refine ⟨⟨⟨rfl,rfl⟩,⟨rfl,rfl⟩,rfl⟩,?_⟩
  conv=>whnf
  refine ⟨_,rfl,Nat.le_of_ble_eq_true rfl,[.x 0,.x 1,.l 2 0],[],rfl,rfl,?_⟩
  conv=>whnf
  refine ⟨rfl,rfl,fun L=>?_⟩
  conv=>whnf
  refine ⟨by omega,siC x,by rw [Int.toNat_natCast,List.getElem?_map,hx];rfl,rfl,?_⟩
  conv=>whnf
  refine ⟨c,x.nd,rfl,by omega,?_⟩
  conv=>whnf
  refine ⟨Ls × Int,fun y=>([(0,yV L),(1,.c (.ptr (.x 0) 0)),(4,I (lnk c.rv.ls y.2))],⟨[(.x 0,.blk (csC c)),(.x 1,.blk [IC i]),(.x 2,.blk [.view (.l 11 0) 0 y.1.length]),(.l 11 0,.arr 3 1 (eL y.1) false)],20,[]⟩),
    fun y=>belP c x.nd=y.1 ++ belP c y.2∧(0≤y.2∧y.2 < c.rv.n)∧(y.1.length:Int)≤y.2,fun y=>(c.rv.n - y.2).toNat,([],x.nd),⟨rfl,hxn,hxn.1⟩,
    Shift.trans (Shift.rename [] ⟨rfl,rfl,rfl,trivial⟩ ⟨rfl,rfl,rfl,rfl,trivial⟩ rfl rfl rfl) (Shift.nilCell (i:=.x 2) (cs:=[.sc (.slice none 0 0)]) (j:=0) rfl rfl 11 3 1),fun y hy=>?_⟩
  obtain ⟨O,q⟩:=y
  obtain ⟨hE,hq,hO⟩:=hy
  dsimp only at hE hq hO ⊢
  have hmO:=eL_len O
  conv=>whnf
  refine Fork.mk (fun h=>?_) (fun h=>?_)
  rotate_left
  · have hlt:lnk c.rv.ls q < 0:=by simp at h;omega
    clear h
    rw [belP_end hlt,List.append_nil] at hE
    conv=>whnf
    refine ⟨[.l 11 0],[11],⟨rfl,rfl,rfl,rfl⟩,?_⟩
    conv=>whnf
    refine ⟨rfl,rfl,?_⟩
    conv=>whnf
    refine ⟨by omega,?_⟩
    have he:(((eL O).drop 0).take O.length)=eL (belP c x.nd):=by rw [List.drop_zero,List.take_of_length_le (by rw [eL_len];exact Nat.le_refl _),hE]
    simp only [Nat.zero_add,he]
    conv=>whnf
    exact ⟨rfl,rfl⟩
  have hge:0≤lnk c.rv.ls q:=by simpa using h
  clear h
  obtain ⟨J,l,hJ1,hJ2,hJ3⟩:∃ (j:Nat) (a:Lk),c.rv.ls[j]?=some a∧a.fr=q∧lnk c.rv.ls q=j:=by
    rcases lnk_spec c.rv.ls q with ⟨h,_⟩ | h
    · omega
    · exact h
  have hJl:=(List.getElem?_eq_some_iff.1 hJ1).1
  have hk:=hr.l l (List.mem_of_getElem? hJ1)
  have hk1:=hk.o
  have hk2:=hk.t
  have hS:=belP_step hr hq.1 hJ3 hJ1 hJ2
  rw [hS] at hE
  rw [hJ3]
  conv=>whnf
  refine ⟨by omega,lkC l,by rw [Int.toNat_natCast,List.getElem?_map,hJ1];rfl,rfl,?_⟩
  conv=>whnf
  refine ⟨rfl,?_⟩
  conv=>whnf
  refine ⟨rfl,?_⟩
  conv=>whnf
  refine ⟨by simp,?_⟩
  conv=>whnf
  refine ⟨rfl,?_⟩
  conv=>whnf
  refine ⟨⟨rfl,rfl,rfl,hmO.symm,by rw [hmO];simp;omega⟩,?_⟩
  conv=>whnf
  refine Fork.mk (fun h=>by cases h) (fun _=>?_)
  conv=>whnf
  refine ⟨c,l.to,rfl,by omega,?_⟩
  conv=>whnf
  refine Fork.mk (fun h=>?_) (fun h=>?_)
  · have h5:0≤snA c.si l.to:=by simpa using h
    clear h
    rw [if_pos h5] at hE
    conv=>whnf
    refine ⟨[.l 11 21],[11],⟨rfl,rfl,rfl,rfl⟩,?_⟩
    conv=>whnf
    refine ⟨rfl,rfl,?_⟩
    conv=>whnf
    refine ⟨by simp,?_⟩
    have he:(List.take ((eL O).length+(List.take 1 (List.drop 0 [[nrm (Value.int IntKind.i64 l.to)]])).length) (List.drop 0 (eL O ++ List.take 1 (List.drop 0 [[nrm (Value.int IntKind.i64 l.to)]]))))=eL (belP c x.nd):=by
      rw [List.take_of_length_le (by simp),hE,← eL_snoc];rfl
    simp only [Nat.zero_add,he]
    conv=>whnf
    exact ⟨rfl,rfl⟩
  have h5:¬ 0≤snA c.si l.to:=by simpa using h
  clear h
  rw [if_neg h5] at hE
  conv=>whnf
  refine ⟨c,l.to,rfl,by omega,?_⟩
  conv=>whnf
  refine ⟨(O ++ [l.to],l.to),⟨by dsimp only;rw [hE];simp,by dsimp only;omega,by dsimp only;rw [List.length_append];simp;omega⟩,Shift.rename [(.l 11 0,.l 11 21)] ⟨rfl,rfl,rfl,trivial⟩ ⟨rfl,rfl,?_,?_,trivial⟩ rfl rfl rfl,by dsimp only;omega⟩
  · dsimp only;rw [show (O ++ [l.to]).length=(eL O).length+1 by rw [hmO];simp];rfl
  · dsimp only;rw [← eL_snoc];rfl
end Go.Proofs

namespace Go.Proofs
open Go Go.Abs
set_option linter.unusedSimpArgs false
set_option linter.unusedVariables false
set_option maxRecDepth 40000
def R_coll:RG:=fun args os k=>∃ (c:Cs) (i:Nat),args=[.c (.fn 76 [.ptr (.x 0) 0,.ptr (.x 1) 0])]∧os=bO c i∧CsOk c∧i < c.si.length∧k (.c (.lst (eL (belF c i)))) (bO c i)
theorem coll_ok:FunG Tryz.prog 46 R_coll:=by
  intro args os k h
  obtain ⟨c,i,rfl,rfl,hc,hi,hk⟩:=h
  refine doesG_ex (qc:=qc1) (np:=[]) (CK:=ckK [(75,cG R_apS)]) mixed Tryz.func46 rfl rfl Tryz.ntmps46 Tryz.results46 τ_ok (by kernel_rfl) (ckK_ok ⟨cG_ok apS_ok rfl,trivial⟩) (by simp) rfl rfl ?_
  conv=>whnf
  refine ⟨[.x 0,.x 1],rfl,rfl,?_⟩
  conv=>whnf
  refine ⟨rfl,?_⟩
  conv=>whnf
  refine ⟨c,i,rfl,rfl,hc,hi,?_⟩
  conv=>whnf
  refine ⟨rfl,?_⟩
  conv=>whnf
  exact ⟨rfl,hk⟩
theorem bel_ok:FunR Tryz.prog 20 R_bw:=by
  intro args k h
  obtain ⟨c,i,rfl,hc,hk⟩:=h
  have hmx:=eX_len c.si
  refine does_ex (qc:=qc1) (np:=[]) (CK:=ckK [(45,cSc (R_csI csE)),(47,cH R_belw),(46,cG R_coll)]) mixed Tryz.func20 rfl rfl Tryz.ntmps20 Tryz.results20 τ_ok (by kernel_rfl) (ckK_ok ⟨cSc_ok csE_ok',cH_ok belw_ok rfl,cG_ok coll_ok rfl,trivial⟩) (by simp) ?_
  conv=>whnf
  refine ⟨c,rfl,hc,?_⟩
  conv=>whnf
  refine Fork.mk (fun h=>?_) (fun h=>?_)
  · have h1:csE c ≠ 0:=by simpa using h
    conv=>whnf
    exact kPth (y:=([],csE c)) hk (by rw [bwS,if_pos h1])
  have h1:csE c=0:=by simpa using h
  have hok:=csE_ok h1
  have hr:=hok.r
  have hcm:=hok.m
  have hrn:=hr.n
  clear h
  conv=>whnf
  refine Fork.mk (fun h=>?_) (fun h=>?_)
  · have h2:i < 0:=by simpa using h
    conv=>whnf
    repeat' ((first | refine fork_t ?_ | refine fork_f ?_ | (refine Fork.mk (fun h=>?_) (fun h=>?_);focus (simp at h;done)) | fail) <;> (conv=>whnf))
    exact kPth (y:=([],40)) hk (by rw [bwS,if_neg (by simp [h1]),if_pos h2])
  have h2:¬ i < 0:=by simpa using h
  clear h
  conv=>whnf
  refine Fork.mk (fun h=>?_) (fun h=>?_)
  · have h3:(c.si.length:Int)≤i:=by simp at h;omega
    conv=>whnf
    exact kPth (y:=([],40)) hk (by rw [bwS,if_neg (by simp [h1]),if_neg h2,if_pos h3])
  have h3:¬ (c.si.length:Int)≤i:=by simp at h;omega
  clear h
  obtain ⟨I0,rfl⟩:=Int.eq_ofNat_of_zero_le (show 0≤i by omega)
  have e0:bwS c I0=(belF c I0,0):=by
    rw [bwS,if_neg (by simp [h1]),if_neg h2,if_neg h3,Int.toNat_natCast]
  rw [e0] at hk
  conv=>whnf
  refine ⟨[],rfl,?_⟩
  conv=>whnf
  refine ⟨rfl,?_⟩
  conv=>whnf
  refine ⟨rfl,?_⟩
  conv=>whnf
  refine ⟨c,I0,rfl,rfl,?_⟩
  conv=>whnf
  refine ⟨[.l 23 1,.l 2071 1],rfl,?_⟩
  conv=>whnf
  refine ⟨rfl,?_⟩
  conv=>whnf
  refine ⟨rfl,?_⟩
  conv=>whnf
  refine ⟨c,I0,rfl,rfl,hok,by omega,?_⟩
  conv=>whnf
  exact hk
end Go.Proofs
