/- Proved here: what functions of the given program come to, and the plain laws of it; no condition but those in the theorems. -/
import Derived.Test.YtgllikepncnpkaaGreatPDisp2
import Derived.Test.YtgllikepncnpkaaGreatPGate3
import Derived.Test.YtgllikepncnpkaaGreatA34c
import Derived.Test.YtgllikepncnpkaaGreatPStorage2
import Derived.Test.YtgllikepncnpkaaGreatPGate
import Derived.Test.YtgllikepncnpkaaGreatAbsS
namespace Go.Proofs
open Go Go.Abs
set_option linter.unusedSimpArgs false
set_option linter.unusedVariables false
structure Rc where
  inf:Int
  los:Int
  tur:Int
  spi:Int
  ovr:Int
  pow:Int
  sta:Int
def rcC (r:Rc):List Cell:=[IC r.inf,IC r.los,IC r.tur,IC r.spi,IC r.ovr,IC r.pow,IC r.sta]
def floR (r:Rc):Int:=r.tur+r.spi+r.ovr
theorem usB_of:∀ {us:List Un} {ss:List Us},(∀ (i:Nat) u z,us[i]?=some u→ss[i]?=some z→validB u z=true)→usB us ss=true
  | [],_,_=>rfl
  | _ :: _,[],_=>rfl
  | u :: us,z :: ss,h=>by
    simp only [usB,Bool.and_eq_true]
    exact ⟨h 0 u z rfl rfl,usB_of fun i a b ha hb=>h (i+1) a b (by simpa using ha) (by simpa using hb)⟩
theorem gsB_of:∀ {gs:List Gt} {ss:List Gs},badS gs ss=false→gsB gs ss=true
  | [],_,_=>rfl
  | _ :: _,[],_=>rfl
  | g :: gs,z :: ss,h=>by
    rw [badS] at h
    split at h
    · cases h
    rename_i e
    simp only [gsB,Bool.and_eq_true]
    exact ⟨by simpa using e,gsB_of h⟩
theorem gsB_bad:∀ {gs:List Gt} {ss:List Gs},gsB gs ss=true→badS gs ss=false
  | [],_,_=>rfl
  | _ :: _,[],_=>rfl
  | g :: gs,z :: ss,h=>by
    simp only [gsB,Bool.and_eq_true] at h
    rw [badS,if_neg (by simp [h.1])]
    exact gsB_bad h.2
theorem mayL_sum:∀ {us:List Un} {ss:List Us} {qs:Ls},mayL us ss qs=true→0≤qs.sum
  | [],[],[],_=>by simp
  | u :: us,z :: ss,q :: qs,h=>by
    simp only [mayL,Bool.and_eq_true] at h
    have a:=mayV_q h.1
    have b:=mayL_sum h.2
    rw [List.sum_cons]
    omega
  | [],[],_ :: _,h=>by simp [mayL] at h
  | [],_ :: _,_,h=>by simp [mayL] at h
  | _ :: _,[],_,h=>by simp [mayL] at h
  | _ :: _,_ :: _,[],h=>by simp [mayL] at h
theorem may_next {u:Un} {z:Us} {q:Int} (h:mayV u z q=true):validB u (nextS u z q).1=true:=by
  simp only [mayV,validB,Bool.and_eq_true,decide_eq_true_eq] at h
  simp only [validB,Bool.and_eq_true,decide_eq_true_eq]
  exact ⟨h.1.1,fit_next h.1.1 h.1.2 h.2⟩
structure stepD (d:Dm) (s:Dt) (inf:Int) (s':Dt) (r:Rc):Prop where
  v0:validD d s=true
  v:validD d s'=true
  i:0≤inf∧inf≤1073741824
  q:0≤floR r
  w:s'.vol+floR r≤s.vol+inf
  fi:r.inf=inf
  rs:0≤r.tur∧0≤r.spi∧0≤r.ovr
theorem validD_at {d:Dm} {s:Dt} (h:validD d s=true):ckD d=0∧(0≤s.vol∧s.vol≤valC d.r.st d.r.crest)∧(0≤s.rel∧s.rel≤1073741824)∧s.us.length=d.us.length∧s.gs.length=d.gs.length∧usB d.us s.us=true∧gsB d.gs s.gs=true:=by
  simp only [validD,fitD,inB,Bool.and_eq_true,decide_eq_true_eq] at h
  exact ⟨h.1,h.2.1.1.1.1.1,h.2.1.1.1.1.2,h.2.1.1.1.2,h.2.1.1.2,h.2.1.2,h.2.2⟩
theorem validD_of {d:Dm} {s:Dt} (h1:ckD d=0) (h2:0≤s.vol∧s.vol≤valC d.r.st d.r.crest) (h3:0≤s.rel∧s.rel≤1073741824) (h4:s.us.length=d.us.length) (h5:s.gs.length=d.gs.length) (h6:usB d.us s.us=true) (h7:gsB d.gs s.gs=true):validD d s=true:=by
  simp only [validD,fitD,inB,Bool.and_eq_true,decide_eq_true_eq]
  exact ⟨h1,⟨⟨⟨⟨h2,h3⟩,h4⟩,h5⟩,h6⟩,h7⟩
theorem validD_fin {d:Dm} {s:Dt} (h:validD d s=true):s.fin:=by
  obtain ⟨h1,_,_,h4,h5,_,_⟩:=validD_at h
  have a:=(ckD_ok h1).n
  have b:=(ckD_ok h1).m
  exact ⟨by omega,by omega⟩
def restU (z:Us):Us:=⟨0,if 0 < z.fl then 1 else (if z.si+1 < 1000 then z.si+1 else 1000),z.ot⟩
theorem rest_ok {u:Un} {z:Us} (h:validB u z=true):validB u (restU z)=true:=by
  simp only [validB,Bool.and_eq_true,decide_eq_true_eq] at h ⊢
  have:=fit_si h.2
  refine ⟨h.1,?_⟩
  have hsi:0≤(restU z).si∧(restU z).si≤1000:=by
    unfold restU
    dsimp only
    split
    · omega
    · split <;> omega
  have hfl:(restU z).fl=0:=rfl
  unfold fitB
  rw [hfl]
  simp [inB,hsi]
def R_dun:RT:=fun args k=>∃ (d:Dm) (s:Dt) (w:Int),args=[.agg (dmC d),.agg (dtC s),I w]∧validD d s=true∧d.fin∧0≤w∧∀ (us':List Us) (q p c:Int),us'.length=d.us.length→usB d.us us'=true→(0≤q∧q≤w)→k (.tup [.c (.lst (eQ us')),I q,I p,I c])
def R_dst:RT:=fun args k=>∃ (d:Dm) (s:Dt) (inf los rel:Int),args=[.agg (dmC d),.agg (dtC s),I inf,I los,I rel]∧d.fin∧s.fin∧∀ (s':Dt) (r:Rc) (e:Int),s'.fin→(e=0→stepD d s inf s' r)→k (.tup [.agg (dtC s'),.agg (rcC r),I e])
def R_dfl:RT:=fun args k=>∃ r:Rc,args=[.agg (rcC r)]∧(0≤r.tur∧0≤r.spi∧0≤r.ovr)∧floR r≤1099511627776∧k (I (floR r))
end Go.Proofs

namespace Go.Proofs
open Go Go.Abs
set_option linter.unusedSimpArgs false
set_option linter.unusedVariables false
set_option maxRecDepth 20000
theorem dun_ok:FunR Tryz.prog 99 R_dun:=by
  intro args k h
  obtain ⟨d,s,w,rfl,hv,hf,hw,hk⟩:=h
  obtain ⟨hck,_,_,hun,_,hub,_⟩:=validD_at hv
  have ok:=ckD_ok hck
  have hn6:=ok.n
  have hgr:=ok.gr
  have e1:IntKind.i64.wrap (200 * d.gr)=200 * d.gr:=wrap_in (by omega) (by omega)
  have hmz:=eQ_len s.us
  have hmu:=eU_len d.us
  refine does_ex (qc:=qc1) (np:=[(17,[(0,15),(2,15),(4,15),(5,15),(8,15),(9,15),(10,15)])]) (CK:=ckK [(123,cPu R_best19),(124,cSc R_val19),(125,cSc R_nextS)]) mixed Tryz.func99 rfl rfl Tryz.ntmps99 Tryz.results99 τ_ok (by kernel_rfl) (ckK_ok ⟨cPu_ok best19_ok rfl,cSc_ok val19_ok,cSc_ok rnext_ok,trivial⟩) (by simp) ?_
  conv=>whnf
  rw [e1]
  have hR:(if 200 * d.gr < w then 200 * d.gr else w)≤w:=by split <;> omega
  generalize (if 200 * d.gr < w then 200 * d.gr else w)=R at hR
  refine ⟨d.us,s.us,d.gr,R,rfl,by omega,by omega,hf.fu,fun p e hp hpl=>?_⟩
  have hmp:=eL_len p
  conv=>whnf
  refine Fork.mk (fun h=>?_) (fun h=>?_)
  · clear h
    conv=>whnf
    refine ⟨Nat × List Us,fun y=>([(12,.c (.view (.l 63 0) 0 y.2.length)),(43,.c (.lst (eQ s.us))),(44,I (eQ s.us).length),(45,I y.1)],⟨[(.l 63 0,.arr 164 3 (eQ y.2) false)],9,[]⟩),
      fun y=>y.1≤s.us.length∧y.2=(s.us.take y.1).map restU,fun y=>s.us.length - y.1,(0,[]),⟨Nat.zero_le _,rfl⟩,Shift.trans (Shift.rename [(.l 63 0,.l 63 2)] ⟨rfl,rfl,rfl,rfl,trivial⟩ ⟨rfl,trivial⟩ rfl rfl rfl) (Shift.nilArr (t:=12) rfl 63 164 3),fun y hy=>?_⟩
    obtain ⟨i,O⟩:=y
    obtain ⟨hi,hO⟩:=hy
    dsimp only at hi hO ⊢
    have hOl:O.length=i:=by rw [hO];simp;omega
    have hmO:=eQ_len O
    conv=>whnf
    refine Fork.mk (fun h=>?_) (fun h=>?_)
    rotate_left
    · have hie:i=s.us.length:=by simp at h;omega
      conv=>whnf
      refine ⟨by omega,?_⟩
      conv=>whnf
      rw [List.drop_zero,List.take_of_length_le (by rw [hmO];exact Nat.le_refl _)]
      refine hk O 0 0 0 (by omega) (usB_of fun j u z hu hz=>?_) ⟨Int.le_refl _,hw⟩
      rw [hO,List.getElem?_map] at hz
      cases hc:(s.us.take i)[j]? with
      | none=>rw [hc] at hz;cases hz
      | some z0 =>
        rw [hc] at hz
        cases hz
        rw [hie,List.take_length] at hc
        exact rest_ok (usB_at hub hu hc)
    have hi2:i < s.us.length:=by simp at h;omega
    clear h
    have hci:=List.getElem?_eq_getElem hi2
    have hvi:∃ u,d.us[i]?=some u∧validB u s.us[i]=true:=⟨_,List.getElem?_eq_getElem (by omega),usB_at hub (List.getElem?_eq_getElem (show i < d.us.length by omega)) hci⟩
    generalize s.us[i]=z at hci hvi
    obtain ⟨u,hu,hvi⟩:=hvi
    have hsi:0≤z.si∧z.si≤1000:=by
      simp only [validB,Bool.and_eq_true,decide_eq_true_eq] at hvi
      exact fit_si hvi.2
    have hw1:=wr_succ (i:=i) (by omega)
    have e2:IntKind.i64.wrap (z.si+1)=z.si+1:=wrap_in (by omega) (by omega)
    conv=>whnf
    refine ⟨by omega,usC z,by rw [Int.toNat_natCast,List.getElem?_map,hci];rfl,rfl,?_⟩
    conv=>whnf
    refine Fork.mk (fun h=>?_) (fun h=>?_)
    · have hrz:restU z=⟨0,1,z.ot⟩:=by unfold restU;rw [if_pos (by simpa using h)]
      clear h
      conv=>whnf
      refine ⟨by simp,?_⟩
      conv=>whnf
      refine ⟨rfl,?_⟩
      conv=>whnf
      refine ⟨⟨rfl,rfl,rfl,hmO.symm,by rw [hmO];simp;omega⟩,?_⟩
      conv=>whnf
      rw [hw1]
      refine ⟨(i+1,O ++ [restU z]),⟨hi2,by dsimp only;rw [hO,List.take_add_one,hci];simp⟩,Shift.rename [(.l 63 0,.l 63 12)] ⟨?_,rfl,rfl,rfl,trivial⟩ ⟨?_,trivial⟩ rfl rfl rfl,by dsimp only;omega⟩
      · dsimp only;rw [show (O ++ [restU z]).length=(eQ O).length+1 by rw [hmO];simp];rfl
      · dsimp only;rw [show eQ (O ++ [restU z])=eQ O ++ [usC (restU z)] from List.map_append,hrz];rfl
    have hrz:restU z=⟨0,if z.si+1 < 1000 then z.si+1 else 1000,z.ot⟩:=by unfold restU;rw [if_neg (by simpa using h)]
    clear h
    conv=>whnf
    rw [e2]
    refine ⟨by simp,?_⟩
    conv=>whnf
    refine ⟨rfl,?_⟩
    conv=>whnf
    refine ⟨⟨rfl,rfl,rfl,hmO.symm,by rw [hmO];simp;omega⟩,?_⟩
    conv=>whnf
    rw [hw1]
    refine ⟨(i+1,O ++ [restU z]),⟨hi2,by dsimp only;rw [hO,List.take_add_one,hci];simp⟩,Shift.rename [(.l 63 0,.l 63 12)] ⟨?_,rfl,rfl,rfl,trivial⟩ ⟨?_,trivial⟩ rfl rfl rfl,by dsimp only;omega⟩
    · dsimp only;rw [show (O ++ [restU z]).length=(eQ O).length+1 by rw [hmO];simp];rfl
    · dsimp only;rw [show eQ (O ++ [restU z])=eQ O ++ [usC (restU z)] from List.map_append,hrz];rfl
  have he:e=0:=by simpa using h
  clear h
  obtain ⟨hmay,hsum,_⟩:=hp he
  have hsum0:=mayL_sum hmay
  conv=>whnf
  refine ⟨d.us,s.us,p,rfl,hn6,hmay,hf.fu,fun pw cs=>?_⟩
  conv=>whnf
  refine ⟨Nat × List Us,fun y=>([(4,.c (.ptr (.l 4 1) 0)),(10,.c (.lst (eL p))),(12,.c (.view (.l 103 0) 0 y.2.length)),(16,I p.sum),(17,I pw),(18,I cs),(78,.c (.lst (eU d.us))),(79,I (eU d.us).length),(80,I y.1)],⟨[(.l 4 1,.blk (dtC s)),(.l 103 0,.arr 164 3 (eQ y.2) false)],20,[]⟩),
    fun y=>y.1≤d.us.length∧y.2.length=y.1∧∀ (j:Nat) u z,d.us[j]?=some u→y.2[j]?=some z→validB u z=true,fun y=>d.us.length - y.1,(0,[]),⟨Nat.zero_le _,rfl,fun j u z _ h=>by simp at h⟩,Shift.trans (Shift.rename [(.l 103 0,.l 103 2)] ⟨rfl,rfl,rfl,rfl,rfl,rfl,rfl,rfl,rfl,trivial⟩ ⟨rfl,rfl,trivial⟩ rfl rfl rfl) (Shift.nilArr (t:=12) rfl 103 164 3),fun y hy=>?_⟩
  obtain ⟨i,O⟩:=y
  obtain ⟨hi,hOl,hOv⟩:=hy
  dsimp only at hi hOl hOv ⊢
  have hmO:=eQ_len O
  conv=>whnf
  refine Fork.mk (fun h=>?_) (fun h=>?_)
  rotate_left
  · have hie:i=d.us.length:=by simp at h;omega
    clear h
    conv=>whnf
    refine ⟨by omega,?_⟩
    conv=>whnf
    rw [List.drop_zero,List.take_of_length_le (by rw [hmO];exact Nat.le_refl _)]
    exact hk O p.sum pw cs (by omega) (usB_of hOv) ⟨hsum0,by omega⟩
  have hi2:i < d.us.length:=by simp at h;omega
  clear h
  obtain ⟨hl1,hl2⟩:=mayL_len hmay
  have hci:=List.getElem?_eq_getElem hi2
  have hcz:=List.getElem?_eq_getElem (show i < s.us.length by omega)
  have hcq:=List.getElem?_eq_getElem (show i < p.length by omega)
  have hfu:=hf.fu _ (List.getElem_mem hi2)
  have hmi:=mayL_at hmay hci hcz hcq
  generalize d.us[i]=u at hci hfu hmi
  generalize s.us[i]=z at hcz hmi
  generalize p[i]=q at hcq hmi
  have hnx:=may_next hmi
  have hw1:=wr_succ (i:=i) (by omega)
  conv=>whnf
  refine ⟨by omega,unC u,by rw [Int.toNat_natCast,List.getElem?_map,hci];rfl,rfl,?_⟩
  conv=>whnf
  refine ⟨by omega,usC z,by rw [Int.toNat_natCast,List.getElem?_map,hcz];rfl,rfl,?_⟩
  conv=>whnf
  refine ⟨by omega,eI q,by rw [Int.toNat_natCast,List.getElem?_map,hcq];rfl,rfl,?_⟩
  conv=>whnf
  refine ⟨u,z,q,rfl,hfu,?_⟩
  generalize (nextS u z q).2.1=b1
  generalize (nextS u z q).2.2=b2
  generalize (nextS u z q).1=n at hnx
  conv=>whnf
  refine ⟨by simp,?_⟩
  conv=>whnf
  refine ⟨rfl,?_⟩
  conv=>whnf
  refine ⟨⟨rfl,rfl,rfl,hmO.symm,by rw [hmO];simp;omega⟩,?_⟩
  conv=>whnf
  rw [hw1]
  refine ⟨(i+1,O ++ [n]),⟨hi2,by simp [hOl],fun j u' z' h1 h2=>?_⟩,Shift.rename [(.l 103 0,.l 103 23)] ⟨rfl,rfl,?_,rfl,rfl,rfl,rfl,rfl,rfl,trivial⟩ ⟨rfl,?_,trivial⟩ rfl rfl rfl,by dsimp only;omega⟩
  · dsimp only at h2
    rcases Nat.lt_or_ge j O.length with hj | hj
    · rw [List.getElem?_append_left hj] at h2
      exact hOv j u' z' h1 h2
    · rw [List.getElem?_append_right hj] at h2
      have hj2:j=i:=by
        have:=(List.getElem?_eq_some_iff.1 h2).1
        simp at this
        omega
      subst hj2
      rw [hOl,Nat.sub_self] at h2
      rw [hci] at h1
      cases h1
      cases h2
      exact hnx
  · dsimp only;rw [show (O ++ [n]).length=(eQ O).length+1 by rw [hmO];simp];rfl
  · dsimp only;rw [show eQ (O ++ [n])=eQ O ++ [usC n] from List.map_append];rfl
end Go.Proofs

namespace Go.Proofs
open Go Go.Abs
set_option linter.unusedSimpArgs false
set_option linter.unusedVariables false
set_option maxRecDepth 20000
theorem levD_ok {d:Dm} {s:Dt} (h:(levD d s).2=0):validD d s=true∧(levD d s).1=hgt d.r.st s.vol∧0≤(levD d s).1∧(levD d s).1≤16777216:=by
  by_cases hw:wrongD d s=0
  · have hv:validD d s=true:=by
      unfold wrongD at hw
      split at hw
      · rename_i e;exact absurd hw e
      · split at hw
        · cases hw
        · rename_i e;simpa using e
    obtain ⟨hck,hvol,_⟩:=validD_at hv
    have hs:=(ckD_ok hck).s
    obtain ⟨k1,k2,k3,k4,k5⟩:=ckS_ok hs
    have hvi:=valC_in k1 d.r.crest
    have e:levD d s=(hgt d.r.st s.vol,0):=by unfold levD;rw [if_neg (by simp [hw]),levS_of hs (by omega)]
    rw [e]
    have hin:=hgt_in k1 k4 s.vol
    have h0:0≤(d.r.st.headD (0,0)).1:=by
      cases hst:d.r.st with
      | nil=>simp
      | cons p r =>
        have:=okPt_in (ckC_ok k1 p (by rw [hst];simp))
        simp;omega
    exact ⟨hv,rfl,by dsimp only;omega,by dsimp only;omega⟩
  · unfold levD at h
    rw [if_pos hw] at h
    exact absurd h hw
theorem setS_ok {d:Dm} {s:Dt} {lv w:Int} (hv:validD d s=true) (hl:0≤lv∧lv≤16777216) (hw:0≤w∧w≤1073741824) :
    (setS d.gs s.gs lv w).1.length=d.gs.length∧gsB d.gs (setS d.gs s.gs lv w).1=true∧0≤(setS d.gs s.gs lv w).2.1:=by
  obtain ⟨hck,_,_,_,hgl,_,hgb⟩:=validD_at hv
  have ok:=ckD_ok hck
  have hb:=gsB_bad hgb
  have ha:=askG_of ok.m hgl.symm hb ok.g hl
  have e:setS d.gs s.gs lv w=((setL w lv (totL d.gs (losL d.gs s.gs) lv) d.gs s.gs).1,(setL w lv (totL d.gs (losL d.gs s.gs) lv) d.gs s.gs).2,0):=by
    rw [setS,if_neg (by simp [ha]),if_neg (by simp [inB];omega)]
  rw [e]
  have F:=setF (w:=w) (lv:=lv) (s:=totL d.gs (losL d.gs s.gs) lv) hgl.symm ok.g hb
  have ht:=totL_in (os:=losL d.gs s.gs) (lv:=lv) ok.g
  exact ⟨F.len,gsB_of F.bad,by have:=F.lo;dsimp only;omega⟩
theorem dfl_ok:FunR Tryz.prog 16 R_dfl:=by
  intro args k h
  obtain ⟨r,rfl,hr,hb,hk⟩:=h
  have e1:IntKind.i64.wrap (r.tur+r.spi)=r.tur+r.spi:=wrap_in (by unfold floR at hb;omega) (by unfold floR at hb;omega)
  have e2:IntKind.i64.wrap (r.tur+r.spi+r.ovr)=floR r:=wrap_in (by unfold floR at hb;omega) (by unfold floR at hb;omega)
  refine does_ex (qc:=qc1) (np:=[]) (CK:=ckK []) mixed Tryz.func16 rfl rfl Tryz.ntmps16 Tryz.results16 τ_ok (by kernel_rfl) (ckK_ok trivial) (by simp) ?_
  conv=>whnf
  rw [e1,e2]
  exact hk
theorem dst_ok:FunR Tryz.prog 66 R_dst:=by
  intro args k h
  obtain ⟨d,s,inf,los,rel,rfl,hf,hsf,hk⟩:=h
  refine does_ex (qc:=qc1) (np:=[(19,[(5,11),(7,11)]),(20,[(1,2)])]) (CK:=ckK [(98,cSc R_levD),(49,cSc R_within),(84,cSc (R_rs1 volS)),(99,cPu R_dun),(100,cPu R_setS)]) mixed Tryz.func66 rfl rfl Tryz.ntmps66 Tryz.results66 τ_ok (by kernel_rfl) (ckK_ok ⟨cSc_ok dlev_ok,cSc_ok rIn_ok,cSc_ok rvolS_ok,cPu_ok dun_ok rfl,cPu_ok rset_ok rfl,trivial⟩) (by simp) ?_
  conv=>whnf
  have hz:Dt.fin ⟨0,0,[],[]⟩:=⟨Nat.zero_le _,Nat.zero_le _⟩
  refine ⟨d,s,rfl,hf,hsf,?_⟩
  conv=>whnf
  refine Fork.mk (fun h=>?_) (fun h=>?_)
  · have h1:(levD d s).2 ≠ 0:=by simpa using h
    conv=>whnf
    exact hk ⟨0,0,[],[]⟩ ⟨0,0,0,0,0,0,0⟩ _ hz (fun e=>absurd e h1)
  have h1:(levD d s).2=0:=by simpa using h
  clear h
  obtain ⟨hv,hle,hlb⟩:=levD_ok h1
  have hbad:∀ (h:(1:Int)=0),stepD d s inf ⟨0,0,[],[]⟩ ⟨0,0,0,0,0,0,0⟩:=fun e=>by cases e
  conv=>whnf
  refine Fork.mk (fun h=>?_) (fun h=>?_)
  · conv=>whnf
    repeat' ((first | refine fork_t ?_ | refine fork_f ?_ | (refine Fork.mk (fun h=>?_) (fun h=>?_);focus (simp at h;done)) | fail) <;> (conv=>whnf))
    exact hk ⟨0,0,[],[]⟩ ⟨0,0,0,0,0,0,0⟩ 1 hz hbad
  have hi:0≤inf∧inf≤1073741824:=by simpa [inB] using h
  clear h
  conv=>whnf
  refine Fork.mk (fun h=>?_) (fun h=>?_)
  · conv=>whnf
    repeat' ((first | refine fork_t ?_ | refine fork_f ?_ | (refine Fork.mk (fun h=>?_) (fun h=>?_);focus (simp at h;done)) | fail) <;> (conv=>whnf))
    exact hk ⟨0,0,[],[]⟩ ⟨0,0,0,0,0,0,0⟩ 1 hz hbad
  have hlo:0≤los∧los≤1073741824:=by simpa [inB] using h
  clear h
  conv=>whnf
  refine Fork.mk (fun h=>?_) (fun h=>?_)
  · conv=>whnf
    repeat' ((first | refine fork_t ?_ | refine fork_f ?_ | (refine Fork.mk (fun h=>?_) (fun h=>?_);focus (simp at h;done)) | fail) <;> (conv=>whnf))
    exact hk ⟨0,0,[],[]⟩ ⟨0,0,0,0,0,0,0⟩ 1 hz hbad
  have hre:0≤rel∧rel≤1073741824:=by simpa [inB] using h
  clear h hbad
  obtain ⟨hck,hvol,hrl,hun,hgn,hub,hgb⟩:=validD_at hv
  have ok:=ckD_ok hck
  have hs:=ok.s
  obtain ⟨k1,k2,k3,k4,k5⟩:=ckS_ok hs
  have hvc:=valC_in k1 d.r.crest
  have hvd:=valC_in k1 d.r.dead
  have hci:=crest_in hs
  have hdi:=dead_in hs
  have v1:volS ⟨d.r.st,d.r.dead,d.r.low,d.r.full,d.r.sur,d.r.crest⟩ d.r.dead=(valC d.r.st d.r.dead,0):=volS_of hs (by omega)
  have v2:volS ⟨d.r.st,d.r.dead,d.r.low,d.r.full,d.r.sur,d.r.crest⟩ d.r.crest=(valC d.r.st d.r.crest,0):=volS_of hs (by omega)
  have e3:IntKind.i64.wrap (s.vol+inf)=s.vol+inf:=wrap_in (by omega) (by omega)
  obtain ⟨L,hL⟩:∃ L,(if s.vol+inf < los then s.vol+inf else los)=L:=⟨_,rfl⟩
  have hLb:0≤L∧L≤s.vol+inf:=by rw [← hL];split <;> omega
  have e4:IntKind.i64.wrap (s.vol+inf - L)=s.vol+inf - L:=wrap_in (by omega) (by omega)
  conv=>whnf
  rw [e3,hL,e4]
  refine ⟨d.r.st,rfl,hf.r,?_⟩
  rw [v1]
  dsimp only
  conv=>whnf
  refine ⟨d.r.st,rfl,hf.r,?_⟩
  rw [v2]
  dsimp only
  generalize valC d.r.st d.r.dead=D at hvd
  generalize hC:valC d.r.st d.r.crest=C at hvc hvol
  have e5:IntKind.i64.wrap (s.vol+inf - L - D)=s.vol+inf - L - D:=wrap_in (by omega) (by omega)
  obtain ⟨cn,hcn⟩:∃ cn,(if 0 < s.vol+inf - L - D then s.vol+inf - L - D else 0)=cn:=⟨_,rfl⟩
  have hcb:0≤cn∧cn≤s.vol+inf - L:=by rw [← hcn];split <;> omega
  obtain ⟨W,hW⟩:∃ W,(if cn < rel then cn else rel)=W:=⟨_,rfl⟩
  have hWb:0≤W∧W≤cn∧W≤rel:=by rw [← hW];split <;> omega
  conv=>whnf
  rw [e5,hcn,hW]
  refine ⟨d,s,W,rfl,hv,hf,hWb.1,fun us q pw cs hul hub2 hq=>?_⟩
  have e6:IntKind.i64.wrap (W - q)=W - q:=wrap_in (by omega) (by omega)
  obtain ⟨g1,g2,g3⟩:=setS_ok (lv:=(levD d s).1) (w:=W - q) hv hlb (by omega)
  conv=>whnf
  rw [hW,e6]
  have hfn:fins d.gs s.gs:=⟨hf.g,hsf.g,hf.fg⟩
  refine ⟨d.gs,s.gs,(levD d s).1,W - q,rfl,hfn,?_⟩
  generalize (setS d.gs s.gs (levD d s).1 (W - q)).2.2=ge
  generalize (setS d.gs s.gs (levD d s).1 (W - q)).2.1=gv at g3
  generalize (setS d.gs s.gs (levD d s).1 (W - q)).1=gs' at g1 g2
  have e7:IntKind.i64.wrap (cn - q)=cn - q:=wrap_in (by omega) (by omega)
  obtain ⟨sp,hsp⟩:∃ sp,(if cn - q < gv then cn - q else gv)=sp:=⟨_,rfl⟩
  have hspb:0≤sp∧sp≤cn - q:=by rw [← hsp];split <;> omega
  have e8:IntKind.i64.wrap (q+sp)=q+sp:=wrap_in (by omega) (by omega)
  have e9:IntKind.i64.wrap (s.vol+inf - L - (q+sp))=s.vol+inf - L - (q+sp):=wrap_in (by omega) (by omega)
  have e10:IntKind.i64.wrap (s.vol+inf - L - (q+sp) - C)=s.vol+inf - L - (q+sp) - C:=wrap_in (by omega) (by omega)
  obtain ⟨ov,hov⟩:∃ ov,(if 0 < s.vol+inf - L - (q+sp) - C then s.vol+inf - L - (q+sp) - C else 0)=ov:=⟨_,rfl⟩
  have hovb:0≤ov∧ov≤s.vol+inf - L - (q+sp)∧s.vol+inf - L - (q+sp) - ov≤C:=by rw [← hov];split <;> omega
  have e11:IntKind.i64.wrap (s.vol+inf - L - (q+sp) - ov)=s.vol+inf - L - (q+sp) - ov:=wrap_in (by omega) (by omega)
  obtain ⟨rl,hrl2⟩:∃ rl,(if q+sp < 1073741824 then q+sp else 1073741824)=rl:=⟨_,rfl⟩
  have hrb:0≤rl∧rl≤1073741824:=by rw [← hrl2];split <;> omega
  conv=>whnf
  rw [e7,hsp,e8,e9,e10,hov,e11,hrl2]
  have hun6:=ok.n
  have hgm:=ok.m
  exact hk ⟨s.vol+inf - L - (q+sp) - ov,rl,us,gs'⟩ ⟨inf,L,q,sp,ov,pw,cs⟩ 0 ⟨by dsimp only;omega,by dsimp only;omega⟩ (fun _=>⟨hv,validD_of hck (by rw [hC];dsimp only;omega) hrb hul g1 hub2 g2,hi,by unfold floR;dsimp only;omega,by unfold floR;dsimp only;omega,rfl,by dsimp only;omega⟩)
end Go.Proofs

namespace Go.Proofs
open Go Go.Abs
set_option linter.unusedSimpArgs false
set_option linter.unusedVariables false
structure Ft where
  lv:Ls
  inf:Ls
  rel:List Ls
structure Ft.fin (t:Ft):Prop where
  l:t.lv.length≤9223372036854775807
  i:t.inf.length≤9223372036854775807
  r:t.rel.length≤9223372036854775807
  w:∀ r ∈ t.rel,r.length≤9223372036854775807
def qleF:Option Int→Int→Bool
  | none,_=>false
  | some q,x=>decide (x≤q)
def qltF:Option Int→Int→Bool
  | none,_=>false
  | some q,x=>decide (x < q)
def axE (most:Int):Option Int→Ls→Int
  | _,[]=>0
  | q,x :: l=>if inB 0 most x=false then 1 else if qleF q x=true then 4 else axE most (some x) l
theorem axE_cons (most:Int) (q:Option Int) (x:Int) (l:Ls):axE most q (x :: l)=if inB 0 most x=false then 1 else if qleF q x=true then 4 else axE most (some x) l:=rfl
def abF:Option Ls→Int→Bool
  | some (y :: _),x=>decide (x < y)
  | _,_=>false
def rwE:Option Int→Option Ls→Ls→Int
  | _,_,[]=>0
  | q,ab,x :: l=>if inB 0 1073741824 x=false then 1 else if (qltF q x || abF ab x)=true then 4 else rwE (some x) (ab.map List.tail) l
theorem rwE_cons (q:Option Int) (ab:Option Ls) (x:Int) (l:Ls):rwE q ab (x :: l)=if inB 0 1073741824 x=false then 1 else if (qltF q x || abF ab x)=true then 4 else rwE (some x) (ab.map List.tail) l:=rfl
def rowE (l:Ls) (ab:Option Ls) (n:Int):Int:=if (l.length:Int) ≠ n then 3 else rwE none ab l
def rlE (n:Int):Option Ls→List Ls→Int
  | _,[]=>0
  | ab,r :: rs=>if rowE r ab n ≠ 0 then rowE r ab n else rlE n (some r) rs
def ckT (t:Ft):Int:=if inB 1 20 t.lv.length=false then 42 else if inB 1 20 t.inf.length=false then 42 else if axE 16777216 none t.lv ≠ 0 then axE 16777216 none t.lv else if axE 1073741824 none t.inf ≠ 0 then axE 1073741824 none t.inf else if t.rel.length ≠ t.lv.length then 3 else rlE t.inf.length none t.rel
theorem axE_ok {m:Int}:∀ {l:Ls} {q:Option Int},axE m q l=0→(∀ x ∈ l,0≤x∧x≤m)∧(∀ x,q=some x→∀ y ∈ l,x < y)∧l.Pairwise (· < ·)
  | [],q,_=>⟨fun r h=>(by simp at h),fun _ _ r h=>(by simp at h),.nil⟩
  | a :: l,q,h=>by
    rw [axE_cons] at h
    split at h
    · omega
    rename_i h1
    split at h
    · omega
    rename_i h2
    obtain ⟨i1,i2,i3⟩:=axE_ok h
    simp [inB] at h1
    have hq:∀ x,q=some x→x < a:=fun x e=>by
      subst e
      simp [qleF] at h2
      omega
    refine ⟨fun r hr=>?_,fun x e r hr=>?_,List.pairwise_cons.2 ⟨fun b hb=>i2 a rfl b hb,i3⟩⟩
    · rcases List.mem_cons.1 hr with rfl | hr
      · omega
      · exact i1 r hr
    · rcases List.mem_cons.1 hr with rfl | hr
      · exact hq x e
      · have:=i2 a rfl r hr;have:=hq x e;omega
theorem rlE_ok {n:Int}:∀ {l:List Ls} {ab:Option Ls},rlE n ab l=0→∀ r ∈ l,(r.length:Int)=n
  | [],_,_,r,h=>by simp at h
  | a :: l,ab,h,r,hr=>by
    rw [rlE] at h
    split at h
    · rename_i e;exact absurd h e
    rename_i e
    rcases List.mem_cons.1 hr with rfl | hr
    · have e:rowE r ab n=0:=by omega
      unfold rowE at e
      split at e
      · cases e
      · omega
    · exact rlE_ok h r hr
structure TOk (t:Ft):Prop where
  l:1≤t.lv.length∧t.lv.length≤20
  i:1≤t.inf.length∧t.inf.length≤20
  lp:t.lv.Pairwise (· < ·)
  ip:t.inf.Pairwise (· < ·)
  ib:∀ x ∈ t.inf,0≤x∧x≤1073741824
  r:t.rel.length=t.lv.length
  w:∀ r ∈ t.rel,r.length=t.inf.length
theorem ckT_ok' {t:Ft} (h:ckT t=0):TOk t:=by
  unfold ckT at h
  split at h
  · omega
  split at h
  · omega
  split at h
  · rename_i e;exact absurd h e
  split at h
  · rename_i e;exact absurd h e
  split at h
  · omega
  rename_i h1 h2 h3 h4 h5
  simp [inB] at h1 h2
  have q1:=axE_ok (show axE 16777216 none t.lv=0 by omega)
  have q2:=axE_ok (show axE 1073741824 none t.inf=0 by omega)
  exact ⟨by omega,by omega,q1.2.2,q2.2.2,q2.1,by omega,fun r hr=>by have:=rlE_ok h r hr;omega⟩
structure mkX (l:Ls) (a x:Int):Prop where
  r:∀ y ∈ l,a≤y∧y < x
  p:l.Pairwise (· < ·)
theorem mkX.snoc {l:Ls} {a x y:Int} (h:mkX l a x) (ha:a≤x) (hy:x < y):mkX (l ++ [x]) a y:=by
  refine ⟨fun r hr=>?_,List.pairwise_append.2 ⟨h.p,by simp,fun u hu b hb=>?_⟩⟩
  · rcases List.mem_append.1 hr with hr | hr
    · have:=h.r r hr;omega
    · simp at hr;omega
  · simp at hb;subst hb;exact (h.r u hu).2
end Go.Proofs

namespace Go.Proofs
open Go Go.Abs
set_option linter.unusedSimpArgs false
set_option linter.unusedVariables false
theorem rwE_snoc {x:Int} (hx:0≤x∧x≤1073741824):∀ {l:Ls} {q:Option Int} {ab:Option Ls},rwE q ab l=0→(∀ p,(match l.getLast? with | none=>q | some p=>some p)=some p→p≤x)→(∀ a y,ab=some a→a[l.length]?=some y→y≤x)→rwE q ab (l ++ [x])=0
  | [],q,ab,_,hq,ha=>by
    show rwE q ab [x]=0
    rw [rwE_cons,if_neg (by simp [inB];omega),if_neg]
    · rfl
    · simp only [Bool.or_eq_true,not_or]
      constructor
      · cases q with
        | none=>simp [qltF]
        | some p=>have:=hq p rfl;simp [qltF];omega
      · match ab,ha with
        | none,_=>simp [abF]
        | some [],_=>simp [abF]
        | some (y :: r),ha=>have:=ha _ y rfl rfl;simp [abF];omega
  | z :: l,q,ab,h,hq,ha=>by
    rw [rwE_cons] at h
    rw [List.cons_append,rwE_cons]
    split at h
    · omega
    rename_i h1
    rw [if_neg h1]
    split at h
    · omega
    rename_i h2
    rw [if_neg h2]
    refine rwE_snoc hx h (fun p hp=>hq p ?_) (fun a y e hy=>?_)
    · rw [List.getLast?_cons]
      cases hl:l.getLast? with
      | none=>rw [hl] at hp;simpa using hp
      | some w=>rw [hl] at hp;simpa using hp
    · cases ab with
      | none=>cases e
      | some b =>
        simp at e
        subst e
        exact ha b y rfl (by rw [List.length_cons];simpa using hy)
structure okRw (ab:Option Ls) (l:Ls):Prop where
  e:rwE none ab l=0
  b:∀ (k:Nat) y,l[k]?=some y→0≤y∧y≤8 * ((k:Int)+1)
theorem okRw.nil (ab:Option Ls):okRw ab []:=⟨rfl,fun k y h=>by simp at h⟩
theorem okRw.snoc {ab:Option Ls} {l:Ls} {x:Int} (h:okRw ab l) (hl:l.length≤20) (hx:0≤x∧x≤8 * ((l.length:Int)+1)) (hq:∀ q,l[l.length - 1]?=some q→q≤x) (ha:∀ a y,ab=some a→a[l.length]?=some y→y≤x):okRw ab (l ++ [x]):=by
  refine ⟨rwE_snoc (by omega) h.e (fun p hp=>hq p ?_) ha,fun k y hy=>?_⟩
  · rw [← List.getLast?_eq_getElem?]
    cases hl:l.getLast? with
    | none=>rw [hl] at hp;cases hp
    | some w=>rw [hl] at hp;simpa using hp
  · rcases Nat.lt_or_ge k l.length with hk | hk
    · rw [List.getElem?_append_left hk] at hy
      exact h.b k y hy
    · rw [List.getElem?_append_right hk] at hy
      rcases Nat.eq_zero_or_pos (k - l.length) with e | e
      · rw [e] at hy
        simp at hy
        subst hy
        have:k=l.length:=by omega
        subst this
        exact hx
      · rw [List.getElem?_eq_none (by simp;omega)] at hy
        cases hy
theorem rlE_snoc {n:Int} {r:Ls}:∀ {l:List Ls} {ab:Option Ls},rlE n ab l=0→rowE r (match l.getLast? with | none=>ab | some a=>some a) n=0→rlE n ab (l ++ [r])=0
  | [],ab,_,h=>by
    show rlE n ab [r]=0
    rw [rlE,if_neg (by simpa using h)]
    rfl
  | z :: l,ab,h,hr=>by
    rw [rlE] at h
    rw [List.cons_append,rlE]
    split at h
    · rename_i e;exact absurd h e
    rename_i h1
    rw [if_neg h1]
    refine rlE_snoc h ?_
    rw [List.getLast?_cons] at hr
    cases hl:l.getLast? with
    | none=>rw [hl] at hr;simpa using hr
    | some w=>rw [hl] at hr;simpa using hr
structure okRs (n:Nat) (rs:List Ls):Prop where
  e:rlE n none rs=0
  b:∀ r ∈ rs,∀ (k:Nat) y,r[k]?=some y→0≤y∧y≤8 * ((k:Int)+1)
theorem okRs.nil (n:Nat):okRs n []:=⟨rfl,fun r h=>by simp at h⟩
theorem okRs.snoc {n:Nat} {rs:List Ls} {l:Ls} (h:okRs n rs) (hl:okRw rs.getLast? l) (hn:l.length=n):okRs n (rs ++ [l]):=by
  refine ⟨rlE_snoc h.e ?_,fun r hr=>?_⟩
  · have e:(match rs.getLast? with | none=>none | some a=>some a)=rs.getLast?:=by cases rs.getLast? <;> rfl
    rw [e,rowE,if_neg (by omega)]
    exact hl.e
  · rcases List.mem_append.1 hr with hr | hr
    · exact h.b r hr
    · simp at hr;subst hr;exact hl.b
structure mkT (t:Ft):Prop where
  l:1≤t.lv.length∧t.lv.length≤4
  i:1≤t.inf.length∧t.inf.length≤4
  e:ckT t=0
theorem mkT.fin {t:Ft} (h:mkT t):t.fin:=by
  have k:=ckT_ok' h.e
  exact ⟨by have:=h.l;omega,by have:=h.i;omega,by have:=k.r;have:=h.l;omega,fun r hr=>by have:=k.w r hr;have:=h.i;omega⟩
end Go.Proofs

namespace Go.Proofs
open Go Go.Abs
set_option linter.unusedSimpArgs false
set_option linter.unusedVariables false
def badX (x:Int):Bool:=decide (x < 0) || decide (1073741824 < x)
end Go.Proofs
