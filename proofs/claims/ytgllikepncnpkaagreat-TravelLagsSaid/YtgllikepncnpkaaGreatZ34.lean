/- Proved here: what functions of the given program come to, and the plain laws of it; no condition but those in the theorems. -/
import Derived.Test.YtgllikepncnpkaaGreatB34
import Derived.Test.YtgllikepncnpkaaGreatX34
namespace Go.Proofs
open Go Go.Abs
set_option linter.unusedSimpArgs false
set_option linter.unusedVariables false
set_option maxRecDepth 4000
theorem ckD_prog:FunR Tryz.prog 74 (R_dmI ckD):=by
  intro args k h
  obtain ⟨d,rfl,hd,hk⟩:=h
  refine does_ex (qc:=qc1) (np:=[]) (CK:=ckK [(106,cSc (R_rs ckS)),(107,cSc (R_unI ckU)),(108,cSc (R_gI ckG))]) mixed Tryz.func74 rfl rfl Tryz.ntmps74 Tryz.results74 τ_ok (by kernel_rfl) (ckK_ok ⟨cSc_ok ckS_ok',cSc_ok ckU_prog,cSc_ok ckG_prog,trivial⟩) (by simp) ?_
  conv=>whnf
  have hmu:=eU_len d.us
  have hmg:=eG_len d.gs
  have hdu:=hd.u
  have hdg:=hd.g
  refine ⟨d.r.st,rfl,hd.r,?_⟩
  conv=>whnf
  refine Fork.mk (fun h=>?_) (fun h=>?_)
  · have h1:ckS d.r ≠ 0:=by simpa using h
    conv=>whnf
    exact kI hk (by rw [ckD,if_pos h1])
  have h1:¬ ckS d.r ≠ 0:=by simpa using h
  clear h
  conv=>whnf
  refine Fork.mk (fun h=>?_) (fun h=>?_)
  · conv=>whnf
    repeat' ((first | refine fork_t ?_ | refine fork_f ?_ | (refine Fork.mk (fun h=>?_) (fun h=>?_);focus (simp at h;done)) | fail) <;> (conv=>whnf))
    exact kI hk (by rw [ckD,if_neg h1,if_pos (by left;simp at h;omega)])
  have h2:¬ 6 < d.us.length:=by simp at h;omega
  clear h
  conv=>whnf
  refine Fork.mk (fun h=>?_) (fun h=>?_)
  · conv=>whnf
    repeat' ((first | refine fork_t ?_ | refine fork_f ?_ | (refine Fork.mk (fun h=>?_) (fun h=>?_);focus (simp at h;done)) | fail) <;> (conv=>whnf))
    exact kI hk (by rw [ckD,if_neg h1,if_pos (by right;simp at h;omega)])
  have h3:¬ (6 < d.us.length ∨ 8 < d.gs.length):=by simp at h;omega
  clear h
  conv=>whnf
  refine ⟨Nat,fun i=>([(1,.c (.ptr (.l 1 0) 0)),(27,.c (.lst (eU d.us))),(28,I (eU d.us).length),(29,I i)],⟨[(.l 1 0,.blk (dmC d))],9,[]⟩),
    fun i=>i≤d.us.length∧unE d.us=unE (d.us.drop i),fun i=>d.us.length - i,0,⟨Nat.zero_le _,rfl⟩,Shift.reset ⟨rfl,rfl,rfl,rfl,trivial⟩ ⟨rfl,trivial⟩ rfl rfl,fun i hi=>?_⟩
  obtain ⟨hi1,hi2⟩:=hi
  dsimp only
  conv=>whnf
  refine Fork.mk (fun h=>?_) (fun h=>?_)
  · have hi:i < d.us.length:=by simp at h;omega
    clear h
    have hci:=List.getElem?_eq_getElem hi
    have hfu:=hd.fu _ (List.getElem_mem hi)
    generalize d.us[i]=u at hci hfu
    rw [drop_of hci,unE] at hi2
    have hw1:=wr_succ (i:=i) (by omega)
    conv=>whnf
    refine ⟨by omega,unC u,by rw [Int.toNat_natCast,List.getElem?_map,hci];rfl,rfl,?_⟩
    conv=>whnf
    refine ⟨u,rfl,hfu,?_⟩
    conv=>whnf
    refine Fork.mk (fun h=>?_) (fun h=>?_)
    · have h4:ckU u ≠ 0:=by simpa using h
      rw [if_pos h4] at hi2
      conv=>whnf
      exact kI hk (by rw [ckD,if_neg h1,if_neg h3,hi2,if_pos h4])
    have h4:¬ ckU u ≠ 0:=by simpa using h
    rw [if_neg h4] at hi2
    conv=>whnf
    rw [hw1]
    exact ⟨i+1,⟨hi,hi2⟩,Shift.reset ⟨rfl,rfl,rfl,rfl,trivial⟩ ⟨rfl,trivial⟩ rfl rfl,by omega⟩
  have hie:i=d.us.length:=by simp at h;omega
  clear h
  rw [hie,List.drop_length] at hi2
  have h4:¬ unE d.us ≠ 0:=by rw [hi2];simp [unE]
  clear hi1 hi2 hie
  conv=>whnf
  refine ⟨Nat,fun i=>([(1,.c (.ptr (.l 1 0) 0)),(40,.c (.lst (eG d.gs))),(41,I (eG d.gs).length),(42,I i)],⟨[(.l 1 0,.blk (dmC d))],9,[]⟩),
    fun i=>i≤d.gs.length∧gtE d.gs=gtE (d.gs.drop i),fun i=>d.gs.length - i,0,⟨Nat.zero_le _,rfl⟩,Shift.reset ⟨rfl,rfl,rfl,rfl,trivial⟩ ⟨rfl,trivial⟩ rfl rfl,fun i hi=>?_⟩
  obtain ⟨hi1,hi2⟩:=hi
  dsimp only
  conv=>whnf
  refine Fork.mk (fun h=>?_) (fun h=>?_)
  · have hi:i < d.gs.length:=by simp at h;omega
    clear h
    have hci:=List.getElem?_eq_getElem hi
    have hfg:=hd.fg _ (List.getElem_mem hi)
    generalize d.gs[i]=g at hci hfg
    rw [drop_of hci,gtE] at hi2
    have hw1:=wr_succ (i:=i) (by omega)
    conv=>whnf
    refine ⟨by omega,gtC g,by rw [Int.toNat_natCast,List.getElem?_map,hci];rfl,rfl,?_⟩
    conv=>whnf
    refine ⟨g,rfl,hfg,?_⟩
    conv=>whnf
    refine Fork.mk (fun h=>?_) (fun h=>?_)
    · have h5:ckG g ≠ 0:=by simpa using h
      rw [if_pos h5] at hi2
      conv=>whnf
      exact kI hk (by rw [ckD,if_neg h1,if_neg h3,if_neg h4,hi2,if_pos h5])
    have h5:¬ ckG g ≠ 0:=by simpa using h
    rw [if_neg h5] at hi2
    conv=>whnf
    rw [hw1]
    exact ⟨i+1,⟨hi,hi2⟩,Shift.reset ⟨rfl,rfl,rfl,rfl,trivial⟩ ⟨rfl,trivial⟩ rfl rfl,by omega⟩
  have hie:i=d.gs.length:=by simp at h;omega
  clear h
  rw [hie,List.drop_length] at hi2
  have h5:¬ gtE d.gs ≠ 0:=by rw [hi2];simp [gtE]
  clear hi1 hi2 hie
  conv=>whnf
  refine Fork.mk (fun h=>?_) (fun h=>?_)
  · conv=>whnf
    repeat' ((first | refine fork_t ?_ | refine fork_f ?_ | (refine Fork.mk (fun h=>?_) (fun h=>?_);focus (simp at h;done)) | fail) <;> (conv=>whnf))
    exact kI hk (by rw [ckD,if_neg h1,if_neg h3,if_neg h4,if_neg h5,if_pos (by left;simpa using h)])
  conv=>whnf
  refine Fork.mk (fun h'=>?_) (fun h'=>?_)
  · conv=>whnf
    repeat' ((first | refine fork_t ?_ | refine fork_f ?_ | (refine Fork.mk (fun h=>?_) (fun h=>?_);focus (simp at h;done)) | fail) <;> (conv=>whnf))
    exact kI hk (by rw [ckD,if_neg h1,if_neg h3,if_neg h4,if_neg h5,if_pos (by right;simpa using h')])
  conv=>whnf
  exact kI hk (by rw [ckD,if_neg h1,if_neg h3,if_neg h4,if_neg h5,if_neg (by simp at h h';omega)])
theorem rckD_ok:FunR Tryz.prog 61 (R_dmI ckD):=by
  intro args k h
  obtain ⟨d,rfl,hd,hk⟩:=h
  refine does_ex (qc:=qc1) (np:=[]) (CK:=ckK [(93,cSc (R_rs ckS)),(94,cSc (R_unI ckU)),(95,cSc (R_gI ckG))]) mixed Tryz.func61 rfl rfl Tryz.ntmps61 Tryz.results61 τ_ok (by kernel_rfl) (ckK_ok ⟨cSc_ok rckS_ok,cSc_ok rckU_ok,cSc_ok rckG_ok,trivial⟩) (by simp) ?_
  conv=>whnf
  have hmu:=eU_len d.us
  have hmg:=eG_len d.gs
  have hdu:=hd.u
  have hdg:=hd.g
  refine ⟨d.r.st,rfl,hd.r,?_⟩
  conv=>whnf
  refine Fork.mk (fun h=>?_) (fun h=>?_)
  · have h1:ckS d.r ≠ 0:=by simpa using h
    conv=>whnf
    exact kI hk (by rw [ckD,if_pos h1])
  have h1:¬ ckS d.r ≠ 0:=by simpa using h
  clear h
  conv=>whnf
  refine Fork.mk (fun h=>?_) (fun h=>?_)
  · conv=>whnf
    repeat' ((first | refine fork_t ?_ | refine fork_f ?_ | (refine Fork.mk (fun h=>?_) (fun h=>?_);focus (simp at h;done)) | fail) <;> (conv=>whnf))
    exact kI hk (by rw [ckD,if_neg h1,if_pos (by left;simp at h;omega)])
  have h2:¬ 6 < d.us.length:=by simp at h;omega
  clear h
  conv=>whnf
  refine Fork.mk (fun h=>?_) (fun h=>?_)
  · conv=>whnf
    repeat' ((first | refine fork_t ?_ | refine fork_f ?_ | (refine Fork.mk (fun h=>?_) (fun h=>?_);focus (simp at h;done)) | fail) <;> (conv=>whnf))
    exact kI hk (by rw [ckD,if_neg h1,if_pos (by right;simp at h;omega)])
  have h3:¬ (6 < d.us.length ∨ 8 < d.gs.length):=by simp at h;omega
  clear h
  conv=>whnf
  refine ⟨Nat,fun i=>([(1,.c (.ptr (.l 1 0) 0)),(27,.c (.lst (eU d.us))),(28,I (eU d.us).length),(29,I i)],⟨[(.l 1 0,.blk (dmC d))],9,[]⟩),
    fun i=>i≤d.us.length∧unE d.us=unE (d.us.drop i),fun i=>d.us.length - i,0,⟨Nat.zero_le _,rfl⟩,Shift.reset ⟨rfl,rfl,rfl,rfl,trivial⟩ ⟨rfl,trivial⟩ rfl rfl,fun i hi=>?_⟩
  obtain ⟨hi1,hi2⟩:=hi
  dsimp only
  conv=>whnf
  refine Fork.mk (fun h=>?_) (fun h=>?_)
  · have hi:i < d.us.length:=by simp at h;omega
    clear h
    have hci:=List.getElem?_eq_getElem hi
    have hfu:=hd.fu _ (List.getElem_mem hi)
    generalize d.us[i]=u at hci hfu
    rw [drop_of hci,unE] at hi2
    have hw1:=wr_succ (i:=i) (by omega)
    conv=>whnf
    refine ⟨by omega,unC u,by rw [Int.toNat_natCast,List.getElem?_map,hci];rfl,rfl,?_⟩
    conv=>whnf
    refine ⟨u,rfl,hfu,?_⟩
    conv=>whnf
    refine Fork.mk (fun h=>?_) (fun h=>?_)
    · have h4:ckU u ≠ 0:=by simpa using h
      rw [if_pos h4] at hi2
      conv=>whnf
      exact kI hk (by rw [ckD,if_neg h1,if_neg h3,hi2,if_pos h4])
    have h4:¬ ckU u ≠ 0:=by simpa using h
    rw [if_neg h4] at hi2
    conv=>whnf
    rw [hw1]
    exact ⟨i+1,⟨hi,hi2⟩,Shift.reset ⟨rfl,rfl,rfl,rfl,trivial⟩ ⟨rfl,trivial⟩ rfl rfl,by omega⟩
  have hie:i=d.us.length:=by simp at h;omega
  clear h
  rw [hie,List.drop_length] at hi2
  have h4:¬ unE d.us ≠ 0:=by rw [hi2];simp [unE]
  clear hi1 hi2 hie
  conv=>whnf
  refine ⟨Nat,fun i=>([(1,.c (.ptr (.l 1 0) 0)),(40,.c (.lst (eG d.gs))),(41,I (eG d.gs).length),(42,I i)],⟨[(.l 1 0,.blk (dmC d))],9,[]⟩),
    fun i=>i≤d.gs.length∧gtE d.gs=gtE (d.gs.drop i),fun i=>d.gs.length - i,0,⟨Nat.zero_le _,rfl⟩,Shift.reset ⟨rfl,rfl,rfl,rfl,trivial⟩ ⟨rfl,trivial⟩ rfl rfl,fun i hi=>?_⟩
  obtain ⟨hi1,hi2⟩:=hi
  dsimp only
  conv=>whnf
  refine Fork.mk (fun h=>?_) (fun h=>?_)
  · have hi:i < d.gs.length:=by simp at h;omega
    clear h
    have hci:=List.getElem?_eq_getElem hi
    have hfg:=hd.fg _ (List.getElem_mem hi)
    generalize d.gs[i]=g at hci hfg
    rw [drop_of hci,gtE] at hi2
    have hw1:=wr_succ (i:=i) (by omega)
    conv=>whnf
    refine ⟨by omega,gtC g,by rw [Int.toNat_natCast,List.getElem?_map,hci];rfl,rfl,?_⟩
    conv=>whnf
    refine ⟨g,rfl,hfg,?_⟩
    conv=>whnf
    refine Fork.mk (fun h=>?_) (fun h=>?_)
    · have h5:ckG g ≠ 0:=by simpa using h
      rw [if_pos h5] at hi2
      conv=>whnf
      exact kI hk (by rw [ckD,if_neg h1,if_neg h3,if_neg h4,hi2,if_pos h5])
    have h5:¬ ckG g ≠ 0:=by simpa using h
    rw [if_neg h5] at hi2
    conv=>whnf
    rw [hw1]
    exact ⟨i+1,⟨hi,hi2⟩,Shift.reset ⟨rfl,rfl,rfl,rfl,trivial⟩ ⟨rfl,trivial⟩ rfl rfl,by omega⟩
  have hie:i=d.gs.length:=by simp at h;omega
  clear h
  rw [hie,List.drop_length] at hi2
  have h5:¬ gtE d.gs ≠ 0:=by rw [hi2];simp [gtE]
  clear hi1 hi2 hie
  conv=>whnf
  refine Fork.mk (fun h=>?_) (fun h=>?_)
  · conv=>whnf
    repeat' ((first | refine fork_t ?_ | refine fork_f ?_ | (refine Fork.mk (fun h=>?_) (fun h=>?_);focus (simp at h;done)) | fail) <;> (conv=>whnf))
    exact kI hk (by rw [ckD,if_neg h1,if_neg h3,if_neg h4,if_neg h5,if_pos (by left;simpa using h)])
  conv=>whnf
  refine Fork.mk (fun h'=>?_) (fun h'=>?_)
  · conv=>whnf
    repeat' ((first | refine fork_t ?_ | refine fork_f ?_ | (refine Fork.mk (fun h=>?_) (fun h=>?_);focus (simp at h;done)) | fail) <;> (conv=>whnf))
    exact kI hk (by rw [ckD,if_neg h1,if_neg h3,if_neg h4,if_neg h5,if_pos (by right;simpa using h')])
  conv=>whnf
  exact kI hk (by rw [ckD,if_neg h1,if_neg h3,if_neg h4,if_neg h5,if_neg (by simp at h h';omega)])
theorem crst_ok:FunR Tryz.prog 151 R_crst:=by
  intro args k h
  obtain ⟨d,rfl,hd,hk⟩:=h
  refine does_ex (qc:=qc1) (np:=[]) (CK:=ckK [(153,cSc R_val)]) mixed Tryz.func151 rfl rfl Tryz.ntmps151 Tryz.results151 τ_ok (by kernel_rfl) (ckK_ok ⟨cSc_ok val_ok,trivial⟩) (by simp) ?_
  conv=>whnf
  refine ⟨d.r.st,rfl,(ckS_ok (ckD_ok hd).s).1,?_⟩
  conv=>whnf
  exact hk
end Go.Proofs

namespace Go.Proofs
open Go Go.Abs
set_option linter.unusedSimpArgs false
set_option linter.unusedVariables false
set_option maxRecDepth 4000
theorem dfit_ok:FunR Tryz.prog 150 R_dfit:=by
  intro args k h
  obtain ⟨d,s,rfl,hck,hd,hs,hk⟩:=h
  have hmu:=eU_len d.us
  have hmg:=eG_len d.gs
  have hmz:=eQ_len s.us
  have hmy:=eS_len s.gs
  have hdu:=hd.u
  have hdg:=hd.g
  refine does_ex (qc:=qc1) (np:=[]) (CK:=ckK [(151,cSc R_crst),(117,cSc R_within),(152,cSc (R_usB validB))]) mixed Tryz.func150 rfl rfl Tryz.ntmps150 Tryz.results150 τ_ok (by kernel_rfl) (ckK_ok ⟨cSc_ok crst_ok,cSc_ok within_ok,cSc_ok valid_ok,trivial⟩) (by simp) ?_
  conv=>whnf
  refine ⟨d,rfl,hck,?_⟩
  conv=>whnf
  refine Fork.mk (fun h=>?_) (fun h=>?_)
  · have c1:inB 0 (valC d.r.st d.r.crest) s.vol=false:=by simp [inB] at h ⊢;omega
    conv=>whnf
    repeat' ((first | refine fork_t ?_ | refine fork_f ?_ | (refine Fork.mk (fun h=>?_) (fun h=>?_);focus (simp at h;done)) | fail) <;> (conv=>whnf))
    exact kBo hk (by simp [fitD,c1])
  have c1:inB 0 (valC d.r.st d.r.crest) s.vol=true:=by simp [inB] at h ⊢;omega
  clear h
  conv=>whnf
  refine Fork.mk (fun h=>?_) (fun h=>?_)
  · have c2:inB 0 1073741824 s.rel=false:=by simp [inB] at h ⊢;omega
    conv=>whnf
    repeat' ((first | refine fork_t ?_ | refine fork_f ?_ | (refine Fork.mk (fun h=>?_) (fun h=>?_);focus (simp at h;done)) | fail) <;> (conv=>whnf))
    exact kBo hk (by simp [fitD,c2])
  have c2:inB 0 1073741824 s.rel=true:=by simp [inB] at h ⊢;omega
  clear h
  conv=>whnf
  refine Fork.mk (fun h=>?_) (fun h=>?_)
  · have c3:¬ s.us.length=d.us.length:=by simp at h;omega
    conv=>whnf
    repeat' ((first | refine fork_t ?_ | refine fork_f ?_ | (refine Fork.mk (fun h=>?_) (fun h=>?_);focus (simp at h;done)) | fail) <;> (conv=>whnf))
    exact kBo hk (by simp [fitD,c3])
  have c3:s.us.length=d.us.length:=by simp at h;omega
  clear h
  conv=>whnf
  refine Fork.mk (fun h=>?_) (fun h=>?_)
  · have c4:¬ s.gs.length=d.gs.length:=by simp at h;omega
    conv=>whnf
    repeat' ((first | refine fork_t ?_ | refine fork_f ?_ | (refine Fork.mk (fun h=>?_) (fun h=>?_);focus (simp at h;done)) | fail) <;> (conv=>whnf))
    exact kBo hk (by simp [fitD,c4])
  have c4:s.gs.length=d.gs.length:=by simp at h;omega
  clear h
  have ff:usB d.us s.us=false→fitD d s=false:=fun e=>by simp [fitD,e]
  have gf:gsB d.gs s.gs=false→fitD d s=false:=fun e=>by simp [fitD,e]
  conv=>whnf
  refine ⟨Nat,fun i=>([(2,.c (.ptr (.l 2 0) 0)),(3,.c (.ptr (.l 3 1) 0)),(40,.c (.lst (eU d.us))),(41,I (eU d.us).length),(42,I i)],⟨[(.l 2 0,.blk (dmC d)),(.l 3 1,.blk (dtC s))],9,[]⟩),
    fun i=>i≤d.us.length∧usB d.us s.us=usB (d.us.drop i) (s.us.drop i),fun i=>d.us.length - i,0,⟨Nat.zero_le _,rfl⟩,Shift.reset ⟨rfl,rfl,rfl,rfl,rfl,trivial⟩ ⟨rfl,rfl,trivial⟩ rfl rfl,fun i hi=>?_⟩
  obtain ⟨hi1,hi2⟩:=hi
  dsimp only
  conv=>whnf
  refine Fork.mk (fun h=>?_) (fun h=>?_)
  · have hi:i < d.us.length:=by simp at h;omega
    clear h
    have hci:=List.getElem?_eq_getElem hi
    have hcs:=List.getElem?_eq_getElem (show i < s.us.length by omega)
    have hfu:=hd.fu _ (List.getElem_mem hi)
    generalize d.us[i]=u at hci hfu
    generalize s.us[i]=z at hcs
    rw [drop_of hci,drop_of hcs,usB] at hi2
    have hw1:=wr_succ (i:=i) (by omega)
    conv=>whnf
    refine ⟨by omega,unC u,by rw [Int.toNat_natCast,List.getElem?_map,hci];rfl,rfl,?_⟩
    conv=>whnf
    refine ⟨by omega,usC z,by rw [Int.toNat_natCast,List.getElem?_map,hcs];rfl,rfl,?_⟩
    conv=>whnf
    refine ⟨u,z,rfl,hfu,?_⟩
    conv=>whnf
    refine Fork.mk (fun h=>?_) (fun h=>?_)
    · have h4:validB u z=false:=by simpa using h
      rw [h4] at hi2
      conv=>whnf
      exact kBo hk (ff (by rw [hi2];rfl))
    have h4:validB u z=true:=by simpa using h
    rw [h4,Bool.true_and] at hi2
    conv=>whnf
    rw [hw1]
    exact ⟨i+1,⟨hi,hi2⟩,Shift.reset ⟨rfl,rfl,rfl,rfl,rfl,trivial⟩ ⟨rfl,rfl,trivial⟩ rfl rfl,by omega⟩
  have hie:i=d.us.length:=by simp at h;omega
  clear h
  rw [hie,List.drop_length] at hi2
  have hub:usB d.us s.us=true:=by rw [hi2];rfl
  clear hi1 hi2 hie
  conv=>whnf
  refine ⟨Nat,fun i=>([(3,.c (.ptr (.l 3 1) 0)),(57,.c (.lst (eG d.gs))),(58,I (eG d.gs).length),(59,I i)],⟨[(.l 3 1,.blk (dtC s))],9,[]⟩),
    fun i=>i≤d.gs.length∧gsB d.gs s.gs=gsB (d.gs.drop i) (s.gs.drop i),fun i=>d.gs.length - i,0,⟨Nat.zero_le _,rfl⟩,Shift.reset ⟨rfl,rfl,rfl,rfl,trivial⟩ ⟨rfl,trivial⟩ rfl rfl,fun i hi=>?_⟩
  obtain ⟨hi1,hi2⟩:=hi
  dsimp only
  conv=>whnf
  refine Fork.mk (fun h=>?_) (fun h=>?_)
  · have hi:i < d.gs.length:=by simp at h;omega
    clear h
    have hci:=List.getElem?_eq_getElem hi
    have hcs:=List.getElem?_eq_getElem (show i < s.gs.length by omega)
    generalize d.gs[i]=g at hci
    generalize s.gs[i]=z at hcs
    rw [drop_of hci,drop_of hcs,gsB] at hi2
    have hw1:=wr_succ (i:=i) (by omega)
    conv=>whnf
    refine ⟨by omega,gtC g,by rw [Int.toNat_natCast,List.getElem?_map,hci];rfl,rfl,?_⟩
    conv=>whnf
    refine ⟨by omega,gsC z,by rw [Int.toNat_natCast,List.getElem?_map,hcs];rfl,rfl,?_⟩
    conv=>whnf
    refine Fork.mk (fun h=>?_) (fun h=>?_)
    · have h4:okS g z=false:=by first | (simp [okS,inB] at h ⊢;omega) | simpa using h
      rw [h4] at hi2
      conv=>whnf
      exact kBo hk (gf (by rw [hi2];rfl))
    have h4:okS g z=true:=by first | (simp [okS,inB] at h ⊢;omega) | simpa using h
    rw [h4,Bool.true_and] at hi2
    conv=>whnf
    rw [hw1]
    exact ⟨i+1,⟨hi,hi2⟩,Shift.reset ⟨rfl,rfl,rfl,rfl,trivial⟩ ⟨rfl,trivial⟩ rfl rfl,by omega⟩
  have hie:i=d.gs.length:=by simp at h;omega
  clear h
  rw [hie,List.drop_length] at hi2
  have hgb:gsB d.gs s.gs=true:=by rw [hi2];rfl
  clear hi1 hi2 hie
  conv=>whnf
  exact kBo hk (by simp [fitD,c1,c2,c3,c4,hub,hgb])
theorem dval_ok:FunR Tryz.prog 146 (R_dsB validD):=by
  intro args k h
  obtain ⟨d,s,rfl,hd,hs,hk⟩:=h
  refine does_ex (qc:=qc1) (np:=[]) (CK:=ckK [(74,cSc (R_dmI ckD)),(150,cSc R_dfit)]) mixed Tryz.func146 rfl rfl Tryz.ntmps146 Tryz.results146 τ_ok (by kernel_rfl) (ckK_ok ⟨cSc_ok ckD_prog,cSc_ok dfit_ok,trivial⟩) (by simp) ?_
  conv=>whnf
  refine ⟨d,rfl,hd,?_⟩
  conv=>whnf
  refine Fork.mk (fun h=>?_) (fun h=>?_)
  · have h1:ckD d=0:=by simpa using h
    conv=>whnf
    refine ⟨d,s,rfl,h1,hd,hs,?_⟩
    conv=>whnf
    exact kBo hk (by simp [validD,h1])
  have h1:¬ ckD d=0:=by simpa using h
  conv=>whnf
  exact kBo hk (by simp [validD,h1])
theorem rdval_ok:FunR Tryz.prog 63 (R_dsB validD):=by
  intro args k h
  obtain ⟨d,s,rfl,hd,hs,hk⟩:=h
  have hmu:=eU_len d.us
  have hmg:=eG_len d.gs
  have hmz:=eQ_len s.us
  have hmy:=eS_len s.gs
  have hdu:=hd.u
  have hdg:=hd.g
  refine does_ex (qc:=qc1) (np:=[]) (CK:=ckK [(61,cSc (R_dmI ckD)),(49,cSc R_within),(84,cSc (R_rs1 volS)),(96,cSc (R_usB validB)),(97,cSc R_okS)]) mixed Tryz.func63 rfl rfl Tryz.ntmps63 Tryz.results63 τ_ok (by kernel_rfl) (ckK_ok ⟨cSc_ok rckD_ok,cSc_ok rIn_ok,cSc_ok rvolS_ok,cSc_ok rvalid_ok,cSc_ok rokS_ok,trivial⟩) (by simp) ?_
  conv=>whnf
  refine ⟨d,rfl,hd,?_⟩
  conv=>whnf
  refine Fork.mk (fun h=>?_) (fun h=>?_)
  · have h1:¬ ckD d=0:=by simpa using h
    conv=>whnf
    repeat' ((first | refine fork_t ?_ | refine fork_f ?_ | (refine Fork.mk (fun h=>?_) (fun h=>?_);focus (simp at h;done)) | fail) <;> (conv=>whnf))
    exact kBo hk (by simp [validD,h1])
  have hck:ckD d=0:=by simpa using h
  clear h
  have hok:=ckD_ok hck
  conv=>whnf
  refine Fork.mk (fun h=>?_) (fun h=>?_)
  · have c3:¬ s.us.length=d.us.length:=by simp at h;omega
    conv=>whnf
    repeat' ((first | refine fork_t ?_ | refine fork_f ?_ | (refine Fork.mk (fun h=>?_) (fun h=>?_);focus (simp at h;done)) | fail) <;> (conv=>whnf))
    exact kBo hk (by simp [validD,fitD,c3])
  have c3:s.us.length=d.us.length:=by simp at h;omega
  clear h
  conv=>whnf
  refine Fork.mk (fun h=>?_) (fun h=>?_)
  · have c4:¬ s.gs.length=d.gs.length:=by simp at h;omega
    conv=>whnf
    repeat' ((first | refine fork_t ?_ | refine fork_f ?_ | (refine Fork.mk (fun h=>?_) (fun h=>?_);focus (simp at h;done)) | fail) <;> (conv=>whnf))
    exact kBo hk (by simp [validD,fitD,c4])
  have c4:s.gs.length=d.gs.length:=by simp at h;omega
  clear h
  conv=>whnf
  refine Fork.mk (fun h=>?_) (fun h=>?_)
  · have c2:inB 0 1073741824 s.rel=false:=by simp [inB] at h ⊢;omega
    conv=>whnf
    repeat' ((first | refine fork_t ?_ | refine fork_f ?_ | (refine Fork.mk (fun h=>?_) (fun h=>?_);focus (simp at h;done)) | fail) <;> (conv=>whnf))
    exact kBo hk (by simp [validD,fitD,c2])
  have c2:inB 0 1073741824 s.rel=true:=by simp [inB] at h ⊢;omega
  clear h
  conv=>whnf
  refine ⟨d.r.st,rfl,hd.r,?_⟩
  have ev:(volS d.r d.r.crest).1=valC d.r.st d.r.crest:=by rw [volS_of hok.s (crest_in hok.s)]
  conv=>whnf
  rw [show volS ⟨d.r.st,d.r.dead,d.r.low,d.r.full,d.r.sur,d.r.crest⟩ d.r.crest=volS d.r d.r.crest from rfl,ev]
  refine Fork.mk (fun h=>?_) (fun h=>?_)
  · have c1:inB 0 (valC d.r.st d.r.crest) s.vol=false:=by simp [inB] at h ⊢;omega
    conv=>whnf
    repeat' ((first | refine fork_t ?_ | refine fork_f ?_ | (refine Fork.mk (fun h=>?_) (fun h=>?_);focus (simp at h;done)) | fail) <;> (conv=>whnf))
    exact kBo hk (by simp [validD,fitD,c1])
  have c1:inB 0 (valC d.r.st d.r.crest) s.vol=true:=by simp [inB] at h ⊢;omega
  clear h
  have ff:usB d.us s.us=false→validD d s=false:=fun e=>by simp [validD,fitD,e]
  have gf:gsB d.gs s.gs=false→validD d s=false:=fun e=>by simp [validD,fitD,e]
  conv=>whnf
  refine ⟨Nat,fun i=>([(2,.c (.ptr (.l 2 0) 0)),(3,.c (.ptr (.l 3 1) 0)),(53,.c (.lst (eU d.us))),(54,I (eU d.us).length),(55,I i)],⟨[(.l 2 0,.blk (dmC d)),(.l 3 1,.blk (dtC s))],9,[]⟩),
    fun i=>i≤d.us.length∧usB d.us s.us=usB (d.us.drop i) (s.us.drop i),fun i=>d.us.length - i,0,⟨Nat.zero_le _,rfl⟩,Shift.reset ⟨rfl,rfl,rfl,rfl,rfl,trivial⟩ ⟨rfl,rfl,trivial⟩ rfl rfl,fun i hi=>?_⟩
  obtain ⟨hi1,hi2⟩:=hi
  dsimp only
  conv=>whnf
  refine Fork.mk (fun h=>?_) (fun h=>?_)
  · have hi:i < d.us.length:=by simp at h;omega
    clear h
    have hci:=List.getElem?_eq_getElem hi
    have hcs:=List.getElem?_eq_getElem (show i < s.us.length by omega)
    have hfu:=hd.fu _ (List.getElem_mem hi)
    generalize d.us[i]=u at hci hfu
    generalize s.us[i]=z at hcs
    rw [drop_of hci,drop_of hcs,usB] at hi2
    have hw1:=wr_succ (i:=i) (by omega)
    conv=>whnf
    refine ⟨by omega,unC u,by rw [Int.toNat_natCast,List.getElem?_map,hci];rfl,rfl,?_⟩
    conv=>whnf
    refine ⟨by omega,usC z,by rw [Int.toNat_natCast,List.getElem?_map,hcs];rfl,rfl,?_⟩
    conv=>whnf
    refine ⟨u,z,rfl,hfu,?_⟩
    conv=>whnf
    refine Fork.mk (fun h=>?_) (fun h=>?_)
    · have h4:validB u z=false:=by simpa using h
      rw [h4] at hi2
      conv=>whnf
      exact kBo hk (ff (by rw [hi2];rfl))
    have h4:validB u z=true:=by simpa using h
    rw [h4,Bool.true_and] at hi2
    conv=>whnf
    rw [hw1]
    exact ⟨i+1,⟨hi,hi2⟩,Shift.reset ⟨rfl,rfl,rfl,rfl,rfl,trivial⟩ ⟨rfl,rfl,trivial⟩ rfl rfl,by omega⟩
  have hie:i=d.us.length:=by simp at h;omega
  clear h
  rw [hie,List.drop_length] at hi2
  have hub:usB d.us s.us=true:=by rw [hi2];rfl
  clear hi1 hi2 hie
  conv=>whnf
  refine ⟨Nat,fun i=>([(3,.c (.ptr (.l 3 1) 0)),(70,.c (.lst (eG d.gs))),(71,I (eG d.gs).length),(72,I i)],⟨[(.l 3 1,.blk (dtC s))],9,[]⟩),
    fun i=>i≤d.gs.length∧gsB d.gs s.gs=gsB (d.gs.drop i) (s.gs.drop i),fun i=>d.gs.length - i,0,⟨Nat.zero_le _,rfl⟩,Shift.reset ⟨rfl,rfl,rfl,rfl,trivial⟩ ⟨rfl,trivial⟩ rfl rfl,fun i hi=>?_⟩
  obtain ⟨hi1,hi2⟩:=hi
  dsimp only
  conv=>whnf
  refine Fork.mk (fun h=>?_) (fun h=>?_)
  · have hi:i < d.gs.length:=by simp at h;omega
    clear h
    have hci:=List.getElem?_eq_getElem hi
    have hcs:=List.getElem?_eq_getElem (show i < s.gs.length by omega)
    generalize d.gs[i]=g at hci
    generalize s.gs[i]=z at hcs
    rw [drop_of hci,drop_of hcs,gsB] at hi2
    have hw1:=wr_succ (i:=i) (by omega)
    conv=>whnf
    refine ⟨by omega,gtC g,by rw [Int.toNat_natCast,List.getElem?_map,hci];rfl,rfl,?_⟩
    conv=>whnf
    refine ⟨by omega,gsC z,by rw [Int.toNat_natCast,List.getElem?_map,hcs];rfl,rfl,?_⟩
    conv=>whnf
    refine ⟨g,z,rfl,?_⟩
    conv=>whnf
    refine Fork.mk (fun h=>?_) (fun h=>?_)
    · have h4:okS g z=false:=by first | (simp [okS,inB] at h ⊢;omega) | simpa using h
      rw [h4] at hi2
      conv=>whnf
      exact kBo hk (gf (by rw [hi2];rfl))
    have h4:okS g z=true:=by first | (simp [okS,inB] at h ⊢;omega) | simpa using h
    rw [h4,Bool.true_and] at hi2
    conv=>whnf
    rw [hw1]
    exact ⟨i+1,⟨hi,hi2⟩,Shift.reset ⟨rfl,rfl,rfl,rfl,trivial⟩ ⟨rfl,trivial⟩ rfl rfl,by omega⟩
  have hie:i=d.gs.length:=by simp at h;omega
  clear h
  rw [hie,List.drop_length] at hi2
  have hgb:gsB d.gs s.gs=true:=by rw [hi2];rfl
  clear hi1 hi2 hie
  conv=>whnf
  exact kBo hk (by simp [validD,hck,fitD,c1,c2,c3,c4,hub,hgb])
theorem dwrong_ok:FunR Tryz.prog 121 (R_dsI wrongD):=by
  intro args k h
  obtain ⟨d,s,rfl,hd,hs,hk⟩:=h
  refine does_ex (qc:=qc1) (np:=[]) (CK:=ckK [(61,cSc (R_dmI ckD)),(63,cSc (R_dsB validD))]) mixed Tryz.func121 rfl rfl Tryz.ntmps121 Tryz.results121 τ_ok (by kernel_rfl) (ckK_ok ⟨cSc_ok rckD_ok,cSc_ok rdval_ok,trivial⟩) (by simp) ?_
  conv=>whnf
  refine ⟨d,rfl,hd,?_⟩
  conv=>whnf
  refine Fork.mk (fun h=>?_) (fun h=>?_)
  · have h1:ckD d ≠ 0:=by simpa using h
    conv=>whnf
    exact kI hk (by rw [wrongD,if_pos h1])
  have h1:¬ ckD d ≠ 0:=by simpa using h
  clear h
  conv=>whnf
  refine ⟨d,s,rfl,hd,hs,?_⟩
  conv=>whnf
  refine Fork.mk (fun h=>?_) (fun h=>?_)
  · conv=>whnf
    exact kI hk (by rw [wrongD,if_neg h1,if_pos (by simpa using h)])
  conv=>whnf
  exact kI hk (by rw [wrongD,if_neg h1,if_neg (by simpa using h)])
theorem dlev_ok:FunR Tryz.prog 98 R_levD:=by
  intro args k h
  obtain ⟨d,s,rfl,hd,hs,hk⟩:=h
  refine does_ex (qc:=qc1) (np:=[]) (CK:=ckK [(121,cSc (R_dsI wrongD)),(122,cSc (R_rs1 levS))]) mixed Tryz.func98 rfl rfl Tryz.ntmps98 Tryz.results98 τ_ok (by kernel_rfl) (ckK_ok ⟨cSc_ok dwrong_ok,cSc_ok rlevS_ok,trivial⟩) (by simp) ?_
  conv=>whnf
  refine ⟨d,s,rfl,hd,hs,?_⟩
  conv=>whnf
  refine Fork.mk (fun h=>?_) (fun h=>?_)
  · have h1:wrongD d s ≠ 0:=by simpa using h
    conv=>whnf
    exact kI2 hk (by rw [levD,if_pos h1])
  have h1:¬ wrongD d s ≠ 0:=by simpa using h
  clear h
  conv=>whnf
  refine ⟨d.r.st,rfl,hd.r,?_⟩
  conv=>whnf
  rw [show levD d s=levS d.r s.vol by rw [levD,if_neg h1]] at hk
  exact hk
end Go.Proofs
