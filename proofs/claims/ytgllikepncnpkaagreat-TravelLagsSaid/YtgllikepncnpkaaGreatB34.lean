/- Proved here: what functions of the given program come to, and the plain laws of it; no condition but those in the theorems. -/
import Derived.Test.YtgllikepncnpkaaGreatPGate3
import Derived.Test.YtgllikepncnpkaaGreatPStorage2
import Derived.Test.YtgllikepncnpkaaGreatProg
namespace Go.Proofs
open Go Go.Abs
set_option linter.unusedSimpArgs false
set_option linter.unusedVariables false
abbrev eU (l:List Un):List (List Cell):=l.map unC
abbrev eQ (l:List Us):List (List Cell):=l.map usC
theorem eU_len (l:List Un):(eU l).length=l.length:=List.length_map _
theorem eQ_len (l:List Us):(eQ l).length=l.length:=List.length_map _
structure Dm where
  r:Rs
  us:List Un
  gs:List Gt
  gr:Int
def dmC (d:Dm):List Cell:=[.lst (eP d.r.st),IC d.r.dead,IC d.r.low,IC d.r.full,IC d.r.sur,IC d.r.crest,.lst (eU d.us),.lst (eG d.gs),IC d.gr]
structure Dt where
  vol:Int
  rel:Int
  us:List Us
  gs:List Gs
def dtC (s:Dt):List Cell:=[IC s.vol,IC s.rel,.lst (eQ s.us),.lst (eS s.gs)]
structure Dm.fin (d:Dm):Prop where
  r:d.r.st.length≤9223372036854775807
  u:d.us.length≤9223372036854775807
  g:d.gs.length≤9223372036854775807
  fu:∀ u ∈ d.us,u.fin
  fg:∀ g ∈ d.gs,g.fin
structure Dt.fin (s:Dt):Prop where
  u:s.us.length≤9223372036854775807
  g:s.gs.length≤9223372036854775807
def unE:List Un→Int
  | []=>0
  | u :: l=>if ckU u ≠ 0 then ckU u else unE l
def gtE:List Gt→Int
  | []=>0
  | g :: l=>if ckG g ≠ 0 then ckG g else gtE l
def ckD (d:Dm):Int:=if ckS d.r ≠ 0 then ckS d.r else if 6 < d.us.length ∨ 8 < d.gs.length then 10 else if unE d.us ≠ 0 then unE d.us else if gtE d.gs ≠ 0 then gtE d.gs else if d.gr < 1 ∨ 1073741824 < d.gr then 1 else 0
def usB:List Un→List Us→Bool
  | u :: us,s :: ss=>validB u s && usB us ss
  | _,_=>true
def gsB:List Gt→List Gs→Bool
  | g :: gs,s :: ss=>okS g s && gsB gs ss
  | _,_=>true
def fitD (d:Dm) (s:Dt):Bool:=inB 0 (valC d.r.st d.r.crest) s.vol && inB 0 1073741824 s.rel && decide (s.us.length=d.us.length) && decide (s.gs.length=d.gs.length) && usB d.us s.us && gsB d.gs s.gs
def validD (d:Dm) (s:Dt):Bool:=decide (ckD d=0) && fitD d s
def wrongD (d:Dm) (s:Dt):Int:=if ckD d ≠ 0 then ckD d else if validD d s=false then 3 else 0
def levD (d:Dm) (s:Dt):Int × Int:=if wrongD d s ≠ 0 then (0,wrongD d s) else levS d.r s.vol
theorem unE_ok:∀ {l:List Un},unE l=0→∀ u ∈ l,ckU u=0
  | [],_,u,h=>by simp at h
  | a :: l,h,u,hu=>by
    rw [unE] at h
    split at h
    · rename_i e;exact absurd h e
    rename_i e
    rcases List.mem_cons.1 hu with rfl | hu
    · omega
    · exact unE_ok h u hu
theorem gtE_ok:∀ {l:List Gt},gtE l=0→∀ g ∈ l,ckG g=0
  | [],_,u,h=>by simp at h
  | a :: l,h,u,hu=>by
    rw [gtE] at h
    split at h
    · rename_i e;exact absurd h e
    rename_i e
    rcases List.mem_cons.1 hu with rfl | hu
    · omega
    · exact gtE_ok h u hu
theorem unE_of:∀ {l:List Un},(∀ u ∈ l,ckU u=0)→unE l=0
  | [],_=>rfl
  | a :: l,h=>by rw [unE,if_neg (by simp [h a (by simp)])];exact unE_of fun u hu=>h u (by simp [hu])
theorem gtE_of:∀ {l:List Gt},(∀ g ∈ l,ckG g=0)→gtE l=0
  | [],_=>rfl
  | a :: l,h=>by rw [gtE,if_neg (by simp [h a (by simp)])];exact gtE_of fun u hu=>h u (by simp [hu])
structure DOk (d:Dm):Prop where
  s:ckS d.r=0
  n:d.us.length≤6
  m:d.gs.length≤8
  u:∀ u ∈ d.us,ckU u=0
  g:∀ g ∈ d.gs,ckG g=0
  gr:1≤d.gr∧d.gr≤1073741824
theorem ckD_ok {d:Dm} (h:ckD d=0):DOk d:=by
  unfold ckD at h
  split at h
  · rename_i e;exact absurd h e
  split at h
  · omega
  split at h
  · rename_i e;exact absurd h e
  split at h
  · rename_i e;exact absurd h e
  split at h
  · omega
  exact ⟨by omega,by omega,by omega,unE_ok (by omega),gtE_ok (by omega),by omega⟩
theorem ckD_of {d:Dm} (h:DOk d):ckD d=0:=by
  have a:=h.n
  have b:=h.m
  have c:=h.gr
  unfold ckD
  rw [if_neg (by simp [h.s]),if_neg (by omega),if_neg (by simp [unE_of h.u]),if_neg (by simp [gtE_of h.g]),if_neg (by omega)]
theorem crest_in {r:Rs} (h:ckS r=0):0≤r.crest∧r.crest≤16777216:=by
  have a:=srt_lv h
  have b:=dead_in h
  obtain ⟨_,_,h3,_,_⟩:=ckS_ok h
  omega
def R_dmI (f:Dm→Int):RT:=fun args k=>∃ d:Dm,args=[.agg (dmC d)]∧d.fin∧k (I (f d))
def R_dsB (f:Dm→Dt→Bool):RT:=fun args k=>∃ (d:Dm) (s:Dt),args=[.agg (dmC d),.agg (dtC s)]∧d.fin∧s.fin∧k (Bo (f d s))
def R_dsI (f:Dm→Dt→Int):RT:=fun args k=>∃ (d:Dm) (s:Dt),args=[.agg (dmC d),.agg (dtC s)]∧d.fin∧s.fin∧k (I (f d s))
def R_dfit:RT:=fun args k=>∃ (d:Dm) (s:Dt),args=[.agg (dmC d),.agg (dtC s)]∧ckD d=0∧d.fin∧s.fin∧k (Bo (fitD d s))
def R_crst:RT:=fun args k=>∃ d:Dm,args=[.agg (dmC d)]∧ckD d=0∧k (I (valC d.r.st d.r.crest))
def R_levD:RT:=fun args k=>∃ (d:Dm) (s:Dt),args=[.agg (dmC d),.agg (dtC s)]∧d.fin∧s.fin∧k (.tup [I (levD d s).1,I (levD d s).2])
end Go.Proofs

namespace Go.Proofs
open Go Go.Abs
set_option linter.unusedSimpArgs false
set_option linter.unusedVariables false
set_option maxRecDepth 4000
def τ:List (Nat × TI):=[
 (3,{ agg:=false,size:=1,bytes:=8,zero:=[.int .i64 0],d:=.int .i64 }),
 (4,{ agg:=false,size:=1,bytes:=1,zero:=[.bool false],d:=.bool }),
 (5,{ agg:=false,size:=1,bytes:=1,zero:=[.int .u8 0],d:=.int .u8 }),
 (22,{ agg:=false,size:=1,bytes:=24,zero:=[.slice none 0 0],d:=.slice 3 }),
 (25,{ agg:=false,size:=1,bytes:=8,zero:=[.pointer none],d:=.other }),
 (27,{ agg:=false,size:=1,bytes:=24,zero:=[.slice none 0 0],d:=.slice 58 }),
 (29,{ agg:=true,size:=2,bytes:=32,zero:=[.int .i64 0,.slice none 0 0],d:=.struct [(0,3),(1,27)] }),
 (30,{ agg:=false,size:=1,bytes:=24,zero:=[.slice none 0 0],d:=.slice 73 }),
 (32,{ agg:=true,size:=3,bytes:=56,zero:=[.int .i64 0,.slice none 0 0,.slice none 0 0],d:=.struct [(0,29),(2,30)] }),
 (33,{ agg:=false,size:=1,bytes:=24,zero:=[.slice none 0 0],d:=.slice 117 }),
 (34,{ agg:=false,size:=1,bytes:=24,zero:=[.slice none 0 0],d:=.slice 85 }),
 (36,{ agg:=true,size:=3,bytes:=56,zero:=[.int .i64 0,.slice none 0 0,.slice none 0 0],d:=.struct [(0,3),(1,33),(2,34)] }),
 (39,{ agg:=false,size:=1,bytes:=24,zero:=[.slice none 0 0],d:=.slice 54 }),
 (42,{ agg:=false,size:=1,bytes:=24,zero:=[.slice none 0 0],d:=.slice 49 }),
 (43,{ agg:=false,size:=1,bytes:=8,zero:=[.int .i64 0],d:=.int .i64 }),
 (46,{ agg:=false,size:=1,bytes:=24,zero:=[.slice none 0 0],d:=.slice 22 }),
 (47,{ agg:=false,size:=1,bytes:=24,zero:=[.slice none 0 0],d:=.slice 51 }),
 (49,{ agg:=true,size:=3,bytes:=72,zero:=[.slice none 0 0,.slice none 0 0,.slice none 0 0],d:=.struct [(0,47),(1,22),(2,22)] }),
 (51,{ agg:=true,size:=7,bytes:=56,zero:=[.int .i64 0,.int .i64 0,.int .i64 0,.int .i64 0,.int .i64 0,.int .i64 0,.int .i64 0],d:=.struct [(0,3),(1,3),(2,3),(3,3),(4,3),(5,3),(6,3)],eq:=[true,true,true,true,true,true,true] }),
 (54,{ agg:=true,size:=3,bytes:=72,zero:=[.slice none 0 0,.slice none 0 0,.slice none 0 0],d:=.struct [(0,22),(1,22),(2,22)] }),
 (56,{ agg:=true,size:=2,bytes:=32,zero:=[.slice none 0 0,.int .i64 0],d:=.struct [(0,22),(1,3)] }),
 (58,{ agg:=true,size:=4,bytes:=48,zero:=[.int .i64 0,.int .i64 0,.slice none 0 0,.int .i64 0],d:=.struct [(0,3),(1,3),(2,56)] }),
 (62,{ agg:=false,size:=1,bytes:=24,zero:=[.slice none 0 0],d:=.slice 5 }),
 (65,{ agg:=false,size:=1,bytes:=24,zero:=[.slice none 0 0],d:=.slice 181 }),
 (67,{ agg:=true,size:=6,bytes:=64,zero:=[.slice none 0 0,.int .i64 0,.int .i64 0,.int .i64 0,.int .i64 0,.int .i64 0],d:=.struct [(0,65),(1,3),(2,3),(3,3),(4,3),(5,3)] }),
 (68,{ agg:=false,size:=1,bytes:=24,zero:=[.slice none 0 0],d:=.slice 156 }),
 (69,{ agg:=false,size:=1,bytes:=24,zero:=[.slice none 0 0],d:=.slice 160 }),
 (71,{ agg:=true,size:=9,bytes:=120,zero:=[.slice none 0 0,.int .i64 0,.int .i64 0,.int .i64 0,.int .i64 0,.int .i64 0,.slice none 0 0,.slice none 0 0,.int .i64 0],d:=.struct [(0,67),(6,68),(7,69),(8,3)] }),
 (73,{ agg:=true,size:=10,bytes:=128,zero:=[.int .i64 0,.slice none 0 0,.int .i64 0,.int .i64 0,.int .i64 0,.int .i64 0,.int .i64 0,.slice none 0 0,.slice none 0 0,.int .i64 0],d:=.struct [(0,3),(1,71)] }),
 (85,{ agg:=true,size:=1,bytes:=24,zero:=[.slice none 0 0],d:=.struct [(0,22)] }),
 (90,{ agg:=false,size:=1,bytes:=24,zero:=[.slice none 0 0],d:=.slice 36 }),
 (91,{ agg:=true,size:=2,bytes:=48,zero:=[.slice none 0 0,.slice none 0 0],d:=.array 2 46 }),
 (92,{ agg:=false,size:=1,bytes:=24,zero:=[.slice none 0 0],d:=.slice 91 }),
 (96,{ agg:=true,size:=2,bytes:=32,zero:=[.slice none 0 0,.int .i64 0],d:=.struct [(0,22),(1,3)] }),
 (108,{ agg:=false,size:=1,bytes:=8,zero:=[.nilFunc],d:=.other }),
 (114,{ agg:=false,size:=1,bytes:=24,zero:=[.slice none 0 0],d:=.slice 164 }),
 (115,{ agg:=false,size:=1,bytes:=24,zero:=[.slice none 0 0],d:=.slice 167 }),
 (117,{ agg:=true,size:=4,bytes:=64,zero:=[.int .i64 0,.int .i64 0,.slice none 0 0,.slice none 0 0],d:=.struct [(0,3),(1,3),(2,114),(3,115)] }),
 (134,{ agg:=false,size:=1,bytes:=8,zero:=[.nilFunc],d:=.other }),
 (154,{ agg:=false,size:=1,bytes:=24,zero:=[.slice none 0 0],d:=.slice 190 }),
 (156,{ agg:=true,size:=6,bytes:=80,zero:=[.slice none 0 0,.int .i64 0,.int .i64 0,.slice none 0 0,.int .i64 0,.int .i64 0],d:=.struct [(0,65),(1,3),(2,3),(3,154),(4,3),(5,3)] }),
 (158,{ agg:=false,size:=1,bytes:=24,zero:=[.slice none 0 0],d:=.slice 192 }),
 (160,{ agg:=true,size:=3,bytes:=40,zero:=[.slice none 0 0,.int .i64 0,.int .i64 0],d:=.struct [(0,158),(1,3),(2,3)] }),
 (164,{ agg:=true,size:=3,bytes:=24,zero:=[.int .i64 0,.int .i64 0,.bool false],d:=.struct [(0,3),(1,3),(2,4)],eq:=[true,true,false] }),
 (167,{ agg:=true,size:=2,bytes:=16,zero:=[.int .i64 0,.bool false],d:=.struct [(0,3),(1,4)],eq:=[true,false] }),
 (174,{ agg:=false,size:=1,bytes:=8,zero:=[.nilFunc],d:=.other }),
 (178,{ agg:=false,size:=1,bytes:=8,zero:=[.nilFunc],d:=.other }),
 (181,{ agg:=true,size:=2,bytes:=16,zero:=[.int .i64 0,.int .i64 0],d:=.struct [(0,3),(1,3)],eq:=[true,true] }),
 (182,{ agg:=true,size:=5,bytes:=40,zero:=[.int .i64 0,.int .i64 0,.int .i64 0,.int .i64 0,.int .i64 0],d:=.array 5 3 }),
 (190,{ agg:=true,size:=2,bytes:=16,zero:=[.int .i64 0,.int .i64 0],d:=.struct [(0,3),(1,3)],eq:=[true,true] }),
 (192,{ agg:=true,size:=2,bytes:=32,zero:=[.int .i64 0,.slice none 0 0],d:=.struct [(0,3),(1,65)] }),
 (207,{ agg:=true,size:=7,bytes:=56,zero:=[.int .i64 0,.int .i64 0,.int .i64 0,.int .i64 0,.int .i64 0,.int .i64 0,.int .i64 0],d:=.array 7 3 }),
 (216,{ agg:=true,size:=2,bytes:=16,zero:=[.int .i64 0,.int .i64 0],d:=.array 2 3 })]
theorem τ_ok:TyOk Tryz.prog τ:=⟨by kernel_rfl,by kernel_rfl,by kernel_rfl,by kernel_rfl,by kernel_rfl,by kernel_rfl,by kernel_rfl,by kernel_rfl,by kernel_rfl,by kernel_rfl,by kernel_rfl,by kernel_rfl,by kernel_rfl,by kernel_rfl,by kernel_rfl,by kernel_rfl,by kernel_rfl,by kernel_rfl,by kernel_rfl,by kernel_rfl,by kernel_rfl,by kernel_rfl,by kernel_rfl,by kernel_rfl,by kernel_rfl,by kernel_rfl,by kernel_rfl,by kernel_rfl,by kernel_rfl,by kernel_rfl,by kernel_rfl,by kernel_rfl,by kernel_rfl,by kernel_rfl,by kernel_rfl,by kernel_rfl,by kernel_rfl,by kernel_rfl,by kernel_rfl,by kernel_rfl,by kernel_rfl,by kernel_rfl,by kernel_rfl,by kernel_rfl,by kernel_rfl,by kernel_rfl,by kernel_rfl,by kernel_rfl,by kernel_rfl,by kernel_rfl,by kernel_rfl,by kernel_rfl,by kernel_rfl,trivial⟩
theorem mixed:Tryz.prog.follows .mixedOrders=true:=by kernel_rfl
def qc1:Nat→Bool:=fun f=>match f with
  | 32 | 117 | 49 | 79 | 105 | 78 | 131 | 64 | 28 | 91 | 130 | 73 | 48 | 87 | 50 | 118 | 55 | 60 | 147 | 133 | 153 | 106 | 119 | 116 | 135 | 138 | 93 | 115 | 84 | 122 | 107 | 152 | 154 | 155 | 156 | 94 | 96 | 120 | 137 | 142 | 143 | 108 | 95 | 97 | 126 | 128 | 145 | 74 | 146 | 150 | 151 | 45 | 67 | 101 | 129 | 61 | 63 | 121 | 98 | 16 | 38 | 39 | 62 | 65 | 71 | 77 | 69 | 68 | 57 | 58 | 22 | 18 | 24 | 9 | 139 | 124 | 141 | 149 | 41=>true
  | _=>false
theorem within_ok:FunR Tryz.prog 117 R_within:=by
  intro args k h
  unfold R_within at h
  split at h
  case h_2=>exact h.elim
  rename_i x most
  refine does_ex (qc:=qc1) (np:=[]) (CK:=ckK []) mixed Tryz.func117 rfl rfl Tryz.ntmps117 Tryz.results117 τ_ok (by kernel_rfl) (ckK_ok trivial) (by simp) ?_
  conv=>whnf
  repeat' (refine Fork.mk (fun h=>?_) (fun h=>?_) <;> first | (cases h;done) | (conv=>whnf))
  all_goals simp_all [oneOf,nrm]
theorem rin_ok:FunR Tryz.prog 79 R_within:=by
  intro args k h
  unfold R_within at h
  split at h
  case h_2=>exact h.elim
  rename_i x most
  refine does_ex (qc:=qc1) (np:=[]) (CK:=ckK []) mixed Tryz.func79 rfl rfl Tryz.ntmps79 Tryz.results79 τ_ok (by kernel_rfl) (ckK_ok trivial) (by simp) ?_
  conv=>whnf
  repeat' (refine Fork.mk (fun h=>?_) (fun h=>?_) <;> first | (cases h;done) | (conv=>whnf))
  all_goals simp_all [oneOf,nrm]
theorem rIn_ok:FunR Tryz.prog 49 R_within:=by
  intro args k h
  unfold R_within at h
  split at h
  case h_2=>exact h.elim
  rename_i x most
  refine does_ex (qc:=qc1) (np:=[]) (CK:=ckK [(79,cSc R_within)]) mixed Tryz.func49 rfl rfl Tryz.ntmps49 Tryz.results49 τ_ok (by kernel_rfl) (ckK_ok ⟨cSc_ok rin_ok,trivial⟩) (by simp) ?_
  conv=>whnf
  exact h
theorem mod_ok:FunR Tryz.prog 32 R_mod:=by
  intro args k h
  unfold R_mod at h
  split at h
  case h_2=>exact h.elim
  rename_i x n
  obtain ⟨⟨h1,h2⟩,h⟩:=h
  refine does_ex (qc:=qc1) (np:=[]) (CK:=ckK []) mixed Tryz.func32 rfl rfl Tryz.ntmps32 Tryz.results32 τ_ok (by kernel_rfl) (ckK_ok trivial) (by simp) ?_
  conv=>whnf
  refine ⟨by omega,?_⟩
  conv=>whnf
  refine ⟨by omega,?_⟩
  conv=>whnf
  rw [mod_val x h1 h2]
  exact h
theorem next_ok:FunB Tryz.prog 14 R_next:=by
  intro cs args k h
  unfold R_next at h
  split at h
  case h_2=>exact h.elim
  rename_i n
  obtain ⟨d,rfl,⟨hd1,hd2⟩,hn,hk⟩:=h
  refine doesB_ex (qc:=qc1) (np:=[]) (CK:=ckK [(32,cSc R_mod)]) mixed Tryz.func14 rfl rfl Tryz.ntmps14 Tryz.results14 τ_ok (by kernel_rfl) (ckK_ok ⟨cSc_ok mod_ok,trivial⟩) (by simp) rfl rfl ?_
  conv=>whnf
  repeat' (refine Fork.mk (fun h=>?_) (fun h=>?_) <;> first | (cases h;done) | (conv=>whnf))
  · exact ⟨rfl,rfl,hk 0 d ⟨hd1,hd2⟩ (by omega) (.inr rfl)⟩
  · exact ⟨rfl,rfl,hk 0 d ⟨hd1,hd2⟩ (by omega) (.inr rfl)⟩
  · rename_i h0
    simp at h h0
    refine ⟨by omega,[IC d.L[d.at_]],by simp [h,eI],rfl,?_⟩
    conv=>whnf
    refine ⟨⟨by omega,hn⟩,?_⟩
    conv=>whnf
    refine ⟨rfl,rfl,?_⟩
    have e:IntKind.i64.wrap ((d.at_:Int)+1)=((d.at_+1:Nat):Int):=by rw [wrap_in (by omega) (by omega)];omega
    have:=hk (d.L[d.at_] % n) ⟨d.L,d.at_+1⟩ ⟨h,hd2⟩ (Int.emod_nonneg _ (by omega)) (.inl (Int.emod_lt_of_pos _ (by omega)))
    unfold dkC at this
    rw [← e] at this
    exact this
theorem new_ok:FunN Tryz.prog 11 R_new:=by
  intro args k h
  unfold R_new at h
  split at h
  case h_2=>exact h.elim
  obtain ⟨l,rfl,hk⟩:=h
  refine ⟨_,?_,hk⟩
  refine doesN_of (qc:=qc1) (np:=[]) (CK:=ckK []) mixed Tryz.func11 rfl rfl Tryz.ntmps11 Tryz.results11 τ_ok (by kernel_rfl) (ckK_ok trivial) (by simp) ⟨rfl,rfl⟩ ?_
  conv=>whnf
  rfl
end Go.Proofs
