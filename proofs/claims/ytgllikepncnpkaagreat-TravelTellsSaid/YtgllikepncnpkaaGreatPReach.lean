/- Proved here: what functions of the given program come to, and the plain laws of it; no condition but those in the theorems. -/
import Derived.Test.YtgllikepncnpkaaGreatPGate3
import Derived.Test.YtgllikepncnpkaaGreatPCurve2
import Derived.Test.YtgllikepncnpkaaGreatProg
/- Dams and their states: what the functions answer. No program. -/
namespace Go.Proofs
open Go Go.Abs
set_option linter.unusedSimpArgs false
set_option linter.unusedVariables false
abbrev eU (l:List Un):List (List Cell):=l.map unC
abbrev eQ (l:List Us):List (List Cell):=l.map usC
theorem eU_len (l:List Un):(eU l).length=l.length:=List.length_map _
theorem eQ_len (l:List Us):(eQ l).length=l.length:=List.length_map _
structure Dm where
  r:Rs
  us:List Un
  gs:List Gt
  gr:Int
def dmC (d:Dm):List Cell:=[.lst (eP d.r.st),IC d.r.dead,IC d.r.low,IC d.r.full,IC d.r.sur,IC d.r.crest,.lst (eU d.us),.lst (eG d.gs),IC d.gr]
structure Dt where
  vol:Int
  rel:Int
  us:List Us
  gs:List Gs
def dtC (s:Dt):List Cell:=[IC s.vol,IC s.rel,.lst (eQ s.us),.lst (eS s.gs)]
structure Dm.fin (d:Dm):Prop where
  r:d.r.st.length≤9223372036854775807
  u:d.us.length≤9223372036854775807
  g:d.gs.length≤9223372036854775807
  fu:∀ u ∈ d.us,u.fin
  fg:∀ g ∈ d.gs,g.fin
structure Dt.fin (s:Dt):Prop where
  u:s.us.length≤9223372036854775807
  g:s.gs.length≤9223372036854775807
def unE:List Un→Int
  | []=>0
  | u :: l=>if ckU u ≠ 0 then ckU u else unE l
def gtE:List Gt→Int
  | []=>0
  | g :: l=>if ckG g ≠ 0 then ckG g else gtE l
def ckD (d:Dm):Int:=if ckS d.r ≠ 0 then ckS d.r else if 6 < d.us.length ∨ 8 < d.gs.length then 10 else if unE d.us ≠ 0 then unE d.us else if gtE d.gs ≠ 0 then gtE d.gs else if d.gr < 1 ∨ 1073741824 < d.gr then 1 else 0
def usB:List Un→List Us→Bool
  | u :: us,s :: ss=>validB u s && usB us ss
  | _,_=>true
def gsB:List Gt→List Gs→Bool
  | g :: gs,s :: ss=>okS g s && gsB gs ss
  | _,_=>true
def fitD (d:Dm) (s:Dt):Bool:=inB 0 (valC d.r.st d.r.crest) s.vol && inB 0 1073741824 s.rel && decide (s.us.length=d.us.length) && decide (s.gs.length=d.gs.length) && usB d.us s.us && gsB d.gs s.gs
def validD (d:Dm) (s:Dt):Bool:=decide (ckD d=0) && fitD d s
def wrongD (d:Dm) (s:Dt):Int:=if ckD d ≠ 0 then ckD d else if validD d s=false then 3 else 0
def levD (d:Dm) (s:Dt):Int × Int:=if wrongD d s ≠ 0 then (0,wrongD d s) else levS d.r s.vol
theorem unE_ok:∀ {l:List Un},unE l=0→∀ u ∈ l,ckU u=0
  | [],_,u,h=>by simp at h
  | a :: l,h,u,hu=>by
    rw [unE] at h
    split at h
    · rename_i e;exact absurd h e
    rename_i e
    rcases List.mem_cons.1 hu with rfl | hu
    · omega
    · exact unE_ok h u hu
theorem gtE_ok:∀ {l:List Gt},gtE l=0→∀ g ∈ l,ckG g=0
  | [],_,u,h=>by simp at h
  | a :: l,h,u,hu=>by
    rw [gtE] at h
    split at h
    · rename_i e;exact absurd h e
    rename_i e
    rcases List.mem_cons.1 hu with rfl | hu
    · omega
    · exact gtE_ok h u hu
theorem unE_of:∀ {l:List Un},(∀ u ∈ l,ckU u=0)→unE l=0
  | [],_=>rfl
  | a :: l,h=>by rw [unE,if_neg (by simp [h a (by simp)])];exact unE_of fun u hu=>h u (by simp [hu])
theorem gtE_of:∀ {l:List Gt},(∀ g ∈ l,ckG g=0)→gtE l=0
  | [],_=>rfl
  | a :: l,h=>by rw [gtE,if_neg (by simp [h a (by simp)])];exact gtE_of fun u hu=>h u (by simp [hu])
structure DOk (d:Dm):Prop where
  s:ckS d.r=0
  n:d.us.length≤6
  m:d.gs.length≤8
  u:∀ u ∈ d.us,ckU u=0
  g:∀ g ∈ d.gs,ckG g=0
  gr:1≤d.gr∧d.gr≤1073741824
theorem ckD_ok {d:Dm} (h:ckD d=0):DOk d:=by
  unfold ckD at h
  split at h
  · rename_i e;exact absurd h e
  split at h
  · omega
  split at h
  · rename_i e;exact absurd h e
  split at h
  · rename_i e;exact absurd h e
  split at h
  · omega
  exact ⟨by omega,by omega,by omega,unE_ok (by omega),gtE_ok (by omega),by omega⟩
theorem ckD_of {d:Dm} (h:DOk d):ckD d=0:=by
  have a:=h.n
  have b:=h.m
  have c:=h.gr
  unfold ckD
  rw [if_neg (by simp [h.s]),if_neg (by omega),if_neg (by simp [unE_of h.u]),if_neg (by simp [gtE_of h.g]),if_neg (by omega)]
theorem crest_in {r:Rs} (h:ckS r=0):0≤r.crest∧r.crest≤16777216:=by
  have a:=srt_lv h
  have b:=dead_in h
  obtain ⟨_,_,h3,_,_⟩:=ckS_ok h
  omega
/-! What the functions are given. -/
def R_dmI (f:Dm→Int):RT:=fun args k=>∃ d:Dm,args=[.agg (dmC d)]∧d.fin∧k (I (f d))
def R_dsB (f:Dm→Dt→Bool):RT:=fun args k=>∃ (d:Dm) (s:Dt),args=[.agg (dmC d),.agg (dtC s)]∧d.fin∧s.fin∧k (Bo (f d s))
def R_dsI (f:Dm→Dt→Int):RT:=fun args k=>∃ (d:Dm) (s:Dt),args=[.agg (dmC d),.agg (dtC s)]∧d.fin∧s.fin∧k (I (f d s))
def R_dfit:RT:=fun args k=>∃ (d:Dm) (s:Dt),args=[.agg (dmC d),.agg (dtC s)]∧ckD d=0∧d.fin∧s.fin∧k (Bo (fitD d s))
def R_crst:RT:=fun args k=>∃ d:Dm,args=[.agg (dmC d)]∧ckD d=0∧k (I (valC d.r.st d.r.crest))
def R_levD:RT:=fun args k=>∃ (d:Dm) (s:Dt),args=[.agg (dmC d),.agg (dtC s)]∧d.fin∧s.fin∧k (.tup [I (levD d s).1,I (levD d s).2])
end Go.Proofs

namespace Go.Proofs
open Go Go.Abs
set_option linter.unusedSimpArgs false
set_option linter.unusedVariables false
set_option maxRecDepth 4000
def τ:List (Nat × TI):=[
 (3,{ agg:=false,size:=1,bytes:=8,zero:=[.int .i64 0],d:=.int .i64 }),
 (4,{ agg:=false,size:=1,bytes:=1,zero:=[.bool false],d:=.bool }),
 (5,{ agg:=false,size:=1,bytes:=1,zero:=[.int .u8 0],d:=.int .u8 }),
 (22,{ agg:=false,size:=1,bytes:=24,zero:=[.slice none 0 0],d:=.slice 3 }),
 (25,{ agg:=false,size:=1,bytes:=8,zero:=[.pointer none],d:=.other }),
 (27,{ agg:=false,size:=1,bytes:=24,zero:=[.slice none 0 0],d:=.slice 58 }),
 (29,{ agg:=true,size:=2,bytes:=32,zero:=[.int .i64 0,.slice none 0 0],d:=.struct [(0,3),(1,27)] }),
 (30,{ agg:=false,size:=1,bytes:=24,zero:=[.slice none 0 0],d:=.slice 73 }),
 (32,{ agg:=true,size:=3,bytes:=56,zero:=[.int .i64 0,.slice none 0 0,.slice none 0 0],d:=.struct [(0,29),(2,30)] }),
 (33,{ agg:=false,size:=1,bytes:=24,zero:=[.slice none 0 0],d:=.slice 117 }),
 (34,{ agg:=false,size:=1,bytes:=24,zero:=[.slice none 0 0],d:=.slice 85 }),
 (36,{ agg:=true,size:=3,bytes:=56,zero:=[.int .i64 0,.slice none 0 0,.slice none 0 0],d:=.struct [(0,3),(1,33),(2,34)] }),
 (39,{ agg:=false,size:=1,bytes:=24,zero:=[.slice none 0 0],d:=.slice 54 }),
 (42,{ agg:=false,size:=1,bytes:=24,zero:=[.slice none 0 0],d:=.slice 49 }),
 (43,{ agg:=false,size:=1,bytes:=8,zero:=[.int .i64 0],d:=.int .i64 }),
 (46,{ agg:=false,size:=1,bytes:=24,zero:=[.slice none 0 0],d:=.slice 22 }),
 (47,{ agg:=false,size:=1,bytes:=24,zero:=[.slice none 0 0],d:=.slice 51 }),
 (49,{ agg:=true,size:=3,bytes:=72,zero:=[.slice none 0 0,.slice none 0 0,.slice none 0 0],d:=.struct [(0,47),(1,22),(2,22)] }),
 (51,{ agg:=true,size:=7,bytes:=56,zero:=[.int .i64 0,.int .i64 0,.int .i64 0,.int .i64 0,.int .i64 0,.int .i64 0,.int .i64 0],d:=.struct [(0,3),(1,3),(2,3),(3,3),(4,3),(5,3),(6,3)],eq:=[true,true,true,true,true,true,true] }),
 (54,{ agg:=true,size:=3,bytes:=72,zero:=[.slice none 0 0,.slice none 0 0,.slice none 0 0],d:=.struct [(0,22),(1,22),(2,22)] }),
 (56,{ agg:=true,size:=2,bytes:=32,zero:=[.slice none 0 0,.int .i64 0],d:=.struct [(0,22),(1,3)] }),
 (58,{ agg:=true,size:=4,bytes:=48,zero:=[.int .i64 0,.int .i64 0,.slice none 0 0,.int .i64 0],d:=.struct [(0,3),(1,3),(2,56)] }),
 (62,{ agg:=false,size:=1,bytes:=24,zero:=[.slice none 0 0],d:=.slice 5 }),
 (65,{ agg:=false,size:=1,bytes:=24,zero:=[.slice none 0 0],d:=.slice 181 }),
 (67,{ agg:=true,size:=6,bytes:=64,zero:=[.slice none 0 0,.int .i64 0,.int .i64 0,.int .i64 0,.int .i64 0,.int .i64 0],d:=.struct [(0,65),(1,3),(2,3),(3,3),(4,3),(5,3)] }),
 (68,{ agg:=false,size:=1,bytes:=24,zero:=[.slice none 0 0],d:=.slice 156 }),
 (69,{ agg:=false,size:=1,bytes:=24,zero:=[.slice none 0 0],d:=.slice 160 }),
 (71,{ agg:=true,size:=9,bytes:=120,zero:=[.slice none 0 0,.int .i64 0,.int .i64 0,.int .i64 0,.int .i64 0,.int .i64 0,.slice none 0 0,.slice none 0 0,.int .i64 0],d:=.struct [(0,67),(6,68),(7,69),(8,3)] }),
 (73,{ agg:=true,size:=10,bytes:=128,zero:=[.int .i64 0,.slice none 0 0,.int .i64 0,.int .i64 0,.int .i64 0,.int .i64 0,.int .i64 0,.slice none 0 0,.slice none 0 0,.int .i64 0],d:=.struct [(0,3),(1,71)] }),
 (85,{ agg:=true,size:=1,bytes:=24,zero:=[.slice none 0 0],d:=.struct [(0,22)] }),
 (90,{ agg:=false,size:=1,bytes:=24,zero:=[.slice none 0 0],d:=.slice 36 }),
 (91,{ agg:=true,size:=2,bytes:=48,zero:=[.slice none 0 0,.slice none 0 0],d:=.array 2 46 }),
 (92,{ agg:=false,size:=1,bytes:=24,zero:=[.slice none 0 0],d:=.slice 91 }),
 (96,{ agg:=true,size:=2,bytes:=32,zero:=[.slice none 0 0,.int .i64 0],d:=.struct [(0,22),(1,3)] }),
 (108,{ agg:=false,size:=1,bytes:=8,zero:=[.nilFunc],d:=.other }),
 (114,{ agg:=false,size:=1,bytes:=24,zero:=[.slice none 0 0],d:=.slice 164 }),
 (115,{ agg:=false,size:=1,bytes:=24,zero:=[.slice none 0 0],d:=.slice 167 }),
 (117,{ agg:=true,size:=4,bytes:=64,zero:=[.int .i64 0,.int .i64 0,.slice none 0 0,.slice none 0 0],d:=.struct [(0,3),(1,3),(2,114),(3,115)] }),
 (134,{ agg:=false,size:=1,bytes:=8,zero:=[.nilFunc],d:=.other }),
 (154,{ agg:=false,size:=1,bytes:=24,zero:=[.slice none 0 0],d:=.slice 190 }),
 (156,{ agg:=true,size:=6,bytes:=80,zero:=[.slice none 0 0,.int .i64 0,.int .i64 0,.slice none 0 0,.int .i64 0,.int .i64 0],d:=.struct [(0,65),(1,3),(2,3),(3,154),(4,3),(5,3)] }),
 (158,{ agg:=false,size:=1,bytes:=24,zero:=[.slice none 0 0],d:=.slice 192 }),
 (160,{ agg:=true,size:=3,bytes:=40,zero:=[.slice none 0 0,.int .i64 0,.int .i64 0],d:=.struct [(0,158),(1,3),(2,3)] }),
 (164,{ agg:=true,size:=3,bytes:=24,zero:=[.int .i64 0,.int .i64 0,.bool false],d:=.struct [(0,3),(1,3),(2,4)],eq:=[true,true,false] }),
 (167,{ agg:=true,size:=2,bytes:=16,zero:=[.int .i64 0,.bool false],d:=.struct [(0,3),(1,4)],eq:=[true,false] }),
 (174,{ agg:=false,size:=1,bytes:=8,zero:=[.nilFunc],d:=.other }),
 (178,{ agg:=false,size:=1,bytes:=8,zero:=[.nilFunc],d:=.other }),
 (181,{ agg:=true,size:=2,bytes:=16,zero:=[.int .i64 0,.int .i64 0],d:=.struct [(0,3),(1,3)],eq:=[true,true] }),
 (182,{ agg:=true,size:=5,bytes:=40,zero:=[.int .i64 0,.int .i64 0,.int .i64 0,.int .i64 0,.int .i64 0],d:=.array 5 3 }),
 (190,{ agg:=true,size:=2,bytes:=16,zero:=[.int .i64 0,.int .i64 0],d:=.struct [(0,3),(1,3)],eq:=[true,true] }),
 (192,{ agg:=true,size:=2,bytes:=32,zero:=[.int .i64 0,.slice none 0 0],d:=.struct [(0,3),(1,65)] }),
 (207,{ agg:=true,size:=7,bytes:=56,zero:=[.int .i64 0,.int .i64 0,.int .i64 0,.int .i64 0,.int .i64 0,.int .i64 0,.int .i64 0],d:=.array 7 3 }),
 (216,{ agg:=true,size:=2,bytes:=16,zero:=[.int .i64 0,.int .i64 0],d:=.array 2 3 })]
theorem τ_ok:TyOk Tryz.prog τ:=⟨by kernel_rfl,by kernel_rfl,by kernel_rfl,by kernel_rfl,by kernel_rfl,by kernel_rfl,by kernel_rfl,by kernel_rfl,by kernel_rfl,by kernel_rfl,by kernel_rfl,by kernel_rfl,by kernel_rfl,by kernel_rfl,by kernel_rfl,by kernel_rfl,by kernel_rfl,by kernel_rfl,by kernel_rfl,by kernel_rfl,by kernel_rfl,by kernel_rfl,by kernel_rfl,by kernel_rfl,by kernel_rfl,by kernel_rfl,by kernel_rfl,by kernel_rfl,by kernel_rfl,by kernel_rfl,by kernel_rfl,by kernel_rfl,by kernel_rfl,by kernel_rfl,by kernel_rfl,by kernel_rfl,by kernel_rfl,by kernel_rfl,by kernel_rfl,by kernel_rfl,by kernel_rfl,by kernel_rfl,by kernel_rfl,by kernel_rfl,by kernel_rfl,by kernel_rfl,by kernel_rfl,by kernel_rfl,by kernel_rfl,by kernel_rfl,by kernel_rfl,by kernel_rfl,by kernel_rfl,trivial⟩
theorem mixed:Tryz.prog.follows .mixedOrders=true:=by kernel_rfl
def qc1:Nat→Bool:=fun f=>match f with
  | 32 | 117 | 49 | 79 | 105 | 78 | 131 | 64 | 28 | 91 | 130 | 73 | 48 | 87 | 50 | 118 | 55 | 60 | 147 | 133 | 153 | 106 | 119 | 116 | 135 | 138 | 93 | 115 | 84 | 122 | 107 | 152 | 154 | 155 | 156 | 94 | 96 | 120 | 137 | 142 | 143 | 108 | 95 | 97 | 126 | 128 | 145 | 74 | 146 | 150 | 151 | 45 | 67 | 101 | 129 | 61 | 63 | 121 | 98 | 16 | 38 | 39 | 62 | 65 | 71 | 77 | 69 | 68 | 57 | 58 | 22 | 18 | 24 | 9 | 139 | 124 | 141 | 149 | 41=>true
  | _=>false
theorem within_ok:FunR Tryz.prog 117 R_within:=by
  intro args k h
  unfold R_within at h
  split at h
  case h_2=>exact h.elim
  rename_i x most
  refine does_ex (qc:=qc1) (np:=[]) (CK:=ckK []) mixed Tryz.func117 rfl rfl Tryz.ntmps117 Tryz.results117 τ_ok (by kernel_rfl) (ckK_ok trivial) (by simp) ?_
  conv=>whnf
  repeat' (refine Fork.mk (fun h=>?_) (fun h=>?_) <;> first | (cases h;done) | (conv=>whnf))
  all_goals simp_all [oneOf,nrm]
theorem rin_ok:FunR Tryz.prog 79 R_within:=by
  intro args k h
  unfold R_within at h
  split at h
  case h_2=>exact h.elim
  rename_i x most
  refine does_ex (qc:=qc1) (np:=[]) (CK:=ckK []) mixed Tryz.func79 rfl rfl Tryz.ntmps79 Tryz.results79 τ_ok (by kernel_rfl) (ckK_ok trivial) (by simp) ?_
  conv=>whnf
  repeat' (refine Fork.mk (fun h=>?_) (fun h=>?_) <;> first | (cases h;done) | (conv=>whnf))
  all_goals simp_all [oneOf,nrm]
theorem rIn_ok:FunR Tryz.prog 49 R_within:=by
  intro args k h
  unfold R_within at h
  split at h
  case h_2=>exact h.elim
  rename_i x most
  refine does_ex (qc:=qc1) (np:=[]) (CK:=ckK [(79,cSc R_within)]) mixed Tryz.func49 rfl rfl Tryz.ntmps49 Tryz.results49 τ_ok (by kernel_rfl) (ckK_ok ⟨cSc_ok rin_ok,trivial⟩) (by simp) ?_
  conv=>whnf
  exact h
theorem mod_ok:FunR Tryz.prog 32 R_mod:=by
  intro args k h
  unfold R_mod at h
  split at h
  case h_2=>exact h.elim
  rename_i x n
  obtain ⟨⟨h1,h2⟩,h⟩:=h
  refine does_ex (qc:=qc1) (np:=[]) (CK:=ckK []) mixed Tryz.func32 rfl rfl Tryz.ntmps32 Tryz.results32 τ_ok (by kernel_rfl) (ckK_ok trivial) (by simp) ?_
  conv=>whnf
  refine ⟨by omega,?_⟩
  conv=>whnf
  refine ⟨by omega,?_⟩
  conv=>whnf
  rw [mod_val x h1 h2]
  exact h
theorem next_ok:FunB Tryz.prog 14 R_next:=by
  intro cs args k h
  unfold R_next at h
  split at h
  case h_2=>exact h.elim
  rename_i n
  obtain ⟨d,rfl,⟨hd1,hd2⟩,hn,hk⟩:=h
  refine doesB_ex (qc:=qc1) (np:=[]) (CK:=ckK [(32,cSc R_mod)]) mixed Tryz.func14 rfl rfl Tryz.ntmps14 Tryz.results14 τ_ok (by kernel_rfl) (ckK_ok ⟨cSc_ok mod_ok,trivial⟩) (by simp) rfl rfl ?_
  conv=>whnf
  repeat' (refine Fork.mk (fun h=>?_) (fun h=>?_) <;> first | (cases h;done) | (conv=>whnf))
  · exact ⟨rfl,rfl,hk 0 d ⟨hd1,hd2⟩ (by omega) (.inr rfl)⟩
  · exact ⟨rfl,rfl,hk 0 d ⟨hd1,hd2⟩ (by omega) (.inr rfl)⟩
  · rename_i h0
    simp at h h0
    refine ⟨by omega,[IC d.L[d.at_]],by simp [h,eI],rfl,?_⟩
    conv=>whnf
    refine ⟨⟨by omega,hn⟩,?_⟩
    conv=>whnf
    refine ⟨rfl,rfl,?_⟩
    have e:IntKind.i64.wrap ((d.at_:Int)+1)=((d.at_+1:Nat):Int):=by rw [wrap_in (by omega) (by omega)];omega
    have:=hk (d.L[d.at_] % n) ⟨d.L,d.at_+1⟩ ⟨h,hd2⟩ (Int.emod_nonneg _ (by omega)) (.inl (Int.emod_lt_of_pos _ (by omega)))
    unfold dkC at this
    rw [← e] at this
    exact this
theorem new_ok:FunN Tryz.prog 11 R_new:=by
  intro args k h
  unfold R_new at h
  split at h
  case h_2=>exact h.elim
  obtain ⟨l,rfl,hk⟩:=h
  refine ⟨_,?_,hk⟩
  refine doesN_of (qc:=qc1) (np:=[]) (CK:=ckK []) mixed Tryz.func11 rfl rfl Tryz.ntmps11 Tryz.results11 τ_ok (by kernel_rfl) (ckK_ok trivial) (by simp) ⟨rfl,rfl⟩ ?_
  conv=>whnf
  rfl
end Go.Proofs

/- Reaches and waves: what the functions answer. No program. -/
namespace Go.Proofs
open Go Go.Abs
set_option linter.unusedSimpArgs false
set_option linter.unusedVariables false
abbrev RcC (ws:Ls) (den:Int):List Cell:=[.lst (eL ws),IC den]
def okW (w:Int):Bool:=decide (0≤w) && decide (w≤10000)
def rkCheck (ws:Ls) (den:Int):Int:=if ws.length=0 ∨ ws.getLast?=some 0 then 3 else if 24 < ws.length then 10 else if ws.all okW then (if ws.sum=den then 0 else 2) else 1
theorem all_take {f:Int→Bool} {l:Ls} {i:Nat} (h:i < l.length):(l.take (i+1)).all f=((l.take i).all f && f l[i]):=by
  rw [← List.take_append_getElem h,List.all_append];simp
theorem all_in {l:Ls} {f:Int→Bool} (h:l.all f=true):∀ x ∈ l,f x=true:=fun x hx=>List.all_eq_true.1 h x hx
theorem okW_in {w:Int} (h:okW w=true):0≤w∧w≤10000:=by simpa [okW] using h
theorem last_at {l:Ls} (h:l.length ≠ 0):l.getLast?=some (l[l.length - 1]'(by omega)):=by
  rw [List.getLast?_eq_getElem?,List.getElem?_eq_getElem]
def R_rk:RT:=fun args k=>match args with
  | [.agg [.lst es,.sc (.int .i64 den)]]=>∃ ws,es=eL ws∧ws.length≤9223372036854775807∧k (I (rkCheck ws den))
  | _=>False
def okP (p:Int):Bool:=decide (0≤p) && decide (p≤2251799813685248)
def fitsB (n:Nat) (ps:Ls):Bool:=decide (ps.length≤n) && (!decide (ps.getLast?=some 0) && ps.all okP)
theorem okP_in {w:Int} (h:okP w=true):0≤w∧w≤2251799813685248:=by simpa [okP] using h
def R_fits:RT:=fun args k=>match args with
  | [.agg [.lst es,.sc (.int .i64 den)],.agg [.lst es2]]=>∃ ws ps,es=eL ws∧es2=eL ps∧ws.length≤9223372036854775807∧ps.length≤9223372036854775807∧k (Bo (fitsB ws.length ps))
  | _=>False
def R_valid:RT:=fun args k=>match args with
  | [.agg [.lst es,.sc (.int .i64 den)],.agg [.lst es2]]=>∃ ws ps,es=eL ws∧es2=eL ps∧ws.length≤9223372036854775807∧ps.length≤9223372036854775807∧k (Bo (decide (rkCheck ws den=0) && fitsB ws.length ps))
  | _=>False
def R_flows:RB:=fun cs args k=>match args with
  | [.c (.sc (.int .i64 n)),.c (.sc (.int .i64 most))]=>∃ d:Dk,∃ N:Nat,cs=dkC d∧d.ok∧n=N∧N≤1000∧(1≤most∧most≤1000)∧∀ (l:Ls) d',Dk.ok d'→l.length=N→(∀ x ∈ l,0≤x∧x < most)→k (.c (.lst (eL l))) (dkC d')
  | _=>False
theorem snoc_len (l:Ls) (p:Int):(l ++ [p]).length=(eL l).length+1:=by simp [eL]
theorem rk_of {ws:Ls} {den:Int} (h0:ws.length ≠ 0) (h1:ws.getLast? ≠ some 0) (h2:ws.length≤24) (h3:∀ w ∈ ws,0≤w∧w≤10000) (h4:ws.sum=den):rkCheck ws den=0:=by
  unfold rkCheck
  have hn:¬ (ws.length=0 ∨ ws.getLast?=some 0):=fun h=>h.elim h0 h1
  rw [if_neg hn,if_neg (by omega),if_pos (List.all_eq_true.2 fun w hw=>by have:=h3 w hw;simp [okW,this]),if_pos h4]
def R_reach:RB:=fun cs args k=>match args with
  | []=>∃ d:Dk,cs=dkC d∧d.ok∧∀ (ws:Ls) den d',Dk.ok d'→rkCheck ws den=0→ws.length≤5→(∀ w ∈ ws,0≤w∧w≤4)→k (.agg [.lst (eL ws),IC den]) (dkC d')
  | _=>False
/-- The table of a function. -/
def tab (n:Nat) (g:Nat→Int):Ls:=(List.range n).map g
theorem tab_len (n:Nat) (g:Nat→Int):(tab n g).length=n:=by simp [tab]
theorem tab_get {n:Nat} {g:Nat→Int} {k:Nat} (h:k < n):(tab n g)[k]?=some (g k):=by simp [tab,h]
theorem tab_set (n:Nat) (g:Nat→Int) (i:Nat) (v:Int):(tab n g).set i v=tab n fun k=>if k=i then v else g k:=by
  apply List.ext_getElem?
  intro j
  rw [List.getElem?_set]
  by_cases hj:j < n
  · rw [tab_get hj,tab_get hj,tab_len]
    by_cases h:i=j
    · subst h;simp [hj]
    · rw [if_neg h,if_neg (Ne.symm h)]
  · have h1:(tab n g)[j]?=none:=List.getElem?_eq_none (by rw [tab_len];omega)
    have h2:(tab n fun k=>if k=i then v else g k)[j]?=none:=List.getElem?_eq_none (by rw [tab_len];omega)
    rw [h1,h2,tab_len]
    split
    · split
      · omega
      · rfl
    · rfl
theorem tab_ext {n:Nat} {g h:Nat→Int} (e:∀ k,k < n→g k=h k):tab n g=tab n h:=List.map_congr_left fun k hk=>e k (List.mem_range.1 hk)
theorem eL_tab {n:Nat} {g:Nat→Int} {k:Nat} (h:k < n):(eL (tab n g))[0+k]?=some (eI (g k)):=by
  rw [Nat.zero_add,List.getElem?_map,tab_get h];rfl
/-- Zeros at the end are struck. -/
def trimZ:Ls→Ls
  | []=>[]
  | x :: r=>match trimZ r with
    | []=>if x=0 then [] else [x]
    | y :: t=>x :: y :: t
theorem trim_zero:∀ l:Ls,trimZ (l ++ [0])=trimZ l
  | []=>rfl
  | x :: r=>by
    show trimZ (x :: (r ++ [0]))=trimZ (x :: r)
    rw [trimZ,trimZ,trim_zero r]
theorem trim_snoc {v:Int} (hv:v ≠ 0):∀ l:Ls,trimZ (l ++ [v])=l ++ [v]
  | []=>by simp [trimZ,hv]
  | x :: r=>by
    show trimZ (x :: (r ++ [v]))=_
    rw [trimZ,trim_snoc hv r]
    cases r <;> rfl
def fP (ps:Ls) (k:Nat):Int:=ps.getD k 0
def gP (ws ps:Ls) (q:Int) (k:Nat):Int:=fP ps k+q * fP ws k
def hP (ws:Ls) (den:Int) (ps:Ls) (q:Int) (k:Nat):Int:=gP ws ps q (k+1)+if k=0 then gP ws ps q 0 % den else 0
def stepF (ws:Ls) (den:Int) (ps:Ls) (q:Int):Ls:=trimZ (tab ws.length (hP ws den ps q))
def outF (ws:Ls) (den:Int) (ps:Ls) (q:Int):Int:=gP ws ps q 0 / den
def stepOk (ws ps:Ls) (q:Int):Prop:=∀ k,k < ws.length→gP ws ps q k≤1125899906842624
theorem fP_at {l:Ls} {k:Nat} (h:k < l.length):fP l k=l[k]:=by unfold fP;rw [List.getD_eq_getElem?_getD,List.getElem?_eq_getElem h];rfl
theorem fP_out {l:Ls} {k:Nat} (h:l.length≤k):fP l k=0:=by unfold fP;rw [List.getD_eq_getElem?_getD,List.getElem?_eq_none h];rfl
theorem copy_tab {n:Nat} {ps:Ls} (h:ps.length≤n):wrE (List.replicate n (eI 0)) 0 ((eL ps).take (Nat.min (eL ps).length n))=eL (tab n (fP ps)):=by
  have e:Nat.min (eL ps).length n=(eL ps).length:=Nat.min_eq_left (by rw [eL_len];exact h)
  rw [e,List.take_length]
  unfold wrE
  rw [List.take_zero,List.nil_append,Nat.zero_add,eL_len]
  apply List.ext_getElem?
  intro j
  rw [List.getElem?_append,eL_len]
  by_cases hj:j < ps.length
  · rw [if_pos hj,List.getElem?_map,List.getElem?_map,tab_get (by omega),fP_at hj,List.getElem?_eq_getElem hj]
  · rw [if_neg hj,List.getElem?_drop,List.getElem?_map]
    by_cases hn:j < n
    · rw [tab_get hn,fP_out (by omega),List.getElem?_replicate,if_pos (by omega)];rfl
    · rw [List.getElem?_eq_none (by simp;omega),List.getElem?_eq_none (by rw [tab_len];omega)];rfl
theorem rk_facts {ws:Ls} {den:Int} (h:rkCheck ws den=0):1≤ws.length∧ws.length≤24∧(∀ k,0≤fP ws k∧fP ws k≤10000)∧1≤den∧den≤240000∧ws.sum=den∧(∀ w ∈ ws,0≤w∧w≤10000):=by
  unfold rkCheck at h
  split at h
  · cases h
  · rename_i h1
    split at h
    · cases h
    · split at h
      · rename_i h3
        split at h
        · rename_i h4
          have hw:∀ w ∈ ws,0≤w∧w≤10000:=fun w hw=>okW_in (all_in h3 w hw)
          have hl:ws.length ≠ 0:=fun e=>h1 (.inl e)
          have hs:=sum_in (l:=ws) (a:=10000) (by omega) hw
          have hpos:1≤ws.sum:=by
            have hla:=last_at hl
            have hne:ws[ws.length - 1]'(by omega) ≠ 0:=fun e=>h1 (.inr (by rw [hla,e]))
            have hge:=hw _ (List.getElem_mem (by omega:ws.length - 1 < ws.length))
            have hsp:ws=ws.take (ws.length - 1) ++ [ws[ws.length - 1]'(by omega)]:=by
              have:=List.take_append_getElem (by omega:ws.length - 1 < ws.length)
              rw [show ws.length - 1+1=ws.length by omega,List.take_length] at this
              exact this.symm
            have h5:ws.sum=(ws.take (ws.length - 1)).sum+ws[ws.length - 1]'(by omega):=by
              conv=>lhs;rw [hsp]
              rw [List.sum_append];simp
            have h6:=sum_in (l:=ws.take (ws.length - 1)) (a:=10000) (by omega) (fun x hx=>hw x (List.mem_of_mem_take hx))
            omega
          refine ⟨by omega,by omega,fun k=>?_,by omega,by omega,h4,hw⟩
          by_cases hk:k < ws.length
          · rw [fP_at hk];exact hw _ (List.getElem_mem _)
          · rw [fP_out (by omega)];omega
        · cases h
      · cases h
theorem fits_facts {n:Nat} {ps:Ls} (h:fitsB n ps=true):ps.length≤n∧ps.getLast? ≠ some 0∧(∀ p ∈ ps,0≤p∧p≤2251799813685248)∧∀ k,0≤fP ps k∧fP ps k≤2251799813685248:=by
  unfold fitsB at h
  simp only [Bool.and_eq_true,decide_eq_true_eq,Bool.not_eq_true',decide_eq_false_iff_not] at h
  obtain ⟨h1,h2,h3⟩:=h
  have hp:∀ p ∈ ps,0≤p∧p≤2251799813685248:=fun p hp=>okP_in (all_in h3 p hp)
  refine ⟨h1,h2,hp,fun k=>?_⟩
  by_cases hk:k < ps.length
  · rw [fP_at hk];exact hp _ (List.getElem_mem _)
  · rw [fP_out (by omega)];omega
theorem g_in {ws ps:Ls} {q:Int} (hw:∀ k,0≤fP ws k∧fP ws k≤10000) (hp:∀ k,0≤fP ps k∧fP ps k≤2251799813685248) (h0:0≤q) (h1:q≤1073741824) (k:Nat):(0≤q * fP ws k∧q * fP ws k≤10737418240000)∧0≤gP ws ps q k∧gP ws ps q k≤2262537231925248:=by
  have a:=hw k
  have b:=hp k
  have h2:0≤q * fP ws k:=Int.mul_nonneg h0 a.1
  have h3:q * fP ws k≤1073741824 * 10000:=Int.mul_le_mul h1 a.2 a.1 (by omega)
  unfold gP
  omega
theorem tab_tail {n:Nat} {g:Nat→Int}:((tab (n+1) g).drop 1).take n=tab n fun k=>g (k+1):=by
  apply List.ext_getElem?
  intro j
  rw [List.getElem?_take,List.getElem?_drop]
  by_cases hj:j < n
  · rw [if_pos hj,tab_get hj,tab_get (by omega),Nat.add_comm]
  · rw [if_neg hj,List.getElem?_eq_none (by rw [tab_len];omega)]
theorem wrE_all {T Q:Ls} {n:Nat} (h:T.length≤n):wrE (eL Q) 0 ((eL T).take (Nat.min (eL T).length n))=eL (T ++ Q.drop T.length):=by
  have e:Nat.min (eL T).length n=(eL T).length:=Nat.min_eq_left (by rw [eL_len];exact h)
  rw [e,List.take_length]
  unfold wrE
  rw [List.take_zero,List.nil_append,Nat.zero_add,eL_len,eL_drop]
  simp [eL]
def R_pass:RT:=fun args k=>match args with
  | [.agg [.lst es,.sc (.int .i64 den)],.agg [.lst es2],.c (.sc (.int .i64 q))]=>∃ ws ps,es=eL ws∧es2=eL ps∧rkCheck ws den=0∧fitsB ws.length ps=true∧(0≤q∧q≤1073741824) ∧
      (stepOk ws ps q→k (.tup [.agg [.lst (eL (stepF ws den ps q))],I (outF ws den ps q),Bo true]))∧(¬ stepOk ws ps q→k (.tup [.agg [.lst []],I 0,Bo false]))
  | _=>False
def R_step:RT:=fun args k=>match args with
  | [.agg [.lst es,.sc (.int .i64 den)],.agg [.lst es2],.c (.sc (.int .i64 q))]=>∃ ws ps,es=eL ws∧es2=eL ps∧rkCheck ws den=0∧fitsB ws.length ps=true ∧
      (0≤q∧q≤1073741824∧stepOk ws ps q→k (.tup [.agg [.lst (eL (stepF ws den ps q))],I (outF ws den ps q),I 0]))∧(¬ (0≤q∧q≤1073741824∧stepOk ws ps q)→k (.tup [.agg [.lst []],I 0,I 1]))
  | _=>False
theorem trim_spec:∀ l:Ls,(∃ m,l=trimZ l ++ List.replicate m 0)∧(trimZ l).getLast? ≠ some 0
  | []=>⟨⟨0,rfl⟩,by simp [trimZ]⟩
  | x :: r=>by
    obtain ⟨⟨m,h1⟩,h2⟩:=trim_spec r
    rw [trimZ]
    cases ht:trimZ r with
    | nil =>
      rw [ht] at h1
      simp only
      by_cases hx:x=0
      · rw [if_pos hx]
        exact ⟨⟨m+1,by rw [hx,h1,List.replicate_succ];simp⟩,by simp⟩
      · rw [if_neg hx]
        exact ⟨⟨m,by rw [h1];simp⟩,by simp [hx]⟩
    | cons y t =>
      rw [ht] at h1 h2
      simp only
      exact ⟨⟨m,by rw [h1];simp⟩,by simpa using h2⟩
theorem fP_trim (l:Ls) (k:Nat):fP (trimZ l) k=fP l k:=by
  obtain ⟨⟨m,h⟩,_⟩:=trim_spec l
  by_cases hk:k < (trimZ l).length
  · have hl : l.length = (trimZ l).length + m := by conv => lhs; rw [h]
                                                    simp
    have hz:l[k]?=some (trimZ l)[k]:=by
      conv=>lhs;lhs;rw [h]
      rw [List.getElem?_append_left hk,List.getElem?_eq_getElem hk]
    rw [fP_at hk,fP_at (by omega)]
    rw [List.getElem?_eq_getElem (by omega)] at hz
    simp at hz
    exact hz.symm
  · rw [fP_out (by omega)]
    by_cases hk2:k < l.length
    · have hz:l[k]?=some 0:=by
        conv=>lhs;lhs;rw [h]
        rw [List.getElem?_append_right (by omega),List.getElem?_replicate,if_pos]
        have hl : l.length = (trimZ l).length + m := by conv => lhs; rw [h]
                                                        simp
        omega
      rw [fP_at hk2]
      rw [List.getElem?_eq_getElem hk2] at hz
      simp at hz
      exact hz.symm
    · rw [fP_out (by omega)]
theorem fP_tab {n:Nat} {g:Nat→Int} (k:Nat):fP (tab n g) k=if k < n then g k else 0:=by
  split
  · rename_i h
    unfold fP
    rw [List.getD_eq_getElem?_getD,tab_get h];rfl
  · rename_i h
    exact fP_out (by rw [tab_len];omega)
theorem trim_len (l:Ls):(trimZ l).length≤l.length:=by
  obtain ⟨⟨m,h⟩,_⟩:=trim_spec l
  conv=>rhs;rw [h]
  simp
theorem fits_of {n:Nat} {ps:Ls} (h1:ps.length≤n) (h2:ps.getLast? ≠ some 0) (h3:∀ k,0≤fP ps k∧fP ps k≤2251799813685248):fitsB n ps=true:=by
  unfold fitsB
  rw [decide_eq_true h1,decide_eq_false h2,Bool.true_and]
  refine List.all_eq_true.2 fun p hp=>?_
  obtain ⟨j,hj,rfl⟩:=List.getElem_of_mem hp
  have:=h3 j
  rw [fP_at hj] at this
  simp [okP,this]
theorem step_fits {ws:Ls} {den:Int} {ps:Ls} {q:Int} (hr:rkCheck ws den=0) (hf:fitsB ws.length ps=true) (h0:0≤q) (h1:q≤1073741824) (hok:stepOk ws ps q):fitsB ws.length (stepF ws den ps q)=true:=by
  obtain ⟨hn1,hn2,hw,hd1,hd2,_,_⟩:=rk_facts hr
  obtain ⟨hpl,_,_,hp⟩:=fits_facts hf
  have hg:=g_in hw hp h0 h1
  unfold stepF
  refine fits_of (Nat.le_trans (trim_len _) (by rw [tab_len];exact Nat.le_refl _)) (trim_spec _).2 fun k=>?_
  rw [fP_trim,fP_tab]
  split
  · rename_i hk
    unfold hP
    have hg1:=hg (k+1)
    have hb:gP ws ps q (k+1)≤1125899906842624:=by
      by_cases hk1:k+1 < ws.length
      · exact hok _ hk1
      · unfold gP
        rw [fP_out (l:=ws) (by omega),fP_out (l:=ps) (by omega)];omega
    have hm:=Int.emod_lt_of_pos (gP ws ps q 0) (show 0 < den by omega)
    have hm2:=Int.emod_nonneg (gP ws ps q 0) (show den ≠ 0 by omega)
    split <;> omega
  · omega
def stepB (ws ps:Ls) (q:Int):Bool:=(List.range ws.length).all fun k=>decide (gP ws ps q k≤1125899906842624)
theorem stepB_iff {ws ps:Ls} {q:Int}:stepB ws ps q=true ↔ stepOk ws ps q:=by
  unfold stepB stepOk
  rw [List.all_eq_true]
  exact ⟨fun h k hk=>by simpa using h k (List.mem_range.2 hk),fun h k hk=>by simpa using h k (List.mem_range.1 hk)⟩
/-- The steps of a run. -/
def runGo (ws:Ls) (den:Int):Ls→Ls→Option (Ls × Ls)
  | ps,[]=>some (ps,[])
  | ps,q :: qs=>match decide (0≤q∧q≤1073741824) && stepB ws ps q with
    | true=>match runGo ws den (stepF ws den ps q) qs with
      | some (p,o)=>some (p,outF ws den ps q :: o)
      | none=>none
    | false=>none
def preO (out:Ls):Option (Ls × Ls)→Option (Ls × Ls)
  | some (p,o)=>some (p,out ++ o)
  | none=>none
theorem runGo_bad {ws:Ls} {den:Int} {ps:Ls} {q:Int} {qs:Ls} (h:¬ (0≤q∧q≤1073741824∧stepOk ws ps q)):runGo ws den ps (q :: qs)=none:=by
  rw [runGo]
  have e:(decide (0≤q∧q≤1073741824) && stepB ws ps q)=false:=by
    cases hb:(decide (0≤q∧q≤1073741824) && stepB ws ps q) with
    | false=>rfl
    | true =>
      rw [Bool.and_eq_true,decide_eq_true_eq,stepB_iff] at hb
      exact absurd ⟨hb.1.1,hb.1.2,hb.2⟩ h
  rw [e]
theorem runGo_good {ws:Ls} {den:Int} {ps:Ls} {q:Int} {qs:Ls} (h:0≤q∧q≤1073741824∧stepOk ws ps q):runGo ws den ps (q :: qs)=preO [outF ws den ps q] (runGo ws den (stepF ws den ps q) qs):=by
  rw [runGo]
  have e:(decide (0≤q∧q≤1073741824) && stepB ws ps q)=true:=by rw [Bool.and_eq_true,decide_eq_true_eq,stepB_iff];exact ⟨⟨h.1,h.2.1⟩,h.2.2⟩
  rw [e]
  cases runGo ws den (stepF ws den ps q) qs <;> rfl
theorem preO_app (a b:Ls) (x:Option (Ls × Ls)):preO a (preO b x)=preO (a ++ b) x:=by cases x <;> simp [preO]
def rkRun (ws:Ls) (den:Int) (ps qs:Ls):Ls × Ls × Int :=
  if rkCheck ws den ≠ 0 then ([],[],rkCheck ws den) else if fitsB ws.length ps=false then ([],[],3) else if 4096 < qs.length then ([],[],10) else match runGo ws den ps qs with
    | some (p,o)=>(p,o,0)
    | none=>([],[],1)
abbrev runT (x:Ls × Ls × Int):AV:=.tup [.agg [.lst (eL x.1)],.c (.lst (eL x.2.1)),I x.2.2]
def R_run:RT:=fun args k=>match args with
  | [.agg [.lst es,.sc (.int .i64 den)],.agg [.lst es2],.c (.lst es3)]=>∃ ws ps qs:Ls,es=eL ws∧es2=eL ps∧es3=eL qs∧ws.length≤9223372036854775807∧ps.length≤9223372036854775807∧qs.length≤9223372036854775807∧k (runT (rkRun ws den ps qs))
  | _=>False
def R_wrong:RT:=fun args k=>match args with
  | [.agg [.lst es,.sc (.int .i64 den)],.agg [.lst es2]]=>∃ ws ps:Ls,es=eL ws∧es2=eL ps∧ws.length≤9223372036854775807∧ps.length≤9223372036854775807∧k (I (if rkCheck ws den ≠ 0 then rkCheck ws den else if fitsB ws.length ps=false then 3 else 0))
  | _=>False
theorem fits_nil (n:Nat):fitsB n []=true:=by simp [fitsB]
def rkStep (ws:Ls) (den:Int) (ps:Ls) (q:Int):Ls × Int × Int:=if (rkRun ws den ps [q]).2.2 ≠ 0 then ([],0,(rkRun ws den ps [q]).2.2) else ((rkRun ws den ps [q]).1,(rkRun ws den ps [q]).2.1.headD 0,0)
def R_stepA:RT:=fun args k=>match args with
  | [.agg [.lst es,.sc (.int .i64 den)],.agg [.lst es2],.c (.sc (.int .i64 q))]=>∃ ws ps:Ls,es=eL ws∧es2=eL ps∧ws.length≤9223372036854775807∧ps.length≤9223372036854775807 ∧
      k (.tup [.agg [.lst (eL (rkStep ws den ps q).1)],I (rkStep ws den ps q).2.1,I (rkStep ws den ps q).2.2])
  | _=>False
theorem runGo_len {ws:Ls} {den:Int}:∀ {qs ps p o:Ls},runGo ws den ps qs=some (p,o)→o.length=qs.length
  | [],ps,p,o,h=>by simp [runGo] at h;simp [← h.2]
  | q :: qs,ps,p,o,h=>by
    by_cases hg:0≤q∧q≤1073741824∧stepOk ws ps q
    · rw [runGo_good hg] at h
      cases hr:runGo ws den (stepF ws den ps q) qs with
      | none=>rw [hr] at h;cases h
      | some x =>
        rw [hr] at h
        simp [preO] at h
        rw [← h.2]
        simp [runGo_len hr]
    · rw [runGo_bad hg] at h;cases h
theorem rkRun_len {ws:Ls} {den:Int} {ps qs:Ls} (h:(rkRun ws den ps qs).2.2=0):(rkRun ws den ps qs).2.1.length=qs.length:=by
  unfold rkRun at h ⊢
  split at h
  · rename_i h1;exact absurd h h1
  · split at h
    · cases h
    · split at h
      · cases h
      · rename_i h1 h2 h3
        rw [if_neg h1,if_neg h2,if_neg h3]
        cases hr:runGo ws den ps qs with
        | none=>rw [hr] at h;cases h
        | some x=>exact runGo_len hr
theorem kS {k:AV→Prop} {r:Ls × Int × Int} {a:Ls} {b c:Int} (h:k (.tup [.agg [.lst (eL r.1)],I r.2.1,I r.2.2])) (e:r=(a,b,c)):k (.tup [.agg [.lst (eL a)],I b,I c]):=by subst e;exact h
theorem rkRun_err {ws:Ls} {den:Int} {ps qs:Ls} (h:rkCheck ws den ≠ 0):rkRun ws den ps qs=([],[],rkCheck ws den):=by rw [rkRun,if_pos h]
end Go.Proofs
