/- Proved here: what functions of the given program come to, and the plain laws of it; no condition but those in the theorems. -/
import Derived.Test.YtgllikepncnpkaaGreatPCurve2
/- Reservoirs: volumes of levels and levels of volumes. No program. -/
namespace Go.Proofs
open Go Go.Abs
set_option linter.unusedSimpArgs false
set_option linter.unusedVariables false
def lGo:Pt→List Pt→Int→Int
  | q,[],_=>q.1
  | q,p :: r,y=>if y < p.2 then q.1+((y - q.2+1) * (p.1 - q.1) - 1) / (p.2 - q.2) else lGo p r y
def lastV (c:List Pt) (y:Int):Int × Bool × Int:=if ckC c ≠ 0 then (0,false,ckC c) else match c with
  | []=>(0,false,0)
  | p :: r=>if y < p.2 then (0,false,0) else (lGo p r y,true,0)
def hgt (c:List Pt) (y:Int):Int:=match c with
  | []=>0
  | p :: r=>if y < p.2 then p.1 else lGo p r y
def lastP (c:List Pt):Pt:=match c with
  | []=>(0,0)
  | p :: r=>endP p r
def riseB:List Pt→Bool
  | p :: q :: r=>decide (p.2 < q.2) && riseB (q :: r)
  | _=>true
def srt:List Int→Bool
  | a :: b :: r=>decide (a≤b) && srt (b :: r)
  | _=>true
structure Rs where
  st:List Pt
  dead:Int
  low:Int
  full:Int
  sur:Int
  crest:Int
def Rs.lv (r:Rs):List Int:=[(r.st.headD (0,0)).1,r.dead,r.low,r.full,r.sur,r.crest,(lastP r.st).1]
def rsC (r:Rs):List Cell:=[.lst (eP r.st),IC r.dead,IC r.low,IC r.full,IC r.sur,IC r.crest]
def ckS (r:Rs):Int:=if ckC r.st ≠ 0 then ckC r.st else if r.st.length < 2 then 3 else if 16777216 < (lastP r.st).1 then 1 else if riseB r.st=false then 4 else if srt r.lv=false then 4 else 0
def askS (r:Rs) (v l:Int):Int:=if ckS r ≠ 0 then ckS r else if inB 0 274877906944 v=true∧inB 0 16777216 l=true then 0 else 1
def volS (r:Rs) (x:Int):Int × Int:=if askS r 0 x ≠ 0 then (0,askS r 0 x) else (valC r.st x,0)
def levS (r:Rs) (v:Int):Int × Int:=if askS r v 0 ≠ 0 then (0,askS r v 0) else (hgt r.st v,0)
def mx (a b:Int):Int:=if a < b then b else a
theorem riseB_cons {p q:Pt} {r:List Pt}:riseB (p :: q :: r)=true ↔ p.2 < q.2∧riseB (q :: r)=true:=by simp [riseB]
theorem srt_cons {a b:Int} {r:List Int}:srt (a :: b :: r)=true ↔ a≤b∧srt (b :: r)=true:=by simp [srt]
theorem srt_bad {a b:Int} {r:List Int} (h:b < a):srt (a :: b :: r)=false:=by simp [srt];omega
theorem srt_good {a b:Int} {r:List Int} (h:¬ b < a):srt (a :: b :: r)=srt (b :: r):=by simp [srt];omega
theorem rise_bad {p q:Pt} {r:List Pt} (h:q.2≤p.2):riseB (p :: q :: r)=false:=by simp [riseB];omega
theorem rise_good {p q:Pt} {r:List Pt} (h:¬ q.2≤p.2):riseB (p :: q :: r)=riseB (q :: r):=by simp [riseB];omega
theorem seg_l {p q:Pt} {y:Int} (h1:p.1 < q.1) (h2:p.2 < q.2) (hy:p.2≤y) (hy2:y < q.2) :
    0≤(y - p.2+1) * (q.1 - p.1) - 1∧(y - p.2+1) * (q.1 - p.1)≤(q.2 - p.2) * (q.1 - p.1)∧0≤((y - p.2+1) * (q.1 - p.1) - 1) / (q.2 - p.2)∧((y - p.2+1) * (q.1 - p.1) - 1) / (q.2 - p.2) < q.1 - p.1:=by
  have e1:0 < (y - p.2+1) * (q.1 - p.1):=Int.mul_pos (by omega) (by omega)
  have e2:(y - p.2+1) * (q.1 - p.1)≤(q.2 - p.2) * (q.1 - p.1):=Int.mul_le_mul_of_nonneg_right (by omega) (by omega)
  refine ⟨by omega,e2,Int.ediv_nonneg (by omega) (by omega),?_⟩
  refine Int.ediv_lt_of_lt_mul (by omega) ?_
  rw [Int.mul_comm (q.1 - p.1)]
  omega
theorem lGo_in:∀ {r:List Pt} {p:Pt} {y:Int},ckGo p r=0→riseB (p :: r)=true→p.2≤y→p.1≤lGo p r y∧lGo p r y≤(endP p r).1
  | [],p,y,_,_,_=>⟨Int.le_refl _,Int.le_refl _⟩
  | q :: r,p,y,h,hr,hy=>by
    obtain ⟨_,h2,h3,_,h5⟩:=ckGo_cons.1 h
    obtain ⟨g1,g2⟩:=riseB_cons.1 hr
    have hq:q.1≤(endP q r).1:=(by
      have:=lGo_in (y:=q.2) h5 g2 (Int.le_refl _)
      omega)
    show p.1≤lGo p (q :: r) y∧lGo p (q :: r) y≤(endP q r).1
    unfold lGo
    split
    · rename_i h6
      have:=seg_l h2 g1 hy h6
      omega
    · have:=lGo_in (y:=y) h5 g2 (by omega)
      omega
/-- A curve's level of a volume and volume of a level. -/
theorem hgt_in {c:List Pt} (h:ckC c=0) (hr:riseB c=true) (y:Int):(c.headD (0,0)).1≤hgt c y∧hgt c y≤(lastP c).1:=by
  cases c with
  | nil=>simp [ckC] at h
  | cons p r =>
    have hc:=(ckC_cons.1 h).2.2
    show p.1≤hgt (p :: r) y∧hgt (p :: r) y≤(endP p r).1
    unfold hgt
    dsimp only
    split
    · have:=lGo_in (y:=p.2) hc hr (Int.le_refl _)
      omega
    · exact lGo_in hc hr (by omega)
theorem hgt_lo {c:List Pt} {y:Int} (hy:y < (c.headD (0,0)).2):hgt c y=(c.headD (0,0)).1:=by
  cases c with
  | nil=>rfl
  | cons p r=>exact if_pos hy
theorem lastV_ok {c:List Pt} (h:ckC c=0) (y:Int):lastV c y=if y < (c.headD (0,0)).2 then (0,false,0) else (hgt c y,true,0):=by
  cases c with
  | nil=>simp [ckC] at h
  | cons p r =>
    unfold lastV
    rw [if_neg (by rw [h];simp)]
    show (if y < p.2 then _ else _)=if y < p.2 then _ else _
    split
    · rfl
    · rename_i h1
      rw [show hgt (p :: r) y=lGo p r y from if_neg h1]
theorem ckS_ok {r:Rs} (h:ckS r=0):ckC r.st=0∧2≤r.st.length∧(lastP r.st).1≤16777216∧riseB r.st=true∧srt r.lv=true:=by
  unfold ckS at h
  split at h
  · rename_i h1;exact absurd h h1
  · rename_i h1
    split at h
    · cases h
    · split at h
      · cases h
      · split at h
        · cases h
        · split at h
          · cases h
          · rename_i h2 h3 h4 h5
            exact ⟨by simpa using h1,by omega,by omega,by simpa using h4,by simpa using h5⟩
theorem ckS_of {r:Rs} (h1:ckC r.st=0) (h2:2≤r.st.length) (h3:(lastP r.st).1≤16777216) (h4:riseB r.st=true) (h5:srt r.lv=true):ckS r=0:=by
  unfold ckS
  rw [if_neg (by rw [h1];simp),if_neg (by omega),if_neg (by omega),if_neg (by rw [h4];simp),if_neg (by rw [h5];simp)]
theorem askS_of {r:Rs} {v l:Int} (h:ckS r=0) (hv:0≤v∧v≤274877906944) (hl:0≤l∧l≤16777216):askS r v l=0:=by
  unfold askS
  rw [if_neg (by rw [h];simp),if_pos (by simp [inB];omega)]
theorem askS_ok {r:Rs} {v l:Int} (h:askS r v l=0):ckS r=0∧(0≤v∧v≤274877906944)∧(0≤l∧l≤16777216):=by
  unfold askS at h
  split at h
  · rename_i h1;exact absurd h h1
  · rename_i h1
    split at h
    · rename_i h2;simp [inB] at h2;exact ⟨by simpa using h1,by omega,by omega⟩
    · cases h
theorem volS_of {r:Rs} {x:Int} (h:ckS r=0) (hl:0≤x∧x≤16777216):volS r x=(valC r.st x,0):=by
  unfold volS
  rw [if_neg (by rw [askS_of h (by omega) hl];simp)]
theorem levS_of {r:Rs} {v:Int} (h:ckS r=0) (hv:0≤v∧v≤274877906944):levS r v=(hgt r.st v,0):=by
  unfold levS
  rw [if_neg (by rw [askS_of h hv (by omega)];simp)]
theorem lastP_at {c:List Pt} (h:c ≠ []):c[c.length - 1]?=some (lastP c):=by
  cases c with
  | nil=>exact absurd rfl h
  | cons p r=>exact endP_at p r
theorem head_at {c:List Pt} (h:c ≠ []):c[0]?=some (c.headD (0,0)):=by
  cases c with
  | nil=>exact absurd rfl h
  | cons p r=>rfl
/-! What the functions are given. -/
def R_last:RT:=fun args k=>match args with
  | [.c (.lst es),.c (.sc (.int .i64 y))]=>∃ c:List Pt,es=eP c∧c.length≤9223372036854775807∧k (.tup [I (lastV c y).1,Bo (lastV c y).2.1,I (lastV c y).2.2])
  | _=>False
def R_rs (f:Rs→Int):RT:=fun args k=>match args with
  | [.agg [.lst es,.sc (.int .i64 a),.sc (.int .i64 b),.sc (.int .i64 c),.sc (.int .i64 d),.sc (.int .i64 e)]]=>∃ st:List Pt,es=eP st∧st.length≤9223372036854775807∧k (I (f ⟨st,a,b,c,d,e⟩))
  | _=>False
def R_rs1 (f:Rs→Int→Int × Int):RT:=fun args k=>match args with
  | [.agg [.lst es,.sc (.int .i64 a),.sc (.int .i64 b),.sc (.int .i64 c),.sc (.int .i64 d),.sc (.int .i64 e)],.c (.sc (.int .i64 x))]=>∃ st:List Pt,es=eP st∧st.length≤9223372036854775807∧k (.tup [I (f ⟨st,a,b,c,d,e⟩ x).1,I (f ⟨st,a,b,c,d,e⟩ x).2])
  | _=>False
/-- A reservoir, made of a deck. -/
structure Rs.made (r:Rs):Prop where
  ck:ckS r=0
  lo:100≤(r.st.headD (0,0)).1∧(r.st.headD (0,0)).1 < 110
  hi:(lastP r.st).1 < 270
  vlo:0≤(r.st.headD (0,0)).2∧(r.st.headD (0,0)).2 < 20
  lv:(r.st.headD (0,0)).1≤r.dead∧r.dead≤r.low∧r.low≤r.full∧r.full≤r.sur∧r.sur≤r.crest∧r.crest≤(lastP r.st).1
  vhi:∀ q ∈ r.st,q.2≤1000
def R_resv:RB:=fun cs args k=>match args with
  | []=>∃ d:Dk,cs=dkC d∧d.ok∧∀ (r:Rs) d',Dk.ok d'→r.made→r.st.length≤5→k (.agg (rsC r)) (dkC d')
  | _=>False
theorem chain_rise {dx lo hi:Int} (h0:0 < lo):∀ {r:List Pt} {p:Pt},chainP dx lo hi p r→riseB (p :: r)=true
  | [],_,_=>rfl
  | q :: r,p,h=>riseB_cons.2 ⟨by have:=h.2.1;omega,chain_rise h0 h.2.2⟩
theorem made_of {p:Pt} {r:List Pt} {a b c d e:Int} (h1:100≤p.1∧p.1 < 110) (h2:0≤p.2∧p.2 < 20) (h3:1≤r.length∧r.length≤4) (h4:chainP 40 1 200 p r)
    (h5:p.1≤a∧a≤b∧b≤c∧c≤d∧d≤e∧e≤(endP p r).1):Rs.made ⟨p :: r,a,b,c,d,e⟩:=by
  have hin:=chain_in (by omega) (by omega) (by omega) h4
  have hen:=end_in (by omega) (by omega) (by omega) h4
  have hok:∀ q ∈ r,okPt q=true:=fun q hq=>okPt_of (by have:=hin q hq;omega)
  have hck:ckC (p :: r)=0:=ckC_cons.2 ⟨by omega,okPt_of (by omega),chain_ck (by omega) (by omega) h4 hok⟩
  have hend:(endP p r).1 < 270:=by omega
  refine ⟨ckS_of hck (by simp;omega) (by show (endP p r).1≤_;omega) (chain_rise (by omega) h4) ?_,h1,hend,h2,h5,fun q hq=>by
    rcases List.mem_cons.1 hq with rfl | hq
    · omega
    · have:=hin q hq;omega⟩
  show srt [p.1,a,b,c,d,e,(endP p r).1]=true
  simp only [srt_cons]
  exact ⟨h5.1,h5.2.1,h5.2.2.1,h5.2.2.2.1,h5.2.2.2.2.1,h5.2.2.2.2.2,rfl⟩
end Go.Proofs

/- More of curves and reservoirs: what the document's answer needs. No program. -/
namespace Go.Proofs
open Go Go.Abs
set_option linter.unusedSimpArgs false
set_option linter.unusedVariables false
theorem ck_end:∀ {r:List Pt} {q:Pt},ckGo q r=0→q.1≤(endP q r).1
  | [],_,_=>Int.le_refl _
  | a :: r,q,h=>by
    obtain ⟨_,h2,_,_,h5⟩:=ckGo_cons.1 h
    have:=ck_end h5
    show q.1≤(endP a r).1
    omega
theorem lGo_in':∀ {r:List Pt} {p:Pt} {y:Int},ckGo p r=0→p.2≤y→p.1≤lGo p r y∧lGo p r y≤(endP p r).1
  | [],p,y,_,_=>⟨Int.le_refl _,Int.le_refl _⟩
  | q :: r,p,y,h,hy=>by
    obtain ⟨_,h2,h3,_,h5⟩:=ckGo_cons.1 h
    have hq:=ck_end h5
    show p.1≤lGo p (q :: r) y∧lGo p (q :: r) y≤(endP q r).1
    unfold lGo
    split
    · rename_i h6
      have:=seg_l h2 (by omega) hy h6
      omega
    · have:=lGo_in' (y:=y) h5 (by omega)
      omega
theorem gal_go':∀ {r:List Pt} {p:Pt} {x y:Int},ckGo p r=0→p.2≤y→p.1≤x→x≤(endP p r).1→(x≤lGo p r y ↔ vGo p r x≤y)
  | [],p,x,y,_,hy,hx,hx2=>by
    have:x≤p.1:=hx2
    unfold lGo vGo
    omega
  | q :: r,p,x,y,h,hy,hx,hx2=>by
    obtain ⟨_,h2,h3,_,h5⟩:=ckGo_cons.1 h
    have hx2:x≤(endP q r).1:=hx2
    unfold lGo vGo
    by_cases h6:y < q.2
    · rw [if_pos h6]
      have hs:=seg_l h2 (by omega) hy h6
      by_cases h7:x≤q.1
      · rw [if_pos h7]
        have a1:(q.2 - p.2) * (x - p.1) / (q.1 - p.1) < y - p.2+1 ↔ (q.2 - p.2) * (x - p.1) < (y - p.2+1) * (q.1 - p.1):=Int.ediv_lt_iff_lt_mul (by omega)
        have a2:x - p.1≤((y - p.2+1) * (q.1 - p.1) - 1) / (q.2 - p.2) ↔ (x - p.1) * (q.2 - p.2)≤(y - p.2+1) * (q.1 - p.1) - 1:=Int.le_ediv_iff_mul_le (by omega)
        rw [Int.mul_comm (x - p.1)] at a2
        omega
      · rw [if_neg h7]
        have:=vGo_ge (x:=x) h5 (by omega)
        omega
    · rw [if_neg h6]
      have:=(lGo_in' (y:=y) h5 (by omega)).1
      by_cases h7:x≤q.1
      · rw [if_pos h7]
        have:=seg_in h2 h3 hx h7
        omega
      · rw [if_neg h7]
        exact gal_go' h5 (by omega) (by omega) hx2
theorem hgt_in' {c:List Pt} (h:ckC c=0) (y:Int):(c.headD (0,0)).1≤hgt c y∧hgt c y≤(lastP c).1:=by
  cases c with
  | nil=>simp [ckC] at h
  | cons p r =>
    have hc:=(ckC_cons.1 h).2.2
    show p.1≤hgt (p :: r) y∧hgt (p :: r) y≤(endP p r).1
    unfold hgt
    dsimp only
    split
    · have:=ck_end hc
      omega
    · exact lGo_in' hc (by omega)
theorem hgt_gal' {c:List Pt} (h:ckC c=0) {x y:Int} (hy:(c.headD (0,0)).2≤y) (hx:(c.headD (0,0)).1≤x) (hx2:x≤(lastP c).1):x≤hgt c y ↔ valC c x≤y:=by
  cases c with
  | nil=>simp [ckC] at h
  | cons p r =>
    have hc:=(ckC_cons.1 h).2.2
    have hy:p.2≤y:=hy
    have hx:p.1≤x:=hx
    rw [valC_eq,show hgt (p :: r) y=lGo p r y from if_neg (by omega),gal_go' hc hy hx hx2]
    by_cases h1:x≤p.1
    · rw [if_pos h1]
      have e:x=p.1:=by omega
      have:=(gal_go' hc hy hx hx2).1 (by have:=lGo_in' hc hy;omega)
      constructor <;> intro <;> assumption
    · rw [if_neg h1]
/-- The value at a point. -/
theorem vGo_at {r:List Pt} {q:Pt} (h:ckGo q r=0):vGo q r q.1=q.2:=by
  cases r with
  | nil=>rfl
  | cons a r =>
    obtain ⟨_,h2,_,_,_⟩:=ckGo_cons.1 h
    unfold vGo
    rw [if_pos (by omega),Int.sub_self,Int.mul_zero,Int.zero_ediv,Int.add_zero]
theorem vGo_next {r:List Pt} {q p:Pt} {x:Int} (h:ckGo q (p :: r)=0) (hx:¬ x < p.1):vGo q (p :: r) x=vGo p r x:=by
  obtain ⟨_,h2,_,_,h5⟩:=ckGo_cons.1 h
  by_cases e:x=p.1
  · subst e
    rw [vGo_at h5]
    unfold vGo
    rw [if_pos (Int.le_refl _),Int.mul_ediv_cancel _ (by omega)]
    omega
  · show (if x≤p.1 then _ else _)=_
    rw [if_neg (by omega)]
def atV (c:List Pt) (x:Int):Int × Int:=if ckC c ≠ 0 then (0,ckC c) else (valC c x,0)
def R_at:RT:=fun args k=>match args with
  | [.c (.lst es),.c (.sc (.int .i64 x))]=>∃ c:List Pt,es=eP c∧c.length≤9223372036854775807∧k (.tup [I (atV c x).1,I (atV c x).2])
  | _=>False
def rAt (c:List Pt) (x:Int) (i:Nat):Prop:=∃ q,c[i - 1]?=some q∧q.1≤x∧valC c x=vGo q (c.drop i) x∧ckGo q (c.drop i)=0∧okPt q=true
def R_rsI (f:Rs→Int→Int):RT:=fun args k=>match args with
  | [.agg [.lst es,.sc (.int .i64 a),.sc (.int .i64 b),.sc (.int .i64 c),.sc (.int .i64 d),.sc (.int .i64 e)],.c (.sc (.int .i64 x))]=>∃ st:List Pt,es=eP st∧st.length≤9223372036854775807∧k (I (f ⟨st,a,b,c,d,e⟩ x))
  | _=>False
/-- All points of a curve lie up to the last one. -/
theorem ck_le_end:∀ {r:List Pt} {q:Pt},ckGo q r=0→∀ a ∈ q :: r,a.1≤(endP q r).1
  | [],q,_,a,ha=>by simp at ha;subst ha;exact Int.le_refl _
  | b :: r,q,h,a,ha=>by
    rcases List.mem_cons.1 ha with rfl | ha
    · exact ck_end h
    · exact ck_le_end (ckGo_cons.1 h).2.2.2.2 a ha
theorem le_last {c:List Pt} (h:ckC c=0):∀ a ∈ c,a.1≤(lastP c).1:=by
  cases c with
  | nil=>simp [ckC] at h
  | cons p r=>exact ck_le_end (ckC_cons.1 h).2.2
theorem last_mem {c:List Pt} (h:c ≠ []):lastP c ∈ c:=List.mem_of_getElem? (lastP_at h)
theorem srt_lv {r:Rs} (h:ckS r=0):(r.st.headD (0,0)).1≤r.dead∧r.dead≤r.low∧r.low≤r.full∧r.full≤r.sur∧r.sur≤r.crest∧r.crest≤(lastP r.st).1:=by
  have:=(ckS_ok h).2.2.2.2
  unfold Rs.lv at this
  simp only [srt_cons] at this
  obtain ⟨a,b,c,d,e,f,_⟩:=this
  exact ⟨a,b,c,d,e,f⟩
theorem dead_in {r:Rs} (h:ckS r=0):0≤r.dead∧r.dead≤16777216:=by
  have a:=srt_lv h
  obtain ⟨h1,_,h3,_,_⟩:=ckS_ok h
  have hc0:=(ckC_ne h1).1
  have:=okPt_in (ckC_ok h1 _ (List.mem_of_getElem? (head_at hc0)))
  omega
end Go.Proofs

/- Turbines: what the functions answer. No program. -/
namespace Go.Proofs
open Go Go.Abs
set_option linter.unusedSimpArgs false
set_option linter.unusedVariables false
structure Un where
  tb:List Pt
  lo:Int
  mo:Int
  rg:List Pt
  up:Int
  dn:Int
def unC (u:Un):List Cell:=[.lst (eP u.tb),IC u.lo,IC u.mo,.lst (eP u.rg),IC u.up,IC u.dn]
structure Un.fin (u:Un):Prop where
  tb:u.tb.length≤9223372036854775807
  rg:u.rg.length≤9223372036854775807
structure Us where
  fl:Int
  si:Int
  ot:Bool
def usC (s:Us):List Cell:=[IC s.fl,IC s.si,BC s.ot]
def zE:List Pt→Int
  | []=>0
  | z :: r=>if (inB 0 1073741824 z.1 && inB 0 1073741824 z.2)=false then 1 else if z.2≤z.1 then 4 else zE r
def ckU (u:Un):Int:=if ckC u.tb ≠ 0 then ckC u.tb else if 1073741824 < (lastP u.tb).2 then 1 else if u.lo < 1 ∨ u.mo < u.lo ∨ 1073741824 < u.mo then 1 else if 10 < u.rg.length then 10 else if zE u.rg ≠ 0 then zE u.rg else if (inB 0 1000 u.up && inB 0 1000 u.dn)=false then 1 else 0
theorem zE_cons (z:Pt) (r:List Pt):zE (z :: r)=if (inB 0 1073741824 z.1 && inB 0 1073741824 z.2)=false then 1 else if z.2≤z.1 then 4 else zE r:=rfl
theorem zE_ok:∀ {l:List Pt},zE l=0 ↔ ∀ z ∈ l,(0≤z.1∧z.1≤1073741824)∧(0≤z.2∧z.2≤1073741824)∧z.1 < z.2
  | []=>by simp [zE]
  | z :: r=>by
    have ih:=zE_ok (l:=r)
    rw [List.forall_mem_cons,← ih,zE_cons]
    split
    · rename_i h
      simp [inB] at h
      refine ⟨fun e=>by omega,fun ⟨a,_⟩=>?_⟩
      exact absurd a.2.1.2 (by have:=h (by omega) (by omega) (by omega);omega)
    · rename_i h
      simp [inB] at h
      split
      · exact ⟨fun e=>by omega,fun ⟨a,_⟩=>by omega⟩
      · exact ⟨fun e=>⟨⟨⟨by omega,by omega⟩,⟨by omega,by omega⟩,by omega⟩,e⟩,fun ⟨_,b⟩=>b⟩
structure UOk (u:Un):Prop where
  c:ckC u.tb=0
  y:(lastP u.tb).2≤1073741824
  l1:1≤u.lo
  lm:u.lo≤u.mo
  m:u.mo≤1073741824
  n:u.rg.length≤10
  z:∀ z ∈ u.rg,(0≤z.1∧z.1≤1073741824)∧(0≤z.2∧z.2≤1073741824)∧z.1 < z.2
  hup:0≤u.up∧u.up≤1000
  hdn:0≤u.dn∧u.dn≤1000
theorem ckU_ok {u:Un} (h:ckU u=0):UOk u:=by
  unfold ckU at h
  split at h
  · rename_i e;exact absurd h e
  rename_i h1
  split at h
  · omega
  split at h
  · omega
  split at h
  · omega
  split at h
  · rename_i e;exact absurd h e
  rename_i h5
  split at h
  · omega
  rename_i h6
  simp [inB] at h6
  exact ⟨by omega,by omega,by omega,by omega,by omega,by omega,zE_ok.1 (by omega),by omega,by omega⟩
theorem ckU_of {u:Un} (h:UOk u):ckU u=0:=by
  have hz:=zE_ok.2 h.z
  obtain ⟨h1,h2,h3,h4,h5,h6,_,⟨h7,h8⟩,h9,h10⟩:=h
  unfold ckU
  rw [if_neg (by simp [h1]),if_neg (by omega),if_neg (by omega),if_neg (by omega),if_neg (by simp [hz]),if_neg (by simp [inB,h7,h8,h9,h10])]
def outZ (l:List Pt) (q:Int):Bool:=l.all fun z=>!(decide (z.1 < q) && decide (q < z.2))
def runB (u:Un) (q:Int):Bool:=(decide (u.lo≤q) && decide (q≤u.mo)) && outZ u.rg q
theorem outZ_iff {l:List Pt} {q:Int}:outZ l q=true ↔ ∀ z ∈ l,¬ (z.1 < q∧q < z.2):=by
  simp only [outZ,List.all_eq_true]
  refine forall_congr' fun z=>forall_congr' fun _=>?_
  simp;omega
theorem runB_iff {u:Un} {q:Int}:runB u q=true ↔ (u.lo≤q∧q≤u.mo)∧outZ u.rg q=true:=by simp [runB]
def runS (u:Un) (q:Int):Bool:=decide (ckU u=0) && runB u q
def fitB (u:Un) (s:Us):Bool:=inB 0 1000 s.si && (decide (s.fl=0) || (!s.ot && runB u s.fl))
def validB (u:Un) (s:Us):Bool:=decide (ckU u=0) && fitB u s
def mayB (u:Un) (s:Us) (q:Int):Bool:=if q=0 then (if 0 < s.fl then decide (u.up≤s.si) else true) else if s.ot=true ∨ (s.fl=0∧s.si < u.dn) then false else runB u q
def mayV (u:Un) (s:Us) (q:Int):Bool:=validB u s && mayB u s q
def us0:Us:=⟨0,0,false⟩
def mn (a b:Int):Int:=if b < a then b else a
def nextS (u:Un) (s:Us) (q:Int):Us × Bool × Int :=
  if ckU u ≠ 0 then (us0,false,ckU u) else if fitB u s=false then (us0,false,3) else if mayB u s q=false then (us0,false,15)
  else (⟨q,if decide (0 < q)=decide (0 < s.fl) then mn (s.si+1) 1000 else 1,s.ot⟩,decide (0 < q) && decide (s.fl=0),0)
/-- The least flow from one on that is in no zone. -/
def isBey (l:List Pt) (f r:Int):Prop:=f≤r∧outZ l r=true∧(∀ x,f≤x→x < r→outZ l x=false)∧(r=f ∨ ∃ z ∈ l,r=z.2)
theorem isBey_eq {l:List Pt} {f r:Int} (h:isBey l f r):decide (r=f)=outZ l f:=by
  obtain ⟨h1,h2,h3,_⟩:=h
  by_cases e:r=f
  · subst e;simp [h2]
  · rw [h3 f (Int.le_refl _) (by omega)];simp [e]
def insZ:List Pt→Int→Int × Bool
  | [],_=>(0,false)
  | z :: r,q=>if z.1 < q∧q < z.2 then (z.2,true) else insZ r q
theorem insZ_iff:∀ {l:List Pt} {q:Int},(insZ l q).2=!outZ l q
  | [],q=>rfl
  | z :: r,q=>by
    have ih:=insZ_iff (l:=r) (q:=q)
    unfold insZ
    by_cases h:z.1 < q∧q < z.2
    · rw [if_pos h];simp [outZ,h]
    · rw [if_neg h,ih]
      have:(decide (z.1 < q) && decide (q < z.2))=false:=by simp;omega
      simp [outZ,this]
theorem insZ_mem:∀ {l:List Pt} {q:Int},(insZ l q).2=true→∃ z ∈ l,z.1 < q∧q < z.2∧(insZ l q).1=z.2
  | [],q,h=>by cases h
  | z :: r,q,h=>by
    unfold insZ at h ⊢
    by_cases e:z.1 < q∧q < z.2
    · rw [if_pos e];exact ⟨z,by simp,e.1,e.2,rfl⟩
    · rw [if_neg e] at h ⊢
      obtain ⟨y,h1,h2⟩:=insZ_mem h
      exact ⟨y,List.mem_cons_of_mem _ h1,h2⟩
theorem outZ_f {l:List Pt} {q:Int} {z:Pt} (h:z ∈ l) (h1:z.1 < q) (h2:q < z.2):outZ l q=false:=by
  cases h0:outZ l q with
  | false=>rfl
  | true=>exact absurd ⟨h1,h2⟩ (outZ_iff.1 h0 z h)
/-- How many zones end above a flow. -/
def zAb (l:List Pt) (f:Int):Nat:=(l.filter fun z=>decide (f < z.2)).length
theorem zAb_le:∀ {l:List Pt} {f g:Int},f≤g→zAb l g≤zAb l f
  | [],_,_,_=>Nat.le_refl _
  | z :: r,f,g,h=>by
    have ih:=zAb_le (l:=r) h
    unfold zAb at *
    simp only [List.filter_cons]
    split <;> split <;> simp at * <;> omega
theorem zAb_lt:∀ {l:List Pt} {f:Int} {z:Pt},z ∈ l→f < z.2→zAb l z.2 < zAb l f
  | [],_,_,h,_=>by cases h
  | y :: r,f,z,h,hf=>by
    rcases List.mem_cons.1 h with rfl | h
    · have:=zAb_le (l:=r) (Int.le_of_lt hf)
      unfold zAb at *
      simp only [List.filter_cons]
      split <;> split <;> simp at * <;> omega
    · have ih:=zAb_lt h hf
      unfold zAb at *
      simp only [List.filter_cons]
      split <;> split <;> simp at * <;> omega
/-! Multiples of a grain at which a unit runs. -/
def okQ (u:Un) (g q:Int):Bool:=decide (q % g=0) && outZ u.rg q
def flN (u:Un) (g:Int):Nat→Ls
  | 0=>[]
  | n+1=>flN u g n ++ (if okQ u g (u.lo+n)=true then [u.lo+n] else [])
theorem flN_succ (u:Un) (g:Int) (n:Nat):flN u g (n+1)=flN u g n ++ (if okQ u g (u.lo+n)=true then [u.lo+n] else []):=rfl
/-- Those below a number. -/
def flT (u:Un) (g x:Int):Ls:=flN u g (x - u.lo).toNat
theorem flT_one {u:Un} {g x:Int} (h:u.lo≤x):flT u g (x+1)=flT u g x ++ (if okQ u g x=true then [x] else []):=by
  unfold flT
  rw [show (x+1 - u.lo).toNat=(x - u.lo).toNat+1 by omega]
  rw [flN_succ,show u.lo+((x - u.lo).toNat:Int)=x by omega]
theorem flT_lo {u:Un} {g x:Int} (h:x≤u.lo):flT u g x=[]:=by
  unfold flT
  rw [show (x - u.lo).toNat=0 by omega]
  rfl
theorem flT_skip {u:Un} {g:Int}:∀ (n:Nat) {a:Int},(∀ x,a≤x→x < a+n→okQ u g x=false)→flT u g (a+n)=flT u g a
  | 0,a,_=>by simp
  | n+1,a,h=>by
    have ih:=flT_skip n (a:=a) fun x h1 h2=>h x h1 (by omega)
    by_cases hl:u.lo≤a+n
    · rw [show a+((n+1:Nat):Int)=a+n+1 by omega,flT_one hl,ih,h (a+n) (by omega) (by omega)];simp
    · rw [flT_lo (by omega),flT_lo (by omega)]
theorem flT_to {u:Un} {g a b:Int} (hab:a≤b) (h:∀ x,a≤x→x < b→okQ u g x=false):flT u g b=flT u g a:=by
  have:=flT_skip (b - a).toNat (u:=u) (g:=g) (a:=a) fun x h1 h2=>h x h1 (by omega)
  rwa [show a+((b - a).toNat:Int)=b by omega] at this
theorem flN_mem {u:Un} {g:Int}:∀ {n:Nat} {x:Int},x ∈ flN u g n ↔ (u.lo≤x∧x < u.lo+n)∧okQ u g x=true
  | 0,x=>by simp [flN];omega
  | n+1,x=>by
    unfold flN
    rw [List.mem_append,flN_mem (n:=n)]
    constructor
    · rintro (h | h)
      · exact ⟨by omega,h.2⟩
      · split at h
        · rename_i e;simp at h;subst h;exact ⟨by omega,e⟩
        · simp at h
    · rintro ⟨h1,h2⟩
      by_cases e:x=u.lo+n
      · subst e;right;rw [if_pos h2];simp
      · left;exact ⟨by omega,h2⟩
theorem flT_mem {u:Un} {g t x:Int}:x ∈ flT u g t ↔ (u.lo≤x∧x < t)∧okQ u g x=true:=by
  unfold flT
  rw [flN_mem]
  constructor
  · rintro ⟨h1,h2⟩;exact ⟨by omega,h2⟩
  · rintro ⟨h1,h2⟩;exact ⟨by omega,h2⟩
theorem flN_len {u:Un} {g:Int}:∀ {n:Nat},(flN u g n).length≤n
  | 0=>Nat.le_refl _
  | n+1=>by
    have:=flN_len (u:=u) (g:=g) (n:=n)
    unfold flN
    rw [List.length_append]
    split <;> simp <;> omega
theorem flN_mono {u:Un} {g:Int} {n:Nat}:∀ {m:Nat},n≤m→(flN u g n).length≤(flN u g m).length
  | 0,h=>by rw [show n=0 by omega];exact Nat.le_refl _
  | m+1,h=>by
    by_cases e:n=m+1
    · rw [e];exact Nat.le_refl _
    · have:=flN_mono (u:=u) (g:=g) (m:=m) (n:=n) (by omega)
      rw [show flN u g (m+1)=flN u g m ++ (if okQ u g (u.lo+m)=true then [u.lo+m] else []) from rfl,List.length_append]
      omega
theorem flT_mono {u:Un} {g a b:Int} (h:a≤b):(flT u g a).length≤(flT u g b).length:=flN_mono (by omega)
def flS (u:Un) (g:Int):Ls × Int:=if ckU u ≠ 0 then ([],ckU u) else if g < 1 ∨ 1073741824 < g then ([],1) else if 200 < (flT u g (u.mo+1)).length then ([],10) else (flT u g (u.mo+1),0)
theorem up_mul {f g:Int} (hf:0≤f) (hg:0 < g):(f+g - 1) / g * g % g=0∧f≤(f+g - 1) / g * g∧(f+g - 1) / g * g < f+g∧∀ x,f≤x→x < (f+g - 1) / g * g→x % g ≠ 0:=by
  have h1:=Int.mul_ediv_add_emod (f+g - 1) g
  have h2:=Int.emod_nonneg (f+g - 1) (show g ≠ 0 by omega)
  have h3:=Int.emod_lt_of_pos (f+g - 1) hg
  rw [Int.mul_comm] at h1
  refine ⟨Int.mul_emod_left _ _,by omega,by omega,fun x hx hx2 hm=>?_⟩
  have h4:=Int.mul_ediv_add_emod x g
  rw [hm,Int.mul_comm] at h4
  have h5:x / g < (f+g - 1) / g:=Int.lt_of_mul_lt_mul_right (a:=g) (by omega) (by omega)
  have h6:(x / g+1) * g≤(f+g - 1) / g * g:=Int.mul_le_mul_of_nonneg_right (by omega) (by omega)
  rw [Int.add_mul] at h6
  omega
/-! What is asked of the functions. -/
def R_unI (f:Un→Int):RT:=fun args k=>∃ u:Un,args=[.agg (unC u)]∧u.fin∧k (I (f u))
def R_unQB (f:Un→Int→Bool):RT:=fun args k=>∃ (u:Un) (q:Int),args=[.agg (unC u),I q]∧u.fin∧k (Bo (f u q))
def R_bey:RT:=fun args k=>∃ (u:Un) (q:Int),args=[.agg (unC u),I q]∧u.fin∧∀ r,isBey u.rg q r→k (I r)
def R_ins:RT:=fun args k=>∃ (u:Un) (q:Int),args=[.agg (unC u),I q]∧u.fin∧k (.tup [I (insZ u.rg q).1,Bo (insZ u.rg q).2])
def R_unQ2 (f:Un→Int→Int × Int):RT:=fun args k=>∃ (u:Un) (q:Int),args=[.agg (unC u),I q]∧u.fin∧k (.tup [I (f u q).1,I (f u q).2])
def R_flS:RT:=fun args k=>∃ (u:Un) (q:Int),args=[.agg (unC u),I q]∧u.fin∧k (.tup [.c (.lst (eL (flS u q).1)),I (flS u q).2])
def R_usB (f:Un→Us→Bool):RT:=fun args k=>∃ (u:Un) (s:Us),args=[.agg (unC u),.agg (usC s)]∧u.fin∧k (Bo (f u s))
def R_usQB (f:Un→Us→Int→Bool):RT:=fun args k=>∃ (u:Un) (s:Us) (q:Int),args=[.agg (unC u),.agg (usC s),I q]∧u.fin∧k (Bo (f u s q))
def R_nextS:RT:=fun args k=>∃ (u:Un) (s:Us) (q:Int),args=[.agg (unC u),.agg (usC s),I q]∧u.fin∧k (.tup [.agg (usC (nextS u s q).1),Bo (nextS u s q).2.1,I (nextS u s q).2.2])
def powS (u:Un) (q:Int):Int × Int:=if ckU u ≠ 0 then (0,ckU u) else if q=0 then (0,0) else if runB u q=false then (0,1) else (valC u.tb q,0)
/-- What a deck makes. -/
structure mkU (u:Un):Prop where
  ok:UOk u
  m:u.mo≤19
  hup:u.up≤2
  hdn:u.dn≤2
theorem mkU.fin {u:Un} (h:mkU u):u.fin:=⟨by have:=(ckC_ne h.ok.c).2;omega,by have:=h.ok.n;omega⟩
def R_mkU:RB:=fun cs args k=>∃ d:Dk,args=[]∧cs=dkC d∧d.ok∧∀ (u:Un) d',Dk.ok d'→mkU u→k (.agg (unC u)) (dkC d')
structure mkS (u:Un) (s:Us):Prop where
  f:fitB u s=true
  s:0≤s.si∧s.si≤4
def R_mkS:RB:=fun cs args k=>∃ (d:Dk) (u:Un),args=[.agg (unC u)]∧cs=dkC d∧d.ok∧mkU u∧∀ (s:Us) d',Dk.ok d'→mkS u s→k (.agg (usC s)) (dkC d')
/-! Ends of walks. -/
theorem kB {k:AV→Prop} {a b:Bool} (h:k (Bo a)) (e:a=b):k (Bo b):=e ▸ h
theorem kI {k:AV→Prop} {a b:Int} (h:k (I a)) (e:a=b):k (I b):=e ▸ h
theorem kI2 {k:AV→Prop} {r:Int × Int} {a b:Int} (h:k (.tup [I r.1,I r.2])) (e:r=(a,b)):k (.tup [I a,I b]):=by subst e;exact h
theorem kN {k:AV→Prop} {r:Us × Bool × Int} {a b e:Int} {c d:Bool} (h:k (.tup [.agg (usC r.1),Bo r.2.1,I r.2.2])) (h2:r=(⟨a,b,c⟩,d,e)):k (.tup [.agg [IC a,IC b,BC c],Bo d,I e]):=by subst h2;exact h
theorem kL {k:AV→Prop} {l:Ls} {e:Int} {n:Nat} {r:Ls × Int} (h:k (.tup [.c (.lst (eL r.1)),I r.2])) (h1:n=l.length) (h2:r=(l,e)):k (.tup [.c (.lst (List.take n (List.drop 0 (eL l)))),I e]):=by
  subst h2;subst h1
  rw [List.drop_zero,List.take_of_length_le (by rw [eL_len];exact Nat.le_refl _)]
  exact h
theorem valC_last {c:List Pt} (h:ckC c=0) (x:Int):valC c x≤(lastP c).2:=by
  have h1:valC c x≤valC c (mx x (lastP c).1):=valC_mono h (by unfold mx;split <;> omega)
  cases c with
  | nil=>exact absurd rfl (ckC_ne h).1
  | cons p r =>
    have h2:=(ckC_cons.1 h).2.2
    have h3:(endP p r).1≤mx x (lastP (p :: r)).1:=by show (lastP (p :: r)).1≤_;unfold mx;split <;> omega
    have h4:=ck_end h2
    have h5:valC (p :: r) (mx x (lastP (p :: r)).1)=(endP p r).2:=by
      rw [valC_eq]
      split
      · rename_i h6
        have h9:(endP p r).1≤p.1:=by omega
        cases r with
        | nil=>rfl
        | cons q r =>
          have h7:=(ckGo_cons.1 h2).2.1
          have h8:=ck_end (ckGo_cons.1 h2).2.2.2.2
          change (endP q r).1≤p.1 at h9
          omega
      · exact vGo_end h2 h3
    rw [h5] at h1
    exact h1
theorem flS_ok {u:Un} {g:Int} (h:(flS u g).2=0):ckU u=0∧(1≤g∧g≤1073741824)∧(flS u g).1=flT u g (u.mo+1)∧(flT u g (u.mo+1)).length≤200:=by
  unfold flS at h ⊢
  split at h
  · rename_i e;exact absurd h e
  rename_i h1
  split at h
  · simp at h
  rename_i h2
  split at h
  · simp at h
  rename_i h3
  rw [if_neg h1,if_neg h2,if_neg h3]
  exact ⟨by omega,by omega,rfl,by omega⟩
theorem flS_mem {u:Un} {g q:Int} (h:(flS u g).2=0) (hq:q ∈ (flS u g).1):(1≤q∧q≤1073741824)∧runB u q=true∧q % g=0:=by
  obtain ⟨h1,h2,h3,_⟩:=flS_ok h
  have ho:=ckU_ok h1
  rw [h3,flT_mem] at hq
  have h4:=ho.l1
  have h5:=ho.m
  obtain ⟨h6,h7⟩:=hq
  simp [okQ] at h7
  exact ⟨by omega,runB_iff.2 ⟨by omega,h7.2⟩,h7.1⟩
theorem mkU_of {r:List Pt} {lo mo up dn:Int} {rg:List Pt} (h3:1≤r.length) (h3':r.length≤4) (h4:chainP 10 0 29 (0,0) r) (hl:1≤lo∧lo≤8) (hm:lo≤mo∧mo≤lo+11) (hn:rg.length≤2) (hz:∀ z ∈ rg,0≤z.1∧z.1 < z.2∧z.2≤20) (hu:0≤up∧up≤2) (hd:0≤dn∧dn≤2):mkU ⟨(0,0) :: r,lo,mo,rg,up,dn⟩:=by
  have hin:=chain_in (by omega) (by omega) (by omega) h4
  have hok:∀ q ∈ r,okPt q=true:=fun q hq=>okPt_of (by have:=hin q hq;omega)
  have hck:=chain_ck (by omega) (by omega) h4 hok
  have he:=end_in (by omega) (by omega) (by omega) h4
  refine ⟨⟨ckC_cons.2 ⟨by omega,okPt_of (by simp),hck⟩,?_,hl.1,hm.1,by dsimp only;omega,by dsimp only;omega,fun z hz'=>by have:=hz z hz';omega,by dsimp only;omega,by dsimp only;omega⟩,by dsimp only;omega,hu.2,hd.2⟩
  show (endP (0,0) r).2≤_
  dsimp only at he
  omega
theorem flT_mk {u:Un} {g:Int} (h:mkU u):(flT u g (u.mo+1)).length≤20:=by
  have:=flN_len (u:=u) (g:=g) (n:=(u.mo+1 - u.lo).toNat)
  have h1:=h.m
  have h2:=h.ok.l1
  unfold flT
  omega
theorem flS_mk {u:Un} {g:Int} (h:mkU u) (h1:1≤g) (h2:g≤1073741824):flS u g=(flT u g (u.mo+1),0):=by
  have:=flT_mk (g:=g) h
  rw [flS,if_neg (by simp [ckU_of h.ok]),if_neg (by omega),if_neg (by omega)]
def R_tt:RT:=fun args k=>args=[]∧k (Bo true)
theorem nextU_ok {u:Un} {s:Us} {q:Int} (h:ckU u=0) (hf:fitB u s=true) (hm:mayB u s q=true):nextS u s q=(⟨q,if decide (0 < q)=decide (0 < s.fl) then mn (s.si+1) 1000 else 1,s.ot⟩,decide (0 < q) && decide (s.fl=0),0):=by
  rw [nextS,if_neg (by simp [h]),if_neg (by simp [hf]),if_neg (by simp [hm])]
theorem fit_si {u:Un} {s:Us} (hf:fitB u s=true):0≤s.si∧s.si≤1000:=by simp [fitB,inB] at hf;omega
theorem fit_next {u:Un} {s:Us} {q:Int} (h:ckU u=0) (hf:fitB u s=true) (hm:mayB u s q=true):fitB u (nextS u s q).1=true:=by
  have:=fit_si hf
  rw [nextU_ok h hf hm]
  have h1:inB 0 1000 (if decide (0 < q)=decide (0 < s.fl) then mn (s.si+1) 1000 else 1)=true:=by
    unfold mn inB
    split
    · split <;> simp <;> omega
    · simp
  unfold fitB
  dsimp only
  rw [h1]
  unfold mayB at hm
  by_cases h0:q=0
  · simp [h0]
  · rw [if_neg h0] at hm
    split at hm
    · cases hm
    · rename_i h2
      simp [hm]
      right
      cases ho:s.ot with
      | false=>rfl
      | true=>exact absurd (.inl ho) h2
end Go.Proofs
