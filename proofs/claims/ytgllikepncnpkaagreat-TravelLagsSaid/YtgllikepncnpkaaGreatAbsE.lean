/- Proved here: what functions of the given program come to, and the plain laws of it; no condition but those in the theorems. -/
import Derived.Test.YtgllikepncnpkaaGreatAbsB
import Derived.Laws.Cells
import Derived.Laws.Slices
import Derived.Laws.StructEq
import Derived.Laws.Cover3
namespace Go.Abs
open Go.RowKit
section
variable {P:Program} {g:G} {w:World}
theorem tiOf_spec {t:TypeId} {ti:TI} (h:tiOf P t=some ti):∃ i d z,P.info? t=some i∧P.underlying t=some d∧i.zero=some z ∧
    ti={ agg:=isAggD d,size:=i.size,bytes:=i.bytes,zero:=z.cells.toList,d:=descOf d,eq:=eqFlat P t }:=by
  unfold tiOf at h
  split at h
  · rename_i i d hi hd
    split at h
    · rename_i z hz
      simp only [Option.some.injEq] at h
      exact ⟨i,d,z,hi,hd,hz,h.symm⟩
    · cases h
  · cases h
theorem run_sizeOf {t:TypeId} {i:TypeInfo} (h:P.info? t=some i) (w:World):(sizeOf t).run P w=.ok i.size w:=by
  simp [sizeOf,typeInfo,h]
theorem run_isAgg {t:TypeId} {d:TypeDesc} (h:P.underlying t=some d) (w:World):(isAgg t).run P w=.ok (isAggD d) w:=by
  unfold isAgg
  simp only [Sem.run_bind,run_underlying h,Result.andThen_ok]
  cases d <;> rfl
theorem run_loadVar_cut {t:TypeId} {ti:TI} (hti:tiOf P t=some ti) {b o off:Nat} {cs:List Cell} {x:AV} (u:Nat→Value)
    (hc:∀ (j:Nat) c,cs[j]?=some c→w.cell? ⟨b,o+j,none⟩=some (u j)) (hr:∀ (j:Nat) c,cs[j]?=some c→RepC g w c (u j)) (h:cut ti cs off=some x) :
    ∃ v,(loadVar t ⟨b,o+off,none⟩).run P w=.ok v w∧RepA g w x v:=by
  obtain ⟨i,d,z,hi,hd,hz,rfl⟩:=tiOf_spec hti
  unfold cut at h
  simp only at h
  unfold loadVar
  simp only [Sem.run_bind,run_isAgg hd,Result.andThen_ok]
  by_cases ha:isAggD d=true
  · rw [if_pos ha] at h
    rw [if_pos ha]
    split at h
    · rename_i hle
      simp only [Option.some.injEq] at h
      subst h
      have hget:∀ j,j < i.size→∃ c,cs[off+j]?=some c:=fun j hj=>⟨cs[off+j]'(by omega),List.getElem?_eq_getElem _⟩
      refine ⟨.agg ((List.range i.size).map fun j=>u (off+j)).toArray,?_,?_⟩
      · simp only [Sem.run_bind,run_sizeOf hi,Result.andThen_ok]
        rw [run_loadCells w _ i.size (fun j=>u (off+j)) (fun j hj=>by
          obtain ⟨c,hc'⟩:=hget j hj
          rw [Addr.add_lit,Nat.add_assoc]
          exact hc _ c hc')]
        rfl
      · refine .agg _ (by simp;omega) fun j c v h1 h2=>?_
        rw [List.getElem?_take] at h1
        split at h1
        · rename_i hj
          rw [List.getElem?_drop] at h1
          rw [List.getElem?_map,List.getElem?_range hj] at h2
          simp only [Option.map_some,Option.some.injEq] at h2
          subst h2
          exact hr _ c h1
        · cases h1
    · cases h
  · rw [if_neg ha] at h
    rw [if_neg ha]
    split at h
    · rename_i c hcs
      simp only [Option.some.injEq] at h
      subst h
      refine ⟨u off,?_,.c (hr _ c hcs)⟩
      simp [hc _ c hcs]
    · cases h
theorem constCells_spec {l:List Value} {cs:List Cell} (h:constCells l=some cs):cs=l.map .sc∧∀ v ∈ l,scalar v=true:=by
  induction l generalizing cs with
  | nil=>simp [constCells] at h;simp [h]
  | cons v r ih =>
    unfold constCells at h
    split at h
    · rename_i hv
      cases hr:constCells r with
      | none=>simp [hr] at h
      | some l' =>
        simp [hr] at h
        obtain ⟨h1,h2⟩:=ih hr
        subst h
        simp [h1,hv]
        exact h2
    · cases h
theorem repC_sc {v:Value} (h:scalar v=true):RepC g w (.sc v) v:=.pure (.sc h)
theorem constCellsN_spec {l:List Value} {cs:List Cell} (h:constCellsN l=some cs):cs=l.map nrm∧∀ v ∈ l,scalar v=true:=by
  induction l generalizing cs with
  | nil=>simp [constCellsN] at h;simp [h]
  | cons v r ih =>
    unfold constCellsN at h
    split at h
    · rename_i hv
      cases hr:constCellsN r with
      | none=>simp [hr] at h
      | some l' =>
        simp [hr] at h
        obtain ⟨h1,h2⟩:=ih hr
        subst h
        simp [h1,hv]
        exact h2
    · cases h
theorem repP_nrm0 {F:Nat→Nat→Prop} {w:World} {v:Value} (h:scalar v=true):RepP F w (nrm v) v:=by
  unfold nrm
  split
  · exact .nil
  · exact .sc h
theorem constCells_rep {l:List Value} {cs:List Cell} (h:constCells l=some cs):l.length=cs.length∧∀ (j:Nat) c u,cs[j]?=some c→l[j]?=some u→RepC g w c u:=by
  obtain ⟨rfl,hs⟩:=constCells_spec h
  refine ⟨by simp,fun j c u h1 h2=>?_⟩
  rw [List.getElem?_map,h2] at h1
  simp at h1
  subst h1
  exact repC_sc (hs u (List.mem_of_getElem? h2))
theorem constAV_rep {v:Value} {x:AV} (h:constAV v=some x):RepA g w x v:=by
  unfold constAV at h
  split at h
  · rename_i cs
    cases hc:constCells cs.toList with
    | none=>simp [hc] at h
    | some l =>
      simp [hc] at h
      subst h
      obtain ⟨h1,h2⟩:=constCells_rep (g:=g) (w:=w) hc
      exact .agg cs.toList h1 h2
  · cases h
  · split at h
    · rename_i hs
      simp at h
      subst h
      exact .c (repC_sc hs)
    · cases h
theorem ev_rep {φ:Nat→Option AV} {a:Act} (hs:Slots g w φ a) {x:Operand} {av:AV} (h:ev φ x=some av):RepA g w av (a.eval x):=by
  cases x with
  | tmp t =>
    obtain ⟨v,h1,h2⟩:=hs t av h
    simpa [Act.eval,h1] using h2
  | const v=>exact constAV_rep h
  | global _=>cases h
  | func f =>
    simp only [ev,Option.some.injEq] at h
    subst h
    exact .c (.fn [] rfl (fun j c u h=>by simp at h))
theorem evs_rep {φ:Nat→Option AV} {a:Act} (hs:Slots g w φ a) {l:List Operand} {xs:List AV} (h:evs φ l=some xs) :
    xs.length=l.length∧∀ (j:Nat) x v,xs[j]?=some x→(l.map a.eval)[j]?=some v→RepA g w x v:=by
  induction l generalizing xs with
  | nil=>simp [evs] at h;subst h;simp
  | cons y r ih =>
    unfold evs at h
    split at h
    · rename_i a' l' h1 h2
      simp at h
      subst h
      obtain ⟨i1,i2⟩:=ih h2
      refine ⟨by simp [i1],fun j x v hx hv=>?_⟩
      cases j with
      | zero=>simp at hx hv;subst hx;subst hv;exact ev_rep hs h1
      | succ j=>simp at hx hv;exact i2 j x v hx (by simpa using hv)
    · cases h
theorem avCells_rep {x:AV} {v:Value} {cs:List Cell} (h:avCells x=some cs) (hr:RepA g w x v) (h1:∀ y,x=.c y→v.oneCell'=true) :
    v.cells.size=cs.length∧∀ (j:Nat) c u,cs[j]?=some c→v.cells[j]?=some u→RepC g w c u:=by
  cases hr with
  | c hc =>
    rename_i y
    simp [avCells] at h
    subst h
    have:=h1 y rfl
    have hv:v.cells=#[v]:=by cases v <;> simp_all [Value.cells,Value.oneCell']
    rw [hv]
    refine ⟨rfl,fun j c u hj hu=>?_⟩
    cases j with
    | zero=>simp at hj hu;subst hj;subst hu;exact hc
    | succ j=>simp at hj
  | agg us hl hc =>
    simp [avCells] at h
    subst h
    exact ⟨by simpa [Value.cells] using hl,fun j c u hj hu=>hc j c u hj (by simpa [Value.cells] using hu)⟩
  | tup us hl hc=>cases h
theorem repP_one {F:Nat→Nat→Prop} {c:Cell} {v:Value} (h:RepP F w c v):v.oneCell'=true:=by
  cases h with
  | sc h=>cases v <;> simp_all [scalar,Value.oneCell']
  | emp _ _=>rfl
  | lst _ _ _ _ _ _=>rfl
theorem repC_one {c:Cell} {v:Value} (h:RepC g w c v):v.oneCell'=true:=by
  cases h with
  | pure h=>exact repP_one h
  | full h=>rfl
  | view _ _ _ _ _=>rfl
  | ptr _ _=>rfl
  | aptr _ _=>rfl
  | pel _ _ _=>rfl
  | fn _ _ _=>rfl
theorem repA_one {x:AV} {v:Value} (hr:RepA g w x v) (y:Cell) (h:x=.c y):v.oneCell'=true:=by
  subst h
  cases hr with
  | c hc=>exact repC_one hc
theorem cells_one {x:AV} {v:Value} {cs:List Cell} (h:avCells x=some cs) (hr:RepA g w x v):∀ u ∈ v.cells.toList,u.oneCell'=true:=by
  intro u hu
  obtain ⟨h1,h2⟩:=avCells_rep h hr (repA_one hr)
  obtain ⟨j,hj,he⟩:=List.getElem_of_mem hu
  have hj':j < cs.length:=by rw [← h1];simpa using hj
  exact repC_one (h2 j cs[j] u (List.getElem?_eq_getElem hj') (by rw [← he];simp at hj ⊢))
end
end Go.Abs

namespace Go.Abs
open Go.RowKit
section
variable {P:Program} {B:Base} {g:G} {m:Mem} {w:World}
theorem cell_of_block {b:Nat} {us:List Value} {T:TypeId} {fz:Nat × Nat} (h:w.heap[b]?=some (.cells us.toArray T fz)) (j:Nat):w.cell? ⟨b,j,none⟩=us[j]?:=by
  simp [World.cell?,h]
theorem getD_of {α:Type} {l:List α} {j:Nat} {x d:α} (h:l[j]?=some x):l.getD j d=x:=by simp [List.getD,h]
theorem arr_cells {i:Id} {e:TypeId} {sz:Nat} {es:List (List Cell)} {fr:Bool} (h:ObjOk g w i (.arr e sz es fr)) {b len cap:Nat} (hv:g.β i=.slice (some ⟨b,0,none⟩) len cap) {k:Nat} {x:List Cell} (hk:es[k]?=some x) :
    ∃ u:Nat→Value,∀ (j:Nat) c,x[j]?=some c→w.cell? ⟨b,k * g.sz i+j,none⟩=some (u j)∧RepP g.F w c (u j):=by
  cases h with
  | arr us hz ho hs hr h1 hf =>
    subst hz
    refine ⟨fun j=>(us[k * g.sz i+j]?).getD undef,fun j c hj=>?_⟩
    obtain ⟨u,hu,hc⟩:=hr k x hk j c hj
    rw [hv] at ho
    have:=ho.cells (g:=b) rfl _ u hu
    rw [Addr.add_lit,Nat.zero_add] at this
    simp [hu,this,hc]
theorem loadF_ok (hI:Inv B g m w) {t:TypeId} {ti:TI} (hti:tiOf P t=some ti) {p x:AV} {v:Value} (hp:RepA g w p v) (h:loadF ti m p=some x) :
    ∃ u,(Instr.loadAt t v).run P w=.ok u w∧RepA g w x u:=by
  unfold loadF at h
  split at h
  · rename_i i off
    cases hp with
    | c hp =>
      cases hp with
      | pure hp=>cases hp
      | ptr hk hv =>
        rename_i b
        split at h
        · rename_i cs hm
          obtain ⟨_,ho⟩:=hI.ok i _ hm
          cases ho with
          | blk us hv' hh hl hr h1 hf =>
            rw [hv] at hv'
            simp at hv'
            subst hv'
            have:=run_loadVar_cut (g:=g) (w:=w) hti (b:=b) (o:=0) (off:=off) (fun j=>us.getD j undef) (fun j c hj=>by
              have hj':j < us.length:=by rw [hl];exact (List.getElem?_eq_some_iff.1 hj).1
              rw [Nat.zero_add,cell_of_block hh,List.getElem?_eq_getElem hj'];simp [List.getD,List.getElem?_eq_getElem hj']) (fun j c hj=>by
              have hj':j < us.length:=by rw [hl];exact (List.getElem?_eq_some_iff.1 hj).1
              exact hr j c _ hj (by simp [List.getD,List.getElem?_eq_getElem hj'])) h
            simpa [Instr.loadAt,Instr.sureAddr] using this
        · cases h
  · rename_i o i k
    cases hp with
    | c hp =>
      cases hp with
      | pure hp=>cases hp
      | aptr hk hv =>
        rename_i b len cap
        split at h
        · rename_i e sz es fr hm
          split at h
          · rename_i cs hcs
            obtain ⟨_,ho⟩:=hI.ok o _ hm
            obtain ⟨u,hu⟩:=arr_cells ho hv hcs
            have:=run_loadVar_cut (g:=g) (w:=w) hti (b:=b) (o:=i * g.sz o) (off:=k) u (fun j c hj=>(hu j c hj).1) (fun j c hj=>.pure (hu j c hj).2) h
            simpa [Instr.loadAt,Instr.sureAddr] using this
          · cases h
        · cases h
  · rename_i cs
    cases hp with
    | c hp =>
      cases hp with
      | pure hp=>cases hp
      | pel u hc hr =>
        rename_i b off
        have:=run_loadVar_cut (g:=g) (w:=w) hti (b:=b) (o:=off) (off:=0) u (fun j c hj=>(hc j c hj).2) (fun j c hj=>.pure (hr j c hj)) h
        simpa [Instr.loadAt,Instr.sureAddr] using this
  · cases h
theorem fieldPlace_ok {t:TypeId} {ti:TI} (hti:tiOf P t=some ti) (h0:ti.size ≠ 0) (a:Addr) (f:Field) (hf:f.type=t):(fieldPlace a f).run P w=.ok (a.add f.offset) w:=by
  obtain ⟨i,d,z,hi,hd,hz,rfl⟩:=tiOf_spec hti
  subst hf
  simp only at h0
  simp [fieldPlace,run_sizeOf hi,h0]
theorem descOf_struct {d:TypeDesc} {fs:List (Nat × TypeId)} (h:descOf d=.struct fs):∃ F,d=.struct F∧fs=F.toList.map fun f=>(f.offset,f.type):=by
  cases d <;> simp [descOf] at h
  exact ⟨_,rfl,h.symm⟩
theorem descOf_slice {d:TypeDesc} {e:TypeId} (h:descOf d=.slice e):d=.slice e:=by
  cases d <;> simp [descOf] at h
  rw [h]
theorem descOf_array {d:TypeDesc} {n:Nat} {e:TypeId} (h:descOf d=.array n e):d=.array n e:=by
  cases d <;> simp [descOf] at h
  rw [h.1,h.2]
theorem descOf_int {d:TypeDesc} {k:IntKind} (h:descOf d=.int k):d=.int k:=by
  cases d <;> simp [descOf] at h
  rw [h]
theorem descOf_bool {d:TypeDesc} (h:descOf d=.bool):d=.bool:=by
  cases d <;> simp [descOf] at h
  rfl
theorem fieldF_ok {s f:Nat} {p x:AV} {v:Value} (hp:RepA g w p v) (h:fieldF P s f p=some x) :
    ∃ u,(Instr.fieldAt s v f).run P w=.ok u w∧RepA g w x u:=by
  unfold fieldF at h
  split at h
  · rename_i fs hti
    obtain ⟨i,d,z,hi,hd,hz,he⟩:=tiOf_spec hti
    simp only [TI.mk.injEq] at he
    obtain ⟨_,_,_,_,hds,_⟩:=he
    obtain ⟨F,rfl,hfs⟩:=descOf_struct hds.symm
    subst hfs
    split at h
    · rename_i off t hf
      rw [List.getElem?_map] at hf
      cases hF:F.toList[f]? with
      | none=>simp [hF] at hf
      | some fd =>
        simp [hF] at hf
        obtain ⟨rfl,rfl⟩:=hf
        have hF':F[f]?=some fd:=by simpa using hF
        split at h
        · rename_i ti hti'
          split at h
          · cases h
          · rename_i h0
            have key:∀ b o,(Instr.fieldAt s (.pointer (some ⟨b,o,none⟩)) f).run P w=.ok (.pointer (some ⟨b,o+fd.offset,none⟩)) w:=fun b o=>by
              simp [Instr.fieldAt,run_underlying hd,hF',Instr.sureAddr,fieldPlace_ok hti' h0 _ fd rfl,Addr.add_lit]
            split at h
            · simp at h
              subst h
              cases hp with
              | c hp =>
                cases hp with
                | pure hp=>cases hp
                | ptr hk hv=>exact ⟨_,key _ _,.c (.ptr hk hv)⟩
            · simp at h
              subst h
              cases hp with
              | c hp =>
                cases hp with
                | pure hp=>cases hp
                | aptr hk hv=>exact ⟨_,key _ _,.c (by rw [Nat.add_assoc];exact .aptr hk hv)⟩
            · rename_i cs
              split at h
              · simp at h
                subst h
                cases hp with
                | c hp =>
                  cases hp with
                  | pure hp=>cases hp
                  | pel u hc hr =>
                    rename_i b o
                    refine ⟨_,key _ _,.c (.pel (fun j=>u (fd.offset+j)) (fun j c hj=>?_) (fun j c hj=>?_))⟩
                    · rw [List.getElem?_drop] at hj
                      rw [Nat.add_assoc]
                      exact hc _ c hj
                    · rw [List.getElem?_drop] at hj
                      exact hr _ c hj
              · cases h
            · cases h
        · cases h
    · cases h
  · cases h
theorem isInt {g:G} {w:World} {k:IntKind} {n:Int} {v:Value} (h:RepA g w (.c (.sc (.int k n))) v):v=.int k n:=by
  cases h with
  | c h=>cases h with
    | pure h=>cases h with
      | sc h=>rfl
theorem isSc {g:G} {w:World} {x v:Value} (h:RepA g w (.c (.sc x)) v):v=x∧scalar x=true:=by
  cases h with
  | c h=>cases h with
    | pure h=>cases h with
      | sc h=>exact ⟨rfl,h⟩
theorem repP_lst {F:Nat→Nat→Prop} {es:List (List Cell)} {v:Value} (h:RepP F w (.lst es) v):∃ a cap,v=.slice a es.length cap∧es.length≤cap∧cap≤maxLen ∧
    ∀ (i:Nat) e,es[i]?=some e→∃ (b off sz:Nat) (u:Nat→Value),a=some ⟨b,off,none⟩∧(∀ (k:Nat) x,es[k]?=some x→x.length=sz) ∧
      ∀ (j:Nat) c,e[j]?=some c→F b (off+i * sz+j)∧w.cell? ⟨b,off+i * sz+j,none⟩=some (u j)∧RepP F w c (u j):=by
  cases h with
  | emp hcap _=>exact ⟨_,_,rfl,by simp,hcap,fun i e h=>by simp at h⟩
  | lst u hs hc hr hl hcap =>
    rename_i b off cap sz
    exact ⟨_,cap,rfl,hl,hcap,fun i e he=>⟨b,off,sz,u i,rfl,hs,fun j c hj=>⟨(hc i e he j c hj).1,(hc i e he j c hj).2,hr i e he j c hj⟩⟩⟩
theorem sz_of {es:List (List Cell)} {n sz s:Nat} {x:List Cell} (hs:∀ (k:Nat) x,es[k]?=some x→x.length=sz) (hx:es[n]?=some x) (hl:x.length=s):sz=s:=by rw [← hs n x hx,hl]
theorem index_lst {t e:TypeId} {te:TypeInfo} (hu:P.underlying t=some (.slice e)) (hte:P.info? e=some te) {es:List (List Cell)} {v:Value} (hp:RepP g.F w (.lst es) v) {k:IntKind} {n:Int} (hn:0≤n) {x:List Cell} (hx:es[n.toNat]?=some x)
    (hsz:x.length=te.size):∃ u,(Instr.indexAt t v (.int k n)).run P w=.ok u w∧RepA g w (.c (.pel x)) u:=by
  obtain ⟨a,cap,rfl,hl,hcap,hcell⟩:=repP_lst hp
  obtain ⟨b,off,sz,u,rfl,hs,hc⟩:=hcell _ x hx
  have hlt:n.toNat < es.length:=(List.getElem?_eq_some_iff.1 hx).1
  have hlt':n < (es.length:Int):=by omega
  obtain rfl:=sz_of hs hx hsz
  refine ⟨.pointer (some ⟨b,off+n.toNat * te.size,none⟩),?_,.c (.pel u (fun j c hj=>⟨(hc j c hj).1,(hc j c hj).2.1⟩) fun j c hj=>(hc j c hj).2.2)⟩
  simp [Instr.indexAt,run_underlying hu,asIntOf,hn,hlt',run_sizeOf hte,Addr.add_lit]
theorem indexF_ok (hI:Inv B g m w) {t:Nat} {p ix x:AV} {v iv:Value} (hp:RepA g w p v) (hi:RepA g w ix iv) (h:indexF P m t p ix=some x) :
    ∃ u,(Instr.indexAt t v iv).run P w=.ok u w∧RepA g w x u:=by
  unfold indexF at h
  split at h
  · rename_i e _ n hti
    obtain ⟨i,d,z,hi0,hd,hz,he⟩:=tiOf_spec hti
    simp only [TI.mk.injEq] at he
    obtain ⟨_,_,_,_,hds,_⟩:=he
    obtain rfl:=descOf_slice hds.symm
    obtain rfl:=isInt hi
    split at h
    · cases h
    · rename_i te hte
      obtain ⟨i',d',z',hi',hd',hz',rfl⟩:=tiOf_spec hte
      split at h
      · rename_i hn
        split at h
        · split at h
          · rename_i el hel
            split at h
            · rename_i hsz
              simp at h;subst h
              cases hp with
              | c hp=>cases hp with
                | pure hp=>exact index_lst hd hi' hp hn hel hsz
            · cases h
          · cases h
        · split at h
          · rename_i el hel
            split at h
            · rename_i hsz
              simp at h;subst h
              cases hp with
              | c hp=>cases hp with
                | pure hp=>cases hp
                | full hp=>exact index_lst hd hi' hp hn hel hsz
            · cases h
          · cases h
        · rename_i o lo len
          split at h
          · rename_i e' sz es fr hm
            split at h
            · rename_i hlt
              obtain ⟨hlt,rfl⟩:=hlt
              simp at h;subst h
              cases hp with
              | c hp=>cases hp with
                | pure hp=>cases hp
                | view hk hv hle ha hsp =>
                  rename_i len' cap a a'
                  obtain ⟨_,ho⟩:=hI.ok o _ hm
                  cases ho with
                  | arr us hz ho hs hr h1 hf =>
                    have hlo:lo < cap:=by omega
                    rw [ha (.inl hlo)]
                    rcases ho.2 with ⟨hnil,_⟩ | ⟨gb,cap',cur,hb,_⟩
                    · rw [hv] at hnil;simp at hnil;omega
                    · rw [hv] at hb
                      simp at hb
                      obtain ⟨rfl,_,rfl⟩:=hb
                      refine ⟨.pointer (some ⟨gb,(lo+n.toNat) * g.sz o+0,none⟩),?_,.c (.aptr hk hv)⟩
                      simp [Instr.indexAt,run_underlying hd,asIntOf,hn,hlt,run_sizeOf hi',Addr.add_lit,hz,Nat.add_mul]
            · cases h
          · cases h
        · cases h
      · cases h
  · rename_i len e _ n hti
    obtain ⟨i,d,z,hi0,hd,hz,he⟩:=tiOf_spec hti
    simp only [TI.mk.injEq] at he
    obtain ⟨_,_,_,_,hds,_⟩:=he
    obtain rfl:=descOf_array hds.symm
    obtain rfl:=isInt hi
    split at h
    · cases h
    · rename_i te hte
      obtain ⟨i',d',z',hi',hd',hz',rfl⟩:=tiOf_spec hte
      split at h
      · rename_i hn
        split at h
        · simp at h;subst h
          cases hp with
          | c hp=>cases hp with
            | pure hp=>cases hp
            | ptr hk hv =>
              refine ⟨_,?_,.c (.ptr hk hv)⟩
              simp [Instr.indexAt,run_underlying hd,asIntOf,hn,run_sizeOf hi',Addr.add_lit,Instr.sureAddr]
        · cases h
      · cases h
  · cases h
end
end Go.Abs

namespace Go.Abs
open Go.RowKit
section
variable {P:Program} {B:Base} {g:G} {m:Mem} {w:World}
theorem isBool {g:G} {w:World} {b:Bool} {v:Value} (h:RepA g w (.c (.sc (.bool b))) v):v=.bool b:=(isSc h).1
theorem intBeq (a b:Int):(a == b)=decide (a=b):=by rw [Bool.eq_iff_iff];simp
theorem binI_ok {op:BinOp} {t:TypeId} {k:IntKind} {a b:Int} {v:Value} (h:binI op k a b=some v):(binOp op t (.int k a) (.int k b)).run P w=.ok v w∧scalar v=true:=by
  cases op <;> simp only [binI] at h
  case quo =>
    split at h
    · cases h
    · rename_i hb
      simp at h;subst h
      simp [binOp_quo,Op.intDiv,hb,scalar]
  case rem =>
    split at h
    · cases h
    · rename_i hb
      simp at h;subst h
      simp [binOp_rem,Op.intDiv,hb,scalar]
  case and =>
    simp at h;subst h
    refine ⟨?_,rfl⟩
    simp [binOp,Op.intBits,andI]
  case shr =>
    split at h
    · cases h
    · rename_i hb
      simp at h;subst h
      refine ⟨?_,rfl⟩
      simp [binOp,Op.shift,shrI,hb]
  all_goals first
    | contradiction
    | (simp only [Option.some.injEq] at h;subst h;refine ⟨?_,rfl⟩;simp [binOp,Op.intArith,Op.intCmp,intBeq,bne];done)
    | skip
theorem binB_ok {op:BinOp} {t:TypeId} (ht:P.underlying t=some .bool) {a b:Bool} {v:Value} (h:binB op a b=some v):(binOp op t (.bool a) (.bool b)).run P w=.ok v w∧scalar v=true:=by
  have key:(Op.equal t (.bool a) (.bool b)).run P w=.ok (a == b) w:=by
    have hd:∀ d:Nat,(Op.equalIn (d+1) t (.bool a) (.bool b)).run P w=.ok (a == b) w:=fun d=>by
      simp [Op.equalIn,run_underlying ht]
    exact hd 9999
  cases op <;> simp only [binB] at h <;> first
    | (cases h;done)
    | (simp at h;subst h;simp [binOp,key,scalar])
theorem flat_part {t:TypeId} (h:(∃ k,P.underlying t=some (.int k)) ∨ P.underlying t=some .bool) {us:Array Value} {o:Nat} {u:Value} (hu:us[o]?=some u) (w:World):(part t us o).run P w=.ok u w:=by
  rcases h with ⟨k,hd⟩ | hd
  · simp [part,isAgg,run_underlying hd,hu]
  · simp [part,isAgg,run_underlying hd,hu]
theorem eqFields_ok (d:Nat) {us vs:List Value} {xs ys:List Cell} (hl:us.length=xs.length) (hl':vs.length=ys.length) (hx:∀ (j:Nat) c u,xs[j]?=some c→us[j]?=some u→RepC g w c u) (hy:∀ (j:Nat) c u,ys[j]?=some c→vs[j]?=some u→RepC g w c u) :
    ∀ (l:List Field) (i:Nat) (ks:List Bool) (b:Bool),flatFs P i l=some ks→eqC ks (xs.drop i) (ys.drop i)=some b→(Op.eqFields (d+1) us.toArray vs.toArray l).run P w=.ok b w
  | [],i,ks,b,h1,h3=>by
    simp [flatFs] at h1
    subst h1
    unfold eqC at h3
    split at h3
    · simp at h3;subst h3;simp [Op.eqFields]
    · rename_i hh _ _;cases hh
    · rename_i hh _ _;cases hh
    · cases h3
  | f :: r,i,ks,b,h1,h3=>by
    simp only [flatFs,Bool.and_eq_true,bne_iff_ne,ne_eq,beq_iff_eq] at h1
    split at h1
    case isFalse=>cases h1
    rename_i hn
    obtain ⟨n1,n2⟩:=hn
    have go:∀ (q:Bool) (ks2:List Bool),ks=q :: ks2→flatFs P (i+1) r=some ks2→((∃ k,P.underlying f.type=some (.int k)) ∨ P.underlying f.type=some .bool) →
        (∀ c c' u v,RepC g w c u→RepC g w c' v→∀ (b2 b3:Bool) (cs cs':List Cell),eqC ks2 cs cs'=some b2→eqC (q :: ks2) (c :: cs) (c' :: cs')=some b3→∃ e:Bool,(Op.equalIn (d+1) f.type u v).run P w=.ok e w∧b3=(e && b2)) →
        (Op.eqFields (d+1) us.toArray vs.toArray (f :: r)).run P w=.ok b w:=fun q ks2 hks hf ht he=>by
      subst hks
      have hxi:i < xs.length:=by
        rcases Nat.lt_or_ge i xs.length with h | h
        · exact h
        · rw [List.drop_eq_nil_of_le h] at h3
          cases q <;> simp [eqC] at h3
      have hyi:i < ys.length:=by
        rcases Nat.lt_or_ge i ys.length with h | h
        · exact h
        · rw [List.drop_eq_nil_of_le h] at h3
          unfold eqC at h3
          split at h3
          · rename_i hh _ _;cases hh
          · rename_i hh;cases hh
          · rename_i hh;cases hh
          · cases h3
      rw [List.drop_eq_getElem_cons hxi,List.drop_eq_getElem_cons hyi] at h3
      have q1:=hx i xs[i] (us[i]'(by omega)) (List.getElem?_eq_getElem hxi) (List.getElem?_eq_getElem (by omega))
      have q2:=hy i ys[i] (vs[i]'(by omega)) (List.getElem?_eq_getElem hyi) (List.getElem?_eq_getElem (by omega))
      have p1:(part f.type us.toArray f.offset).run P w=.ok (us[i]'(by omega)) w:=flat_part ht (by rw [n2];simp) w
      have p2:(part f.type vs.toArray f.offset).run P w=.ok (vs[i]'(by omega)) w:=flat_part ht (by rw [n2];simp) w
      have hb2:∃ b2,eqC ks2 (xs.drop (i+1)) (ys.drop (i+1))=some b2:=by
        generalize xs[i]=c at h3
        generalize ys[i]=c' at h3
        unfold eqC at h3
        split at h3
        · rename_i hh _ _;cases hh
        · rename_i hh0 hh1 hh2
          simp only [List.cons.injEq] at hh0 hh1 hh2
          obtain ⟨_,rfl⟩:=hh0
          obtain ⟨_,rfl⟩:=hh1
          obtain ⟨_,rfl⟩:=hh2
          split at h3
          · obtain ⟨b2,e2,_⟩:=Option.map_eq_some_iff.1 h3;exact ⟨b2,e2⟩
          · cases h3
        · rename_i hh0 hh1 hh2
          simp only [List.cons.injEq] at hh0 hh1 hh2
          obtain ⟨_,rfl⟩:=hh0
          obtain ⟨_,rfl⟩:=hh1
          obtain ⟨_,rfl⟩:=hh2
          obtain ⟨b2,e2,_⟩:=Option.map_eq_some_iff.1 h3;exact ⟨b2,e2⟩
        · cases h3
      obtain ⟨b2,hb2⟩:=hb2
      obtain ⟨e,he1,he2⟩:=he _ _ _ _ q1 q2 b2 b _ _ hb2 h3
      have ih:=eqFields_ok d hl hl' hx hy r (i+1) ks2 b2 hf hb2
      rw [he2]
      simp only [Op.eqFields,if_pos n1,Sem.run_bind,p1,p2,Result.andThen_ok,he1]
      cases e
      · simp
      · simpa using ih
    split at h1
    · rename_i kk hd
      obtain ⟨ks2,e1,rfl⟩:=Option.map_eq_some_iff.1 h1
      refine go true ks2 rfl e1 (.inl ⟨kk,hd⟩) fun c c' u v r1 r2 b2 b3 cs cs' g2 g3=>?_
      unfold eqC at g3
      split at g3
      · rename_i hh _ _;cases hh
      · rename_i hh0 hh1 hh2
        simp only [List.cons.injEq] at hh0 hh1 hh2
        obtain ⟨_,rfl⟩:=hh0
        obtain ⟨rfl,rfl⟩:=hh1
        obtain ⟨rfl,rfl⟩:=hh2
        split at g3
        · rename_i hk
          subst hk
          rw [g2] at g3
          simp at g3
          have e1:=isInt (.c r1)
          have e2:=isInt (.c r2)
          subst e1 e2
          exact ⟨_,run_equalIn_int w d _ _ _ _ _ hd,by rw [← g3,intBeq]⟩
        · cases g3
      · rename_i hh _ _;cases hh
      · cases g3
    · rename_i hd
      obtain ⟨ks2,e1,rfl⟩:=Option.map_eq_some_iff.1 h1
      refine go false ks2 rfl e1 (.inr hd) fun c c' u v r1 r2 b2 b3 cs cs' g2 g3=>?_
      unfold eqC at g3
      split at g3
      · rename_i hh _ _;cases hh
      · rename_i hh _ _;cases hh
      · rename_i hh0 hh1 hh2
        simp only [List.cons.injEq] at hh0 hh1 hh2
        obtain ⟨_,rfl⟩:=hh0
        obtain ⟨rfl,rfl⟩:=hh1
        obtain ⟨rfl,rfl⟩:=hh2
        rw [g2] at g3
        simp at g3
        have e1:=isBool (.c r1)
        have e2:=isBool (.c r2)
        subst e1 e2
        exact ⟨_,run_equalIn_bool' w d _ _ _ hd,by rw [← g3]⟩
      · cases g3
    · cases h1
theorem nilB_ok {op:BinOp} {t e:TypeId} (ht:P.underlying t=some (.slice e)) {x:Cell} {a:Value} (hx:RepA g w (.c x) a) {r:Bool} (h:nilB op x=some r) (y z:Operand) :
    (do eqGuard op t y z a (.slice none 0 0);binOp op t a (.slice none 0 0):Sem Value).run P w=.ok (.bool r) w:=by
  unfold nilB at h
  split at h
  · obtain ⟨rfl,_⟩:=isSc hx
    simp at h;subst h
    simp [eqGuard,binOp,run_equal_slice_nil w t e _ _ _ ht]
  · cases hx with
    | c hx=>cases hx with
      | pure hx=>cases hx with
        | lst u hs hc hr hl hcap =>
          simp at h;subst h
          simp [eqGuard,binOp,run_equal_slice_nil w t e _ _ _ ht]
  · obtain ⟨rfl,_⟩:=isSc hx
    simp at h;subst h
    simp [eqGuard,binOp,run_equal_slice_nil w t e _ _ _ ht]
  · cases hx with
    | c hx=>cases hx with
      | pure hx=>cases hx with
        | lst u hs hc hr hl hcap =>
          simp at h;subst h
          simp [eqGuard,binOp,run_equal_slice_nil w t e _ _ _ ht]
  · cases h
theorem binE_ok {op:BinOp} {t:TypeId} {ti:TI} (hti:tiOf P t=some ti) {q:Bool} {ks:List Bool} (hq:ti.eq=q :: ks) {xs ys:List Cell} {a b:Value} (ha:RepA g w (.agg xs) a) (hb:RepA g w (.agg ys) b) {r:Bool} (h:binE op (q :: ks) xs ys=some r) (x y:Operand) :
    (do eqGuard op t x y a b;binOp op t a b:Sem Value).run P w=.ok (.bool r) w:=by
  obtain ⟨i,dd,zv,hi,hd,hz,rfl⟩:=tiOf_spec hti
  have hq:eqFlat P t=q :: ks:=hq
  unfold eqFlat at hq
  split at hq
  case h_2=>cases hq
  rename_i fs hu
  split at hq
  case h_2=>cases hq
  rename_i ks' hf
  split at hq
  case isFalse=>cases hq
  rename_i hg
  subst hq
  simp only [Bool.and_eq_true,Bool.not_eq_true'] at hg
  cases ha with
  | agg us hl hx =>
  cases hb with
  | agg vs hl' hy =>
  have hfo:P.fieldsOf t=fs:=by unfold Program.fieldsOf;rw [hu]
  have key:∀ b,eqC (q :: ks) xs ys=some b→(Op.equalIn 10000 t (.agg us.toArray) (.agg vs.toArray)).run P w=.ok b w:=fun b hb=>by
    rw [run_equalIn_struct w 9999 t us.toArray vs.toArray (by rw [hfo];exact hu) hg.1,hfo]
    exact eqFields_ok 9998 hl hl' hx hy fs.toList 0 (q :: ks) b hf (by simpa using hb)
  rw [Sem.run_bind,run_eqGuard_agg w op t x y us.toArray vs.toArray hg.2,Result.andThen_ok]
  cases op <;> simp only [binE] at h <;> first
    | (cases h;done)
    | (rw [run_eql_struct,key _ h];rfl)
    | (obtain ⟨b2,e2,rfl⟩:=Option.map_eq_some_iff.1 h;rw [run_neq_struct,key _ e2];rfl)
theorem unV_ok {op:UnOp} {x v:Value} (h:unV op x=some v):(Op.unary op x).run P w=.ok v w∧scalar v=true:=by
  unfold unV at h
  split at h <;> first
    | (cases h;done)
    | (simp at h;subst h;simp [Op.unary,Op.intArith,scalar])
theorem run_part_cut {t:TypeId} {ti:TI} (hti:tiOf P t=some ti) {off:Nat} {cs:List Cell} {x:AV} {us:List Value} (hl:us.length=cs.length)
    (hr:∀ (j:Nat) c u,cs[j]?=some c→us[j]?=some u→RepC g w c u) (h:cut ti cs off=some x) :
    ∃ v,(part t us.toArray off).run P w=.ok v w∧RepA g w x v:=by
  obtain ⟨i,d,z,hi,hd,hz,rfl⟩:=tiOf_spec hti
  unfold cut at h
  simp only at h
  unfold part
  simp only [Sem.run_bind,run_isAgg hd,Result.andThen_ok]
  by_cases ha:isAggD d=true
  · rw [if_pos ha] at h
    rw [if_pos ha]
    split at h
    · rename_i hle
      simp only [Option.some.injEq] at h
      subst h
      refine ⟨.agg ((us.drop off).take i.size).toArray,?_,.agg _ (by simp;omega) fun j c v h1 h2=>?_⟩
      · simp only [Sem.run_bind,run_sizeOf hi,Result.andThen_ok,Sem.run_pure]
        congr 2
        apply Array.ext'
        simp
      · rw [List.getElem?_take] at h1 h2
        split at h1
        · rename_i hj
          rw [if_pos hj] at h2
          rw [List.getElem?_drop] at h1 h2
          exact hr _ c v h1 h2
        · cases h1
    · cases h
  · rw [if_neg ha] at h
    rw [if_neg ha]
    split at h
    · rename_i c hcs
      simp only [Option.some.injEq] at h
      subst h
      have hj:off < us.length:=by rw [hl];exact (List.getElem?_eq_some_iff.1 hcs).1
      refine ⟨us[off],?_,.c (hr _ c _ hcs (List.getElem?_eq_getElem hj))⟩
      simp [hj]
    · cases h
theorem fieldV_ok {s f:Nat} {p x:AV} {v:Value} (hp:RepA g w p v) (h:fieldV P s f p=some x) :
    ∃ u,(Instr.field s v f).run P w=.ok u w∧RepA g w x u:=by
  unfold fieldV at h
  split at h
  · rename_i fs cs hti
    obtain ⟨i,d,z,hi,hd,hz,he⟩:=tiOf_spec hti
    simp only [TI.mk.injEq] at he
    obtain ⟨_,_,_,_,hds,_⟩:=he
    obtain ⟨F,rfl,hfs⟩:=descOf_struct hds.symm
    subst hfs
    split at h
    · rename_i off t hf
      rw [List.getElem?_map] at hf
      cases hF:F.toList[f]? with
      | none=>simp [hF] at hf
      | some fd =>
        simp [hF] at hf
        obtain ⟨rfl,rfl⟩:=hf
        have hF':F[f]?=some fd:=by simpa using hF
        split at h
        · rename_i ti hti'
          cases hp with
          | agg us hl hc =>
            obtain ⟨u,hu,hr⟩:=run_part_cut (g:=g) (w:=w) hti' hl hc h
            refine ⟨u,?_,hr⟩
            simp [Instr.field,run_underlying hd,hF',asAgg,hu]
        · cases h
    · cases h
  · cases h
theorem indexV_ok {t:Nat} {p ix x:AV} {v iv:Value} (hp:RepA g w p v) (hi:RepA g w ix iv) (h:indexV P t p ix=some x) :
    ∃ u,(Instr.index t v iv).run P w=.ok u w∧RepA g w x u:=by
  unfold indexV at h
  split at h
  · rename_i len e cs k n hti
    obtain ⟨i,d,z,hi0,hd,hz,he⟩:=tiOf_spec hti
    simp only [TI.mk.injEq] at he
    obtain ⟨_,_,_,_,hds,_⟩:=he
    obtain rfl:=descOf_array hds.symm
    obtain rfl:=isInt hi
    split at h
    · rename_i hn
      split at h
      · rename_i te hte
        cases hp with
        | agg us hl hc =>
          obtain ⟨u,hu,hr⟩:=run_part_cut (g:=g) (w:=w) hte hl hc h
          obtain ⟨i',d',z',hi',hd',hz',rfl⟩:=tiOf_spec hte
          refine ⟨u,?_,hr⟩
          simp [Instr.index,run_underlying hd,asIntOf,hn,run_sizeOf hi',hu]
      · cases h
    · cases h
  · cases h
end
end Go.Abs
