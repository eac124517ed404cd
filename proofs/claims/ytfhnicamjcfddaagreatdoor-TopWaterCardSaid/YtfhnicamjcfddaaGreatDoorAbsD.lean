/- Proved here: what functions of the given program come to, and the plain laws of it; no condition but those in the theorems. -/
import Derived.Test.YtfhnicamjcfddaaGreatDoorAbsB
import Derived.Laws.Cells
import Derived.Laws.Slices
/- The abstract evaluator is right: reads. -/
namespace Go.Abs
open Go.RowKit

section
variable {P : Program} {g : G} {w : World}

theorem tiOf_spec {t : TypeId} {ti : TI} (h : tiOf P t = some ti) : ∃ i d z, P.info? t = some i ∧ P.underlying t = some d ∧ i.zero = some z ∧
    ti = { agg := isAggD d, size := i.size, bytes := i.bytes, zero := z.cells.toList, d := descOf d, eq := eqFlat P t } := by
  unfold tiOf at h
  split at h
  · rename_i i d hi hd
    split at h
    · rename_i z hz
      simp only [Option.some.injEq] at h
      exact ⟨i, d, z, hi, hd, hz, h.symm⟩
    · cases h
  · cases h

theorem run_sizeOf {t : TypeId} {i : TypeInfo} (h : P.info? t = some i) (w : World) : (sizeOf t).run P w = .ok i.size w := by
  simp [sizeOf, typeInfo, h]

theorem run_isAgg {t : TypeId} {d : TypeDesc} (h : P.underlying t = some d) (w : World) : (isAgg t).run P w = .ok (isAggD d) w := by
  unfold isAgg
  simp only [Sem.run_bind, run_underlying h, Result.andThen_ok]
  cases d <;> rfl

/-- A variable of a type is loaded from cells that read as said. -/
theorem run_loadVar_cut {t : TypeId} {ti : TI} (hti : tiOf P t = some ti) {b o off : Nat} {cs : List Cell} {x : AV} (u : Nat → Value)
    (hc : ∀ (j : Nat) c, cs[j]? = some c → w.cell? ⟨b, o + j, none⟩ = some (u j)) (hr : ∀ (j : Nat) c, cs[j]? = some c → RepC g w c (u j)) (h : cut ti cs off = some x) :
    ∃ v, (loadVar t ⟨b, o + off, none⟩).run P w = .ok v w ∧ RepA g w x v := by
  obtain ⟨i, d, z, hi, hd, hz, rfl⟩ := tiOf_spec hti
  unfold cut at h
  simp only at h
  unfold loadVar
  simp only [Sem.run_bind, run_isAgg hd, Result.andThen_ok]
  by_cases ha : isAggD d = true
  · rw [if_pos ha] at h
    rw [if_pos ha]
    split at h
    · rename_i hle
      simp only [Option.some.injEq] at h
      subst h
      have hget : ∀ j, j < i.size → ∃ c, cs[off + j]? = some c := fun j hj => ⟨cs[off + j]'(by omega), List.getElem?_eq_getElem _⟩
      refine ⟨.agg ((List.range i.size).map fun j => u (off + j)).toArray, ?_, ?_⟩
      · simp only [Sem.run_bind, run_sizeOf hi, Result.andThen_ok]
        rw [run_loadCells w _ i.size (fun j => u (off + j)) (fun j hj => by
          obtain ⟨c, hc'⟩ := hget j hj
          rw [Addr.add_lit, Nat.add_assoc]
          exact hc _ c hc')]
        rfl
      · refine .agg _ (by simp; omega) fun j c v h1 h2 => ?_
        rw [List.getElem?_take] at h1
        split at h1
        · rename_i hj
          rw [List.getElem?_drop] at h1
          rw [List.getElem?_map, List.getElem?_range hj] at h2
          simp only [Option.map_some, Option.some.injEq] at h2
          subst h2
          exact hr _ c h1
        · cases h1
    · cases h
  · rw [if_neg ha] at h
    rw [if_neg ha]
    split at h
    · rename_i c hcs
      simp only [Option.some.injEq] at h
      subst h
      refine ⟨u off, ?_, .c (hr _ c hcs)⟩
      simp [hc _ c hcs]
    · cases h

theorem constCells_spec {l : List Value} {cs : List Cell} (h : constCells l = some cs) : cs = l.map .sc ∧ ∀ v ∈ l, scalar v = true := by
  induction l generalizing cs with
  | nil => simp [constCells] at h; simp [h]
  | cons v r ih =>
    unfold constCells at h
    split at h
    · rename_i hv
      cases hr : constCells r with
      | none => simp [hr] at h
      | some l' =>
        simp [hr] at h
        obtain ⟨h1, h2⟩ := ih hr
        subst h
        simp [h1, hv]
        exact h2
    · cases h

theorem repC_sc {v : Value} (h : scalar v = true) : RepC g w (.sc v) v := .pure (.sc h)

theorem constCellsN_spec {l : List Value} {cs : List Cell} (h : constCellsN l = some cs) : cs = l.map nrm ∧ ∀ v ∈ l, scalar v = true := by
  induction l generalizing cs with
  | nil => simp [constCellsN] at h; simp [h]
  | cons v r ih =>
    unfold constCellsN at h
    split at h
    · rename_i hv
      cases hr : constCellsN r with
      | none => simp [hr] at h
      | some l' =>
        simp [hr] at h
        obtain ⟨h1, h2⟩ := ih hr
        subst h
        simp [h1, hv]
        exact h2
    · cases h
theorem repP_nrm0 {F : Nat → Nat → Prop} {w : World} {v : Value} (h : scalar v = true) : RepP F w (nrm v) v := by
  unfold nrm
  split
  · exact .nil
  · exact .sc h

theorem constCells_rep {l : List Value} {cs : List Cell} (h : constCells l = some cs) : l.length = cs.length ∧ ∀ (j : Nat) c u, cs[j]? = some c → l[j]? = some u → RepC g w c u := by
  obtain ⟨rfl, hs⟩ := constCells_spec h
  refine ⟨by simp, fun j c u h1 h2 => ?_⟩
  rw [List.getElem?_map, h2] at h1
  simp at h1
  subst h1
  exact repC_sc (hs u (List.mem_of_getElem? h2))

theorem constAV_rep {v : Value} {x : AV} (h : constAV v = some x) : RepA g w x v := by
  unfold constAV at h
  split at h
  · rename_i cs
    cases hc : constCells cs.toList with
    | none => simp [hc] at h
    | some l =>
      simp [hc] at h
      subst h
      obtain ⟨h1, h2⟩ := constCells_rep (g := g) (w := w) hc
      exact .agg cs.toList h1 h2
  · cases h
  · split at h
    · rename_i hs
      simp at h
      subst h
      exact .c (repC_sc hs)
    · cases h

theorem ev_rep {φ : Nat → Option AV} {a : Act} (hL : Laid g.F w) (hs : Slots g w φ a) {x : Operand} {av : AV} (h : ev φ x = some av) : RepA g w av (a.eval x) := by
  cases x with
  | tmp t =>
    obtain ⟨v, h1, h2⟩ := hs t av h
    simpa [Act.eval, h1] using h2
  | const v => exact constAV_rep h
  | global n =>
    simp only [ev] at h
    split at h
    · rename_i vs hn
      cases hc : constCells vs with
      | none => rw [hc] at h; cases h
      | some cs =>
        rw [hc] at h
        simp only [Option.map_some, Option.some.injEq] at h
        subst h
        obtain ⟨rfl, hsc⟩ := constCells_spec hc
        refine .c (.pel (fun j => vs.getD j undef) (fun j c hj => ?_) (fun j c hj => ?_))
        · rw [List.getElem?_map] at hj
          cases hv : vs[j]? with
          | none => rw [hv] at hj; cases hj
          | some v =>
            obtain ⟨h1, h2⟩ := hL.tab n vs hn j v hv
            refine ⟨by simpa using h1, ?_⟩
            simp [List.getD, hv, h2]
        · rw [List.getElem?_map] at hj
          cases hv : vs[j]? with
          | none => rw [hv] at hj; cases hj
          | some v =>
            rw [hv] at hj
            simp only [Option.map_some, Option.some.injEq] at hj
            subst hj
            have : vs.getD j undef = v := by simp [List.getD, hv]
            rw [this]
            exact .sc (hsc v (List.mem_of_getElem? hv))
    · cases h
  | func f =>
    simp only [ev, Option.some.injEq] at h
    subst h
    exact .c (.fn [] rfl (fun j c u h => by simp at h))

theorem evs_rep {φ : Nat → Option AV} {a : Act} (hL : Laid g.F w) (hs : Slots g w φ a) {l : List Operand} {xs : List AV} (h : evs φ l = some xs) :
    xs.length = l.length ∧ ∀ (j : Nat) x v, xs[j]? = some x → (l.map a.eval)[j]? = some v → RepA g w x v := by
  induction l generalizing xs with
  | nil => simp [evs] at h; subst h; simp
  | cons y r ih =>
    unfold evs at h
    split at h
    · rename_i a' l' h1 h2
      simp at h
      subst h
      obtain ⟨i1, i2⟩ := ih h2
      refine ⟨by simp [i1], fun j x v hx hv => ?_⟩
      cases j with
      | zero => simp at hx hv; subst hx; subst hv; exact ev_rep hL hs h1
      | succ j => simp at hx hv; exact i2 j x v hx (by simpa using hv)
    · cases h

theorem avCells_rep {x : AV} {v : Value} {cs : List Cell} (h : avCells x = some cs) (hr : RepA g w x v) (h1 : ∀ y, x = .c y → v.oneCell' = true) :
    v.cells.size = cs.length ∧ ∀ (j : Nat) c u, cs[j]? = some c → v.cells[j]? = some u → RepC g w c u := by
  cases hr with
  | c hc =>
    rename_i y
    simp [avCells] at h
    subst h
    have := h1 y rfl
    have hv : v.cells = #[v] := by cases v <;> simp_all [Value.cells, Value.oneCell']
    rw [hv]
    refine ⟨rfl, fun j c u hj hu => ?_⟩
    cases j with
    | zero => simp at hj hu; subst hj; subst hu; exact hc
    | succ j => simp at hj
  | agg us hl hc =>
    simp [avCells] at h
    subst h
    exact ⟨by simpa [Value.cells] using hl, fun j c u hj hu => hc j c u hj (by simpa [Value.cells] using hu)⟩
  | tup us hl hc => cases h

theorem repP_one {F : Nat → Nat → Prop} {c : Cell} {v : Value} (h : RepP F w c v) : v.oneCell' = true := by
  cases h with
  | sc h => cases v <;> simp_all [scalar, Value.oneCell']
  | emp _ _ => rfl
  | lst _ _ _ _ _ _ => rfl
theorem repC_one {c : Cell} {v : Value} (h : RepC g w c v) : v.oneCell' = true := by
  cases h with
  | pure h => exact repP_one h
  | full h => rfl
  | view _ _ _ _ _ => rfl
  | ptr _ _ => rfl
  | aptr _ _ => rfl
  | mp _ _ => rfl
  | pel _ _ _ => rfl
  | fn _ _ _ => rfl
theorem repA_one {x : AV} {v : Value} (hr : RepA g w x v) (y : Cell) (h : x = .c y) : v.oneCell' = true := by
  subst h
  cases hr with
  | c hc => exact repC_one hc
theorem cells_one {x : AV} {v : Value} {cs : List Cell} (h : avCells x = some cs) (hr : RepA g w x v) : ∀ u ∈ v.cells.toList, u.oneCell' = true := by
  intro u hu
  obtain ⟨h1, h2⟩ := avCells_rep h hr (repA_one hr)
  obtain ⟨j, hj, he⟩ := List.getElem_of_mem hu
  have hj' : j < cs.length := by rw [← h1]; simpa using hj
  exact repC_one (h2 j cs[j] u (List.getElem?_eq_getElem hj') (by rw [← he]; simp at hj ⊢))

end
end Go.Abs

/- The abstract evaluator is right: operations that change nothing. -/
namespace Go.Abs
open Go.RowKit

section
variable {P : Program} {B : Base} {g : G} {m : Mem} {w : World}

theorem cell_of_block {b : Nat} {us : List Value} {T : TypeId} {fz : Nat × Nat} (h : w.heap[b]? = some (.cells us.toArray T fz)) (j : Nat) : w.cell? ⟨b, j, none⟩ = us[j]? := by
  simp [World.cell?, h]

theorem getD_of {α : Type} {l : List α} {j : Nat} {x d : α} (h : l[j]? = some x) : l.getD j d = x := by simp [List.getD, h]

/-- What an array's element reads as, cell by cell. -/
theorem arr_cells {i : Id} {e : TypeId} {sz : Nat} {es : List (List Cell)} {fr : Bool} (h : ObjOk g w i (.arr e sz es fr)) {b len cap : Nat} (hv : g.β i = .slice (some ⟨b, 0, none⟩) len cap) {k : Nat} {x : List Cell} (hk : es[k]? = some x) :
    ∃ u : Nat → Value, ∀ (j : Nat) c, x[j]? = some c → w.cell? ⟨b, k * g.sz i + j, none⟩ = some (u j) ∧ RepP g.F w c (u j) := by
  cases h with
  | arr us hz ho hs hr h1 hf =>
    subst hz
    refine ⟨fun j => (us[k * g.sz i + j]?).getD undef, fun j c hj => ?_⟩
    obtain ⟨u, hu, hc⟩ := hr k x hk j c hj
    rw [hv] at ho
    have := ho.cells (g := b) rfl _ u hu
    rw [Addr.add_lit, Nat.zero_add] at this
    simp [hu, this, hc]

theorem loadF_ok (hI : Inv B g m w) {t : TypeId} {ti : TI} (hti : tiOf P t = some ti) {p x : AV} {v : Value} (hp : RepA g w p v) (h : loadF ti m p = some x) :
    ∃ u, (Instr.loadAt t v).run P w = .ok u w ∧ RepA g w x u := by
  unfold loadF at h
  split at h
  · rename_i i off
    cases hp with
    | c hp =>
      cases hp with
      | pure hp => cases hp
      | ptr hk hv =>
        rename_i b
        split at h
        · rename_i cs hm
          obtain ⟨_, ho⟩ := hI.ok i _ hm
          cases ho with
          | blk us hv' hh hl hr h1 hf =>
            rw [hv] at hv'
            simp at hv'
            subst hv'
            have := run_loadVar_cut (g := g) (w := w) hti (b := b) (o := 0) (off := off) (fun j => us.getD j undef) (fun j c hj => by
              have hj' : j < us.length := by rw [hl]; exact (List.getElem?_eq_some_iff.1 hj).1
              rw [Nat.zero_add, cell_of_block hh, List.getElem?_eq_getElem hj']; simp [List.getD, List.getElem?_eq_getElem hj']) (fun j c hj => by
              have hj' : j < us.length := by rw [hl]; exact (List.getElem?_eq_some_iff.1 hj).1
              exact hr j c _ hj (by simp [List.getD, List.getElem?_eq_getElem hj'])) h
            simpa [Instr.loadAt, Instr.sureAddr] using this
        · cases h
  · rename_i o i k
    cases hp with
    | c hp =>
      cases hp with
      | pure hp => cases hp
      | aptr hk hv =>
        rename_i b len cap
        split at h
        · rename_i e sz es fr hm
          split at h
          · rename_i cs hcs
            obtain ⟨_, ho⟩ := hI.ok o _ hm
            obtain ⟨u, hu⟩ := arr_cells ho hv hcs
            have := run_loadVar_cut (g := g) (w := w) hti (b := b) (o := i * g.sz o) (off := k) u (fun j c hj => (hu j c hj).1) (fun j c hj => .pure (hu j c hj).2) h
            simpa [Instr.loadAt, Instr.sureAddr] using this
          · cases h
        · cases h
  · rename_i cs
    cases hp with
    | c hp =>
      cases hp with
      | pure hp => cases hp
      | pel u hc hr =>
        rename_i b off
        have := run_loadVar_cut (g := g) (w := w) hti (b := b) (o := off) (off := 0) u (fun j c hj => (hc j c hj).2) (fun j c hj => .pure (hr j c hj)) h
        simpa [Instr.loadAt, Instr.sureAddr] using this
  · cases h

theorem fieldPlace_ok {t : TypeId} {ti : TI} (hti : tiOf P t = some ti) (h0 : ti.size ≠ 0) (a : Addr) (f : Field) (hf : f.type = t) : (fieldPlace a f).run P w = .ok (a.add f.offset) w := by
  obtain ⟨i, d, z, hi, hd, hz, rfl⟩ := tiOf_spec hti
  subst hf
  simp only at h0
  simp [fieldPlace, run_sizeOf hi, h0]

theorem descOf_struct {d : TypeDesc} {fs : List (Nat × TypeId)} (h : descOf d = .struct fs) : ∃ F, d = .struct F ∧ fs = F.toList.map fun f => (f.offset, f.type) := by
  cases d <;> simp [descOf] at h
  exact ⟨_, rfl, h.symm⟩
theorem descOf_slice {d : TypeDesc} {e : TypeId} (h : descOf d = .slice e) : d = .slice e := by
  cases d <;> simp [descOf] at h
  rw [h]
theorem descOf_array {d : TypeDesc} {n : Nat} {e : TypeId} (h : descOf d = .array n e) : d = .array n e := by
  cases d <;> simp [descOf] at h
  rw [h.1, h.2]
theorem descOf_str {d : TypeDesc} (h : descOf d = .str) : d = .string := by
  cases d <;> simp [descOf] at h
  rfl
theorem descOf_map {d : TypeDesc} {k v : TypeId} (h : descOf d = .map k v) : d = .map k v := by
  cases d <;> simp [descOf] at h
  rw [h.1, h.2]
theorem descOf_int {d : TypeDesc} {k : IntKind} (h : descOf d = .int k) : d = .int k := by
  cases d <;> simp [descOf] at h
  rw [h]
theorem descOf_bool {d : TypeDesc} (h : descOf d = .bool) : d = .bool := by
  cases d <;> simp [descOf] at h
  rfl

theorem fieldF_ok {s f : Nat} {p x : AV} {v : Value} (hp : RepA g w p v) (h : fieldF P s f p = some x) :
    ∃ u, (Instr.fieldAt s v f).run P w = .ok u w ∧ RepA g w x u := by
  unfold fieldF at h
  split at h
  · rename_i fs hti
    obtain ⟨i, d, z, hi, hd, hz, he⟩ := tiOf_spec hti
    simp only [TI.mk.injEq] at he
    obtain ⟨_, _, _, _, hds, _⟩ := he
    obtain ⟨F, rfl, hfs⟩ := descOf_struct hds.symm
    subst hfs
    split at h
    · rename_i off t hf
      rw [List.getElem?_map] at hf
      cases hF : F.toList[f]? with
      | none => simp [hF] at hf
      | some fd =>
        simp [hF] at hf
        obtain ⟨rfl, rfl⟩ := hf
        have hF' : F[f]? = some fd := by simpa using hF
        split at h
        · rename_i ti hti'
          split at h
          · cases h
          · rename_i h0
            have key : ∀ b o, (Instr.fieldAt s (.pointer (some ⟨b, o, none⟩)) f).run P w = .ok (.pointer (some ⟨b, o + fd.offset, none⟩)) w := fun b o => by
              simp [Instr.fieldAt, run_underlying hd, hF', Instr.sureAddr, fieldPlace_ok hti' h0 _ fd rfl, Addr.add_lit]
            split at h
            · simp at h
              subst h
              cases hp with
              | c hp =>
                cases hp with
                | pure hp => cases hp
                | ptr hk hv => exact ⟨_, key _ _, .c (.ptr hk hv)⟩
            · simp at h
              subst h
              cases hp with
              | c hp =>
                cases hp with
                | pure hp => cases hp
                | aptr hk hv => exact ⟨_, key _ _, .c (by rw [Nat.add_assoc]; exact .aptr hk hv)⟩
            · rename_i cs
              split at h
              · simp at h
                subst h
                cases hp with
                | c hp =>
                  cases hp with
                  | pure hp => cases hp
                  | pel u hc hr =>
                    rename_i b o
                    refine ⟨_, key _ _, .c (.pel (fun j => u (fd.offset + j)) (fun j c hj => ?_) (fun j c hj => ?_))⟩
                    · rw [List.getElem?_drop] at hj
                      rw [Nat.add_assoc]
                      exact hc _ c hj
                    · rw [List.getElem?_drop] at hj
                      exact hr _ c hj
              · cases h
            · cases h
        · cases h
    · cases h
  · cases h

theorem isInt {g : G} {w : World} {k : IntKind} {n : Int} {v : Value} (h : RepA g w (.c (.sc (.int k n))) v) : v = .int k n := by
  cases h with
  | c h => cases h with
    | pure h => cases h with
      | sc h => rfl
theorem isSc {g : G} {w : World} {x v : Value} (h : RepA g w (.c (.sc x)) v) : v = x ∧ scalar x = true := by
  cases h with
  | c h => cases h with
    | pure h => cases h with
      | sc h => exact ⟨rfl, h⟩

theorem repP_lst {F : Nat → Nat → Prop} {es : List (List Cell)} {v : Value} (h : RepP F w (.lst es) v) : ∃ a cap, v = .slice a es.length cap ∧ es.length ≤ cap ∧ cap ≤ maxLen ∧
    ∀ (i : Nat) e, es[i]? = some e → ∃ (b off sz : Nat) (u : Nat → Value), a = some ⟨b, off, none⟩ ∧ (∀ (k : Nat) x, es[k]? = some x → x.length = sz) ∧
      ∀ (j : Nat) c, e[j]? = some c → F b (off + i * sz + j) ∧ w.cell? ⟨b, off + i * sz + j, none⟩ = some (u j) ∧ RepP F w c (u j) := by
  cases h with
  | emp hcap _ => exact ⟨_, _, rfl, by simp, hcap, fun i e h => by simp at h⟩
  | lst u hs hc hr hl hcap =>
    rename_i b off cap sz
    exact ⟨_, cap, rfl, hl, hcap, fun i e he => ⟨b, off, sz, u i, rfl, hs, fun j c hj => ⟨(hc i e he j c hj).1, (hc i e he j c hj).2, hr i e he j c hj⟩⟩⟩

theorem sz_of {es : List (List Cell)} {n sz s : Nat} {x : List Cell} (hs : ∀ (k : Nat) x, es[k]? = some x → x.length = sz) (hx : es[n]? = some x) (hl : x.length = s) : sz = s := by rw [← hs n x hx, hl]

theorem index_lst {t e : TypeId} {te : TypeInfo} (hu : P.underlying t = some (.slice e)) (hte : P.info? e = some te) {es : List (List Cell)} {v : Value} (hp : RepP g.F w (.lst es) v) {k : IntKind} {n : Int} (hn : 0 ≤ n) {x : List Cell} (hx : es[n.toNat]? = some x)
    (hsz : x.length = te.size) : ∃ u, (Instr.indexAt t v (.int k n)).run P w = .ok u w ∧ RepA g w (.c (.pel x)) u := by
  obtain ⟨a, cap, rfl, hl, hcap, hcell⟩ := repP_lst hp
  obtain ⟨b, off, sz, u, rfl, hs, hc⟩ := hcell _ x hx
  have hlt : n.toNat < es.length := (List.getElem?_eq_some_iff.1 hx).1
  have hlt' : n < (es.length : Int) := by omega
  obtain rfl := sz_of hs hx hsz
  refine ⟨.pointer (some ⟨b, off + n.toNat * te.size, none⟩), ?_, .c (.pel u (fun j c hj => ⟨(hc j c hj).1, (hc j c hj).2.1⟩) fun j c hj => (hc j c hj).2.2)⟩
  simp [Instr.indexAt, run_underlying hu, asIntOf, hn, hlt', run_sizeOf hte, Addr.add_lit]

theorem indexF_ok (hI : Inv B g m w) {t : Nat} {p ix x : AV} {v iv : Value} (hp : RepA g w p v) (hi : RepA g w ix iv) (h : indexF P m t p ix = some x) :
    ∃ u, (Instr.indexAt t v iv).run P w = .ok u w ∧ RepA g w x u := by
  unfold indexF at h
  split at h
  · rename_i e _ n hti
    obtain ⟨i, d, z, hi0, hd, hz, he⟩ := tiOf_spec hti
    simp only [TI.mk.injEq] at he
    obtain ⟨_, _, _, _, hds, _⟩ := he
    obtain rfl := descOf_slice hds.symm
    obtain rfl := isInt hi
    split at h
    · cases h
    · rename_i te hte
      obtain ⟨i', d', z', hi', hd', hz', rfl⟩ := tiOf_spec hte
      split at h
      · rename_i hn
        split at h
        · split at h
          · rename_i el hel
            split at h
            · rename_i hsz
              simp at h; subst h
              cases hp with
              | c hp => cases hp with
                | pure hp => exact index_lst hd hi' hp hn hel hsz
            · cases h
          · cases h
        · split at h
          · rename_i el hel
            split at h
            · rename_i hsz
              simp at h; subst h
              cases hp with
              | c hp => cases hp with
                | pure hp => cases hp
                | full hp => exact index_lst hd hi' hp hn hel hsz
            · cases h
          · cases h
        · rename_i o lo len
          split at h
          · rename_i e' sz es fr hm
            split at h
            · rename_i hlt
              obtain ⟨hlt, rfl⟩ := hlt
              simp at h; subst h
              cases hp with
              | c hp => cases hp with
                | pure hp => cases hp
                | view hk hv hle ha hsp =>
                  rename_i len' cap a a'
                  obtain ⟨_, ho⟩ := hI.ok o _ hm
                  cases ho with
                  | arr us hz ho hs hr h1 hf =>
                    have hlo : lo < cap := by omega
                    rw [ha (.inl hlo)]
                    rcases ho.2 with ⟨hnil, _⟩ | ⟨gb, cap', cur, hb, _⟩
                    · rw [hv] at hnil; simp at hnil; omega
                    · rw [hv] at hb
                      simp at hb
                      obtain ⟨rfl, _, rfl⟩ := hb
                      refine ⟨.pointer (some ⟨gb, (lo + n.toNat) * g.sz o + 0, none⟩), ?_, .c (.aptr hk hv)⟩
                      simp [Instr.indexAt, run_underlying hd, asIntOf, hn, hlt, run_sizeOf hi', Addr.add_lit, hz, Nat.add_mul]
            · cases h
          · cases h
        · cases h
      · cases h
  · rename_i len e _ n hti
    obtain ⟨i, d, z, hi0, hd, hz, he⟩ := tiOf_spec hti
    simp only [TI.mk.injEq] at he
    obtain ⟨_, _, _, _, hds, _⟩ := he
    obtain rfl := descOf_array hds.symm
    obtain rfl := isInt hi
    split at h
    · cases h
    · rename_i te hte
      obtain ⟨i', d', z', hi', hd', hz', rfl⟩ := tiOf_spec hte
      split at h
      · rename_i hn
        split at h
        · simp at h; subst h
          cases hp with
          | c hp => cases hp with
            | pure hp => cases hp
            | ptr hk hv =>
              refine ⟨_, ?_, .c (.ptr hk hv)⟩
              simp [Instr.indexAt, run_underlying hd, asIntOf, hn, run_sizeOf hi', Addr.add_lit, Instr.sureAddr]
        · rename_i cs
          split at h
          · simp at h; subst h
            cases hp with
            | c hp => cases hp with
              | pure hp => cases hp
              | pel u hc hr =>
                rename_i b off
                refine ⟨.pointer (some ⟨b, off + n.toNat * i'.size, none⟩), ?_, .c (.pel (fun j => u (n.toNat * i'.size + j)) (fun j c hj => ?_) (fun j c hj => ?_))⟩
                · simp [Instr.indexAt, run_underlying hd, asIntOf, hn, run_sizeOf hi', Addr.add_lit, Instr.sureAddr]
                · rw [List.getElem?_drop] at hj
                  have := hc _ c hj
                  rw [← Nat.add_assoc] at this
                  exact this
                · rw [List.getElem?_drop] at hj
                  exact hr _ c hj
          · cases h
        · cases h
      · cases h
  · cases h

end
end Go.Abs
