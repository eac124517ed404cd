/- The abstract evaluator is right: reads. -/
import Derived.Test.YtgehodhbcckcoaaAbsB
import Derived.Laws.Cells
namespace Go.Abs
open Go.RowKit

section
variable {P : Program} {g : G} {w : World}

theorem tiOf_spec {t : TypeId} {ti : TI} (h : tiOf P t = some ti) : ∃ i d z, P.info? t = some i ∧ P.underlying t = some d ∧ i.zero = some z ∧
    ti = { agg := isAggD d, size := i.size, bytes := i.bytes, zero := z.cells.toList, d := descOf d, eq := eqFlat P t } := by
  unfold tiOf at h
  split at h
  · rename_i i d hi hd
    split at h
    · rename_i z hz
      simp only [Option.some.injEq] at h
      exact ⟨i, d, z, hi, hd, hz, h.symm⟩
    · cases h
  · cases h

theorem run_sizeOf {t : TypeId} {i : TypeInfo} (h : P.info? t = some i) (w : World) : (sizeOf t).run P w = .ok i.size w := by
  simp [sizeOf, typeInfo, h]

theorem run_isAgg {t : TypeId} {d : TypeDesc} (h : P.underlying t = some d) (w : World) : (isAgg t).run P w = .ok (isAggD d) w := by
  unfold isAgg
  simp only [Sem.run_bind, run_underlying h, Result.andThen_ok]
  cases d <;> rfl

/-- A variable of a type is loaded from cells that read as said. -/
theorem run_loadVar_cut {t : TypeId} {ti : TI} (hti : tiOf P t = some ti) {b o off : Nat} {cs : List Cell} {x : AV} (u : Nat → Value)
    (hc : ∀ (j : Nat) c, cs[j]? = some c → w.cell? ⟨b, o + j, none⟩ = some (u j)) (hr : ∀ (j : Nat) c, cs[j]? = some c → RepC g w c (u j)) (h : cut ti cs off = some x) :
    ∃ v, (loadVar t ⟨b, o + off, none⟩).run P w = .ok v w ∧ RepA g w x v := by
  obtain ⟨i, d, z, hi, hd, hz, rfl⟩ := tiOf_spec hti
  unfold cut at h
  simp only at h
  unfold loadVar
  simp only [Sem.run_bind, run_isAgg hd, Result.andThen_ok]
  by_cases ha : isAggD d = true
  · rw [if_pos ha] at h
    rw [if_pos ha]
    split at h
    · rename_i hle
      simp only [Option.some.injEq] at h
      subst h
      have hget : ∀ j, j < i.size → ∃ c, cs[off + j]? = some c := fun j hj => ⟨cs[off + j]'(by omega), List.getElem?_eq_getElem _⟩
      refine ⟨.agg ((List.range i.size).map fun j => u (off + j)).toArray, ?_, ?_⟩
      · simp only [Sem.run_bind, run_sizeOf hi, Result.andThen_ok]
        rw [run_loadCells w _ i.size (fun j => u (off + j)) (fun j hj => by
          obtain ⟨c, hc'⟩ := hget j hj
          rw [Addr.add_lit, Nat.add_assoc]
          exact hc _ c hc')]
        rfl
      · refine .agg _ (by simp; omega) fun j c v h1 h2 => ?_
        rw [List.getElem?_take] at h1
        split at h1
        · rename_i hj
          rw [List.getElem?_drop] at h1
          rw [List.getElem?_map, List.getElem?_range hj] at h2
          simp only [Option.map_some, Option.some.injEq] at h2
          subst h2
          exact hr _ c h1
        · cases h1
    · cases h
  · rw [if_neg ha] at h
    rw [if_neg ha]
    split at h
    · rename_i c hcs
      simp only [Option.some.injEq] at h
      subst h
      refine ⟨u off, ?_, .c (hr _ c hcs)⟩
      simp [hc _ c hcs]
    · cases h

theorem constCells_spec {l : List Value} {cs : List Cell} (h : constCells l = some cs) : cs = l.map .sc ∧ ∀ v ∈ l, scalar v = true := by
  induction l generalizing cs with
  | nil => simp [constCells] at h; simp [h]
  | cons v r ih =>
    unfold constCells at h
    split at h
    · rename_i hv
      cases hr : constCells r with
      | none => simp [hr] at h
      | some l' =>
        simp [hr] at h
        obtain ⟨h1, h2⟩ := ih hr
        subst h
        simp [h1, hv]
        exact h2
    · cases h

theorem repC_sc {v : Value} (h : scalar v = true) : RepC g w (.sc v) v := .pure (.sc h)

theorem constCellsN_spec {l : List Value} {cs : List Cell} (h : constCellsN l = some cs) : cs = l.map nrm ∧ ∀ v ∈ l, scalar v = true := by
  induction l generalizing cs with
  | nil => simp [constCellsN] at h; simp [h]
  | cons v r ih =>
    unfold constCellsN at h
    split at h
    · rename_i hv
      cases hr : constCellsN r with
      | none => simp [hr] at h
      | some l' =>
        simp [hr] at h
        obtain ⟨h1, h2⟩ := ih hr
        subst h
        simp [h1, hv]
        exact h2
    · cases h
theorem repP_nrm0 {F : Nat → Nat → Prop} {w : World} {v : Value} (h : scalar v = true) : RepP F w (nrm v) v := by
  unfold nrm
  split
  · exact .nil
  · exact .sc h

theorem constCells_rep {l : List Value} {cs : List Cell} (h : constCells l = some cs) : l.length = cs.length ∧ ∀ (j : Nat) c u, cs[j]? = some c → l[j]? = some u → RepC g w c u := by
  obtain ⟨rfl, hs⟩ := constCells_spec h
  refine ⟨by simp, fun j c u h1 h2 => ?_⟩
  rw [List.getElem?_map, h2] at h1
  simp at h1
  subst h1
  exact repC_sc (hs u (List.mem_of_getElem? h2))

theorem constAV_rep {v : Value} {x : AV} (h : constAV v = some x) : RepA g w x v := by
  unfold constAV at h
  split at h
  · rename_i cs
    cases hc : constCells cs.toList with
    | none => simp [hc] at h
    | some l =>
      simp [hc] at h
      subst h
      obtain ⟨h1, h2⟩ := constCells_rep (g := g) (w := w) hc
      exact .agg cs.toList h1 h2
  · cases h
  · split at h
    · rename_i hs
      simp at h
      subst h
      exact .c (repC_sc hs)
    · cases h

theorem ev_rep {φ : Nat → Option AV} {a : Act} (hs : Slots g w φ a) {x : Operand} {av : AV} (h : ev φ x = some av) : RepA g w av (a.eval x) := by
  cases x with
  | tmp t =>
    obtain ⟨v, h1, h2⟩ := hs t av h
    simpa [Act.eval, h1] using h2
  | const v => exact constAV_rep h
  | global _ => cases h
  | func f =>
    simp only [ev, Option.some.injEq] at h
    subst h
    exact .c (.fn [] rfl (fun j c u h => by simp at h))

theorem evs_rep {φ : Nat → Option AV} {a : Act} (hs : Slots g w φ a) {l : List Operand} {xs : List AV} (h : evs φ l = some xs) :
    xs.length = l.length ∧ ∀ (j : Nat) x v, xs[j]? = some x → (l.map a.eval)[j]? = some v → RepA g w x v := by
  induction l generalizing xs with
  | nil => simp [evs] at h; subst h; simp
  | cons y r ih =>
    unfold evs at h
    split at h
    · rename_i a' l' h1 h2
      simp at h
      subst h
      obtain ⟨i1, i2⟩ := ih h2
      refine ⟨by simp [i1], fun j x v hx hv => ?_⟩
      cases j with
      | zero => simp at hx hv; subst hx; subst hv; exact ev_rep hs h1
      | succ j => simp at hx hv; exact i2 j x v hx (by simpa using hv)
    · cases h

theorem avCells_rep {x : AV} {v : Value} {cs : List Cell} (h : avCells x = some cs) (hr : RepA g w x v) (h1 : ∀ y, x = .c y → v.oneCell' = true) :
    v.cells.size = cs.length ∧ ∀ (j : Nat) c u, cs[j]? = some c → v.cells[j]? = some u → RepC g w c u := by
  cases hr with
  | c hc =>
    rename_i y
    simp [avCells] at h
    subst h
    have := h1 y rfl
    have hv : v.cells = #[v] := by cases v <;> simp_all [Value.cells, Value.oneCell']
    rw [hv]
    refine ⟨rfl, fun j c u hj hu => ?_⟩
    cases j with
    | zero => simp at hj hu; subst hj; subst hu; exact hc
    | succ j => simp at hj
  | agg us hl hc =>
    simp [avCells] at h
    subst h
    exact ⟨by simpa [Value.cells] using hl, fun j c u hj hu => hc j c u hj (by simpa [Value.cells] using hu)⟩
  | tup us hl hc => cases h

theorem repP_one {F : Nat → Nat → Prop} {c : Cell} {v : Value} (h : RepP F w c v) : v.oneCell' = true := by
  cases h with
  | sc h => cases v <;> simp_all [scalar, Value.oneCell']
  | emp _ _ => rfl
  | lst _ _ _ _ _ _ => rfl
theorem repC_one {c : Cell} {v : Value} (h : RepC g w c v) : v.oneCell' = true := by
  cases h with
  | pure h => exact repP_one h
  | full h => rfl
  | view _ _ _ _ _ => rfl
  | ptr _ _ => rfl
  | aptr _ _ => rfl
  | pel _ _ _ => rfl
  | fn _ _ _ => rfl
theorem repA_one {x : AV} {v : Value} (hr : RepA g w x v) (y : Cell) (h : x = .c y) : v.oneCell' = true := by
  subst h
  cases hr with
  | c hc => exact repC_one hc
theorem cells_one {x : AV} {v : Value} {cs : List Cell} (h : avCells x = some cs) (hr : RepA g w x v) : ∀ u ∈ v.cells.toList, u.oneCell' = true := by
  intro u hu
  obtain ⟨h1, h2⟩ := avCells_rep h hr (repA_one hr)
  obtain ⟨j, hj, he⟩ := List.getElem_of_mem hu
  have hj' : j < cs.length := by rw [← h1]; simpa using hj
  exact repC_one (h2 j cs[j] u (List.getElem?_eq_getElem hj') (by rw [← he]; simp at hj ⊢))

end
end Go.Abs
