/- The abstract evaluator is right: more operations that change nothing. -/
import Derived.Test.YtfhnicamjcfddaaGreatDoorAbsD
import Derived.Laws.StructEq
import Derived.Laws.Cover3
namespace Go.Abs
open Go.RowKit

section
variable {P : Program} {B : Base} {g : G} {m : Mem} {w : World}

theorem isBool {g : G} {w : World} {b : Bool} {v : Value} (h : RepA g w (.c (.sc (.bool b))) v) : v = .bool b := (isSc h).1

theorem intBeq (a b : Int) : (a == b) = decide (a = b) := by rw [Bool.eq_iff_iff]; simp

theorem binI_ok {op : BinOp} {t : TypeId} {k : IntKind} {a b : Int} {v : Value} (h : binI op k a b = some v) : (binOp op t (.int k a) (.int k b)).run P w = .ok v w ∧ scalar v = true := by
  cases op <;> simp only [binI] at h
  case quo =>
    split at h
    · cases h
    · rename_i hb
      simp at h; subst h
      simp [binOp_quo, Op.intDiv, hb, scalar]
  case rem =>
    split at h
    · cases h
    · rename_i hb
      simp at h; subst h
      simp [binOp_rem, Op.intDiv, hb, scalar]
  case and =>
    simp at h; subst h
    refine ⟨?_, rfl⟩
    simp [binOp, Op.intBits, andI]
  case shr =>
    split at h
    · cases h
    · rename_i hb
      simp at h; subst h
      refine ⟨?_, rfl⟩
      simp [binOp, Op.shift, shrI, hb]
  all_goals first
    | contradiction
    | (simp only [Option.some.injEq] at h; subst h; refine ⟨?_, rfl⟩; simp [binOp, Op.intArith, Op.intCmp, intBeq, bne]; done)
    | skip

theorem binB_ok {op : BinOp} {t : TypeId} (ht : P.underlying t = some .bool) {a b : Bool} {v : Value} (h : binB op a b = some v) : (binOp op t (.bool a) (.bool b)).run P w = .ok v w ∧ scalar v = true := by
  have key : (Op.equal t (.bool a) (.bool b)).run P w = .ok (a == b) w := by
    have hd : ∀ d : Nat, (Op.equalIn (d + 1) t (.bool a) (.bool b)).run P w = .ok (a == b) w := fun d => by
      simp [Op.equalIn, run_underlying ht]
    exact hd 9999
  cases op <;> simp only [binB] at h <;> first
    | (cases h; done)
    | (simp at h; subst h; simp [binOp, key, scalar])

theorem flat_part {t : TypeId} (h : (∃ k, P.underlying t = some (.int k)) ∨ P.underlying t = some .bool) {us : Array Value} {o : Nat} {u : Value} (hu : us[o]? = some u) (w : World) : (part t us o).run P w = .ok u w := by
  rcases h with ⟨k, hd⟩ | hd
  · simp [part, isAgg, run_underlying hd, hu]
  · simp [part, isAgg, run_underlying hd, hu]

theorem eqFields_ok (d : Nat) {us vs : List Value} {xs ys : List Cell} (hl : us.length = xs.length) (hl' : vs.length = ys.length) (hx : ∀ (j : Nat) c u, xs[j]? = some c → us[j]? = some u → RepC g w c u) (hy : ∀ (j : Nat) c u, ys[j]? = some c → vs[j]? = some u → RepC g w c u) :
    ∀ (l : List Field) (i : Nat) (ks : List Bool) (b : Bool), flatFs P i l = some ks → eqC ks (xs.drop i) (ys.drop i) = some b → (Op.eqFields (d + 1) us.toArray vs.toArray l).run P w = .ok b w
  | [], i, ks, b, h1, h3 => by
    simp [flatFs] at h1
    subst h1
    unfold eqC at h3
    split at h3
    · simp at h3; subst h3; simp [Op.eqFields]
    · rename_i hh _ _; cases hh
    · rename_i hh _ _; cases hh
    · cases h3
  | f :: r, i, ks, b, h1, h3 => by
    simp only [flatFs, Bool.and_eq_true, bne_iff_ne, ne_eq, beq_iff_eq] at h1
    split at h1
    case isFalse => cases h1
    rename_i hn
    obtain ⟨n1, n2⟩ := hn
    have go : ∀ (q : Bool) (ks2 : List Bool), ks = q :: ks2 → flatFs P (i + 1) r = some ks2 → ((∃ k, P.underlying f.type = some (.int k)) ∨ P.underlying f.type = some .bool) →
        (∀ c c' u v, RepC g w c u → RepC g w c' v → ∀ (b2 b3 : Bool) (cs cs' : List Cell), eqC ks2 cs cs' = some b2 → eqC (q :: ks2) (c :: cs) (c' :: cs') = some b3 → ∃ e : Bool, (Op.equalIn (d + 1) f.type u v).run P w = .ok e w ∧ b3 = (e && b2)) →
        (Op.eqFields (d + 1) us.toArray vs.toArray (f :: r)).run P w = .ok b w := fun q ks2 hks hf ht he => by
      subst hks
      have hxi : i < xs.length := by
        rcases Nat.lt_or_ge i xs.length with h | h
        · exact h
        · rw [List.drop_eq_nil_of_le h] at h3
          cases q <;> simp [eqC] at h3
      have hyi : i < ys.length := by
        rcases Nat.lt_or_ge i ys.length with h | h
        · exact h
        · rw [List.drop_eq_nil_of_le h] at h3
          unfold eqC at h3
          split at h3
          · rename_i hh _ _; cases hh
          · rename_i hh; cases hh
          · rename_i hh; cases hh
          · cases h3
      rw [List.drop_eq_getElem_cons hxi, List.drop_eq_getElem_cons hyi] at h3
      have q1 := hx i xs[i] (us[i]'(by omega)) (List.getElem?_eq_getElem hxi) (List.getElem?_eq_getElem (by omega))
      have q2 := hy i ys[i] (vs[i]'(by omega)) (List.getElem?_eq_getElem hyi) (List.getElem?_eq_getElem (by omega))
      have p1 : (part f.type us.toArray f.offset).run P w = .ok (us[i]'(by omega)) w := flat_part ht (by rw [n2]; simp) w
      have p2 : (part f.type vs.toArray f.offset).run P w = .ok (vs[i]'(by omega)) w := flat_part ht (by rw [n2]; simp) w
      have hb2 : ∃ b2, eqC ks2 (xs.drop (i + 1)) (ys.drop (i + 1)) = some b2 := by
        generalize xs[i] = c at h3
        generalize ys[i] = c' at h3
        unfold eqC at h3
        split at h3
        · rename_i hh _ _; cases hh
        · rename_i hh0 hh1 hh2
          simp only [List.cons.injEq] at hh0 hh1 hh2
          obtain ⟨_, rfl⟩ := hh0
          obtain ⟨_, rfl⟩ := hh1
          obtain ⟨_, rfl⟩ := hh2
          split at h3
          · obtain ⟨b2, e2, _⟩ := Option.map_eq_some_iff.1 h3; exact ⟨b2, e2⟩
          · cases h3
        · rename_i hh0 hh1 hh2
          simp only [List.cons.injEq] at hh0 hh1 hh2
          obtain ⟨_, rfl⟩ := hh0
          obtain ⟨_, rfl⟩ := hh1
          obtain ⟨_, rfl⟩ := hh2
          obtain ⟨b2, e2, _⟩ := Option.map_eq_some_iff.1 h3; exact ⟨b2, e2⟩
        · cases h3
      obtain ⟨b2, hb2⟩ := hb2
      obtain ⟨e, he1, he2⟩ := he _ _ _ _ q1 q2 b2 b _ _ hb2 h3
      have ih := eqFields_ok d hl hl' hx hy r (i + 1) ks2 b2 hf hb2
      rw [he2]
      simp only [Op.eqFields, if_pos n1, Sem.run_bind, p1, p2, Result.andThen_ok, he1]
      cases e
      · simp
      · simpa using ih
    split at h1
    · rename_i kk hd
      obtain ⟨ks2, e1, rfl⟩ := Option.map_eq_some_iff.1 h1
      refine go true ks2 rfl e1 (.inl ⟨kk, hd⟩) fun c c' u v r1 r2 b2 b3 cs cs' g2 g3 => ?_
      unfold eqC at g3
      split at g3
      · rename_i hh _ _; cases hh
      · rename_i hh0 hh1 hh2
        simp only [List.cons.injEq] at hh0 hh1 hh2
        obtain ⟨_, rfl⟩ := hh0
        obtain ⟨rfl, rfl⟩ := hh1
        obtain ⟨rfl, rfl⟩ := hh2
        split at g3
        · rename_i hk
          subst hk
          rw [g2] at g3
          simp at g3
          have e1 := isInt (.c r1)
          have e2 := isInt (.c r2)
          subst e1 e2
          exact ⟨_, run_equalIn_int w d _ _ _ _ _ hd, by rw [← g3, intBeq]⟩
        · cases g3
      · rename_i hh _ _; cases hh
      · cases g3
    · rename_i hd
      obtain ⟨ks2, e1, rfl⟩ := Option.map_eq_some_iff.1 h1
      refine go false ks2 rfl e1 (.inr hd) fun c c' u v r1 r2 b2 b3 cs cs' g2 g3 => ?_
      unfold eqC at g3
      split at g3
      · rename_i hh _ _; cases hh
      · rename_i hh _ _; cases hh
      · rename_i hh0 hh1 hh2
        simp only [List.cons.injEq] at hh0 hh1 hh2
        obtain ⟨_, rfl⟩ := hh0
        obtain ⟨rfl, rfl⟩ := hh1
        obtain ⟨rfl, rfl⟩ := hh2
        rw [g2] at g3
        simp at g3
        have e1 := isBool (.c r1)
        have e2 := isBool (.c r2)
        subst e1 e2
        exact ⟨_, run_equalIn_bool' w d _ _ _ hd, by rw [← g3]⟩
      · cases g3
    · cases h1

theorem nilB_ok {op : BinOp} {t e : TypeId} (ht : P.underlying t = some (.slice e)) {x : Cell} {a : Value} (hx : RepA g w (.c x) a) {r : Bool} (h : nilB op x = some r) (y z : Operand) :
    (do eqGuard op t y z a (.slice none 0 0); binOp op t a (.slice none 0 0) : Sem Value).run P w = .ok (.bool r) w := by
  unfold nilB at h
  split at h
  · obtain ⟨rfl, _⟩ := isSc hx
    simp at h; subst h
    simp [eqGuard, binOp, run_equal_slice_nil w t e _ _ _ ht]
  · cases hx with
    | c hx => cases hx with
      | pure hx => cases hx with
        | lst u hs hc hr hl hcap =>
          simp at h; subst h
          simp [eqGuard, binOp, run_equal_slice_nil w t e _ _ _ ht]
  · obtain ⟨rfl, _⟩ := isSc hx
    simp at h; subst h
    simp [eqGuard, binOp, run_equal_slice_nil w t e _ _ _ ht]
  · cases hx with
    | c hx => cases hx with
      | pure hx => cases hx with
        | lst u hs hc hr hl hcap =>
          simp at h; subst h
          simp [eqGuard, binOp, run_equal_slice_nil w t e _ _ _ ht]
  · cases h

theorem binE_ok {op : BinOp} {t : TypeId} {ti : TI} (hti : tiOf P t = some ti) {q : Bool} {ks : List Bool} (hq : ti.eq = q :: ks) {xs ys : List Cell} {a b : Value} (ha : RepA g w (.agg xs) a) (hb : RepA g w (.agg ys) b) {r : Bool} (h : binE op (q :: ks) xs ys = some r) (x y : Operand) :
    (do eqGuard op t x y a b; binOp op t a b : Sem Value).run P w = .ok (.bool r) w := by
  obtain ⟨i, dd, zv, hi, hd, hz, rfl⟩ := tiOf_spec hti
  have hq : eqFlat P t = q :: ks := hq
  unfold eqFlat at hq
  split at hq
  case h_2 => cases hq
  rename_i fs hu
  split at hq
  case h_2 => cases hq
  rename_i ks' hf
  split at hq
  case isFalse => cases hq
  rename_i hg
  subst hq
  simp only [Bool.and_eq_true, Bool.not_eq_true'] at hg
  cases ha with
  | agg us hl hx =>
  cases hb with
  | agg vs hl' hy =>
  have hfo : P.fieldsOf t = fs := by unfold Program.fieldsOf; rw [hu]
  have key : ∀ b, eqC (q :: ks) xs ys = some b → (Op.equalIn 10000 t (.agg us.toArray) (.agg vs.toArray)).run P w = .ok b w := fun b hb => by
    rw [run_equalIn_struct w 9999 t us.toArray vs.toArray (by rw [hfo]; exact hu) hg.1, hfo]
    exact eqFields_ok 9998 hl hl' hx hy fs.toList 0 (q :: ks) b hf (by simpa using hb)
  rw [Sem.run_bind, run_eqGuard_agg w op t x y us.toArray vs.toArray hg.2, Result.andThen_ok]
  cases op <;> simp only [binE] at h <;> first
    | (cases h; done)
    | (rw [run_eql_struct, key _ h]; rfl)
    | (obtain ⟨b2, e2, rfl⟩ := Option.map_eq_some_iff.1 h; rw [run_neq_struct, key _ e2]; rfl)

theorem unV_ok {op : UnOp} {x v : Value} (h : unV op x = some v) : (Op.unary op x).run P w = .ok v w ∧ scalar v = true := by
  unfold unV at h
  split at h <;> first
    | (cases h; done)
    | (simp at h; subst h; simp [Op.unary, Op.intArith, scalar])

theorem run_part_cut {t : TypeId} {ti : TI} (hti : tiOf P t = some ti) {off : Nat} {cs : List Cell} {x : AV} {us : List Value} (hl : us.length = cs.length)
    (hr : ∀ (j : Nat) c u, cs[j]? = some c → us[j]? = some u → RepC g w c u) (h : cut ti cs off = some x) :
    ∃ v, (part t us.toArray off).run P w = .ok v w ∧ RepA g w x v := by
  obtain ⟨i, d, z, hi, hd, hz, rfl⟩ := tiOf_spec hti
  unfold cut at h
  simp only at h
  unfold part
  simp only [Sem.run_bind, run_isAgg hd, Result.andThen_ok]
  by_cases ha : isAggD d = true
  · rw [if_pos ha] at h
    rw [if_pos ha]
    split at h
    · rename_i hle
      simp only [Option.some.injEq] at h
      subst h
      refine ⟨.agg ((us.drop off).take i.size).toArray, ?_, .agg _ (by simp; omega) fun j c v h1 h2 => ?_⟩
      · simp only [Sem.run_bind, run_sizeOf hi, Result.andThen_ok, Sem.run_pure]
        congr 2
        apply Array.ext'
        simp
      · rw [List.getElem?_take] at h1 h2
        split at h1
        · rename_i hj
          rw [if_pos hj] at h2
          rw [List.getElem?_drop] at h1 h2
          exact hr _ c v h1 h2
        · cases h1
    · cases h
  · rw [if_neg ha] at h
    rw [if_neg ha]
    split at h
    · rename_i c hcs
      simp only [Option.some.injEq] at h
      subst h
      have hj : off < us.length := by rw [hl]; exact (List.getElem?_eq_some_iff.1 hcs).1
      refine ⟨us[off], ?_, .c (hr _ c _ hcs (List.getElem?_eq_getElem hj))⟩
      simp [hj]
    · cases h

theorem fieldV_ok {s f : Nat} {p x : AV} {v : Value} (hp : RepA g w p v) (h : fieldV P s f p = some x) :
    ∃ u, (Instr.field s v f).run P w = .ok u w ∧ RepA g w x u := by
  unfold fieldV at h
  split at h
  · rename_i fs cs hti
    obtain ⟨i, d, z, hi, hd, hz, he⟩ := tiOf_spec hti
    simp only [TI.mk.injEq] at he
    obtain ⟨_, _, _, _, hds, _⟩ := he
    obtain ⟨F, rfl, hfs⟩ := descOf_struct hds.symm
    subst hfs
    split at h
    · rename_i off t hf
      rw [List.getElem?_map] at hf
      cases hF : F.toList[f]? with
      | none => simp [hF] at hf
      | some fd =>
        simp [hF] at hf
        obtain ⟨rfl, rfl⟩ := hf
        have hF' : F[f]? = some fd := by simpa using hF
        split at h
        · rename_i ti hti'
          cases hp with
          | agg us hl hc =>
            obtain ⟨u, hu, hr⟩ := run_part_cut (g := g) (w := w) hti' hl hc h
            refine ⟨u, ?_, hr⟩
            simp [Instr.field, run_underlying hd, hF', asAgg, hu]
        · cases h
    · cases h
  · cases h

theorem indexV_ok {t : Nat} {p ix x : AV} {v iv : Value} (hp : RepA g w p v) (hi : RepA g w ix iv) (h : indexV P t p ix = some x) :
    ∃ u, (Instr.index t v iv).run P w = .ok u w ∧ RepA g w x u := by
  unfold indexV at h
  split at h
  · rename_i len e cs k n hti
    obtain ⟨i, d, z, hi0, hd, hz, he⟩ := tiOf_spec hti
    simp only [TI.mk.injEq] at he
    obtain ⟨_, _, _, _, hds, _⟩ := he
    obtain rfl := descOf_array hds.symm
    obtain rfl := isInt hi
    split at h
    · rename_i hn
      split at h
      · rename_i te hte
        cases hp with
        | agg us hl hc =>
          obtain ⟨u, hu, hr⟩ := run_part_cut (g := g) (w := w) hte hl hc h
          obtain ⟨i', d', z', hi', hd', hz', rfl⟩ := tiOf_spec hte
          refine ⟨u, ?_, hr⟩
          simp [Instr.index, run_underlying hd, asIntOf, hn, run_sizeOf hi', hu]
      · cases h
    · cases h
  · rename_i b k n hti
    obtain ⟨i, d, z, hi0, hd, hz, he⟩ := tiOf_spec hti
    simp only [TI.mk.injEq] at he
    obtain ⟨_, _, _, _, hds, _⟩ := he
    obtain rfl := descOf_str hds.symm
    obtain rfl := isInt hi
    obtain ⟨rfl, _⟩ := isSc hp
    split at h
    · rename_i hn
      split at h
      · rename_i u hu
        simp at h; subst h
        refine ⟨.int .u8 u.toNat, ?_, .c (.pure (.sc rfl))⟩
        have hu' : b[n.toNat]? = some u := hu
        simp [Instr.index, run_underlying hd, asIntOf, hn, hu']
      · cases h
    · cases h
  · cases h

end
end Go.Abs
