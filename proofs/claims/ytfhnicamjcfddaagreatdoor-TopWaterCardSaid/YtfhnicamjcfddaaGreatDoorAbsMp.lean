/- The abstract evaluator is right: strings that are compared; maps whose keys are two numbers. -/
import Derived.Test.YtfhnicamjcfddaaGreatDoorAbsK
import Derived.MapKept
import Derived.ChangeKeysEq
namespace Go.Abs
open Go.RowKit
section
variable {P : Program} {B : Base} {g : G} {m m' : Mem} {w : World}

theorem eqBy_iff : ∀ {a b : List UInt8}, eqBy a b = true ↔ a = b
  | [], [] => by simp [eqBy]
  | [], _ :: _ => by simp [eqBy]
  | _ :: _, [] => by simp [eqBy]
  | a :: r, b :: s => by
    unfold eqBy
    cases e : Nat.beq a.toNat b.toNat with
    | true =>
      have hab : a = b := UInt8.toNat_inj.1 (Nat.eq_of_beq_eq_true e)
      subst hab
      simp [eqBy_iff (a := r) (b := s)]
    | false =>
      have hab : a ≠ b := fun h => by rw [h, Nat.beq_refl] at e; cases e
      simp [hab]
theorem eqBy_eq (a b : ByteArray) : (a.toList == b.toList) = eqBy a.data.toList b.data.toList := by
  rw [ByteArray.toList_eq, ByteArray.toList_eq, Bool.eq_iff_iff, beq_iff_eq, eqBy_iff]

theorem binS_ok {t : Nat} {op : BinOp} {a b : ByteArray} {v : Value} (h : binS op a b = some v) : (binOp op t (.string a) (.string b)).run P w = .ok v w ∧ scalar v = true := by
  cases op <;> simp only [binS] at h <;> first
    | (cases h; done)
    | (simp at h; subst h; exact ⟨by rw [binOp_string_eql, eqBy_eq]; rfl, rfl⟩)
    | (simp at h; subst h; exact ⟨by rw [binOp_string_neq, eqBy_eq]; rfl, rfl⟩)

/-! ### Maps -/

theorem keyTy_spec {k : TypeId} (h : keyTy P k = true) : ∃ e i, P.underlying k = some (.array 2 e) ∧ P.underlying e = some (.int .i64) ∧ P.info? e = some i ∧ i.size = 1 := by
  unfold keyTy at h
  split at h
  · rename_i e _ hk
    split at h
    · rename_i he
      obtain ⟨i, d, z, hi, hd, hz, q⟩ := tiOf_spec hk
      obtain ⟨i', d', z', hi', hd', hz', q'⟩ := tiOf_spec he
      simp only [TI.mk.injEq] at q q'
      obtain ⟨_, _, _, _, hds, _⟩ := q
      obtain ⟨_, hs, _, _, hds', _⟩ := q'
      obtain rfl := descOf_array hds.symm
      obtain rfl := descOf_int hds'.symm
      exact ⟨e, i', hd, hd', hi', hs.symm⟩
    · cases h
  · cases h

def kV (a b : Int) : Value := .agg #[.int .i64 a, .int .i64 b]
theorem part_key {e : TypeId} (he : P.underlying e = some (.int .i64)) (a b : Int) : (part e #[.int .i64 a, .int .i64 b] (0 * 1)).run P w = .ok (.int .i64 a) w ∧ (part e #[.int .i64 a, .int .i64 b] (1 * 1)).run P w = .ok (.int .i64 b) w :=
  ⟨by simp [part, isAgg, run_underlying he], by simp [part, isAgg, run_underlying he]⟩
theorem run_equal_key {k : TypeId} (h : keyTy P k = true) (a b c d : Int) : (Op.equal k (kV a b) (kV c d)).run P w = .ok (decide ((c, d) = (a, b))) w := by
  obtain ⟨e, i, h1, h2, h3, h4⟩ := keyTy_spec h
  have : ∀ n : Nat, (Op.equalIn (n + 2) k (kV a b) (kV c d)).run P w = .ok (decide ((c, d) = (a, b))) w := fun n => by
    rw [show n + 2 = (n + 1) + 1 from rfl]
    unfold kV
    rw [run_equalIn_array w (n + 1) _ _ h1 h3]
    obtain ⟨p1, p2⟩ := part_key (P := P) (w := w) h2 a b
    obtain ⟨q1, q2⟩ := part_key (P := P) (w := w) h2 c d
    have hc : P.cellsOf e = 1 := by simp [Program.cellsOf, h3, h4]
    simp only [hc, List.range, List.range.loop, Op.eqItems, Sem.run_bind, p1, p2, q1, q2, Result.andThen_ok]
    rw [run_equalIn_int w n e .i64 .i64 a c h2]
    simp only [Result.andThen_ok]
    by_cases hac : a = c
    · subst hac
      simp only [beq_self_eq_true, Bool.not_true, if_neg (show ¬ (false = true) by simp), Sem.run_bind, p1, p2, q1, q2, Result.andThen_ok]
      rw [run_equalIn_int w n e .i64 .i64 b d h2]
      simp only [Result.andThen_ok]
      by_cases hbd : b = d
      · subst hbd; simp
      · simp [hbd, Ne.symm hbd]
    · have : ¬ c = a := fun h => hac h.symm
      simp [hac, this]
  exact this 9998

theorem run_check_key {k : TypeId} (h : keyTy P k = true) (em : Bool) (a b : Int) : (Instr.checkKey em 10000 k (kV a b)).run P w = .ok () w := by
  obtain ⟨e, i, h1, h2, h3, h4⟩ := keyTy_spec h
  have : ∀ n : Nat, (Instr.checkKey em (n + 2) k (kV a b)).run P w = .ok () w := fun n => by
    rw [show n + 2 = (n + 1) + 1 from rfl, Instr.checkKey]
    obtain ⟨p1, p2⟩ := part_key (P := P) (w := w) h2 a b
    have hs : (sizeOf e).run P w = .ok 1 w := by rw [run_sizeOf h3, h4]
    have hin : ∀ x, (Instr.checkKey em (n + 1) e (.int .i64 x)).run P w = .ok () w := fun x => by simp [Instr.checkKey, run_underlying h2]
    simp only [Sem.run_bind, run_underlying h1, Result.andThen_ok, kV]
    simp only [Std.Legacy.Range.forIn_eq_forIn_range', Std.Legacy.Range.size, Nat.sub_zero, Nat.add_one_sub_one, Nat.div_one]
    simp only [List.range', List.forIn_cons, List.forIn_nil, Sem.run_bind, hs, p1, p2, hin, Result.andThen_ok, Sem.run_pure, Nat.zero_add]
  exact this 9998

theorem find_ok {k : TypeId} (h : keyTy P k = true) (a b : Int) : ∀ {es : List ((Int × Int) × List Value)} {ents : List MapEntry} (_ : ents.map (fun e => (e.key, e.val)) = es.map entV) (i : Nat),
    (Instr.findAsking k (kV a b) ents i).run P w = .ok (match findM es a b with
      | some v => some (i + (es.takeWhile fun x => !decide (x.1 = (a, b))).length, .agg v.toArray)
      | none => none) w
  | [], [], _, i => by simp [Instr.findAsking, findM]
  | [], _ :: _, h, _ => by simp at h
  | _ :: _, [], h, _ => by simp at h
  | ((c, d), v) :: es, e :: ents, he, i => by
    simp only [List.map_cons, List.cons.injEq, Prod.mk.injEq, entV] at he
    obtain ⟨⟨hk, hv⟩, hr⟩ := he
    have hk' : e.key = kV c d := hk
    simp only [Instr.findAsking, Sem.run_bind, hk', run_equal_key h, Result.andThen_ok, findM]
    by_cases hc : (c, d) = (a, b)
    · simp [hc, hv]
    · rw [if_neg (by simpa using hc), find_ok h a b hr (i + 1), if_neg hc]
      have hd : (decide ((c, d) = (a, b))) = false := by simpa using hc
      simp only [List.takeWhile_cons, hd, Bool.not_false, if_true, List.length_cons]
      cases findM es a b with
      | none => rfl
      | some v => simp only [Nat.add_assoc, Nat.add_comm 1]

theorem findKey_ok {k : TypeId} (h : keyTy P k = true) (a b : Int) {es : List ((Int × Int) × List Value)} {ents : List MapEntry} (he : ents.map (fun e => (e.key, e.val)) = es.map entV) :
    (Instr.findKey k (kV a b) ents).run P w = .ok (match findM es a b with
      | some v => some ((es.takeWhile fun x => !decide (x.1 = (a, b))).length, .agg v.toArray)
      | none => none) w := by
  obtain ⟨e, i, h1, h2, h3, h4⟩ := keyTy_spec h
  unfold Instr.findKey
  simp only [Sem.run_bind, run_underlying h1, Result.andThen_ok]
  cases ents with
  | nil =>
    cases es with
    | nil => simp [Instr.findNow, findM]
    | cons _ _ => simp at he
  | cons x r =>
    have : Instr.findNow (.array 2 e) (kV a b) (x :: r) 0 = none := by simp [Instr.findNow, Instr.sameNow]
    rw [this]
    have := find_ok (w := w) h a b he 0
    simp only [Nat.zero_add] at this
    exact this

theorem makeMap_ok (hI : Inv B g m w) (d : Nat) (hfd : memU d m.us = false) (T : TypeId) :
    ∃ v w' g', (Instr.makeMap T none).run P w = .ok v w' ∧ Ext g w g' w' ∧ RepA g' w' (.c (.mp (newId d m))) v ∧ Inv B g' (addObj d m (.map [])) w' := by
  have := inv_add (w' := w.alloc (.map #[] 0)) hI d (m1 := m) (fun _ _ h => h) ⟨rfl, rfl⟩ hfd (row := none) (World.grownBy_alloc w _ none) (fun b h => by cases h) (V := .map (some w.heap.size)) (s := 0) (obj := .map [])
    (fun b hb => by simp [blockOf] at hb; exact .inl (by omega)) (fun he => .map #[] (if_pos rfl) (heap_new w _) rfl (fun x hx => by cases hx) (fun o hF => by have := hI.flt _ _ hF; omega))
  refine ⟨.map (some w.heap.size), _, _, ?_, this.1, .c (.mp (.inl rfl) (if_pos rfl)), this.2⟩
  simp [Instr.makeMap]

theorem isKey {x : Value} {a b : Int} (h : RepA g w (.agg [.sc (.int .i64 a), .sc (.int .i64 b)]) x) : x = kV a b := by
  cases h with
  | agg us hl hc =>
    match us, hl with
    | [u, v], _ =>
      obtain ⟨rfl, _⟩ := isSc (.c (hc 0 _ u rfl rfl))
      obtain ⟨rfl, _⟩ := isSc (.c (hc 1 _ v rfl rfl))
      rfl

theorem findM_sc {a b : Int} : ∀ {l : List ((Int × Int) × List Value)} {u : List Value}, (∀ x ∈ l, ∀ v ∈ x.2, scalar v = true) → findM l a b = some u → ∀ v ∈ u, scalar v = true
  | [], u, _, h => by simp [findM] at h
  | (k, y) :: r, u, hall, h => by
    simp only [findM] at h
    split at h
    · simp at h; subst h; exact hall (k, y) (by simp)
    · exact findM_sc (fun x hx => hall x (by simp [hx])) h
theorem putM_sc {a b : Int} {u : List Value} (hu : ∀ v ∈ u, scalar v = true) : ∀ {l : List ((Int × Int) × List Value)}, (∀ x ∈ l, ∀ v ∈ x.2, scalar v = true) → ∀ x ∈ putM l a b u, ∀ v ∈ x.2, scalar v = true
  | [], _, x, hx => by simp [putM] at hx; subst hx; exact hu
  | (k, y) :: r, hall, x, hx => by
    simp only [putM] at hx
    split at hx
    · rcases List.mem_cons.1 hx with rfl | hx
      · exact hu
      · exact hall x (by simp [hx])
    · rcases List.mem_cons.1 hx with rfl | hx
      · exact hall (k, y) (by simp)
      · exact putM_sc hu (fun x hx => hall x (by simp [hx])) x hx
theorem putM_none {a b : Int} {u : List Value} : ∀ {l : List ((Int × Int) × List Value)}, findM l a b = none → putM l a b u = l ++ [((a, b), u)]
  | [], _ => rfl
  | (k, y) :: r, h => by
    simp only [findM] at h
    split at h
    · cases h
    · rename_i hk
      simp only [putM, if_neg hk, putM_none h, List.cons_append]
theorem putM_some {a b : Int} {u v : List Value} : ∀ {l : List ((Int × Int) × List Value)} {ents : List MapEntry}, findM l a b = some v → ents.map (fun e => (e.key, e.val)) = l.map entV →
    (ents.modify (l.takeWhile fun x => !decide (x.1 = (a, b))).length fun e => { e with key := kV a b, val := .agg u.toArray }).map (fun e => (e.key, e.val)) = (putM l a b u).map entV
  | [], _, h, _ => by simp [findM] at h
  | _ :: _, [], _, h => by simp at h
  | (k, y) :: r, e :: ents, h, he => by
    simp only [List.map_cons, List.cons.injEq, Prod.mk.injEq, entV] at he
    obtain ⟨⟨hk, hv⟩, hr⟩ := he
    simp only [findM] at h
    split at h
    · rename_i hkk
      subst hkk
      simp [putM, entV, kV, hr]
    · rename_i hkk
      have hd : (decide (k = (a, b))) = false := by simpa using hkk
      simp only [List.takeWhile_cons, hd, Bool.not_false, if_true, List.length_cons, putM, if_neg hkk, List.modify_succ_cons, List.map_cons, putM_some h hr, entV, hk, hv]
theorem same_key (a b : Int) : Instr.sameBits 10000 (kV a b) (kV a b) = true := by
  have : ∀ n : Nat, Instr.sameBits (n + 2) (kV a b) (kV a b) = true := fun n => by simp [Instr.sameBits, kV]
  exact this 9998
theorem findM_at {a b : Int} {v : List Value} : ∀ {l : List ((Int × Int) × List Value)} {ents : List MapEntry}, findM l a b = some v → ents.map (fun e => (e.key, e.val)) = l.map entV →
    ∃ e, ents[(l.takeWhile fun x => !decide (x.1 = (a, b))).length]? = some e ∧ e.key = kV a b
  | [], _, h, _ => by simp [findM] at h
  | _ :: _, [], _, h => by simp at h
  | (k, y) :: r, e :: ents, h, he => by
    simp only [List.map_cons, List.cons.injEq, Prod.mk.injEq, entV] at he
    obtain ⟨⟨hk, hv⟩, hr⟩ := he
    simp only [findM] at h
    split at h
    · rename_i hkk
      subst hkk
      exact ⟨e, by simp, hk⟩
    · rename_i hkk
      have hd : (decide (k = (a, b))) = false := by simpa using hkk
      obtain ⟨e', h1, h2⟩ := findM_at h hr
      exact ⟨e', by simpa [List.takeWhile_cons, hd] using h1, h2⟩

theorem setObj_grown {w : World} {b : Nat} (o : Obj) : w.grownBy { w with heap := w.heap.setIfInBounds b o } (some b) :=
  ⟨rfl, rfl, rfl, by simp, fun k _ hk => by simp [Array.getElem?_setIfInBounds_ne (show b ≠ k from fun e => hk (by rw [e]))]⟩

theorem scCs_spec : ∀ {cs : List Cell} {vs : List Value}, scCs cs = some vs → cs = vs.map .sc ∧ ∀ v ∈ vs, scalar v = true
  | [], vs, h => by simp [scCs] at h; subst h; simp
  | c :: r, vs, h => by
    unfold scCs at h
    split at h
    · rename_i he; cases he
    · rename_i v r' he
      simp only [List.cons.injEq] at he
      obtain ⟨rfl, rfl⟩ := he
      split at h
      · rename_i hv l
        simp at h
        subst h
        obtain ⟨h1, h2⟩ := scCs_spec l
        exact ⟨by rw [h1]; rfl, fun v hv' => by
          rcases List.mem_cons.1 hv' with rfl | hv'
          · exact hv
          · exact h2 v hv'⟩
      · cases h
    · cases h
theorem isData {x : Value} {vs : List Value} (h : RepA g w (.agg (vs.map .sc)) x) : x = .agg vs.toArray := by
  cases h with
  | agg us hl hc =>
    congr 2
    apply List.ext_getElem?
    intro j
    rcases Nat.lt_or_ge j us.length with hj | hj
    · have hj' : j < vs.length := by rw [hl] at hj; simpa using hj
      have h1 : (vs.map Cell.sc)[j]? = some (.sc vs[j]) := by simp [hj']
      have := isSc (.c (hc j _ us[j] h1 (List.getElem?_eq_getElem hj)))
      rw [List.getElem?_eq_getElem hj, List.getElem?_eq_getElem hj', this.1]
    · have hj' : vs.length ≤ j := by rw [hl] at hj; simpa using hj
      rw [List.getElem?_eq_none hj, List.getElem?_eq_none hj']

theorem updF_ok (hI : Inv B g m w) {t : Nat} {x ix y : AV} {v iv yv : Value} (hx : RepA g w x v) (hi : RepA g w ix iv) (hy : RepA g w y yv) (h : updF' P t m x ix y = some m') :
    ∃ w' g', (Instr.mapUpdate t v iv yv).run P w = .ok () w' ∧ Ext g w g' w' ∧ Inv B g' m' w' := by
  unfold updF' at h
  split at h
  · rename_i kt vt _ i a b cs hti
    obtain ⟨i0, d, z, hi0, hd, hz, he⟩ := tiOf_spec hti
    simp only [TI.mk.injEq] at he
    obtain ⟨_, _, _, _, hds, _⟩ := he
    obtain rfl := descOf_map hds.symm
    split at h
    · rename_i vs es hk hv hm
      simp only [Option.some.injEq] at h
      subst h
      obtain rfl := isKey hi
      obtain ⟨rfl, hsv⟩ := scCs_spec hv
      obtain rfl := isData hy
      obtain ⟨_, ho⟩ := hI.ok i _ hm
      cases hx with
      | c hx => cases hx with
        | pure hx => cases hx
        | mp hK hβ =>
          rename_i blk
          cases ho with
          | map ents hv' hh hr hs hf =>
            rename_i blk' clock
            rw [hβ] at hv'
            simp only [Value.map.injEq, Option.some.injEq] at hv'
            subst hv'
            have hfk := findKey_ok (P := P) (w := w) hk a b hr
            have hget := run_getObj_map (P := P) w _ _ _ hh
            have hlt : blk < w.heap.size := (Array.getElem?_eq_some_iff.1 hh).1
            have hset : ∀ o, (setObj blk o).run P w = .ok () { w with heap := w.heap.setIfInBounds blk o } := fun o => MapKept.run_setObj_map o hh
            have fin : ∀ (ents' : Array MapEntry) (clock' : Nat), ents'.toList.map (fun e => (e.key, e.val)) = (putM es a b vs).map entV →
                Ext g w g { w with heap := w.heap.setIfInBounds blk (.map ents' clock') } ∧ Inv B g { m with o := mset m.o i (.map (putM es a b vs)) } { w with heap := w.heap.setIfInBounds blk (.map ents' clock') } := fun ents' clock' he' =>
              inv_upd hI hm (setObj_grown _) (fun b h => by simp at h; subst h; rw [hβ]; rfl) (fun b x h hF => by simp at h; subst h; exact absurd hF (hf x))
                (fun he => .map (clock := clock') ents' hβ (by simp [hlt]) he' (putM_sc hsv hs) hf)
            simp only [Instr.mapUpdate, Sem.run_bind, run_underlying hd, Result.andThen_ok, hget, run_check_key hk, hfk]
            cases hfm : findM es a b with
            | some u =>
              obtain ⟨e, h1, h2⟩ := findM_at hfm hr
              have h1' : ents[(es.takeWhile fun x => !decide (x.1 = (a, b))).length]? = some e := by simpa using h1
              obtain ⟨q1, q2⟩ := fin (ents.modify (es.takeWhile fun x => !decide (x.1 = (a, b))).length fun e => { e with key := kV a b, val := .agg vs.toArray }) clock (by
                have := putM_some (u := vs) hfm hr
                rw [Array.toList_modify]
                exact this)
              refine ⟨_, g, ?_, q1, q2⟩
              simp only [h1', Option.map_some, Option.getD_some, h2, Instr.keyThatStays, same_key, if_true, Sem.run_bind, Sem.run_pure, Result.andThen_ok, hset]
            | none =>
              obtain ⟨q1, q2⟩ := fin (ents.push { key := kV a b, val := .agg vs.toArray, born := clock }) (clock + 1) (by
                rw [putM_none hfm]
                simp [hr, entV, kV])
              exact ⟨_, g, by simp only [hset], q1, q2⟩
    · cases h
  · cases h

theorem mapF_ok (hI : Inv B g m w) {t : Nat} {x ix r : AV} {v iv : Value} (hx : RepA g w x v) (hi : RepA g w ix iv) (h : mapF P t m x ix = some r) :
    ∃ u, (Instr.lookup t v iv true).run P w = .ok u w ∧ RepA g w r u := by
  unfold mapF at h
  split at h
  · rename_i kt vt _ i a b hti
    obtain ⟨i0, d, z, hi0, hd, hz, he⟩ := tiOf_spec hti
    simp only [TI.mk.injEq] at he
    obtain ⟨_, _, _, _, hds, _⟩ := he
    obtain rfl := descOf_map hds.symm
    split at h
    · rename_i tv es hk hv hm
      split at h
      · rename_i z' hag hz'
        simp only [Option.some.injEq] at h
        obtain rfl := isKey hi
        obtain ⟨_, ho⟩ := hI.ok i _ hm
        cases hx with
        | c hx => cases hx with
          | pure hx => cases hx
          | mp hK hβ =>
            rename_i blk
            cases ho with
            | map ents hv' hh hr hs hf =>
              rw [hβ] at hv'
              simp only [Value.map.injEq, Option.some.injEq] at hv'
              subst hv'
              have hfk := findKey_ok (P := P) (w := w) hk a b hr
              have hget := run_getObj_map (P := P) w _ _ _ hh
              obtain ⟨i2, d2, zv, hi2, hd2, hz2, rfl⟩ := tiOf_spec hv
              cases hfm : findM es a b with
              | some u =>
                rw [hfm] at hfk h
                subst h
                refine ⟨.tuple #[.agg u.toArray, .bool true], ?_, .tup [.agg u.toArray, .bool true] rfl fun j y v h1 h2 => ?_⟩
                · simp only [Instr.lookup, Sem.run_bind, run_underlying hd, Result.andThen_ok, Sem.run_pure, hget, run_check_key hk, hfk]
                  simp
                · match j with
                  | 0 =>
                    simp at h1 h2; subst h1; subst h2
                    refine .agg u (by simp) fun j c v h1 h2 => ?_
                    rw [List.getElem?_map, h2] at h1
                    simp at h1; subst h1
                    exact repC_sc (findM_sc hs hfm v (List.mem_of_getElem? h2))
                  | 1 => simp at h1 h2; subst h1; subst h2; exact .c (repC_sc rfl)
                  | j + 2 => simp at h1
              | none =>
                rw [hfm] at hfk h
                subst h
                obtain ⟨hl, hrz⟩ := constCells_rep (g := g) (w := w) hz'
                have hzagg : ∃ cs, zv = .agg cs := by
                  have hag : Nat.beq zv.cells.toList.length 1 = false := hag
                  cases zv with
                  | agg cs => exact ⟨cs, rfl⟩
                  | _ => simp [Value.cells] at hag
                obtain ⟨cs, rfl⟩ := hzagg
                refine ⟨.tuple #[.agg cs, .bool false], ?_, .tup [.agg cs, .bool false] rfl fun j y v h1 h2 => ?_⟩
                · simp only [Instr.lookup, Sem.run_bind, run_underlying hd, Result.andThen_ok, Sem.run_pure, hget, run_check_key hk, hfk, zeroValue, typeInfo, run_program, hi2, hz2]
                  simp
                · match j with
                  | 0 =>
                    simp at h1 h2; subst h1; subst h2
                    exact .agg cs.toList (by simpa [Value.cells] using hl) fun j c v h1 h2 => hrz j c v h1 (by simpa [Value.cells] using h2)
                  | 1 => simp at h1 h2; subst h1; subst h2; exact .c (repC_sc rfl)
                  | j + 2 => simp at h1
      · cases h
    · cases h
  · cases h

end
end Go.Abs
