/- The abstract evaluator is right: literals of structs and slices. -/
import Derived.Test.YtfhnicamjcfddaaGreatDoorAbsH
namespace Go.Abs
open Go.RowKit

section
variable {P : Program} {B : Base} {g g' : G} {m m' : Mem} {w w' : World}

theorem foldl_wr (off : Nat) : ∀ (l : List Value) (k : Nat) (cs : Array Value), off + k + l.length ≤ cs.size →
    ((l.zipIdx k).foldl (fun cs (x : Value × Nat) => cs.setIfInBounds (off + x.2) x.1) cs).toList = cs.toList.take (off + k) ++ (l ++ cs.toList.drop (off + k + l.length))
  | [], k, cs, _ => by simp
  | v :: r, k, cs, h => by
    simp only [List.length_cons] at h
    simp only [List.zipIdx_cons, List.foldl_cons]
    rw [foldl_wr off r (k + 1) _ (by simp; omega)]
    have e := list_seg_step cs.toList (off + k) v r (by simp; omega)
    simp only [Array.toList_setIfInBounds, List.append_assoc, List.cons_append, List.length_cons, Nat.add_assoc] at e ⊢
    rw [show off + (k + (1 + r.length)) = off + (k + (r.length + 1)) by omega] at *
    exact e

theorem fill_cons {pl : Nat → Option (Nat × Nat)} {cs : Array Value} {i off size : Nat} {v : Value} {r : List (Nat × Value)} (hp : pl i = some (off, size)) (hs : v.cells.size = size) (hf : off + size ≤ cs.size) :
    Instr.fill pl cs ((i, v) :: r) = Instr.fill pl (cs.toList.take off ++ (v.cells.toList ++ cs.toList.drop (off + v.cells.toList.length))).toArray r := by
  have h := foldl_wr off v.cells.toList 0 cs (by simp; omega)
  simp only [Nat.add_zero] at h
  have h2 : (v.cells.zipIdx.foldl (fun cs (x : Value × Nat) => cs.setIfInBounds (off + x.2) x.1) cs) = (cs.toList.take off ++ (v.cells.toList ++ cs.toList.drop (off + v.cells.toList.length))).toArray := by
    apply Array.ext'
    rw [← h, ← Array.foldl_toList, Array.toList_zipIdx]
  rw [Instr.fill, hp]
  simp only
  have hcond : (v.cells.size ≠ size || off + v.cells.size > cs.size) = false := by simp [hs]; omega
  rw [hcond]
  simp only [Bool.false_eq_true, if_false]
  rw [← h2]

theorem buildF_ok {φ : Nat → Option AV} {a : Act} (hL : Laid g.F w) (hs : Slots g w φ a) {fs : List (Nat × TypeId)} {pl : Nat → Option (Nat × Nat)}
    (hpl : ∀ (k off : Nat) (t : TypeId), fs[k]? = some (off, t) → ∀ ti, tiOf P t = some ti → pl k = some (off, ti.size)) :
    ∀ (ps : List (Nat × Operand)) (cs : List Cell) (us : List Value) (cs' : List Cell), us.length = cs.length → (∀ (j : Nat) c u, cs[j]? = some c → us[j]? = some u → RepC g w c u) →
      buildF φ P fs cs ps = some cs' →
      ∃ us' : List Value, Instr.fill pl us.toArray (ps.map fun p => (p.1, a.eval p.2)) = some us'.toArray ∧ us'.length = cs'.length ∧ ∀ (j : Nat) c u, cs'[j]? = some c → us'[j]? = some u → RepC g w c u
  | [], cs, us, cs', hl, hr, h => by
    simp [buildF] at h
    subst h
    exact ⟨us, rfl, hl, hr⟩
  | (k, x) :: ps, cs, us, cs', hl, hr, h => by
    unfold buildF at h
    split at h
    · rename_i off t hf
      split at h
      · rename_i ti av hti hev
        split at h
        · rename_i xs hxs
          split at h
          · rename_i hc
            obtain ⟨hc1, hc2⟩ := hc
            have hrx := ev_rep hL hs hev
            obtain ⟨hvl, hvr⟩ := avCells_rep hxs hrx (repA_one hrx)
            have hl2 : (a.eval x).cells.toList.length = xs.length := by simpa using hvl
            have hvs : (a.eval x).cells.size = ti.size := by omega
            have hft : off + ti.size ≤ us.toArray.size := by simp; omega
            obtain ⟨us', h1, h2, h3⟩ := buildF_ok hL hs hpl ps (wr cs off xs) (us.take off ++ ((a.eval x).cells.toList ++ us.drop (off + (a.eval x).cells.toList.length))) cs'
              (by rw [wr, wr_len _ _ _ (by omega), wr_len _ _ _ (by omega)]; exact hl) (fun j c u hc hu => by
                rw [wr, wr_get _ _ _ (by omega)] at hc
                rw [wr_get _ _ _ (by omega), hl2] at hu
                split at hc
                · rename_i hk
                  rw [if_pos hk] at hu
                  exact hvr _ c u hc (by simpa using hu)
                · rename_i hk
                  rw [if_neg hk] at hu
                  exact hr j c u hc hu) h
            refine ⟨us', ?_, h2, h3⟩
            rw [List.map_cons, fill_cons (hpl k off t hf ti hti) hvs hft]
            simpa using h1
          · cases h
        · cases h
      · cases h
    · cases h

theorem run_mapM_places (F : Array Field) (hall : ∀ f ∈ F.toList, ∃ i, P.info? f.type = some i) (w : World) :
    (F.mapM fun f => do pure (f.offset, ← sizeOf f.type) : Sem (Array (Nat × Nat))).run P w = .ok (F.map fun f => (f.offset, P.cellsOf f.type)) w := by
  have key : ∀ (l : List Field), (∀ f ∈ l, ∃ i, P.info? f.type = some i) → (l.mapM (fun f => do pure (f.offset, ← sizeOf f.type)) : Sem (List (Nat × Nat))).run P w = .ok (l.map fun f => (f.offset, P.cellsOf f.type)) w := by
    intro l
    induction l with
    | nil => intro _; simp
    | cons f r ih =>
      intro h
      obtain ⟨i, hi⟩ := h f (by simp)
      have := ih (fun f hf => h f (by simp [hf]))
      simp only [List.mapM_cons, Sem.run_bind, run_sizeOf hi, Result.andThen_ok, Sem.run_pure, this, List.map_cons]
      simp [Program.cellsOf, hi]
  rw [Array.mapM_eq_mapM_toList, Sem.run_map, key F.toList hall, Result.andThen_ok]
  congr 1
  apply Array.ext'
  simp

theorem build_ok {φ : Nat → Option AV} {a : Act} (HL : Laid g.F w) (hs : Slots g w φ a) {T : TypeId} {ti : TI} (hti : tiOf P T = some ti) {fs : List (Nat × TypeId)} (hd' : ti.d = .struct fs) {z : List Cell} (hz' : constCells ti.zero = some z)
    (hall : fs.all (fun f => (tiOf P f.2).isSome) = true) {ps : Array (Nat × Operand)} {cs : List Cell} (h : buildF φ P fs z ps.toList = some cs) :
    ∃ v, (Instr.build T (ps.map fun (i, x) => (i, a.eval x))).run P w = .ok v w ∧ RepA g w (.agg cs) v := by
  obtain ⟨i, dd, zv, hi, hd, hz, rfl⟩ := tiOf_spec hti
  obtain ⟨F, rfl, hfs⟩ := descOf_struct hd'
  subst hfs
  obtain ⟨hl, hr⟩ := constCells_rep (g := g) (w := w) hz'
  have hinfo : ∀ f ∈ F.toList, ∃ ti, tiOf P f.type = some ti := fun f hf => by
    have := List.all_eq_true.1 hall (f.offset, f.type) (List.mem_map.2 ⟨f, hf, rfl⟩)
    exact Option.isSome_iff_exists.1 this
  have hpl : ∀ (k : Nat) (f : Field), F[k]? = some f → ∀ ti, tiOf P f.type = some ti → (F.map fun f => (f.offset, P.cellsOf f.type))[k]? = some (f.offset, ti.size) := fun k f hf ti hti => by
    obtain ⟨i', d', z', hi', _, _, rfl⟩ := tiOf_spec hti
    rw [Array.getElem?_map, hf]
    simp [Program.cellsOf, hi']
  obtain ⟨us', h1, h2, h3⟩ := buildF_ok (a := a) HL hs (fs := F.toList.map fun f => (f.offset, f.type)) (pl := fun k => (F.map fun f => (f.offset, P.cellsOf f.type))[k]?) (fun k off t hf ti hti => by
    rw [List.getElem?_map] at hf
    cases hF : F.toList[k]? with
    | none => simp [hF] at hf
    | some fd =>
      simp [hF] at hf
      obtain ⟨rfl, rfl⟩ := hf
      exact hpl k fd (by simpa using hF) ti hti) ps.toList z zv.cells.toList cs (by simpa using hl) hr h
  refine ⟨.agg us'.toArray, ?_, .agg us' h2 h3⟩
  have hm := run_mapM_places (P := P) F (fun f hf => by
    obtain ⟨ti, hti⟩ := hinfo f hf
    obtain ⟨i', _, _, hi', _⟩ := tiOf_spec hti
    exact ⟨i', hi'⟩) w
  have hps : (ps.map fun (x : Nat × Operand) => (x.1, a.eval x.2)).toList = ps.toList.map fun p => (p.1, a.eval p.2) := by simp
  simp only [Instr.build, Sem.run_bind, zeroValue, typeInfo, run_program, Result.andThen_ok, hi, hz, Sem.run_pure, run_underlying hd, hm]
  simp only [Array.toArray_toList] at h1
  rw [hps, h1]
  rfl

theorem buildArr_ok {φ : Nat → Option AV} {a : Act} (HL : Laid g.F w) (hs : Slots g w φ a) {T : TypeId} {ti : TI} (hti : tiOf P T = some ti) {n : Nat} {e : TypeId} (hd' : ti.d = .array n e) {z : List Cell} (hz' : constCells ti.zero = some z)
    {te : TI} (hte : tiOf P e = some te) {ps : Array (Nat × Operand)} {cs : List Cell} (h : buildF φ P (arrFs te.size e n 0) z ps.toList = some cs) :
    ∃ v, (Instr.build T (ps.map fun (i, x) => (i, a.eval x))).run P w = .ok v w ∧ RepA g w (.agg cs) v := by
  obtain ⟨i, dd, zv, hi, hd, hz, rfl⟩ := tiOf_spec hti
  obtain ⟨i2, dd2, zv2, hi2, hd2, hz2, rfl⟩ := tiOf_spec hte
  have hdd := descOf_array hd'
  subst hdd
  obtain ⟨hl, hr⟩ := constCells_rep (g := g) (w := w) hz'
  obtain ⟨us', h1, h2, h3⟩ := buildF_ok (a := a) HL hs (fs := arrFs i2.size e n 0) (pl := fun k => some (k * i2.size, i2.size)) (fun k off t hf ti hti' => by
    have hx := arrFs_get hf
    rw [Nat.zero_add, Prod.mk.injEq] at hx
    obtain ⟨rfl, rfl⟩ := hx
    have := hti'.symm.trans hte
    cases this
    rfl) ps.toList z zv.cells.toList cs (by simpa using hl) hr h
  refine ⟨.agg us'.toArray, ?_, .agg us' h2 h3⟩
  have hps : (ps.map fun (x : Nat × Operand) => (x.1, a.eval x.2)).toList = ps.toList.map fun p => (p.1, a.eval p.2) := by simp
  simp only [Instr.build, Sem.run_bind, zeroValue, typeInfo, run_program, Result.andThen_ok, hi, hz, Sem.run_pure, run_underlying hd, run_sizeOf hi2]
  simp only [Array.toArray_toList] at h1
  rw [hps, h1]
  rfl

theorem parts_ok {φ : Nat → Option AV} {a : Act} {sz : Nat} : ∀ (ps : List (Nat × Operand)) (k : Nat) {g : G} {m m' : Mem} {es : List (List Cell)}, Slots g w φ a → Inv B g m w → parts φ sz k ps m = some (es, m') →
    ∃ g', Ext g w g' w ∧ Inv B g' m' w ∧ es.length = ps.length ∧ (∀ (i : Nat) p, ps[i]? = some p → p.1 = k + i ∧ (a.eval p.2).cells.size = sz ∧ ∀ u ∈ (a.eval p.2).cells.toList, u.oneCell' = true) ∧
      ∀ (i : Nat) p e, ps[i]? = some p → es[i]? = some e → e.length = sz ∧ ∀ (j : Nat) c u, e[j]? = some c → (a.eval p.2).cells[j]? = some u → RepP g'.F w c u
  | [], k, g, m, m', es, hs, hI, h => by
    simp [parts] at h
    obtain ⟨rfl, rfl⟩ := h
    exact ⟨g, .refl g w, hI, rfl, fun i p h => by simp at h, fun i p e h => by simp at h⟩
  | (k', x) :: ps, k, g, m, m', es, hs, hI, h => by
    unfold parts at h
    split at h
    · rename_i hk
      split at h
      · rename_i av hev
        split at h
        · rename_i cs hcs
          split at h
          · rename_i hsz
            split at h
            · rename_i pcs m1 hpur
              split at h
              · rename_i l m2 hrest
                simp at h
                obtain ⟨rfl, rfl⟩ := h
                have hrx := ev_rep hI.laid hs hev
                obtain ⟨hvl, hvr⟩ := avCells_rep hcs hrx (repA_one hrx)
                have hvs : (a.eval x).cells.size = sz := by omega
                obtain ⟨hl', g1, e1, i1, p1⟩ := purL_ok hI (us := (a.eval x).cells.toList) (by simpa using hvl) (fun j c u h1 h2 => hvr j c u h1 (by simpa using h2)) hpur
                obtain ⟨g2, e2, i2, l2, q2, p2⟩ := parts_ok ps (k + 1) (g := g1) (fun t x hx => by
                  obtain ⟨v, hv, hr⟩ := hs t x hx
                  exact ⟨v, hv, hr.ext e1⟩) i1 hrest
                refine ⟨g2, e1.trans e2, i2, by simp [l2], fun i p hp => ?_, fun i p e hp he => ?_⟩
                · cases i with
                  | zero => simp at hp; subst hp; exact ⟨by simpa using hk, hvs, cells_one hcs hrx⟩
                  | succ i => simp at hp; obtain ⟨q, q', q''⟩ := q2 i p hp; exact ⟨by omega, q', q''⟩
                · cases i with
                  | zero =>
                    simp at hp he; subst hp; subst he
                    refine ⟨by omega, fun j c u h1 h2 => (p1 j c u h1 (by simpa using h2)).ext e2.F e2.cell⟩
                  | succ i => simp at hp he; exact p2 i p e hp he
              · cases h
            · cases h
          · cases h
        · cases h
      · cases h
    · cases h

theorem fill_slice {sz : Nat} : ∀ (vs : List (Nat × Value)) (k : Nat) (cs : Array Value), (∀ (i : Nat) p, vs[i]? = some p → p.1 = k + i ∧ p.2.cells.size = sz) → (k + vs.length) * sz ≤ cs.size →
    ∃ cs' : Array Value, Instr.fill (fun i => some (i * sz, sz)) cs vs = some cs' ∧ cs'.size = cs.size ∧ (∀ j, j < k * sz → cs'[j]? = cs[j]?) ∧
      ∀ (i : Nat) p, vs[i]? = some p → ∀ j, j < sz → cs'[(k + i) * sz + j]? = p.2.cells[j]?
  | [], k, cs, _, _ => ⟨cs, rfl, rfl, fun _ _ => rfl, fun i p h => by simp at h⟩
  | (k', v) :: vs, k, cs, h, hl => by
    obtain ⟨hk, hv⟩ := h 0 (k', v) rfl
    have hk : k' = k := hk
    have hv : v.cells.size = sz := hv
    subst hk
    have hrow : (k' + 1) * sz ≤ (k' + (vs.length + 1)) * sz := Nat.mul_le_mul_right _ (by omega)
    simp only [List.length_cons] at hl
    have hfit : k' * sz + sz ≤ cs.size := by rw [Nat.add_mul, Nat.one_mul] at hrow; omega
    have hvl : v.cells.toList.length = sz := by simpa using hv
    have hlen := wr_len cs.toList (k' * sz) v.cells.toList (by simp; omega)
    obtain ⟨cs', h1, h2, h3, h4⟩ := fill_slice vs (k' + 1) (cs.toList.take (k' * sz) ++ (v.cells.toList ++ cs.toList.drop (k' * sz + v.cells.toList.length))).toArray (fun i p hp => by
      obtain ⟨q, q'⟩ := h (i + 1) p (by simpa using hp)
      exact ⟨by omega, q'⟩) (by simp only [List.size_toArray]; rw [hlen]; simp; rw [show k' + 1 + vs.length = k' + (vs.length + 1) by omega]; exact hl)
    refine ⟨cs', ?_, ?_, fun j hj => ?_, fun i p hp j hj => ?_⟩
    · rw [fill_cons rfl hv hfit]; exact h1
    · rw [h2]; simp only [List.size_toArray]; rw [hlen]; simp
    · rw [h3 j (by rw [Nat.add_mul]; omega), List.getElem?_toArray, wr_get _ _ _ (by simp; omega), if_neg (by omega)]
      simp
    · cases i with
      | zero =>
        simp at hp
        subst hp
        have hj1 : k' * sz + j < (k' + 1) * sz := by rw [Nat.add_mul]; omega
        have hj2 : k' * sz ≤ k' * sz + j ∧ k' * sz + j < k' * sz + v.cells.toList.length := by omega
        rw [Nat.add_zero, h3 _ hj1, List.getElem?_toArray, wr_get _ _ _ (by simp; omega), if_pos hj2, show k' * sz + j - k' * sz = j by omega]
        simp
      | succ i =>
        have := h4 i p (by simpa using hp) j hj
        rw [show k' + 1 + i = k' + (i + 1) by omega] at this
        exact this

theorem buildSlice_ok {φ : Nat → Option AV} {a : Act} (hs : Slots g w φ a) (hI : Inv B g m w) (d : Nat) (hfd : memU d m.us = false) {T e : TypeId} {ti te : TI} (hti : tiOf P T = some ti) (hd' : ti.d = .slice e) (hte : tiOf P e = some te) {n : Nat}
    (h0 : ¬ (te.size = 0 ∨ 16777216 < n * te.size)) {ps : Array (Nat × Operand)} {es : List (List Cell)} {m1 : Mem} (h : parts φ te.size 0 ps.toList m = some (es, m1)) (hn : es.length = n) :
    ∃ v w' g', (Instr.buildSlice T n (ps.map fun (i, x) => (i, a.eval x))).run P w = .ok v w' ∧ Ext g w g' w' ∧ RepA g' w' (.c (.view (newId d m1) 0 n)) v ∧ Inv B g' (addObj d m1 (.arr e te.size es false)) w' := by
  obtain ⟨i, dd, zv, hi, hd, hz, rfl⟩ := tiOf_spec hti
  obtain rfl := descOf_slice hd'
  obtain ⟨i', dd', zv', hi', hd'', hz', rfl⟩ := tiOf_spec hte
  simp only at h0 h ⊢
  obtain ⟨g1, e1, I1, l1, q1, p1⟩ := parts_ok ps.toList 0 hs hI h
  have hpl : ps.toList.length = n := by rw [← l1, hn]
  obtain ⟨cs', f1, f2, f3, f4⟩ := fill_slice (sz := i'.size) (ps.toList.map fun p => (p.1, a.eval p.2)) 0 ((Array.range (n * i'.size)).map (zv'.cells[· % zv'.cells.size]!)) (fun k p hp => by
    rw [List.getElem?_map] at hp
    cases hq : ps.toList[k]? with
    | none => simp [hq] at hp
    | some q =>
      simp [hq] at hp
      subst hp
      obtain ⟨r1, r2, _⟩ := q1 k q hq
      exact ⟨r1, r2⟩) (by simp [hpl])
  have hsz : cs'.size = n * i'.size := by rw [f2]; simp
  have hps : (ps.map fun (x : Nat × Operand) => (x.1, a.eval x.2)).toList = ps.toList.map fun p => (p.1, a.eval p.2) := by simp
  have hnz : ¬ (n * i'.size = 0 ∧ n ≠ 0) := by
    intro hh
    rcases Nat.mul_eq_zero.1 hh.1 with h | h
    · exact hh.2 h
    · exact h0 (.inl h)
  have hone : ∀ u ∈ cs'.toList, u.oneCell' = true := by
    intro u hu
    obtain ⟨j, hj, rfl⟩ := List.getElem_of_mem hu
    have hj' : j < n * i'.size := by simpa [hsz] using hj
    have hpos : 0 < i'.size := by omega
    have hdiv : j / i'.size < n := (Nat.div_lt_iff_lt_mul hpos).2 hj'
    have hget : ∃ p, ps.toList[j / i'.size]? = some p := ⟨_, List.getElem?_eq_getElem (by omega)⟩
    obtain ⟨p, hp⟩ := hget
    have := f4 (j / i'.size) (p.1, a.eval p.2) (by rw [List.getElem?_map, hp]; rfl) (j % i'.size) (Nat.mod_lt _ hpos)
    rw [Nat.zero_add, Nat.div_add_mod'] at this
    obtain ⟨_, r2, r3⟩ := q1 _ p hp
    have hmod : j % i'.size < (a.eval p.2).cells.size := by rw [r2]; exact Nat.mod_lt _ hpos
    simp only at this
    rw [Array.getElem?_eq_getElem hmod] at this
    have h3 : cs'[j]? = some (cs'.toList[j]) := by simp [show j < cs'.size by omega]
    rw [h3] at this
    simp only [Option.some.injEq] at this
    rw [this]
    exact r3 _ (by simp)
  have hown : (w.alloc (.cells cs' e)).ownsRow 0 e i'.size (.slice (some ⟨w.heap.size, 0, none⟩) n n) n cs'.toList :=
    ⟨by simpa using hsz, .inr ⟨w.heap.size, n, cs', rfl, Nat.zero_le _, heap_new w _, Nat.le_refl _, by
      have hle : n ≤ n * i'.size := Nat.le_mul_of_pos_right n (by omega)
      have h16 : n * i'.size ≤ 16777216 := by omega
      have : n ≤ 16777216 := Nat.le_trans hle h16
      simp only [maxLen]; omega, hsz, by rw [List.take_of_length_le (by simp [hsz])]⟩⟩
  have := inv_add (w' := w.alloc (.cells cs' e)) I1 d (m1 := m1) (fun _ _ h => h) ⟨rfl, rfl⟩ (by rw [(parts_nu h).2]; exact hfd) (row := none) (World.grownBy_alloc w _ none) (fun b h => by cases h) (V := .slice (some ⟨w.heap.size, 0, none⟩) n n) (s := i'.size) (obj := .arr e i'.size es false)
    (fun b hb => by simp [blockOf] at hb; exact .inl (by omega)) (fun he => .arr cs'.toList (if_pos rfl) (by
        have hβ : (addId g1 (newId d m1) (.slice (some ⟨w.heap.size, 0, none⟩) n n) i'.size).β (newId d m1) = .slice (some ⟨w.heap.size, 0, none⟩) n n := if_pos rfl
        rw [hβ, hn]; exact hown) (fun k x hx => by
        have hkn : k < n := by rw [← hn]; exact (List.getElem?_eq_some_iff.1 hx).1
        exact (p1 k _ x (List.getElem?_eq_getElem (by omega : k < ps.toList.length)) hx).1) (fun k x hx j c hj => by
        have hkn : k < n := by rw [← hn]; exact (List.getElem?_eq_some_iff.1 hx).1
        have hp := List.getElem?_eq_getElem (by omega : k < ps.toList.length)
        obtain ⟨r1, r2⟩ := p1 k _ x hp hx
        have hjs : j < i'.size := by rw [← r1]; exact (List.getElem?_eq_some_iff.1 hj).1
        obtain ⟨_, s2, _⟩ := q1 k _ hp
        have h4 := f4 k _ (by rw [List.getElem?_map, hp]; rfl) j hjs
        rw [Nat.zero_add] at h4
        refine ⟨(a.eval ps.toList[k].2).cells[j]'(by rw [s2]; exact hjs), ?_, (r2 j c _ hj (by simp)).ext he.F he.cell⟩
        have h5 : cs'.toList[k * i'.size + j]? = cs'[k * i'.size + j]? := by simp
        rw [h5, h4]
        simp) hone (fun b o hb hF => by
        have hβ : (addId g1 (newId d m1) (.slice (some ⟨w.heap.size, 0, none⟩) n n) i'.size).β (newId d m1) = .slice (some ⟨w.heap.size, 0, none⟩) n n := if_pos rfl
        rw [hβ] at hb
        simp [blockOf] at hb
        have := I1.flt b o hF
        omega))
  refine ⟨.slice (some ⟨w.heap.size, 0, none⟩) n n, _, _, ?_, e1.trans this.1, .c ?_, this.2⟩
  · have h24 : ¬ (16777216 < n * i'.size) := by omega
    simp only [Instr.buildSlice, Sem.run_bind, run_underlying hd, Result.andThen_ok, run_sizeOf hi']
    rw [show (2 : Nat) ^ 24 = 16777216 from rfl]
    rw [Sem.run_ite, if_neg (by omega)]
    by_cases hn0 : n * i'.size = 0
    · rw [Sem.run_ite, if_pos hn0]
      have hn00 : n = 0 := by
        rcases Nat.mul_eq_zero.1 hn0 with h | h
        · exact h
        · exact absurd (.inl h) h0
      have hpn : ps.toList = [] := List.eq_nil_of_length_eq_zero (by omega)
      have hce : cs' = #[] := Array.eq_empty_of_size_eq_zero (by omega)
      subst hn00
      subst hce
      have hr0 : (Array.map (fun _ => (default : Value)) (Array.range 0)) = #[] := by rw [Array.range_zero', Array.map_empty]
      simp [hpn, newRow, Instr.fill, hr0]
    · rw [Sem.run_ite, if_neg hn0]
      simp [zeroValue, typeInfo, hi', hz', f1, newRow]
  · have := RepC.view (g := addId g1 (newId d m1) (.slice (some ⟨w.heap.size, 0, none⟩) n n) i'.size) (w := w.alloc (.cells cs' e)) (o := newId d m1) (lo := 0) (n := n) (len := n) (cap := n) (a := some ⟨w.heap.size, 0, none⟩) (a' := some ⟨w.heap.size, 0, none⟩) (.inl rfl) (if_pos rfl) (by omega)
      (fun _ => by simp [Addr.add]) (fun ad h => by simp at h; subst h; rfl)
    simpa using this

end
end Go.Abs
