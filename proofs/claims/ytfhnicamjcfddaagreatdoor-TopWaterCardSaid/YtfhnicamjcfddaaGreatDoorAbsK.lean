/- The abstract evaluator is right: builtins, and all operations at once. -/
import Derived.Test.YtfhnicamjcfddaaGreatDoorAbsJc
import Derived.Lib.AppendZerosOnto
namespace Go.Abs
open Go.RowKit

section
variable {P : Program} {B : Base} {g g' : G} {m m' : Mem} {w w' : World}

theorem le_maxLen_of_bytes {n bytes : Nat} (hb : bytes ≠ 0) (h : n * bytes ≤ 140737488355328) : n ≤ maxLen := by
  have : n ≤ n * bytes := Nat.le_mul_of_pos_right n (by omega)
  simp only [maxLen]; omega

/-- append onto a row of one's own: in its place, or in a new block while all old ones stay. -/
theorem run_append_two {t e : TypeId} {i : TypeInfo} {z : Value} (ht : P.underlying t = some (.slice e)) (hi : P.info? e = some i) (hz : i.zero = some z) (hzs : z.cells.size = i.size) (ty : TypeId)
    {v : Value} {n : Nat} {xs : List Value} (hown : w.ownsRow 0 e i.size v n xs) (ad : Addr) (k c : Nat) (news : List Value) (hl : news.length = k * i.size) (hnews : ∀ (j : Nat) u, news[j]? = some u → w.cell? (ad.add j) = some u) (h1 : ∀ u ∈ news, u.oneCell' = true)
    (h63 : n + k ≤ maxLen) (hbytes : (n + k) * i.bytes ≤ 140737488355328) :
    ∃ v' w', (Builtin.append_ #[t, t] ty #[v, .slice (some ad) k c]).run P w = .ok v' w' ∧ w'.ownsRow 0 e i.size v' (n + k) (xs ++ news) ∧
      ((v'.ownBlock = v.ownBlock ∧ w.grownBy w' v.ownBlock) ∨ (v'.ownBlock = some w.heap.size ∧ w.grownBy w' none)) := by
  have hlen : (xs ++ news).length = (n + k) * i.size := by rw [List.length_append, hown.1, hl, Nat.add_mul]
  rcases hown.2 with ⟨rfl, rfl⟩ | ⟨gb, cap, cur, rfl, _, hh, hnc, hcm, hcs, htk⟩
  · have hx : xs = [] := List.eq_nil_of_length_eq_zero (by simpa using hown.1)
    subst hx
    by_cases hk : k = 0
    · subst hk
      have hn : news = [] := List.eq_nil_of_length_eq_zero (by simpa using hl)
      subst hn
      refine ⟨.slice none 0 0, w, ?_, World.ownsRow_nil w 0 e i.size, .inl ⟨rfl, grownBy_refl _ _⟩⟩
      simp [Builtin.append_, run_underlying ht, sizeOf, typeInfo, hi, Builtin.lenOf, Builtin.firstCells, loadCells, loadCellsFrom]
    · obtain ⟨v', w', r1, r2, r3, r4⟩ := run_append_full (w := w) ht hi hz hzs ty none 0 [] (by simp) (.inl rfl) (fun _ => rfl) ad k c news hl hnews (by omega) h63 hbytes
      exact ⟨v', w', r1, r2, .inr ⟨r4, r3⟩⟩
  · have hcells := hown.cells (g := gb) rfl
    by_cases hroom : n + k ≤ cap
    · have hfit : n * i.size + news.length ≤ cur.size := by rw [hl, hcs, ← Nat.add_mul]; exact Nat.mul_le_mul_right _ hroom
      have hr := run_append_room (P := P) w t ty e i ht hi gb n cap cur hh ad k c news hl hnews h1 hroom hfit
      refine ⟨_, _, hr, ⟨hlen, .inr ⟨gb, cap, _, rfl, Nat.zero_le _, setRow_heap w gb cur _ e _ hh, hroom, hcm, ?_, ?_⟩⟩, .inl ⟨rfl, setRow_grown w gb _⟩⟩
      · simp only [List.size_toArray, List.length_append, List.length_take, List.length_drop, Array.length_toList]
        omega
      · rw [htk, ← hlen]
        exact List.take_left
    · have hr := run_append_grow (P := P) w t ty e i z ht hi hz ⟨gb, 0, none⟩ n cap xs hown.1 hcells ad k c news hl hnews (by omega) (by simp only [maxLen] at h63; omega) (growslice_fits (by omega) hbytes)
      have hge := grownCap_ge w (n + k) cap e
      have hcm : grownCap w (n + k) cap e ≤ maxLen := grownCap_le_maxLen w (n + k) cap e h63
      refine ⟨_, _, hr, ⟨hlen, .inr ⟨w.heap.size, _, _, rfl, Nat.zero_le _, heap_alloc_new w.drew _, hge, hcm, ?_, ?_⟩⟩, .inr ⟨rfl, ⟨rfl, rfl, rfl, by simp, fun k hk _ => heap_alloc_old w.drew _ k hk⟩⟩⟩
      · simp only [Array.size_append, List.size_toArray, size_zeroCells, hzs, hown.1, hl, ← Nat.add_mul]
        congr 1
        omega
      · simp only [Array.toList_append, List.append_assoc]
        rw [← List.append_assoc, ← hlen]
        exact List.take_left

/-- append of new zeros onto a row of one's own. -/
theorem run_append_zeros {t tn e : TypeId} {i : TypeInfo} {z : Value} {kn : IntKind} (ht : P.underlying t = some (.slice e)) (htn : P.underlying tn = some (.int kn)) (hi : P.info? e = some i) (hz : i.zero = some z) (hzs : z.cells.size = i.size) (hs : i.size ≠ 0) (ty : TypeId)
    {v : Value} {n : Nat} {xs : List Value} (hown : w.ownsRow 0 e i.size v n xs) (k : Nat) (kq : IntKind) (h1 : ∀ u ∈ (Builtin.zeroCells z.cells k).toList, u.oneCell' = true)
    (h63 : n + k ≤ maxLen) (hbytes : (n + k) * i.bytes ≤ 140737488355328) :
    ∃ v' w', (Builtin.append_ #[t, tn] ty #[v, .int kq k]).run P w = .ok v' w' ∧ w'.ownsRow 0 e i.size v' (n + k) (xs ++ (Builtin.zeroCells z.cells k).toList) ∧
      ((v'.ownBlock = v.ownBlock ∧ w.grownBy w' v.ownBlock) ∨ (v'.ownBlock = some w.heap.size ∧ w.grownBy w' none)) := by
  have hl : (Builtin.zeroCells z.cells k).toList.length = k * i.size := by rw [Array.length_toList, size_zeroCells, hzs]
  have hlen : (xs ++ (Builtin.zeroCells z.cells k).toList).length = (n + k) * i.size := by rw [List.length_append, hown.1, hl, Nat.add_mul]
  have hkb : k * i.bytes ≤ 140737488355328 := Nat.le_trans (Nat.mul_le_mul_right _ (by omega)) hbytes
  have hsmall : n + k ≤ 9223372036854775807 := by simp only [maxLen] at h63; omega
  have hw : IntKind.i64.wrap (k : Int) = k := by rw [IntKind.wrap_i64]; omega
  have hw0 : IntKind.i64.wrap 0 = 0 := by rw [IntKind.wrap_i64]; omega
  have hneg : ¬ ((k : Int) < 0) := by omega
  have h48i : ¬ (281474976710656 < (k : Int) * (i.bytes : Int)) := by
    rw [← Int.natCast_mul]
    omega
  have hz0 : k = 0 → Builtin.zeroCells z.cells k = #[] := fun h => by subst h; simp [Builtin.zeroCells]
  rcases hown.2 with ⟨rfl, rfl⟩ | ⟨gb, cap, cur, rfl, _, hh, hnc, hcm, hcs, htk⟩
  · have hx : xs = [] := List.eq_nil_of_length_eq_zero (by simpa using hown.1)
    subst hx
    by_cases hk : k = 0
    · rw [hz0 hk]
      subst hk
      refine ⟨.slice none 0 0, w, ?_, World.ownsRow_nil w 0 e i.size, .inl ⟨rfl, grownBy_refl _ _⟩⟩
      simp [Builtin.append_, run_underlying ht, run_underlying htn, sizeOf, typeInfo, zeroValue, hi, hz, asInt, asIntOf, hw0]
    · have hr := Lib.run_append_nil_zeros (P := P) w t tn ty e i z kq kn ht htn hi hz k (by omega) (by omega) (by omega) (by omega)
      have hge := grownCap_ge w k 0 e
      have hcm : grownCap w k 0 e ≤ maxLen := grownCap_le_maxLen w k 0 e (by omega)
      refine ⟨_, _, hr, ⟨hlen, .inr ⟨w.heap.size, _, _, by rw [Nat.zero_add], Nat.zero_le _, heap_alloc_new w.drew _, by omega, hcm, ?_, ?_⟩⟩, .inr ⟨rfl, ⟨rfl, rfl, rfl, by simp, fun k hk _ => heap_alloc_old w.drew _ k hk⟩⟩⟩
      · simp only [Array.size_append, size_zeroCells, hzs, ← Nat.add_mul]
        congr 1
        omega
      · simp only [Array.toList_append, List.nil_append]
        rw [Nat.zero_add, ← hl]
        exact List.take_left
  · have hcells := hown.cells (g := gb) rfl
    by_cases hroom : n + k ≤ cap
    · have hfit : n * i.size + (Builtin.zeroCells z.cells k).toList.length ≤ cur.size := by rw [hl, hcs, ← Nat.add_mul]; exact Nat.mul_le_mul_right _ hroom
      have hst := run_storeCells_at P gb (n * i.size) e (Builtin.zeroCells z.cells k).toList 0 cur w hh (by simpa using hfit) h1
      simp only [Nat.add_zero] at hst
      have hr : (Builtin.append_ #[t, tn] ty #[.slice (some ⟨gb, 0, none⟩) n cap, .int kq k]).run P w = .ok (.slice (some ⟨gb, 0, none⟩) (n + k) cap) (w.setRow gb (cur.toList.take (n * i.size) ++ (Builtin.zeroCells z.cells k).toList ++ cur.toList.drop (n * i.size + (Builtin.zeroCells z.cells k).toList.length)).toArray) := by
        by_cases hk : k = 0
        · rw [hz0 hk] at hst ⊢
          subst hk
          simp [Builtin.append_, run_underlying ht, run_underlying htn, sizeOf, typeInfo, zeroValue, hi, hz, asInt, asIntOf, hw0, hroom, Addr.add_lit] at hst ⊢
          rw [hst, if_pos hnc]; rfl
        · have hns : ¬ (k * i.size = 0) := Nat.mul_ne_zero hk hs
          simp [Builtin.append_, run_underlying ht, run_underlying htn, sizeOf, typeInfo, zeroValue, hi, hz, asInt, asIntOf, hw, hneg, hns, h48i, hroom, Addr.add_lit, hst]
      refine ⟨_, _, hr, ⟨hlen, .inr ⟨gb, cap, _, rfl, Nat.zero_le _, setRow_heap w gb cur _ e _ hh, hroom, hcm, ?_, ?_⟩⟩, .inl ⟨rfl, setRow_grown w gb _⟩⟩
      · simp only [List.size_toArray, List.length_append, List.length_take, List.length_drop, Array.length_toList] at hfit ⊢
        omega
      · rw [htk, ← hlen]
        exact List.take_left
    · have hold := run_firstCells_some (P := P) w.drew i.size n ⟨gb, 0, none⟩ n cap xs hown.1 (by simpa using hcells)
      have hr := Lib.run_append_grow_zeros (P := P) w t tn ty e i z kq kn ht htn hi hz (some ⟨gb, 0, none⟩) n cap xs hold k (by omega) (by omega) (by omega) (by omega) (by omega) (growslice_fits (by omega) hbytes)
      have hge := grownCap_ge w (n + k) cap e
      have hcm : grownCap w (n + k) cap e ≤ maxLen := grownCap_le_maxLen w (n + k) cap e h63
      refine ⟨_, _, hr, ⟨hlen, .inr ⟨w.heap.size, _, _, rfl, Nat.zero_le _, heap_alloc_new w.drew _, hge, hcm, ?_, ?_⟩⟩, .inr ⟨rfl, ⟨rfl, rfl, rfl, by simp, fun k hk _ => heap_alloc_old w.drew _ k hk⟩⟩⟩
      · simp only [Array.size_append, List.size_toArray, size_zeroCells, hzs, hown.1, ← Nat.add_mul]
        congr 1
        omega
      · simp only [Array.toList_append, List.append_assoc]
        rw [← List.append_assoc, ← hlen]
        exact List.take_left

/-- The array behind an append onto an array of one's own. -/
theorem append_tail (hI : Inv B g m w) (d : Nat) (hfd : memU d m.us = false) {e : TypeId} {size : Nat}
    {m1 : Mem} (hsub : ∀ i o, mget m1.o i = some o → mget m.o i = some o) (hnx : m1.nx = m.nx ∧ m1.us = m.us)
    {v : Value} {es es2 : List (List Cell)} {xs news : List Value} {fr : Bool} (hown : w.ownsRow 0 e size v es.length xs) (hrow : ∀ b, blockOf v = some b → (∀ j o, mget m1.o j = some o → blockOf (g.β j) ≠ some b) ∧ (B.w0.heap.size ≤ b ∨ B.X b))
    (hs1 : ∀ (k : Nat) x, es[k]? = some x → x.length = size) (hr1 : ∀ (k : Nat) x, es[k]? = some x → ∀ (j : Nat) c, x[j]? = some c → ∃ u, xs[k * size + j]? = some u ∧ RepP g.F w c u) (h1 : ∀ u ∈ xs, u.oneCell' = true)
    (hf : ∀ b o, blockOf v = some b → g.F b o → fr = true ∧ o < es.length * size)
    (hs2 : ∀ (k : Nat) x, es2[k]? = some x → x.length = size) (hnr : ∀ (k : Nat) x, es2[k]? = some x → ∀ (j : Nat) c, x[j]? = some c → ∃ u, news[k * size + j]? = some u ∧ RepP g.F w c u) (hn1 : ∀ u ∈ news, u.oneCell' = true)
    {v' : Value} {w' : World} (r2 : w'.ownsRow 0 e size v' (es.length + es2.length) (xs ++ news)) (r3 : (v'.ownBlock = v.ownBlock ∧ w.grownBy w' v.ownBlock) ∨ (v'.ownBlock = some w.heap.size ∧ w.grownBy w' none)) :
    ∃ g', Ext g w g' w' ∧ RepA g' w' (.c (.view (newId d m) 0 (es.length + es2.length))) v' ∧ Inv B g' (addObj d m1 (.arr e size (es ++ es2) fr)) w' := by
  have hvb : v.ownBlock = blockOf v := owns_block hown
  have hvb' : v'.ownBlock = blockOf v' := owns_block r2
  have hxl : xs.length = es.length * size := hown.1
  obtain ⟨row, hg, hrw, hV⟩ : ∃ row, w.grownBy w' row ∧ (∀ b, row = some b → blockOf v = some b ∧ blockOf v' = some b) ∧ (∀ b, blockOf v' = some b → w.heap.size ≤ b ∨ row = some b) := by
    rcases r3 with ⟨e1, e2⟩ | ⟨e1, e2⟩
    · exact ⟨v.ownBlock, e2, fun b hb => ⟨hvb ▸ hb, by rw [← hvb', e1]; exact hb⟩, fun b hb => .inr (by rw [← e1, hvb']; exact hb)⟩
    · exact ⟨none, e2, fun b hb => (by cases hb), fun b hb => .inl (by rw [← hvb', e1] at hb; simp at hb; omega)⟩
  have := inv_add hI d hsub hnx hfd hg (fun b hb => by
      obtain ⟨hb1, hb2⟩ := hrw b hb
      obtain ⟨q1, q2⟩ := hrow b hb1
      refine ⟨q1, q2, fun o hF => ?_⟩
      have hlt := (hf b o hb1 hF).2
      have e1 := hown.cells (g := b) (by rw [hvb]; exact hb1) o _ (List.getElem?_eq_getElem (by omega))
      have e2 := r2.cells (g := b) (by rw [hvb']; exact hb2) o (xs[o]'(by omega)) (by rw [List.getElem?_append, if_pos (by omega)]; exact List.getElem?_eq_getElem _)
      rw [Addr.add_lit, Nat.zero_add] at e1 e2
      rw [e1, e2]) (V := v') (s := size) (obj := .arr e size (es ++ es2) fr) hV (fun he => by
      have hβ : (addId g (newId d m) v' size).β (newId d m) = v' := if_pos rfl
      refine arr_append (if_pos rfl) (by rw [hβ]; exact r2) hxl hs1 hs2 (fun k x hx j c hj => ?_) (fun k x hx j c hj => ?_) h1 hn1 (fun b o hb hF => ?_)
      · obtain ⟨u, hu, hc⟩ := hr1 k x hx j c hj
        exact ⟨u, hu, hc.ext he.F he.cell⟩
      · obtain ⟨u, hu, hc⟩ := hnr k x hx j c hj
        exact ⟨u, hu, hc.ext he.F he.cell⟩
      · rw [hβ] at hb
        rcases hV b hb with h | h
        · exact absurd (hI.flt b o hF) (by omega)
        · obtain ⟨q1, q2⟩ := hf b o (hrw b h).1 hF
          refine ⟨q1, Nat.lt_of_lt_of_le q2 (Nat.mul_le_mul_right _ (by omega))⟩)
  exact ⟨_, this.1, .c (owns_view r2 (.inl rfl) (if_pos rfl)), this.2⟩


/-- append onto an array of one's own. -/
theorem append_core (hI : Inv B g m w) (d : Nat) (hfd : memU d m.us = false) {t e : TypeId} {i : TypeInfo} {z : Value} (ht : P.underlying t = some (.slice e)) (hi : P.info? e = some i) (hz : i.zero = some z) (hzs : z.cells.size = i.size) (hby : i.bytes ≠ 0) (ty : TypeId)
    {m1 : Mem} (hsub : ∀ i o, mget m1.o i = some o → mget m.o i = some o) (hnx : m1.nx = m.nx ∧ m1.us = m.us)
    {v : Value} {es es2 : List (List Cell)} {xs : List Value} {fr : Bool} (hown : w.ownsRow 0 e i.size v es.length xs) (hrow : ∀ b, blockOf v = some b → (∀ j o, mget m1.o j = some o → blockOf (g.β j) ≠ some b) ∧ (B.w0.heap.size ≤ b ∨ B.X b))
    (hs1 : ∀ (k : Nat) x, es[k]? = some x → x.length = i.size) (hr1 : ∀ (k : Nat) x, es[k]? = some x → ∀ (j : Nat) c, x[j]? = some c → ∃ u, xs[k * i.size + j]? = some u ∧ RepP g.F w c u) (h1 : ∀ u ∈ xs, u.oneCell' = true)
    (hf : ∀ b o, blockOf v = some b → g.F b o → fr = true ∧ o < es.length * i.size)
    {c : Cell} {xv : Value} (hc : RepC g w c xv) (hel : elems m c = some es2) (hs2 : es2.all (fun e => e.length == i.size) = true) (hbytes : (es.length + es2.length) * i.bytes ≤ 140737488355328) :
    ∃ v' w' g', (Builtin.append_ #[t, t] ty #[v, xv]).run P w = .ok v' w' ∧ Ext g w g' w' ∧ RepA g' w' (.c (.view (newId d m) 0 (es.length + es2.length))) v' ∧ Inv B g' (addObj d m1 (.arr e i.size (es ++ es2) fr)) w' := by
  obtain ⟨a, cap, news, rfl, hnl, hna, hnn, hnr, hn1⟩ := elems_ok hI hc hel hs2
  have hrun : ∃ v' w', (Builtin.append_ #[t, t] ty #[v, .slice a es2.length cap]).run P w = .ok v' w' ∧ w'.ownsRow 0 e i.size v' (es.length + es2.length) (xs ++ news) ∧
      ((v'.ownBlock = v.ownBlock ∧ w.grownBy w' v.ownBlock) ∨ (v'.ownBlock = some w.heap.size ∧ w.grownBy w' none)) := by
    cases a with
    | none =>
      have hnil := hnn rfl
      simp at hnil
      obtain ⟨he2, rfl⟩ := hnil
      subst he2
      have hn0 : news = [] := List.eq_nil_of_length_eq_zero (by simpa using hnl)
      subst hn0
      refine ⟨v, w, ?_, by simpa using hown, .inl ⟨rfl, grownBy_refl _ _⟩⟩
      exact run_append_owned_none (w := w) 0 t ty e i i.size ht hi v es.length xs hown
    | some ad =>
      have hcell : ∀ (j : Nat) u, news[j]? = some u → w.cell? (ad.add j) = some u := by
        rcases hna with h | ⟨ad', h, h'⟩
        · have : news = [] := List.eq_nil_of_length_eq_zero (by rw [hnl, h]; simp)
          subst this
          intro j u hu; simp at hu
        · simp at h; subst h; exact h'
      exact run_append_two ht hi hz hzs ty hown ad es2.length cap news hnl hcell hn1 (le_maxLen_of_bytes hby hbytes) hbytes
  obtain ⟨v', w', r1, r2, r3⟩ := hrun
  obtain ⟨g', q⟩ := append_tail hI d hfd hsub hnx hown hrow hs1 hr1 h1 hf (all_len hs2) hnr hn1 r2 r3
  exact ⟨v', w', g', r1, q⟩

theorem list1 {α : Type} {a : Array α} {x : α} (h : a.toList = [x]) : a = #[x] := by cases a; simp_all
theorem list2 {α : Type} {a : Array α} {x y : α} (h : a.toList = [x, y]) : a = #[x, y] := by cases a; simp_all

theorem zero_size {t : TypeId} {ti : TI} (h : tiOf P t = some ti) (hz : ti.zero.length = ti.size) : ∃ i z, P.info? t = some i ∧ i.zero = some z ∧ z.cells.size = i.size ∧ ti.size = i.size ∧ ti.bytes = i.bytes := by
  obtain ⟨i, d, z, hi, hd, hz', rfl⟩ := tiOf_spec h
  exact ⟨i, z, hi, hz', by simpa using hz, rfl, rfl⟩

theorem zeroCells_made (z : Array Value) (k : Nat) : Builtin.zeroCells z k = madeCells z (k * z.size) := rfl

theorem appZ_ok (hI : Inv B g m w) {t t' : TypeId} {d : Nat} (hfd : memU d m.us = false) {s y : Cell} {v v' : Value} {x : AV} (ty : TypeId) (cs : Array Bool)
    (h0 : RepA g w (.c s) v) (h1 : RepA g w (.c y) v') (h : appZF P t t' d m s y = some (x, m')) :
    ∃ v2 w' g', (builtin .append #[t, t'] ty cs [v, v'].toArray).run P w = .ok (.value v2) w' ∧ Ext g w g' w' ∧ RepA g' w' x v2 ∧ Inv B g' m' w' := by
  unfold appZF at h
  split at h
  case h_2 => cases h
  rename_i o lo n kq k _ _ _ _ e _ _ _ _ _ kn _ hti hti'
  split at h
  case h_2 => cases h
  rename_i te e' sz es fr hte hm
  split at h
  case h_2 => cases h
  rename_i z hz0
  split at h
  case isFalse => cases h
  rename_i hc
  obtain ⟨rfl, rfl, rfl, rfl, hs0, hb0, hzl, hk0, hbytes⟩ := hc
  simp at h
  obtain ⟨rfl, rfl⟩ := h
  obtain ⟨i, dd, zv, hi, hd, hz, he⟩ := tiOf_spec hti
  simp only [TI.mk.injEq] at he
  obtain ⟨_, _, _, _, hds, _⟩ := he
  obtain rfl := descOf_slice hds.symm
  obtain ⟨i2, dd2, zv2, hi2, hd2, hz2, he2⟩ := tiOf_spec hti'
  simp only [TI.mk.injEq] at he2
  obtain ⟨_, _, _, _, hds2, _⟩ := he2
  obtain rfl := descOf_int hds2.symm
  obtain ⟨i', dd', zv', hi', hd'', hz', rfl⟩ := tiOf_spec hte
  simp only at hz0 hzl hs0 hb0 hbytes hm ⊢
  obtain ⟨hcs, hsc⟩ := constCells_spec hz0
  have hzs : zv'.cells.size = i'.size := by simpa using hzl
  have hzlen : z.length = i'.size := by rw [hcs, List.length_map]; exact hzl
  obtain ⟨kk, rfl⟩ : ∃ kk : Nat, k = kk := ⟨k.toNat, by omega⟩
  simp only [Int.toNat_natCast] at hbytes ⊢
  obtain ⟨hv', _⟩ := isSc h1
  subst hv'
  have hone : ∀ u ∈ (Builtin.zeroCells zv'.cells kk).toList, u.oneCell' = true := fun u hu => by
    obtain ⟨j, hj, rfl⟩ := List.getElem_of_mem hu
    have hj' : j < kk * zv'.cells.size := by simpa [size_zeroCells] using hj
    have h1 := madeCells_get zv'.cells (kk * zv'.cells.size) j hj' (by omega)
    rw [← zeroCells_made, List.getElem?_eq_getElem hj] at h1
    have hm : (Builtin.zeroCells zv'.cells kk).toList[j] ∈ zv'.cells.toList := by
      have := Array.mem_of_getElem? h1.symm
      simpa using this
    have := hsc _ hm
    generalize (Builtin.zeroCells zv'.cells kk).toList[j] = u at *
    cases u <;> simp_all [scalar, Value.oneCell']
  have hget : ∀ k j, k < kk → j < i'.size → ∃ u, (Builtin.zeroCells zv'.cells kk).toList[k * i'.size + j]? = some u ∧ zv'.cells.toList[j]? = some u := fun k j hk hj => by
    have hlt : k * i'.size + j < kk * zv'.cells.size := by
      have : (k + 1) * i'.size ≤ kk * i'.size := Nat.mul_le_mul_right _ hk
      rw [Nat.add_mul, Nat.one_mul] at this
      rw [hzs]
      omega
    have h1 := madeCells_get zv'.cells (kk * zv'.cells.size) (k * i'.size + j) hlt (by omega)
    rw [← zeroCells_made, hzs, Nat.mul_add_mod_self_right, Nat.mod_eq_of_lt hj] at h1
    exact ⟨zv'.cells[j]'(by omega), by rw [h1]; exact Array.getElem?_eq_getElem _, by simp [show j < zv'.cells.size by omega]⟩
  obtain ⟨hko, ho⟩ := hI.ok o _ hm
  cases ho with
  | arr us hz'' ho' hs' hr' h1' hf' =>
  cases h0 with
  | c h0 => cases h0 with
    | pure h0 => cases h0
    | view hk hv hle ha hsp =>
      rename_i len cap a a'
      have hva : Value.slice a' es.length (cap - 0) = g.β o := by
        have haa := ha (.inr rfl)
        rw [Nat.zero_mul] at haa
        have hid : a.map (fun x => x.add 0) = a := by cases a <;> simp [Addr.add]
        rw [hid] at haa
        subst haa
        rcases ho'.2 with ⟨hnil, hz0⟩ | ⟨gb, cap', cur, hb', _, _, hnc, _⟩
        · rw [hv] at hnil ⊢; simp at hnil
          obtain ⟨rfl, rfl, rfl⟩ := hnil
          simp [hz0]
        · rw [hv] at hb' ⊢; simp at hb'; obtain ⟨rfl, rfl, rfl⟩ := hb'
          simp
      rw [hva]
      obtain ⟨v2, w2, r1, r2, r3⟩ := run_append_zeros (w := w) hd hd2 hi' hz' hzs hs0 ty ho' kk kq hone (le_maxLen_of_bytes hb0 hbytes) hbytes
      have hlr : es.length + kk = es.length + (List.replicate kk z).length := by rw [List.length_replicate]
      rw [hlr] at r2 ⊢
      obtain ⟨g2, q1, q2, q3⟩ := append_tail hI d hfd (m1 := { m with o := mdel m.o o }) (fun j oj hj => by
          rw [mget_mdel] at hj
          split at hj
          · cases hj
          · exact hj) ⟨rfl, rfl⟩ ho' (fun b hb => ⟨fun j oj hj hb2 => by
          rw [mget_mdel] at hj
          split at hj
          · cases hj
          · rename_i hne
            exact hI.apart j o oj _ b hj hm hne hb2 hb, hI.own o _ b hm hb⟩) hs' hr' h1' hf'
          (fun k x hx => by rw [List.eq_of_mem_replicate (List.mem_of_getElem? hx)]; exact hzlen) (fun k x hx j c hj => by
            have hkn : k < kk := by rw [← List.length_replicate (n := kk) (a := z)]; exact (List.getElem?_eq_some_iff.1 hx).1
            rw [List.eq_of_mem_replicate (List.mem_of_getElem? hx)] at hj
            have hjs : j < i'.size := by rw [← hzlen]; exact (List.getElem?_eq_some_iff.1 hj).1
            obtain ⟨u, h1, h2⟩ := hget k j hkn hjs
            refine ⟨u, h1, ?_⟩
            rw [hcs, List.getElem?_map, h2] at hj
            simp at hj
            subst hj
            exact .sc (hsc u (List.mem_of_getElem? h2))) hone r2 r3
      exact ⟨v2, w2, g2, by simp [builtin, r1], q1, q2, q3⟩

theorem callB_ok (hI : Inv B g m w) {b : Builtin} {argTypes : Array TypeId} {d : Nat} (hfd : memU d m.us = false) {args : List AV} {vals : List Value} {x : AV} (ty : TypeId) (cs : Array Bool)
    (hl : args.length = vals.length) (hr : ∀ (j : Nat) a v, args[j]? = some a → vals[j]? = some v → RepA g w a v) (h : callB P b argTypes.toList d m args = some (x, m')) :
    ∃ v w' g', (builtin b argTypes ty cs vals.toArray).run P w = .ok (.value v) w' ∧ Ext g w g' w' ∧ RepA g' w' x v ∧ Inv B g' m' w' := by
  unfold callB at h
  split at h
  · rename_i t y hat
    match vals, hl with
    | [v], _ =>
    have hy := hr 0 _ v rfl rfl
    split at h
    · rename_i e _ hti
      split at h
      · rename_i n hn
        simp at h
        obtain ⟨rfl, rfl⟩ := h
        obtain ⟨i, dd, z, hi, hd, hz, he⟩ := tiOf_spec hti
        simp only [TI.mk.injEq] at he
        obtain ⟨_, _, _, _, hds, _⟩ := he
        obtain rfl := descOf_slice hds.symm
        cases hy with
        | c hy =>
          obtain ⟨a, cap, rfl, _⟩ := lenC_ok hy hn
          refine ⟨_, w, g, ?_, .refl g w, .c (repC_sc rfl), hI⟩
          rw [list1 hat]
          simp [builtin, Builtin.len_, run_underlying hd, goInt]
      · cases h
    · rename_i hti
      split at h
      · rename_i b
        simp at h
        obtain ⟨rfl, rfl⟩ := h
        obtain ⟨i, dd, z, hi, hd, hz, he⟩ := tiOf_spec hti
        simp only [TI.mk.injEq] at he
        obtain ⟨_, _, _, _, hds, _⟩ := he
        obtain rfl := descOf_str hds.symm
        obtain ⟨rfl, _⟩ := isSc hy
        refine ⟨_, w, g, ?_, .refl g w, .c (repC_sc rfl), hI⟩
        rw [list1 hat]
        simp [builtin, Builtin.len_, run_underlying hd, goInt]
      · cases h
    · cases h
  · rename_i k a k' b'
    match vals, hl with
    | [v, v'], _ =>
    have h0 := hr 0 _ v rfl rfl
    have h1 := hr 1 _ v' rfl rfl
    obtain rfl := isInt h0
    obtain rfl := isInt h1
    simp at h
    obtain ⟨rfl, rfl⟩ := h
    exact ⟨_, w, g, by simp [builtin, Builtin.min_, Builtin.min2], .refl g w, .c (repC_sc rfl), hI⟩
  · rename_i k a k' b' k'' c'
    match vals, hl with
    | [v, v', v''], _ =>
    have h0 := hr 0 _ v rfl rfl
    have h1 := hr 1 _ v' rfl rfl
    have h2 := hr 2 _ v'' rfl rfl
    obtain rfl := isInt h0
    obtain rfl := isInt h1
    obtain rfl := isInt h2
    simp at h
    obtain ⟨rfl, rfl⟩ := h
    exact ⟨_, w, g, by simp [builtin, Builtin.min_, Builtin.min2], .refl g w, .c (repC_sc rfl), hI⟩
  · rename_i k a k' b'
    match vals, hl with
    | [v, v'], _ =>
    have h0 := hr 0 _ v rfl rfl
    have h1 := hr 1 _ v' rfl rfl
    obtain rfl := isInt h0
    obtain rfl := isInt h1
    simp at h
    obtain ⟨rfl, rfl⟩ := h
    exact ⟨_, w, g, by simp [builtin, Builtin.max_, Builtin.max2], .refl g w, .c (repC_sc rfl), hI⟩
  · rename_i t t' s y hat
    match vals, hl with
    | [v, v'], _ =>
    have h0 := hr 0 _ v rfl rfl
    have h1 := hr 1 _ v' rfl rfl
    rw [list2 hat]
    split at h
    · rename_i htt
      subst htt
      split at h
      · rename_i e _ hti
        obtain ⟨i, dd, z, hi, hd, hz, he⟩ := tiOf_spec hti
        simp only [TI.mk.injEq] at he
        obtain ⟨_, _, _, _, hds, _⟩ := he
        obtain rfl := descOf_slice hds.symm
        split at h
        · rename_i te es2 hte hel
          split at h
          · cases h
          · rename_i hc
            simp only [not_or] at hc
            obtain ⟨hc1, hc2, hc3, hc4⟩ := hc
            obtain ⟨i', z', hi', hz', hzs, hs, hb⟩ := zero_size hte (by simpa using hc4)
            rw [hs] at hc1 h
            rw [hb] at hc2 h
            have hs2 : es2.all (fun e => e.length == i'.size) = true := by rw [← hs]; simpa using hc3
            cases h1 with
            | c h1 =>
            split at h
            · split at h
              · rename_i hbytes
                simp at h
                obtain ⟨rfl, rfl⟩ := h
                obtain ⟨hv, _⟩ := isSc h0
                subst hv
                have := append_core hI d hfd hd hi' hz' hzs hc2 ty (m1 := m) (fun _ _ h => h) ⟨rfl, rfl⟩ (es := []) (xs := []) (fr := false) (World.ownsRow_nil w 0 e i'.size) (fun b hb => by simp [blockOf] at hb) (fun k x h => by simp at h) (fun k x h => by simp at h) (fun u h => by simp at h)
                  (fun b o hb => by simp [blockOf] at hb) h1 hel hs2 (by simpa using hbytes)
                obtain ⟨v1, w1, g1, r1, r2, r3, r4⟩ := this
                refine ⟨v1, w1, g1, ?_, r2, by simpa using r3, by simpa using r4⟩
                simp [builtin, r1]
              · cases h
            · rename_i es _
              split at h
              · cases h
              · rename_i x2 r2
                split at h
                · rename_i hbytes
                  obtain ⟨hfull, hbytes⟩ := hbytes
                  simp at h
                  obtain ⟨rfl, rfl⟩ := h
                  cases h0 with
                  | c h0 => cases h0 with
                    | pure h0 => cases h0
                    | full h0 =>
                    rename_i a _
                    obtain ⟨a2, cap2, news, rfl, hnl, hna, hnn, hnr, hn1⟩ := elems_ok hI h1 hel hs2
                    cases a2 with
                    | none => have := hnn rfl; simp at this
                    | some ad =>
                    have hcell : ∀ (j : Nat) u, news[j]? = some u → w.cell? (ad.add j) = some u := by
                      rcases hna with h | ⟨ad', h, h'⟩
                      · cases h
                      · simp at h; subst h; exact h'
                    by_cases hes : es.all (fun e => e.length == i'.size) = true
                    · obtain ⟨xs, x1, x2', x3, x4⟩ := repP_row h0 (all_len hes)
                      have hbytes' : (es.length + (x2 :: r2).length) * i'.bytes ≤ 140737488355328 := by simpa using hbytes
                      obtain ⟨v1, w1, q1, q2, q3, q4⟩ := run_append_full (w := w) hd hi' hz' hzs ty a es.length xs x1 (by
                          rcases x2' with h | h
                          · exact .inl (by rw [h]; rfl)
                          · exact .inr h) (fun h => by subst h; cases h0; rfl) ad _ cap2 news hnl hcell (by simp) (le_maxLen_of_bytes hc2 hbytes') hbytes'
                      have hvb := owns_block q2
                      rw [q4] at hvb
                      have := inv_add (w' := w1) hI d (m1 := m) (fun _ _ h => h) ⟨rfl, rfl⟩ hfd (row := none) q3 (fun b h => by cases h) (V := v1) (s := i'.size) (obj := .arr e i'.size (es ++ x2 :: r2) false) (fun b hb => by rw [hb] at hvb; simp at hvb; exact .inl (by omega)) (fun he => by
                          have hβ : (addId g (newId d m) v1 i'.size).β (newId d m) = v1 := if_pos rfl
                          refine arr_append (if_pos rfl) (by rw [hβ]; exact q2) x1 (all_len hes) (all_len hs2) (fun k x hx j c hj => ?_) (fun k x hx j c hj => ?_) x4 hn1 (fun b o hb hF => ?_)
                          · obtain ⟨u, hu, hc⟩ := x3 k x hx j c hj
                            exact ⟨u, hu, hc.ext he.F he.cell⟩
                          · obtain ⟨u, hu, hc⟩ := hnr k x hx j c hj
                            exact ⟨u, hu, hc.ext he.F he.cell⟩
                          · rw [hβ] at hb
                            rw [hb] at hvb
                            simp at hvb
                            have := hI.flt b o hF
                            omega)
                      refine ⟨v1, w1, _, ?_, this.1, .c (owns_view q2 (.inl rfl) (if_pos rfl)), this.2⟩
                      simp only [builtin, Sem.run_bind]
                      have q1' : (Builtin.append_ #[t, t] ty [Value.slice a es.length es.length, Value.slice (some ad) (x2 :: r2).length cap2].toArray).run P w = .ok v1 w1 := q1
                      rw [q1']
                      rfl
                    · exact absurd hfull hes
                · cases h
            · rename_i o lo n _
              split at h
              · rename_i e' sz es fr hm
                split at h
                · rename_i hcond
                  obtain ⟨rfl, rfl, rfl, rfl, hbytes⟩ := hcond
                  simp at h
                  obtain ⟨rfl, rfl⟩ := h
                  obtain ⟨hko, ho⟩ := hI.ok o _ hm
                  cases ho with
                  | arr us hz'' ho' hs' hr' h1' hf' =>
                  cases h0 with
                  | c h0 => cases h0 with
                    | pure h0 => cases h0
                    | view hk hv hle ha hsp =>
                      rename_i len cap a a' _
                      have hva : Value.slice a' es.length (cap - 0) = g.β o := by
                        have haa := ha (.inr rfl)
                        rw [Nat.zero_mul] at haa
                        have hid : a.map (fun x => x.add 0) = a := by cases a <;> simp [Addr.add]
                        rw [hid] at haa
                        subst haa
                        rcases ho'.2 with ⟨hnil, hz0⟩ | ⟨gb, cap', cur, hb', _, _, hnc, _⟩
                        · rw [hv] at hnil ⊢; simp at hnil
                          obtain ⟨rfl, rfl, rfl⟩ := hnil
                          simp [hz0]
                        · rw [hv] at hb' ⊢; simp at hb'; obtain ⟨rfl, rfl, rfl⟩ := hb'
                          simp
                      rw [hva]
                      have := append_core hI d hfd hd hi' hz' hzs hc2 ty (m1 := { m with o := mdel m.o o }) (fun j oj hj => by
                          rw [mget_mdel] at hj
                          split at hj
                          · cases hj
                          · exact hj) ⟨rfl, rfl⟩ ho' (fun b hb => ⟨fun j oj hj hb2 => by
                          rw [mget_mdel] at hj
                          split at hj
                          · cases hj
                          · rename_i hne
                            exact hI.apart j o oj _ b hj hm hne hb2 hb, hI.own o _ b hm hb⟩) hs' hr' h1' hf' h1 hel hs2 hbytes
                      obtain ⟨v1, w1, g1, r1, r2, r3, r4⟩ := this
                      refine ⟨v1, w1, g1, ?_, r2, r3, r4⟩
                      simp [builtin, r1]
                · cases h
              · cases h
            · cases h
        · cases h
      · cases h
    · rename_i htt
      exact appZ_ok hI hfd ty cs h0 h1 h
  · rename_i t t' o lo n y hat
    match vals, hl with
    | [v, v'], _ =>
    have h0 := hr 0 _ v rfl rfl
    have h1 := hr 1 _ v' rfl rfl
    rw [list2 hat]
    split at h
    · rename_i e _ hti
      obtain ⟨i, dd, z, hi, hd, hz, he⟩ := tiOf_spec hti
      simp only [TI.mk.injEq] at he
      obtain ⟨_, _, _, _, hds, _⟩ := he
      obtain rfl := descOf_slice hds.symm
      split at h
      · rename_i te es2 e' sz es hte hel hm
        split at h
        · rename_i hcond
          obtain ⟨rfl, rfl, hfit, hs0, hs2⟩ := hcond
          simp at h
          obtain ⟨rfl, rfl⟩ := h
          obtain ⟨i', dd', z', hi', hd'', hz', rfl⟩ := tiOf_spec hte
          cases h1 with
          | c h1 =>
            obtain ⟨w1, g1, r1, r2, r3⟩ := copy_core (t2 := t') hI hd hi' ty h0 hm hfit h1 hel hs2 rfl
            refine ⟨_, w1, g1, ?_, r2, .c (repC_sc rfl), r3⟩
            simp only [builtin, Sem.run_bind]
            have r1' : (Builtin.copy_ #[t, t'] ty [v, v'].toArray).run P w = _ := r1
            rw [r1']
            rfl
        · cases h
      · cases h
    · cases h
  · cases h

end
end Go.Abs
