/- Proved here: what functions of the given program come to, and the plain laws of it; no condition but those in the theorems. -/
import Derived.Test.YtfhnicamjcfddaaGreatDoorAbsI
import Derived.Maps.AppendAt
/- The abstract evaluator is right: append and the other builtins; all operations. -/
namespace Go.Abs
open Go.RowKit

section
variable {P : Program} {B : Base} {g g' : G} {m m' : Mem} {w w' : World}

/-- The cells behind a slice, in a row. -/
theorem repP_row {F : Nat → Nat → Prop} {es : List (List Cell)} {a : Option Addr} {len cap s : Nat} (hr : RepP F w (.lst es) (.slice a len cap)) (hs : ∀ (k : Nat) x, es[k]? = some x → x.length = s) :
    ∃ news : List Value, news.length = es.length * s ∧ (es = [] ∨ ∃ ad, a = some ad ∧ ∀ (j : Nat) u, news[j]? = some u → w.cell? (ad.add j) = some u) ∧
      (∀ (k : Nat) x, es[k]? = some x → ∀ (j : Nat) c, x[j]? = some c → ∃ u, news[k * s + j]? = some u ∧ RepP F w c u) ∧ ∀ u ∈ news, u.oneCell' = true := by
  cases hr with
  | emp _ _ => exact ⟨[], by simp, .inl rfl, fun k x h => by simp at h, fun u h => by simp at h⟩
  | lst u hs' hc hr hl hcap =>
    rename_i b off sz
    by_cases he : es = []
    · subst he
      exact ⟨[], by simp, .inl rfl, fun k x h => by simp at h, fun u h => by simp at h⟩
    · have hsz : sz = s := by
        have hlt : 0 < es.length := List.length_pos_iff.2 he
        exact sz_of hs' (List.getElem?_eq_getElem hlt) (hs 0 _ (List.getElem?_eq_getElem hlt))
      subst hsz
      have hget : ∀ j, j < es.length * sz → ∃ x c, es[j / sz]? = some x ∧ x[j % sz]? = some c := fun j hj => by
        have hpos : 0 < sz := by
          rcases Nat.eq_zero_or_pos sz with h | h
          · subst h; simp at hj
          · exact h
        have hdiv : j / sz < es.length := (Nat.div_lt_iff_lt_mul hpos).2 hj
        refine ⟨es[j / sz], (es[j / sz])[j % sz]'(by rw [hs' _ _ (List.getElem?_eq_getElem hdiv)]; exact Nat.mod_lt _ hpos), List.getElem?_eq_getElem hdiv, List.getElem?_eq_getElem _⟩
      refine ⟨(List.range (es.length * sz)).map fun j => u (j / sz) (j % sz), by simp, .inr ⟨_, rfl, fun j v hv => ?_⟩, fun k x hx j c hj => ?_, fun v hv => ?_⟩
      · rw [List.getElem?_map] at hv
        cases hq : (List.range (es.length * sz))[j]? with
        | none => simp [hq] at hv
        | some j' =>
          have hj : j < es.length * sz := by simpa using (List.getElem?_eq_some_iff.1 hq).1
          rw [List.getElem?_range hj] at hq
          simp at hq
          subst hq
          rw [List.getElem?_range hj] at hv
          simp at hv
          subst hv
          obtain ⟨x, c, h1, h2⟩ := hget j hj
          have := (hc _ x h1 _ c h2).2
          rw [Addr.add_lit]
          rwa [show off + j / sz * sz + j % sz = off + j by rw [Nat.add_assoc, Nat.div_add_mod']] at this
      · have hjs : j < sz := by rw [← hs' k x hx]; exact (List.getElem?_eq_some_iff.1 hj).1
        have hk : k < es.length := (List.getElem?_eq_some_iff.1 hx).1
        have hlt : k * sz + j < es.length * sz := by
          have : (k + 1) * sz ≤ es.length * sz := Nat.mul_le_mul_right _ hk
          rw [Nat.add_mul, Nat.one_mul] at this
          omega
        refine ⟨u k j, ?_, hr k x hx j c hj⟩
        rw [List.getElem?_map, List.getElem?_range hlt]
        have e1 : (k * sz + j) / sz = k := by
          rw [Nat.mul_comm, Nat.mul_add_div (by omega), Nat.div_eq_of_lt hjs, Nat.add_zero]
        have e2 : (k * sz + j) % sz = j := by
          rw [Nat.mul_comm, Nat.mul_add_mod, Nat.mod_eq_of_lt hjs]
        simp [e1, e2]
      · rw [List.mem_map] at hv
        obtain ⟨j, hj, rfl⟩ := hv
        obtain ⟨x, c, h1, h2⟩ := hget j (by simpa using hj)
        exact repP_one (hr _ x h1 _ c h2)

/-- What a slice's elements are, however it is held. -/
theorem elems_ok (hI : Inv B g m w) {c : Cell} {v : Value} {es : List (List Cell)} (hr : RepC g w c v) (h : elems m c = some es) {s : Nat} (hs : es.all (fun e => e.length == s) = true) :
    ∃ (a : Option Addr) (cap : Nat) (news : List Value), v = .slice a es.length cap ∧ news.length = es.length * s ∧ (es = [] ∨ ∃ ad, a = some ad ∧ ∀ (j : Nat) u, news[j]? = some u → w.cell? (ad.add j) = some u) ∧ (a = none → v = .slice none 0 0) ∧
      (∀ (k : Nat) x, es[k]? = some x → ∀ (j : Nat) c, x[j]? = some c → ∃ u, news[k * s + j]? = some u ∧ RepP g.F w c u) ∧ ∀ u ∈ news, u.oneCell' = true := by
  unfold elems at h
  split at h
  · simp at h; subst h
    cases hr with
    | pure hr => cases hr with
      | sc _ => exact ⟨none, 0, [], rfl, by simp, .inl rfl, fun _ => rfl, fun k x h => by simp at h, fun u h => by simp at h⟩
  · simp at h; subst h
    cases hr with
    | pure hr =>
      obtain ⟨a, cap, rfl, hl, hcap, _⟩ := repP_lst hr
      obtain ⟨news, h1, h2, h3, h4⟩ := repP_row hr (all_len hs)
      exact ⟨a, cap, news, rfl, h1, h2, fun ha => by subst ha; cases hr with | emp _ hn => rw [hn rfl]; rfl, h3, h4⟩
  · simp at h; subst h
    cases hr with
    | pure hr => cases hr
    | full hr =>
      obtain ⟨news, h1, h2, h3, h4⟩ := repP_row hr (all_len hs)
      exact ⟨_, _, news, rfl, h1, h2, fun ha => by subst ha; cases hr with | emp _ hn => rw [hn rfl], h3, h4⟩
  · rename_i o lo n
    split at h
    · rename_i e sz es0 fr hm
      split at h
      · rename_i hle
        simp at h; subst h
        cases hr with
        | pure hr => cases hr
        | view hk hv hle' ha hsp =>
          rename_i len cap a a'
          obtain ⟨_, ho⟩ := hI.ok o _ hm
          cases ho with
          | arr us hz ho hs' hr h1 hf =>
            have hlen : ((es0.drop lo).take n).length = n := by simp; omega
            by_cases hn : n = 0
            · subst hn
              have hne : cap - lo = 0 ∨ ∃ ad, a' = some ad := by
                by_cases hc : lo < cap
                · rcases ho.2 with ⟨hnil, _⟩ | ⟨gb, cap', cur, hb, _⟩
                  · rw [hv] at hnil; simp at hnil; omega
                  · rw [hv] at hb; simp at hb
                    have := ha (.inl hc)
                    rw [hb.1] at this
                    exact .inr ⟨_, this⟩
                · exact .inl (by omega)
              refine ⟨a', cap - lo, [], by simp, by simp, .inl (by simp), fun h => ?_, fun k x h => by simp at h, fun u h => by simp at h⟩
              rcases hne with h' | ⟨ad, h'⟩
              · rw [h, h']
              · rw [h] at h'; cases h'
            · rcases ho.2 with ⟨hnil, hz0⟩ | ⟨gb, cap', cur, hb, _, hh, hnc, hcm, hcs, htk⟩
              · omega
              · rw [hv] at hb; simp at hb; obtain ⟨rfl, rfl, rfl⟩ := hb
                have ha' := ha (.inl (by omega))
                rw [hz] at ha'
                simp only [Option.map_some, Addr.add_lit, Nat.zero_add] at ha'
                subst ha'
                have hszs : sz = s := by
                  have hlt : 0 < ((es0.drop lo).take n).length := by omega
                  have h1 := all_len hs 0 _ (List.getElem?_eq_getElem hlt)
                  have h2 : ((es0.drop lo).take n)[0]? = es0[lo]? := by
                    rw [List.getElem?_take, if_pos (by omega), List.getElem?_drop, Nat.add_zero]
                  have hlo : lo < es0.length := by omega
                  have h3 := hs' lo _ (List.getElem?_eq_getElem hlo)
                  rw [List.getElem?_eq_getElem hlt, List.getElem?_eq_getElem hlo] at h2
                  simp only [Option.some.injEq] at h2
                  rw [h2] at h1
                  omega
                subst hszs
                have hcells := ho.cells (g := gb) (by rw [hv]; rfl)
                have hul : us.length = es0.length * sz := ho.1
                have hmul : (lo + n) * sz ≤ es0.length * sz := Nat.mul_le_mul_right _ hle
                rw [Nat.add_mul] at hmul
                refine ⟨_, _, (us.drop (lo * sz)).take (n * sz), by rw [hlen], by rw [hlen]; simp; omega, .inr ⟨_, rfl, fun j u hu => ?_⟩, (fun h => by cases h), fun k x hx j c hj => ?_, fun u hu => h1 u (List.mem_of_mem_drop (List.mem_of_mem_take hu))⟩
                · rw [List.getElem?_take] at hu
                  split at hu
                  · rw [List.getElem?_drop] at hu
                    have := hcells _ u hu
                    rw [Addr.add_lit] at this ⊢
                    rwa [Nat.zero_add] at this
                  · cases hu
                · rw [List.getElem?_take] at hx
                  split at hx
                  · rename_i hkn
                    rw [List.getElem?_drop] at hx
                    obtain ⟨u, hu, hc⟩ := hr _ x hx j c hj
                    refine ⟨u, ?_, hc⟩
                    have hjs : j < sz := by rw [← hs' _ x hx]; exact (List.getElem?_eq_some_iff.1 hj).1
                    have hks : (k + 1) * sz ≤ n * sz := Nat.mul_le_mul_right _ hkn
                    rw [Nat.add_mul, Nat.one_mul] at hks
                    rw [List.getElem?_take, if_pos (by omega), List.getElem?_drop]
                    rw [show lo * sz + (k * sz + j) = (lo + k) * sz + j by rw [Nat.add_mul]; omega]
                    exact hu
                  · cases hx
      · cases h
    · cases h
  · cases h

theorem run_append_full {t e : TypeId} {i : TypeInfo} {z : Value} (ht : P.underlying t = some (.slice e)) (hi : P.info? e = some i) (hz : i.zero = some z) (hzs : z.cells.size = i.size) (ty : TypeId)
    (a : Option Addr) (n : Nat) (xs : List Value) (hxl : xs.length = n * i.size) (hx : n = 0 ∨ ∃ ad, a = some ad ∧ ∀ (j : Nat) u, xs[j]? = some u → w.cell? (ad.add j) = some u) (hn : a = none → n = 0)
    (ad : Addr) (k c : Nat) (news : List Value) (hl : news.length = k * i.size) (hnews : ∀ (j : Nat) u, news[j]? = some u → w.cell? (ad.add j) = some u) (hk : 0 < k)
    (h63 : n + k ≤ maxLen) (hbytes : (n + k) * i.bytes ≤ 140737488355328) :
    ∃ v' w', (Builtin.append_ #[t, t] ty #[.slice a n n, .slice (some ad) k c]).run P w = .ok v' w' ∧ w'.ownsRow 0 e i.size v' (n + k) (xs ++ news) ∧ w.grownBy w' none ∧ v'.ownBlock = some w.heap.size := by
  have hlen : (xs ++ news).length = (n + k) * i.size := by rw [List.length_append, hxl, hl, Nat.add_mul]
  have hsmall : n + k ≤ 9223372036854775807 := by simp only [maxLen] at h63; omega
  have grown : ∀ (old : Nat), old < n + k →
      (w.drew.alloc (.cells (xs.toArray ++ news.toArray ++ Builtin.zeroCells z.cells (grownCap w (n + k) old e - (n + k))) e)).ownsRow 0 e i.size
        (.slice (some ⟨w.heap.size, 0, none⟩) (n + k) (grownCap w (n + k) old e)) (n + k) (xs ++ news) ∧
      w.grownBy (w.drew.alloc (.cells (xs.toArray ++ news.toArray ++ Builtin.zeroCells z.cells (grownCap w (n + k) old e - (n + k))) e)) none := by
    intro old ho
    have hge := grownCap_ge w (n + k) old e
    have hcm : grownCap w (n + k) old e ≤ maxLen := grownCap_le_maxLen w (n + k) old e h63
    refine ⟨⟨hlen, .inr ⟨w.heap.size, _, _, rfl, Nat.zero_le _, heap_alloc_new w.drew _, hge, hcm, ?_, ?_⟩⟩, ⟨rfl, rfl, rfl, by simp, fun k hk _ => heap_alloc_old w.drew _ k hk⟩⟩
    · simp only [Array.size_append, List.size_toArray, size_zeroCells, hzs, hxl, hl, ← Nat.add_mul]
      congr 1
      omega
    · simp only [Array.toList_append, List.append_assoc]
      rw [← List.append_assoc, ← hlen]
      exact List.take_left
  cases a with
  | none =>
    obtain rfl := hn rfl
    have hxs : xs = [] := List.eq_nil_of_length_eq_zero (by simpa using hxl)
    subst hxs
    have hr := run_append_nil (P := P) w t ty e i z ht hi hz ad k c news hl hnews hk (by omega) (by rw [Nat.zero_add] at hbytes; omega)
    have hgr := grown 0 (by omega)
    simp only [Nat.zero_add, List.nil_append, Array.empty_append] at hgr ⊢
    exact ⟨_, _, hr, hgr.1, hgr.2, rfl⟩
  | some a =>
    have hcell : ∀ (j : Nat) u, xs[j]? = some u → w.cell? (a.add j) = some u := by
      rcases hx with h | ⟨a', h, h'⟩
      · subst h
        have hxs : xs = [] := List.eq_nil_of_length_eq_zero (by simpa using hxl)
        subst hxs
        intro j u hu; simp at hu
      · simp at h; subst h; exact h'
    have hr := run_append_grow (P := P) w t ty e i z ht hi hz a n n xs hxl hcell ad k c news hl hnews (by omega) (by omega) (growslice_fits (by omega) hbytes)
    have hgr := grown n (by omega)
    exact ⟨_, _, hr, hgr.1, hgr.2, rfl⟩

theorem owns_block {base e size n : Nat} {v : Value} {xs : List Value} (h : w.ownsRow base e size v n xs) : v.ownBlock = blockOf v := by
  rcases h.2 with ⟨rfl, _⟩ | ⟨g, cap, cur, rfl, _⟩ <;> rfl

theorem owns_view {g : G} {id : Id} {e size n : Nat} {v : Value} {xs : List Value} (h : w.ownsRow 0 e size v n xs) (hk : g.K id) (hv : g.β id = v) : RepC g w (.view id 0 n) v := by
  rcases h.2 with ⟨rfl, rfl⟩ | ⟨gb, cap, cur, rfl, _, _, hnc, _⟩
  · have := RepC.view (g := g) (w := w) (o := id) (lo := 0) (n := 0) (len := 0) (cap := 0) (a := none) (a' := none) hk hv (by omega) (fun _ => rfl) (fun ad h => by cases h)
    simpa using this
  · have := RepC.view (g := g) (w := w) (o := id) (lo := 0) (n := n) (len := n) (cap := cap) (a := some ⟨gb, 0, none⟩) (a' := some ⟨gb, 0, none⟩) hk hv (by omega) (fun _ => by simp [Addr.add]) (fun ad h => by simp at h; subst h; rfl)
    simpa using this

/-- The new array behind an append: old elements, then new ones. -/
theorem arr_append {g1 : G} {id : Id} {e sz : Nat} {es es2 : List (List Cell)} {fr : Bool} {xs news : List Value} (hz : g1.sz id = sz) (ho : w'.ownsRow 0 e sz (g1.β id) (es.length + es2.length) (xs ++ news))
    (hxl : xs.length = es.length * sz) (hs1 : ∀ (k : Nat) x, es[k]? = some x → x.length = sz) (hs2 : ∀ (k : Nat) x, es2[k]? = some x → x.length = sz)
    (hr1 : ∀ (k : Nat) x, es[k]? = some x → ∀ (j : Nat) c, x[j]? = some c → ∃ u, xs[k * sz + j]? = some u ∧ RepP g1.F w' c u)
    (hr2 : ∀ (k : Nat) x, es2[k]? = some x → ∀ (j : Nat) c, x[j]? = some c → ∃ u, news[k * sz + j]? = some u ∧ RepP g1.F w' c u)
    (h1 : ∀ u ∈ xs, u.oneCell' = true) (h2 : ∀ u ∈ news, u.oneCell' = true) (hf : ∀ b o, blockOf (g1.β id) = some b → g1.F b o → fr = true ∧ o < (es.length + es2.length) * sz) : ObjOk g1 w' id (.arr e sz (es ++ es2) fr) := by
  refine .arr (xs ++ news) hz (by rw [List.length_append]; exact ho) (fun k x hx => ?_) (fun k x hx j c hj => ?_) (fun u hu => ?_) (by rw [List.length_append]; exact hf)
  · rw [List.getElem?_append] at hx
    split at hx
    · exact hs1 k x hx
    · exact hs2 _ x hx
  · rw [List.getElem?_append] at hx
    split at hx
    · rename_i hk
      obtain ⟨u, hu, hc⟩ := hr1 k x hx j c hj
      refine ⟨u, ?_, hc⟩
      rw [List.getElem?_append, if_pos (List.getElem?_eq_some_iff.1 hu).1]
      exact hu
    · rename_i hk
      obtain ⟨u, hu, hc⟩ := hr2 _ x hx j c hj
      refine ⟨u, ?_, hc⟩
      have : (k - es.length) * sz = k * sz - es.length * sz := Nat.sub_mul _ _ _
      have hle : es.length * sz ≤ k * sz := Nat.mul_le_mul_right _ (by omega)
      rw [List.getElem?_append, if_neg (by rw [hxl]; omega), hxl, show k * sz + j - es.length * sz = (k - es.length) * sz + j by omega]
      exact hu
  · simp only [List.mem_append] at hu
    rcases hu with hu | hu
    · exact h1 u hu
    · exact h2 u hu

end
end Go.Abs

/- The abstract evaluator is right: make. -/
namespace Go.Abs
open Go.RowKit
section
variable {P : Program} {B : Base} {g : G} {m m' : Mem} {w : World}

theorem madeCells_get (z : Array Value) (n j : Nat) (h : j < n) (hz : 0 < z.size) : (madeCells z n).toList[j]? = z[j % z.size]? := by
  have hm : j % z.size < z.size := Nat.mod_lt _ hz
  simp only [madeCells, Array.toList_map, Array.toList_range, List.getElem?_map, List.getElem?_range h, Option.map_some]
  rw [Array.getElem?_eq_getElem hm]
  congr 1
  exact getElem!_pos z (j % z.size) hm

theorem makeSlice_ok (hI : Inv B g m w) (d : Nat) (hfd : memU d m.us = false) {T e : TypeId} {ti te : TI} (hti : tiOf P T = some ti) (hd' : ti.d = .slice e) (hte : tiOf P e = some te) {z : List Cell} (hz0 : constCellsN te.zero = some z)
    (hzl : te.zero.length = te.size) (hs0 : te.size ≠ 0) (hb0 : te.bytes ≠ 0) {n : Nat} (hb : n * te.bytes ≤ 140737488355328) (kl kc : IntKind) :
    ∃ v w' g', (Instr.makeSlice T (.int kl n) (.int kc n)).run P w = .ok v w' ∧ Ext g w g' w' ∧ RepA g' w' (.c (.view (newId d m) 0 n)) v ∧ Inv B g' (addObj d m (.arr e te.size (List.replicate n z) false)) w' := by
  obtain ⟨i, dd, zv, hi, hd, hz, rfl⟩ := tiOf_spec hti
  obtain rfl := descOf_slice hd'
  obtain ⟨i', dd', zv', hi', hd'', hz', rfl⟩ := tiOf_spec hte
  simp only at hz0 hzl hs0 hb0 hb ⊢
  obtain ⟨hcs, hsc⟩ := constCellsN_spec hz0
  have hzs : zv'.cells.size = i'.size := by simpa using hzl
  have hzlen : z.length = i'.size := by rw [hcs, List.length_map]; exact hzl
  have hpos : 0 < i'.size := by omega
  have hn48 : n ≤ 140737488355328 := Nat.le_trans (Nat.le_mul_of_pos_right n (by omega)) hb
  have hbn : (i'.bytes : Int) * (n : Int) ≤ 281474976710656 := by
    have h : ((n * i'.bytes : Nat) : Int) ≤ 140737488355328 := by omega
    rw [Nat.mul_comm] at h
    rw [Int.natCast_mul] at h
    omega
  have hr := run_make (P := P) w T e i' zv' hd hi' hz' kl kc n n (by omega) (Int.le_refl _) hbn (by omega)
  simp only [Int.toNat_natCast] at hr
  have hget : ∀ k j, k < n → j < i'.size → ∃ u, (madeCells zv'.cells (n * i'.size)).toList[k * i'.size + j]? = some u ∧ zv'.cells.toList[j]? = some u := fun k j hk hj => by
    have hlt : k * i'.size + j < n * i'.size := by
      have : (k + 1) * i'.size ≤ n * i'.size := Nat.mul_le_mul_right _ hk
      rw [Nat.add_mul, Nat.one_mul] at this
      omega
    have h1 := madeCells_get zv'.cells (n * i'.size) (k * i'.size + j) hlt (by omega)
    rw [hzs, Nat.mul_add_mod_self_right, Nat.mod_eq_of_lt hj] at h1
    exact ⟨zv'.cells[j]'(by omega), by rw [h1]; exact Array.getElem?_eq_getElem _, by simp [show j < zv'.cells.size by omega]⟩
  have hone : ∀ u ∈ (madeCells zv'.cells (n * i'.size)).toList, u.oneCell' = true := fun u hu => by
    obtain ⟨j, hj, rfl⟩ := List.getElem_of_mem hu
    have hj' : j < n * i'.size := by simpa [size_madeCells] using hj
    have h1 := madeCells_get zv'.cells (n * i'.size) j hj' (by omega)
    rw [List.getElem?_eq_getElem hj] at h1
    have hm : (madeCells zv'.cells (n * i'.size)).toList[j] ∈ zv'.cells.toList := by
      have := Array.mem_of_getElem? h1.symm
      simpa using this
    have := hsc _ hm
    generalize (madeCells zv'.cells (n * i'.size)).toList[j] = u at *
    cases u <;> simp_all [scalar, Value.oneCell']
  have hown : (w.alloc (.cells (madeCells zv'.cells (n * i'.size)) e)).ownsRow 0 e i'.size (.slice (some ⟨w.heap.size, 0, none⟩) n n) n (madeCells zv'.cells (n * i'.size)).toList :=
    ⟨by simp [size_madeCells], .inr ⟨w.heap.size, n, _, rfl, Nat.zero_le _, heap_new w _, Nat.le_refl _, by simp only [maxLen]; omega, size_madeCells _ _, by rw [List.take_of_length_le (by simp [size_madeCells])]⟩⟩
  have := inv_add (w' := w.alloc (.cells (madeCells zv'.cells (n * i'.size)) e)) hI d (m1 := m) (fun _ _ h => h) ⟨rfl, rfl⟩ hfd (row := none) (World.grownBy_alloc w _ none) (fun b h => by cases h) (V := .slice (some ⟨w.heap.size, 0, none⟩) n n) (s := i'.size) (obj := .arr e i'.size (List.replicate n z) false)
    (fun b hb => by simp [blockOf] at hb; exact .inl (by omega)) (fun he => .arr (madeCells zv'.cells (n * i'.size)).toList (if_pos rfl) (by
        have hβ : (addId g (newId d m) (.slice (some ⟨w.heap.size, 0, none⟩) n n) i'.size).β (newId d m) = .slice (some ⟨w.heap.size, 0, none⟩) n n := if_pos rfl
        rw [hβ, List.length_replicate]; exact hown) (fun k x hx => by
        rw [List.eq_of_mem_replicate (List.mem_of_getElem? hx)]; exact hzlen) (fun k x hx j c hj => by
        have hkn : k < n := by rw [← List.length_replicate (n := n) (a := z)]; exact (List.getElem?_eq_some_iff.1 hx).1
        rw [List.eq_of_mem_replicate (List.mem_of_getElem? hx)] at hj
        have hjs : j < i'.size := by rw [← hzlen]; exact (List.getElem?_eq_some_iff.1 hj).1
        obtain ⟨u, h1, h2⟩ := hget k j hkn hjs
        refine ⟨u, h1, ?_⟩
        rw [hcs, List.getElem?_map, h2] at hj
        simp at hj
        subst hj
        exact repP_nrm0 (hsc u (List.mem_of_getElem? h2))) hone (fun b o hb hF => by
        have hβ : (addId g (newId d m) (.slice (some ⟨w.heap.size, 0, none⟩) n n) i'.size).β (newId d m) = .slice (some ⟨w.heap.size, 0, none⟩) n n := if_pos rfl
        rw [hβ] at hb
        simp [blockOf] at hb
        have := hI.flt b o hF
        omega))
  refine ⟨.slice (some ⟨w.heap.size, 0, none⟩) n n, _, _, hr, this.1, .c ?_, this.2⟩
  have := RepC.view (g := addId g (newId d m) (.slice (some ⟨w.heap.size, 0, none⟩) n n) i'.size) (w := w.alloc (.cells (madeCells zv'.cells (n * i'.size)) e)) (o := newId d m) (lo := 0) (n := n) (len := n) (cap := n) (a := some ⟨w.heap.size, 0, none⟩) (a' := some ⟨w.heap.size, 0, none⟩) (.inl rfl) (if_pos rfl) (by omega)
    (fun _ => by simp [Addr.add]) (fun ad h => by simp at h; subst h; rfl)
  simpa using this
end
end Go.Abs

/- The abstract evaluator is right: copy. -/
namespace Go.Abs
open Go.RowKit
section
variable {P : Program} {B : Base} {g : G} {m m' : Mem} {w : World}

theorem copy_core (hI : Inv B g m w) {t t2 e : TypeId} {i : TypeInfo} (ht : P.underlying t = some (.slice e)) (hi : P.info? e = some i) (ty : TypeId)
    {o : Id} {lo n : Nat} {dv : Value} (hd : RepA g w (.c (.view o lo n)) dv) {es : List (List Cell)} (hm : mget m.o o = some (.arr e i.size es false)) (hfit : lo + n ≤ es.length)
    {c : Cell} {xv : Value} {es2 : List (List Cell)} (hc : RepC g w c xv) (hel : elems m c = some es2) (hs2 : es2.all (fun e => e.length == i.size) = true) {K : Nat} (hK : Nat.min es2.length n = K) :
    ∃ w' g', (Builtin.copy_ #[t, t2] ty #[dv, xv]).run P w = .ok (goInt K) w' ∧ Ext g w g' w' ∧ Inv B g' { m with o := mset m.o o (.arr e i.size (wrE es lo (es2.take K)) false) } w' := by
  obtain ⟨a2, cap2, news, rfl, hnl, hna, hnn, hnr, hn1⟩ := elems_ok hI hc hel hs2
  have hK1 : K ≤ es2.length := by rw [← hK]; exact Nat.min_le_left _ _
  have hK2 : K ≤ n := by rw [← hK]; exact Nat.min_le_right _ _
  have hmul : K * i.size ≤ es2.length * i.size := Nat.mul_le_mul_right _ hK1
  have hfc : (Builtin.firstCells i.size K (.slice a2 es2.length cap2)).run P w = .ok (news.take (K * i.size)).toArray w := by
    cases a2 with
    | none =>
      have h0 := hnn rfl
      simp at h0
      have hK0 : K = 0 := by rw [h0.1] at hK1; simpa using hK1
      subst hK0
      simp [Builtin.firstCells]
    | some ad =>
      refine run_firstCells_some (w := w) i.size K ad es2.length cap2 (news.take (K * i.size)) (by rw [List.length_take]; omega) (fun j v hv => ?_)
      rw [List.getElem?_take] at hv
      split at hv
      · rcases hna with h | ⟨ad', h, h'⟩
        · have : news = [] := List.eq_nil_of_length_eq_zero (by rw [hnl, h]; simp)
          rw [this] at hv; simp at hv
        · simp at h; subst h; exact h' j v hv
      · cases hv
  obtain ⟨_, ho⟩ := hI.ok o _ hm
  cases ho with
  | arr us hz hown hs hr h1 hf =>
  cases hd with
  | c hd => cases hd with
    | pure hd => cases hd
    | view hk hv hle ha hsp =>
    rename_i len cap a a'
    have hlt : (es2.take K).length = K := by rw [List.length_take]; omega
    by_cases hK0 : K = 0
    · subst hK0
      have hsame : wrE es lo (es2.take 0) = es := by simp [wrE]
      rw [hsame]
      have := inv_upd (w' := w) hI hm (row := none) (grownBy_refl w none) (fun b h => by cases h) (fun b x h => by cases h) (o' := .arr e i.size es false) (fun _ => .arr us hz hown hs hr h1 hf)
      refine ⟨w, g, ?_, this.1, this.2⟩
      have hmin : min es2.length n = 0 := hK
      have hfc' := hfc
      simp only [Nat.zero_mul, List.take_zero] at hfc'
      cases a' with
      | none => simp [Builtin.copy_, run_underlying ht, Builtin.lenOf, run_sizeOf hi, hmin, hfc']
      | some ad => simp [Builtin.copy_, run_underlying ht, Builtin.lenOf, run_sizeOf hi, hmin, hfc', storeCells]
    · rcases hown.2 with ⟨hnil, hz0⟩ | ⟨b, cap', cur, hb, _, hh, hnc, hcm, hcsz, htk⟩
      · omega
      · rw [hv] at hb; simp at hb; obtain ⟨rfl, rfl, rfl⟩ := hb
        have ha' := ha (.inl (by omega))
        rw [hz] at ha'
        simp only [Option.map_some, Addr.add_lit, Nat.zero_add] at ha'
        subst ha'
        have hcap : es.length * i.size ≤ cap * i.size := Nat.mul_le_mul_right _ hnc
        have hrow : lo * i.size + K * i.size ≤ es.length * i.size := by rw [← Nat.add_mul]; exact Nat.mul_le_mul_right _ (by omega)
        have husl : us.length = es.length * i.size := hown.1
        have hcur : cur.toList.length = cap * i.size := by simpa using hcsz
        have hcl : (news.take (K * i.size)).length = K * i.size := by rw [List.length_take]; omega
        have hone : ∀ u ∈ news.take (K * i.size), u.oneCell' = true := fun u hu => hn1 u (List.mem_of_mem_take hu)
        have hrun := run_storeCells_at (P := P) b (lo * i.size) e (news.take (K * i.size)) 0 cur w hh (by simp only [Nat.add_zero]; omega) hone
        simp only [Nat.add_zero, List.append_assoc] at hrun
        generalize hcells : news.take (K * i.size) = cl at *
        have hclg : ∀ j, j < K * i.size → cl[j]? = news[j]? := fun j hj => by rw [← hcells, List.getElem?_take, if_pos hj]
        have hnew : ∀ j, (us.take (lo * i.size) ++ (cl ++ us.drop (lo * i.size + cl.length)))[j]? = if lo * i.size ≤ j ∧ j < lo * i.size + cl.length then cl[j - lo * i.size]? else us[j]? := wr_get us _ _ (by omega)
        have hes : ∀ k, (wrE es lo (es2.take K))[k]? = if lo ≤ k ∧ k < lo + (es2.take K).length then (es2.take K)[k - lo]? else es[k]? := wr_get es _ _ (by omega)
        have heslen : (wrE es lo (es2.take K)).length = es.length := wr_len es lo (es2.take K) (by omega)
        have hw2 : ∀ (k : Nat) x, (wrE es lo (es2.take K))[k]? = some x → x.length = i.size := fun k x hx => by
          rw [hes] at hx
          split at hx
          · rw [List.getElem?_take] at hx
            split at hx
            · exact all_len hs2 _ x hx
            · cases hx
          · exact hs k x hx
        have := inv_upd (w' := w.setRow b (cur.toList.take (lo * i.size) ++ (cl ++ cur.toList.drop (lo * i.size + cl.length))).toArray) hI hm (setRow_grown w b _) (fun b'' hb => by simp at hb; subst hb; rw [hv]; rfl)
          (fun b'' x hb hF => by simp at hb; subst hb; have := (hf b x (by rw [hv]; rfl) hF).1; cases this) (o' := .arr e i.size (wrE es lo (es2.take K)) false)
          (fun he => .arr (us.take (lo * i.size) ++ (cl ++ us.drop (lo * i.size + cl.length))) hz ⟨by rw [wr_len _ _ _ (by omega), heslen]; exact husl, .inr ⟨b, cap, _, by rw [heslen]; exact hv, Nat.zero_le _, setRow_heap w b _ _ e _ hh, by rw [heslen]; exact hnc, hcm, by
              have := wr_len cur.toList (lo * i.size) cl (by omega)
              simp only [List.size_toArray]
              omega, by
              apply List.ext_getElem?
              intro j
              rw [hnew, List.getElem?_take, heslen]
              have hcg := wr_get cur.toList (lo * i.size) cl (by omega) j
              by_cases hj : j < es.length * i.size
              · rw [if_pos hj]
                simp only
                rw [hcg]
                have : us[j]? = cur.toList[j]? := by rw [← htk, List.getElem?_take, if_pos hj]
                rw [this]
              · rw [if_neg hj, if_neg (by omega)]
                exact (List.getElem?_eq_none (by omega)).symm⟩⟩ hw2 (fun k x hx j c hj => by
              have hjs : j < i.size := by rw [← hw2 k x hx]; exact (List.getElem?_eq_some_iff.1 hj).1
              rw [hes, hlt] at hx
              split at hx
              · rename_i hkk
                rw [List.getElem?_take] at hx
                split at hx
                · rename_i hkK
                  obtain ⟨u, hu, hcu⟩ := hnr (k - lo) x hx j c hj
                  have hsub : k * i.size = lo * i.size + (k - lo) * i.size := by rw [← Nat.add_mul]; congr 1; omega
                  have hin : (k - lo) * i.size + j < K * i.size := by
                    have : (k - lo + 1) * i.size ≤ K * i.size := Nat.mul_le_mul_right _ hkK
                    rw [Nat.add_mul, Nat.one_mul] at this
                    omega
                  refine ⟨u, ?_, hcu.ext he.F he.cell⟩
                  rw [hnew, if_pos (by omega), show k * i.size + j - lo * i.size = (k - lo) * i.size + j by omega, hclg _ hin]
                  exact hu
                · cases hx
              · rename_i hkk
                obtain ⟨u, hu, hcu⟩ := hr k x hx j c hj
                refine ⟨u, ?_, hcu.ext he.F he.cell⟩
                rw [hnew, if_neg, hu]
                intro hin
                rcases Nat.lt_or_ge k lo with hlt' | hge
                · have : (k + 1) * i.size ≤ lo * i.size := Nat.mul_le_mul_right _ hlt'
                  rw [Nat.add_mul, Nat.one_mul] at this
                  omega
                · have h4 : (lo + K) * i.size ≤ k * i.size := Nat.mul_le_mul_right _ (by omega)
                  rw [Nat.add_mul] at h4
                  omega) (fun u hu => by
              simp only [List.mem_append] at hu
              rcases hu with hu | hu | hu
              · exact h1 u (List.mem_of_mem_take hu)
              · exact hone u hu
              · exact h1 u (List.mem_of_mem_drop hu)) (fun b' o' hb' hF => by have := (hf b' o' hb' hF).1; cases this))
        refine ⟨_, g, ?_, this.1, this.2⟩
        have hmin : min es2.length n = K := hK
        simp [Builtin.copy_, run_underlying ht, Builtin.lenOf, run_sizeOf hi, hmin, hfc, hrun]
end
end Go.Abs
