/- The abstract evaluator is right: append and the other builtins; all operations. -/
import Derived.Test.YthkimpoeiighoaaAbsI
import Derived.Maps.AppendAt
namespace Go.Abs
open Go.RowKit

section
variable {P : Program} {B : Base} {g g' : G} {m m' : Mem} {w w' : World}

/-- The cells behind a slice, in a row. -/
theorem repP_row {F : Nat → Nat → Prop} {es : List (List Cell)} {a : Option Addr} {len cap s : Nat} (hr : RepP F w (.lst es) (.slice a len cap)) (hs : ∀ (k : Nat) x, es[k]? = some x → x.length = s) :
    ∃ news : List Value, news.length = es.length * s ∧ (es = [] ∨ ∃ ad, a = some ad ∧ ∀ (j : Nat) u, news[j]? = some u → w.cell? (ad.add j) = some u) ∧
      (∀ (k : Nat) x, es[k]? = some x → ∀ (j : Nat) c, x[j]? = some c → ∃ u, news[k * s + j]? = some u ∧ RepP F w c u) ∧ ∀ u ∈ news, u.oneCell' = true := by
  cases hr with
  | emp _ _ => exact ⟨[], by simp, .inl rfl, fun k x h => by simp at h, fun u h => by simp at h⟩
  | lst u hs' hc hr hl hcap =>
    rename_i b off sz
    by_cases he : es = []
    · subst he
      exact ⟨[], by simp, .inl rfl, fun k x h => by simp at h, fun u h => by simp at h⟩
    · have hsz : sz = s := by
        have hlt : 0 < es.length := List.length_pos_iff.2 he
        exact sz_of hs' (List.getElem?_eq_getElem hlt) (hs 0 _ (List.getElem?_eq_getElem hlt))
      subst hsz
      have hget : ∀ j, j < es.length * sz → ∃ x c, es[j / sz]? = some x ∧ x[j % sz]? = some c := fun j hj => by
        have hpos : 0 < sz := by
          rcases Nat.eq_zero_or_pos sz with h | h
          · subst h; simp at hj
          · exact h
        have hdiv : j / sz < es.length := (Nat.div_lt_iff_lt_mul hpos).2 hj
        refine ⟨es[j / sz], (es[j / sz])[j % sz]'(by rw [hs' _ _ (List.getElem?_eq_getElem hdiv)]; exact Nat.mod_lt _ hpos), List.getElem?_eq_getElem hdiv, List.getElem?_eq_getElem _⟩
      refine ⟨(List.range (es.length * sz)).map fun j => u (j / sz) (j % sz), by simp, .inr ⟨_, rfl, fun j v hv => ?_⟩, fun k x hx j c hj => ?_, fun v hv => ?_⟩
      · rw [List.getElem?_map] at hv
        cases hq : (List.range (es.length * sz))[j]? with
        | none => simp [hq] at hv
        | some j' =>
          have hj : j < es.length * sz := by simpa using (List.getElem?_eq_some_iff.1 hq).1
          rw [List.getElem?_range hj] at hq
          simp at hq
          subst hq
          rw [List.getElem?_range hj] at hv
          simp at hv
          subst hv
          obtain ⟨x, c, h1, h2⟩ := hget j hj
          have := (hc _ x h1 _ c h2).2
          rw [Addr.add_lit]
          rwa [show off + j / sz * sz + j % sz = off + j by rw [Nat.add_assoc, Nat.div_add_mod']] at this
      · have hjs : j < sz := by rw [← hs' k x hx]; exact (List.getElem?_eq_some_iff.1 hj).1
        have hk : k < es.length := (List.getElem?_eq_some_iff.1 hx).1
        have hlt : k * sz + j < es.length * sz := by
          have : (k + 1) * sz ≤ es.length * sz := Nat.mul_le_mul_right _ hk
          rw [Nat.add_mul, Nat.one_mul] at this
          omega
        refine ⟨u k j, ?_, hr k x hx j c hj⟩
        rw [List.getElem?_map, List.getElem?_range hlt]
        have e1 : (k * sz + j) / sz = k := by
          rw [Nat.mul_comm, Nat.mul_add_div (by omega), Nat.div_eq_of_lt hjs, Nat.add_zero]
        have e2 : (k * sz + j) % sz = j := by
          rw [Nat.mul_comm, Nat.mul_add_mod, Nat.mod_eq_of_lt hjs]
        simp [e1, e2]
      · rw [List.mem_map] at hv
        obtain ⟨j, hj, rfl⟩ := hv
        obtain ⟨x, c, h1, h2⟩ := hget j (by simpa using hj)
        exact repP_one (hr _ x h1 _ c h2)

/-- What a slice's elements are, however it is held. -/
theorem elems_ok (hI : Inv B g m w) {c : Cell} {v : Value} {es : List (List Cell)} (hr : RepC g w c v) (h : elems m c = some es) {s : Nat} (hs : es.all (fun e => e.length == s) = true) :
    ∃ (a : Option Addr) (cap : Nat) (news : List Value), v = .slice a es.length cap ∧ news.length = es.length * s ∧ (es = [] ∨ ∃ ad, a = some ad ∧ ∀ (j : Nat) u, news[j]? = some u → w.cell? (ad.add j) = some u) ∧ (a = none → v = .slice none 0 0) ∧
      (∀ (k : Nat) x, es[k]? = some x → ∀ (j : Nat) c, x[j]? = some c → ∃ u, news[k * s + j]? = some u ∧ RepP g.F w c u) ∧ ∀ u ∈ news, u.oneCell' = true := by
  unfold elems at h
  split at h
  · simp at h; subst h
    cases hr with
    | pure hr => cases hr with
      | sc _ => exact ⟨none, 0, [], rfl, by simp, .inl rfl, fun _ => rfl, fun k x h => by simp at h, fun u h => by simp at h⟩
  · simp at h; subst h
    cases hr with
    | pure hr =>
      obtain ⟨a, cap, rfl, hl, hcap, _⟩ := repP_lst hr
      obtain ⟨news, h1, h2, h3, h4⟩ := repP_row hr (all_len hs)
      exact ⟨a, cap, news, rfl, h1, h2, fun ha => by subst ha; cases hr with | emp _ hn => rw [hn rfl]; rfl, h3, h4⟩
  · simp at h; subst h
    cases hr with
    | pure hr => cases hr
    | full hr =>
      obtain ⟨news, h1, h2, h3, h4⟩ := repP_row hr (all_len hs)
      exact ⟨_, _, news, rfl, h1, h2, fun ha => by subst ha; cases hr with | emp _ hn => rw [hn rfl], h3, h4⟩
  · rename_i o lo n
    split at h
    · rename_i e sz es0 fr hm
      split at h
      · rename_i hle
        simp at h; subst h
        cases hr with
        | pure hr => cases hr
        | view hk hv hle' ha hsp =>
          rename_i len cap a a'
          obtain ⟨_, ho⟩ := hI.ok o _ hm
          cases ho with
          | arr us hz ho hs' hr h1 hf =>
            have hlen : ((es0.drop lo).take n).length = n := by simp; omega
            by_cases hn : n = 0
            · subst hn
              have hne : cap - lo = 0 ∨ ∃ ad, a' = some ad := by
                by_cases hc : lo < cap
                · rcases ho.2 with ⟨hnil, _⟩ | ⟨gb, cap', cur, hb, _⟩
                  · rw [hv] at hnil; simp at hnil; omega
                  · rw [hv] at hb; simp at hb
                    have := ha (.inl hc)
                    rw [hb.1] at this
                    exact .inr ⟨_, this⟩
                · exact .inl (by omega)
              refine ⟨a', cap - lo, [], by simp, by simp, .inl (by simp), fun h => ?_, fun k x h => by simp at h, fun u h => by simp at h⟩
              rcases hne with h' | ⟨ad, h'⟩
              · rw [h, h']
              · rw [h] at h'; cases h'
            · rcases ho.2 with ⟨hnil, hz0⟩ | ⟨gb, cap', cur, hb, _, hh, hnc, hcm, hcs, htk⟩
              · omega
              · rw [hv] at hb; simp at hb; obtain ⟨rfl, rfl, rfl⟩ := hb
                have ha' := ha (.inl (by omega))
                rw [hz] at ha'
                simp only [Option.map_some, Addr.add_lit, Nat.zero_add] at ha'
                subst ha'
                have hszs : sz = s := by
                  have hlt : 0 < ((es0.drop lo).take n).length := by omega
                  have h1 := all_len hs 0 _ (List.getElem?_eq_getElem hlt)
                  have h2 : ((es0.drop lo).take n)[0]? = es0[lo]? := by
                    rw [List.getElem?_take, if_pos (by omega), List.getElem?_drop, Nat.add_zero]
                  have hlo : lo < es0.length := by omega
                  have h3 := hs' lo _ (List.getElem?_eq_getElem hlo)
                  rw [List.getElem?_eq_getElem hlt, List.getElem?_eq_getElem hlo] at h2
                  simp only [Option.some.injEq] at h2
                  rw [h2] at h1
                  omega
                subst hszs
                have hcells := ho.cells (g := gb) (by rw [hv]; rfl)
                have hul : us.length = es0.length * sz := ho.1
                have hmul : (lo + n) * sz ≤ es0.length * sz := Nat.mul_le_mul_right _ hle
                rw [Nat.add_mul] at hmul
                refine ⟨_, _, (us.drop (lo * sz)).take (n * sz), by rw [hlen], by rw [hlen]; simp; omega, .inr ⟨_, rfl, fun j u hu => ?_⟩, (fun h => by cases h), fun k x hx j c hj => ?_, fun u hu => h1 u (List.mem_of_mem_drop (List.mem_of_mem_take hu))⟩
                · rw [List.getElem?_take] at hu
                  split at hu
                  · rw [List.getElem?_drop] at hu
                    have := hcells _ u hu
                    rw [Addr.add_lit] at this ⊢
                    rwa [Nat.zero_add] at this
                  · cases hu
                · rw [List.getElem?_take] at hx
                  split at hx
                  · rename_i hkn
                    rw [List.getElem?_drop] at hx
                    obtain ⟨u, hu, hc⟩ := hr _ x hx j c hj
                    refine ⟨u, ?_, hc⟩
                    have hjs : j < sz := by rw [← hs' _ x hx]; exact (List.getElem?_eq_some_iff.1 hj).1
                    have hks : (k + 1) * sz ≤ n * sz := Nat.mul_le_mul_right _ hkn
                    rw [Nat.add_mul, Nat.one_mul] at hks
                    rw [List.getElem?_take, if_pos (by omega), List.getElem?_drop]
                    rw [show lo * sz + (k * sz + j) = (lo + k) * sz + j by rw [Nat.add_mul]; omega]
                    exact hu
                  · cases hx
      · cases h
    · cases h
  · cases h

theorem run_append_full {t e : TypeId} {i : TypeInfo} {z : Value} (ht : P.underlying t = some (.slice e)) (hi : P.info? e = some i) (hz : i.zero = some z) (hzs : z.cells.size = i.size) (ty : TypeId)
    (a : Option Addr) (n : Nat) (xs : List Value) (hxl : xs.length = n * i.size) (hx : n = 0 ∨ ∃ ad, a = some ad ∧ ∀ (j : Nat) u, xs[j]? = some u → w.cell? (ad.add j) = some u) (hn : a = none → n = 0)
    (ad : Addr) (k c : Nat) (news : List Value) (hl : news.length = k * i.size) (hnews : ∀ (j : Nat) u, news[j]? = some u → w.cell? (ad.add j) = some u) (hk : 0 < k)
    (h63 : n + k ≤ maxLen) (hbytes : (n + k) * i.bytes ≤ 140737488355328) :
    ∃ v' w', (Builtin.append_ #[t, t] ty #[.slice a n n, .slice (some ad) k c]).run P w = .ok v' w' ∧ w'.ownsRow 0 e i.size v' (n + k) (xs ++ news) ∧ w.grownBy w' none ∧ v'.ownBlock = some w.heap.size := by
  have hlen : (xs ++ news).length = (n + k) * i.size := by rw [List.length_append, hxl, hl, Nat.add_mul]
  have hsmall : n + k ≤ 9223372036854775807 := by simp only [maxLen] at h63; omega
  have grown : ∀ (old : Nat), old < n + k →
      (w.drew.alloc (.cells (xs.toArray ++ news.toArray ++ Builtin.zeroCells z.cells (grownCap w (n + k) old e - (n + k))) e)).ownsRow 0 e i.size
        (.slice (some ⟨w.heap.size, 0, none⟩) (n + k) (grownCap w (n + k) old e)) (n + k) (xs ++ news) ∧
      w.grownBy (w.drew.alloc (.cells (xs.toArray ++ news.toArray ++ Builtin.zeroCells z.cells (grownCap w (n + k) old e - (n + k))) e)) none := by
    intro old ho
    have hge := grownCap_ge w (n + k) old e
    have hcm : grownCap w (n + k) old e ≤ maxLen := grownCap_le_maxLen w (n + k) old e h63
    refine ⟨⟨hlen, .inr ⟨w.heap.size, _, _, rfl, Nat.zero_le _, heap_alloc_new w.drew _, hge, hcm, ?_, ?_⟩⟩, ⟨rfl, rfl, rfl, by simp, fun k hk _ => heap_alloc_old w.drew _ k hk⟩⟩
    · simp only [Array.size_append, List.size_toArray, size_zeroCells, hzs, hxl, hl, ← Nat.add_mul]
      congr 1
      omega
    · simp only [Array.toList_append, List.append_assoc]
      rw [← List.append_assoc, ← hlen]
      exact List.take_left
  cases a with
  | none =>
    obtain rfl := hn rfl
    have hxs : xs = [] := List.eq_nil_of_length_eq_zero (by simpa using hxl)
    subst hxs
    have hr := run_append_nil (P := P) w t ty e i z ht hi hz ad k c news hl hnews hk (by omega) (by rw [Nat.zero_add] at hbytes; omega)
    have hgr := grown 0 (by omega)
    simp only [Nat.zero_add, List.nil_append, Array.empty_append] at hgr ⊢
    exact ⟨_, _, hr, hgr.1, hgr.2, rfl⟩
  | some a =>
    have hcell : ∀ (j : Nat) u, xs[j]? = some u → w.cell? (a.add j) = some u := by
      rcases hx with h | ⟨a', h, h'⟩
      · subst h
        have hxs : xs = [] := List.eq_nil_of_length_eq_zero (by simpa using hxl)
        subst hxs
        intro j u hu; simp at hu
      · simp at h; subst h; exact h'
    have hr := run_append_grow (P := P) w t ty e i z ht hi hz a n n xs hxl hcell ad k c news hl hnews (by omega) (by omega) (growslice_fits (by omega) hbytes)
    have hgr := grown n (by omega)
    exact ⟨_, _, hr, hgr.1, hgr.2, rfl⟩

theorem ownBlock_eq {v : Value} : v.ownBlock = blockOf v ∨ ∃ a, v = .pointer (some a) := by
  cases v with
  | slice a n c => cases a <;> exact .inl rfl
  | pointer a => cases a with
    | none => exact .inl rfl
    | some a => exact .inr ⟨a, rfl⟩
  | _ => exact .inl rfl

theorem owns_block {base e size n : Nat} {v : Value} {xs : List Value} (h : w.ownsRow base e size v n xs) : v.ownBlock = blockOf v := by
  rcases h.2 with ⟨rfl, _⟩ | ⟨g, cap, cur, rfl, _⟩ <;> rfl

theorem owns_view {g : G} {id : Id} {e size n : Nat} {v : Value} {xs : List Value} (h : w.ownsRow 0 e size v n xs) (hk : g.K id) (hv : g.β id = v) : RepC g w (.view id 0 n) v := by
  rcases h.2 with ⟨rfl, rfl⟩ | ⟨gb, cap, cur, rfl, _, _, hnc, _⟩
  · have := RepC.view (g := g) (w := w) (o := id) (lo := 0) (n := 0) (len := 0) (cap := 0) (a := none) (a' := none) hk hv (by omega) (fun _ => rfl) (fun ad h => by cases h)
    simpa using this
  · have := RepC.view (g := g) (w := w) (o := id) (lo := 0) (n := n) (len := n) (cap := cap) (a := some ⟨gb, 0, none⟩) (a' := some ⟨gb, 0, none⟩) hk hv (by omega) (fun _ => by simp [Addr.add]) (fun ad h => by simp at h; subst h; rfl)
    simpa using this

/-- The new array behind an append: old elements, then new ones. -/
theorem arr_append {g1 : G} {id : Id} {e sz : Nat} {es es2 : List (List Cell)} {fr : Bool} {xs news : List Value} (hz : g1.sz id = sz) (ho : w'.ownsRow 0 e sz (g1.β id) (es.length + es2.length) (xs ++ news))
    (hxl : xs.length = es.length * sz) (hs1 : ∀ (k : Nat) x, es[k]? = some x → x.length = sz) (hs2 : ∀ (k : Nat) x, es2[k]? = some x → x.length = sz)
    (hr1 : ∀ (k : Nat) x, es[k]? = some x → ∀ (j : Nat) c, x[j]? = some c → ∃ u, xs[k * sz + j]? = some u ∧ RepP g1.F w' c u)
    (hr2 : ∀ (k : Nat) x, es2[k]? = some x → ∀ (j : Nat) c, x[j]? = some c → ∃ u, news[k * sz + j]? = some u ∧ RepP g1.F w' c u)
    (h1 : ∀ u ∈ xs, u.oneCell' = true) (h2 : ∀ u ∈ news, u.oneCell' = true) (hf : ∀ b o, blockOf (g1.β id) = some b → g1.F b o → fr = true ∧ o < (es.length + es2.length) * sz) : ObjOk g1 w' id (.arr e sz (es ++ es2) fr) := by
  refine .arr (xs ++ news) hz (by rw [List.length_append]; exact ho) (fun k x hx => ?_) (fun k x hx j c hj => ?_) (fun u hu => ?_) (by rw [List.length_append]; exact hf)
  · rw [List.getElem?_append] at hx
    split at hx
    · exact hs1 k x hx
    · exact hs2 _ x hx
  · rw [List.getElem?_append] at hx
    split at hx
    · rename_i hk
      obtain ⟨u, hu, hc⟩ := hr1 k x hx j c hj
      refine ⟨u, ?_, hc⟩
      rw [List.getElem?_append, if_pos (List.getElem?_eq_some_iff.1 hu).1]
      exact hu
    · rename_i hk
      obtain ⟨u, hu, hc⟩ := hr2 _ x hx j c hj
      refine ⟨u, ?_, hc⟩
      have : (k - es.length) * sz = k * sz - es.length * sz := Nat.sub_mul _ _ _
      have hle : es.length * sz ≤ k * sz := Nat.mul_le_mul_right _ (by omega)
      rw [List.getElem?_append, if_neg (by rw [hxl]; omega), hxl, show k * sz + j - es.length * sz = (k - es.length) * sz + j by omega]
      exact hu
  · simp only [List.mem_append] at hu
    rcases hu with hu | hu
    · exact h1 u hu
    · exact h2 u hu

end
end Go.Abs
