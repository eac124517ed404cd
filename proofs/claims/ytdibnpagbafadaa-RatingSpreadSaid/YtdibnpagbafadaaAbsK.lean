/- The abstract evaluator is right: builtins, and all operations at once. -/
import Derived.Test.YtdibnpagbafadaaAbsJ
import Derived.Test.YtdibnpagbafadaaAbsJc
namespace Go.Abs
open Go.RowKit

section
variable {P : Program} {B : Base} {g g' : G} {m m' : Mem} {w w' : World}

theorem le_maxLen_of_bytes {n bytes : Nat} (hb : bytes ≠ 0) (h : n * bytes ≤ 140737488355328) : n ≤ maxLen := by
  have : n ≤ n * bytes := Nat.le_mul_of_pos_right n (by omega)
  simp only [maxLen]; omega

/-- append onto a row of one's own: in its place, or in a new block while all old ones stay. -/
theorem run_append_two {t e : TypeId} {i : TypeInfo} {z : Value} (ht : P.underlying t = some (.slice e)) (hi : P.info? e = some i) (hz : i.zero = some z) (hzs : z.cells.size = i.size) (ty : TypeId)
    {v : Value} {n : Nat} {xs : List Value} (hown : w.ownsRow 0 e i.size v n xs) (ad : Addr) (k c : Nat) (news : List Value) (hl : news.length = k * i.size) (hnews : ∀ (j : Nat) u, news[j]? = some u → w.cell? (ad.add j) = some u) (h1 : ∀ u ∈ news, u.oneCell' = true)
    (h63 : n + k ≤ maxLen) (hbytes : (n + k) * i.bytes ≤ 140737488355328) :
    ∃ v' w', (Builtin.append_ #[t, t] ty #[v, .slice (some ad) k c]).run P w = .ok v' w' ∧ w'.ownsRow 0 e i.size v' (n + k) (xs ++ news) ∧
      ((v'.ownBlock = v.ownBlock ∧ w.grownBy w' v.ownBlock) ∨ (v'.ownBlock = some w.heap.size ∧ w.grownBy w' none)) := by
  have hlen : (xs ++ news).length = (n + k) * i.size := by rw [List.length_append, hown.1, hl, Nat.add_mul]
  rcases hown.2 with ⟨rfl, rfl⟩ | ⟨gb, cap, cur, rfl, _, hh, hnc, hcm, hcs, htk⟩
  · have hx : xs = [] := List.eq_nil_of_length_eq_zero (by simpa using hown.1)
    subst hx
    by_cases hk : k = 0
    · subst hk
      have hn : news = [] := List.eq_nil_of_length_eq_zero (by simpa using hl)
      subst hn
      refine ⟨.slice none 0 0, w, ?_, World.ownsRow_nil w 0 e i.size, .inl ⟨rfl, grownBy_refl _ _⟩⟩
      simp [Builtin.append_, run_underlying ht, sizeOf, typeInfo, hi, Builtin.lenOf, Builtin.firstCells, loadCells, loadCellsFrom]
    · obtain ⟨v', w', r1, r2, r3, r4⟩ := run_append_full (w := w) ht hi hz hzs ty none 0 [] (by simp) (.inl rfl) (fun _ => rfl) ad k c news hl hnews (by omega) h63 hbytes
      exact ⟨v', w', r1, r2, .inr ⟨r4, r3⟩⟩
  · have hcells := hown.cells (g := gb) rfl
    by_cases hroom : n + k ≤ cap
    · have hfit : n * i.size + news.length ≤ cur.size := by rw [hl, hcs, ← Nat.add_mul]; exact Nat.mul_le_mul_right _ hroom
      have hr := run_append_room (P := P) w t ty e i ht hi gb n cap cur hh ad k c news hl hnews h1 hroom hfit
      refine ⟨_, _, hr, ⟨hlen, .inr ⟨gb, cap, _, rfl, Nat.zero_le _, setRow_heap w gb cur _ e _ hh, hroom, hcm, ?_, ?_⟩⟩, .inl ⟨rfl, setRow_grown w gb _⟩⟩
      · simp only [List.size_toArray, List.length_append, List.length_take, List.length_drop, Array.length_toList]
        omega
      · rw [htk, ← hlen]
        exact List.take_left
    · have hr := run_append_grow (P := P) w t ty e i z ht hi hz ⟨gb, 0, none⟩ n cap xs hown.1 hcells ad k c news hl hnews (by omega) (by simp only [maxLen] at h63; omega) (growslice_fits (by omega) hbytes)
      have hge := grownCap_ge w (n + k) cap e
      have hcm : grownCap w (n + k) cap e ≤ maxLen := grownCap_le_maxLen w (n + k) cap e h63
      refine ⟨_, _, hr, ⟨hlen, .inr ⟨w.heap.size, _, _, rfl, Nat.zero_le _, heap_alloc_new w.drew _, hge, hcm, ?_, ?_⟩⟩, .inr ⟨rfl, ⟨rfl, rfl, rfl, by simp, fun k hk _ => heap_alloc_old w.drew _ k hk⟩⟩⟩
      · simp only [Array.size_append, List.size_toArray, size_zeroCells, hzs, hown.1, hl, ← Nat.add_mul]
        congr 1
        omega
      · simp only [Array.toList_append, List.append_assoc]
        rw [← List.append_assoc, ← hlen]
        exact List.take_left

/-- append onto an array of one's own. -/
theorem append_core (hI : Inv B g m w) (d : Nat) (hfd : memN d m.us = false) {t e : TypeId} {i : TypeInfo} {z : Value} (ht : P.underlying t = some (.slice e)) (hi : P.info? e = some i) (hz : i.zero = some z) (hzs : z.cells.size = i.size) (hby : i.bytes ≠ 0) (ty : TypeId)
    {m1 : Mem} (hsub : ∀ i o, mget m1.o i = some o → mget m.o i = some o) (hnx : m1.nx = m.nx ∧ m1.us = m.us)
    {v : Value} {es es2 : List (List Cell)} {xs : List Value} {fr : Bool} (hown : w.ownsRow 0 e i.size v es.length xs) (hrow : ∀ b, blockOf v = some b → (∀ j o, mget m1.o j = some o → blockOf (g.β j) ≠ some b) ∧ (B.w0.heap.size ≤ b ∨ B.X b))
    (hs1 : ∀ (k : Nat) x, es[k]? = some x → x.length = i.size) (hr1 : ∀ (k : Nat) x, es[k]? = some x → ∀ (j : Nat) c, x[j]? = some c → ∃ u, xs[k * i.size + j]? = some u ∧ RepP g.F w c u) (h1 : ∀ u ∈ xs, u.oneCell' = true)
    (hf : ∀ b o, blockOf v = some b → g.F b o → fr = true ∧ o < es.length * i.size)
    {c : Cell} {xv : Value} (hc : RepC g w c xv) (hel : elems m c = some es2) (hs2 : es2.all (fun e => e.length == i.size) = true) (hbytes : (es.length + es2.length) * i.bytes ≤ 140737488355328) :
    ∃ v' w' g', (Builtin.append_ #[t, t] ty #[v, xv]).run P w = .ok v' w' ∧ Ext g w g' w' ∧ RepA g' w' (.c (.view (newId d m) 0 (es.length + es2.length))) v' ∧ Inv B g' (addObj d m1 (.arr e i.size (es ++ es2) fr)) w' := by
  obtain ⟨a, cap, news, rfl, hnl, hna, hnn, hnr, hn1⟩ := elems_ok hI hc hel hs2
  have hrun : ∃ v' w', (Builtin.append_ #[t, t] ty #[v, .slice a es2.length cap]).run P w = .ok v' w' ∧ w'.ownsRow 0 e i.size v' (es.length + es2.length) (xs ++ news) ∧
      ((v'.ownBlock = v.ownBlock ∧ w.grownBy w' v.ownBlock) ∨ (v'.ownBlock = some w.heap.size ∧ w.grownBy w' none)) := by
    cases a with
    | none =>
      have hnil := hnn rfl
      simp at hnil
      obtain ⟨he2, rfl⟩ := hnil
      subst he2
      have hn0 : news = [] := List.eq_nil_of_length_eq_zero (by simpa using hnl)
      subst hn0
      refine ⟨v, w, ?_, by simpa using hown, .inl ⟨rfl, grownBy_refl _ _⟩⟩
      exact run_append_owned_none (w := w) 0 t ty e i i.size ht hi v es.length xs hown
    | some ad =>
      have hcell : ∀ (j : Nat) u, news[j]? = some u → w.cell? (ad.add j) = some u := by
        rcases hna with h | ⟨ad', h, h'⟩
        · have : news = [] := List.eq_nil_of_length_eq_zero (by rw [hnl, h]; simp)
          subst this
          intro j u hu; simp at hu
        · simp at h; subst h; exact h'
      exact run_append_two ht hi hz hzs ty hown ad es2.length cap news hnl hcell hn1 (le_maxLen_of_bytes hby hbytes) hbytes
  obtain ⟨v', w', r1, r2, r3⟩ := hrun
  have hvb : v.ownBlock = blockOf v := owns_block hown
  have hvb' : v'.ownBlock = blockOf v' := owns_block r2
  have hxl : xs.length = es.length * i.size := hown.1
  obtain ⟨row, hg, hrw, hV⟩ : ∃ row, w.grownBy w' row ∧ (∀ b, row = some b → blockOf v = some b ∧ blockOf v' = some b) ∧ (∀ b, blockOf v' = some b → w.heap.size ≤ b ∨ row = some b) := by
    rcases r3 with ⟨e1, e2⟩ | ⟨e1, e2⟩
    · exact ⟨v.ownBlock, e2, fun b hb => ⟨hvb ▸ hb, by rw [← hvb', e1]; exact hb⟩, fun b hb => .inr (by rw [← e1, hvb']; exact hb)⟩
    · exact ⟨none, e2, fun b hb => (by cases hb), fun b hb => .inl (by rw [← hvb', e1] at hb; simp at hb; omega)⟩
  have := inv_add hI d hsub hnx hfd hg (fun b hb => by
      obtain ⟨hb1, hb2⟩ := hrw b hb
      obtain ⟨q1, q2⟩ := hrow b hb1
      refine ⟨q1, q2, fun o hF => ?_⟩
      have hlt := (hf b o hb1 hF).2
      have e1 := hown.cells (g := b) (by rw [hvb]; exact hb1) o _ (List.getElem?_eq_getElem (by omega))
      have e2 := r2.cells (g := b) (by rw [hvb']; exact hb2) o (xs[o]'(by omega)) (by rw [List.getElem?_append, if_pos (by omega)]; exact List.getElem?_eq_getElem _)
      rw [Addr.add_lit, Nat.zero_add] at e1 e2
      rw [e1, e2]) (V := v') (s := i.size) (obj := .arr e i.size (es ++ es2) fr) hV (fun he => by
      have hβ : (addId g (newId d m) v' i.size).β (newId d m) = v' := if_pos rfl
      refine arr_append (if_pos rfl) (by rw [hβ]; exact r2) hxl hs1 (all_len hs2) (fun k x hx j c hj => ?_) (fun k x hx j c hj => ?_) h1 hn1 (fun b o hb hF => ?_)
      · obtain ⟨u, hu, hc⟩ := hr1 k x hx j c hj
        exact ⟨u, hu, hc.ext he.F he.cell⟩
      · obtain ⟨u, hu, hc⟩ := hnr k x hx j c hj
        exact ⟨u, hu, hc.ext he.F he.cell⟩
      · rw [hβ] at hb
        rcases hV b hb with h | h
        · exact absurd (hI.flt b o hF) (by omega)
        · obtain ⟨q1, q2⟩ := hf b o (hrw b h).1 hF
          refine ⟨q1, Nat.lt_of_lt_of_le q2 (Nat.mul_le_mul_right _ (by omega))⟩)
  exact ⟨v', w', _, r1, this.1, .c (owns_view r2 (.inl rfl) (if_pos rfl)), this.2⟩

theorem list1 {α : Type} {a : Array α} {x : α} (h : a.toList = [x]) : a = #[x] := by cases a; simp_all
theorem list2 {α : Type} {a : Array α} {x y : α} (h : a.toList = [x, y]) : a = #[x, y] := by cases a; simp_all

theorem zero_size {t : TypeId} {ti : TI} (h : tiOf P t = some ti) (hz : ti.zero.length = ti.size) : ∃ i z, P.info? t = some i ∧ i.zero = some z ∧ z.cells.size = i.size ∧ ti.size = i.size ∧ ti.bytes = i.bytes := by
  obtain ⟨i, d, z, hi, hd, hz', rfl⟩ := tiOf_spec h
  exact ⟨i, z, hi, hz', by simpa using hz, rfl, rfl⟩

theorem callB_ok (hI : Inv B g m w) {b : Builtin} {argTypes : Array TypeId} {d : Nat} (hfd : memN d m.us = false) {args : List AV} {vals : List Value} {x : AV} (ty : TypeId) (cs : Array Bool)
    (hl : args.length = vals.length) (hr : ∀ (j : Nat) a v, args[j]? = some a → vals[j]? = some v → RepA g w a v) (h : callB P b argTypes.toList d m args = some (x, m')) :
    ∃ v w' g', (builtin b argTypes ty cs vals.toArray).run P w = .ok (.value v) w' ∧ Ext g w g' w' ∧ RepA g' w' x v ∧ Inv B g' m' w' := by
  unfold callB at h
  split at h
  · rename_i t y hat
    match vals, hl with
    | [v], _ =>
    have hy := hr 0 _ v rfl rfl
    split at h
    · rename_i e _ hti
      split at h
      · rename_i n hn
        simp at h
        obtain ⟨rfl, rfl⟩ := h
        obtain ⟨i, dd, z, hi, hd, hz, he⟩ := tiOf_spec hti
        simp only [TI.mk.injEq] at he
        obtain ⟨_, _, _, _, hds, _⟩ := he
        obtain rfl := descOf_slice hds.symm
        cases hy with
        | c hy =>
          obtain ⟨a, cap, rfl, _⟩ := lenC_ok hy hn
          refine ⟨_, w, g, ?_, .refl g w, .c (repC_sc rfl), hI⟩
          rw [list1 hat]
          simp [builtin, Builtin.len_, run_underlying hd, goInt]
      · cases h
    · cases h
  · rename_i k a k' b'
    match vals, hl with
    | [v, v'], _ =>
    have h0 := hr 0 _ v rfl rfl
    have h1 := hr 1 _ v' rfl rfl
    obtain rfl := isInt h0
    obtain rfl := isInt h1
    simp at h
    obtain ⟨rfl, rfl⟩ := h
    exact ⟨_, w, g, by simp [builtin, Builtin.min_, Builtin.min2], .refl g w, .c (repC_sc rfl), hI⟩
  · rename_i k a k' b'
    match vals, hl with
    | [v, v'], _ =>
    have h0 := hr 0 _ v rfl rfl
    have h1 := hr 1 _ v' rfl rfl
    obtain rfl := isInt h0
    obtain rfl := isInt h1
    simp at h
    obtain ⟨rfl, rfl⟩ := h
    exact ⟨_, w, g, by simp [builtin, Builtin.max_, Builtin.max2], .refl g w, .c (repC_sc rfl), hI⟩
  · rename_i t t' s y hat
    match vals, hl with
    | [v, v'], _ =>
    have h0 := hr 0 _ v rfl rfl
    have h1 := hr 1 _ v' rfl rfl
    rw [list2 hat]
    split at h
    · rename_i htt
      subst htt
      split at h
      · rename_i e _ hti
        obtain ⟨i, dd, z, hi, hd, hz, he⟩ := tiOf_spec hti
        simp only [TI.mk.injEq] at he
        obtain ⟨_, _, _, _, hds, _⟩ := he
        obtain rfl := descOf_slice hds.symm
        split at h
        · rename_i te es2 hte hel
          split at h
          · cases h
          · rename_i hc
            simp only [not_or] at hc
            obtain ⟨hc1, hc2, hc3, hc4⟩ := hc
            obtain ⟨i', z', hi', hz', hzs, hs, hb⟩ := zero_size hte (by simpa using hc4)
            rw [hs] at hc1 h
            rw [hb] at hc2 h
            have hs2 : es2.all (fun e => e.length == i'.size) = true := by rw [← hs]; simpa using hc3
            cases h1 with
            | c h1 =>
            split at h
            · split at h
              · rename_i hbytes
                simp at h
                obtain ⟨rfl, rfl⟩ := h
                obtain ⟨hv, _⟩ := isSc h0
                subst hv
                have := append_core hI d hfd hd hi' hz' hzs hc2 ty (m1 := m) (fun _ _ h => h) ⟨rfl, rfl⟩ (es := []) (xs := []) (fr := false) (World.ownsRow_nil w 0 e i'.size) (fun b hb => by simp [blockOf] at hb) (fun k x h => by simp at h) (fun k x h => by simp at h) (fun u h => by simp at h)
                  (fun b o hb => by simp [blockOf] at hb) h1 hel hs2 (by simpa using hbytes)
                obtain ⟨v1, w1, g1, r1, r2, r3, r4⟩ := this
                refine ⟨v1, w1, g1, ?_, r2, by simpa using r3, by simpa using r4⟩
                simp [builtin, r1]
              · cases h
            · rename_i es _
              split at h
              · cases h
              · rename_i x2 r2
                split at h
                · rename_i hbytes
                  obtain ⟨hfull, hbytes⟩ := hbytes
                  simp at h
                  obtain ⟨rfl, rfl⟩ := h
                  cases h0 with
                  | c h0 => cases h0 with
                    | pure h0 => cases h0
                    | full h0 =>
                    rename_i a _
                    obtain ⟨a2, cap2, news, rfl, hnl, hna, hnn, hnr, hn1⟩ := elems_ok hI h1 hel hs2
                    cases a2 with
                    | none => have := hnn rfl; simp at this
                    | some ad =>
                    have hcell : ∀ (j : Nat) u, news[j]? = some u → w.cell? (ad.add j) = some u := by
                      rcases hna with h | ⟨ad', h, h'⟩
                      · cases h
                      · simp at h; subst h; exact h'
                    by_cases hes : es.all (fun e => e.length == i'.size) = true
                    · obtain ⟨xs, x1, x2', x3, x4⟩ := repP_row h0 (all_len hes)
                      have hbytes' : (es.length + (x2 :: r2).length) * i'.bytes ≤ 140737488355328 := by simpa using hbytes
                      obtain ⟨v1, w1, q1, q2, q3, q4⟩ := run_append_full (w := w) hd hi' hz' hzs ty a es.length xs x1 (by
                          rcases x2' with h | h
                          · exact .inl (by rw [h]; rfl)
                          · exact .inr h) (fun h => by subst h; cases h0; rfl) ad _ cap2 news hnl hcell (by simp) (le_maxLen_of_bytes hc2 hbytes') hbytes'
                      have hvb := owns_block q2
                      rw [q4] at hvb
                      have := inv_add (w' := w1) hI d (m1 := m) (fun _ _ h => h) ⟨rfl, rfl⟩ hfd (row := none) q3 (fun b h => by cases h) (V := v1) (s := i'.size) (obj := .arr e i'.size (es ++ x2 :: r2) false) (fun b hb => by rw [hb] at hvb; simp at hvb; exact .inl (by omega)) (fun he => by
                          have hβ : (addId g (newId d m) v1 i'.size).β (newId d m) = v1 := if_pos rfl
                          refine arr_append (if_pos rfl) (by rw [hβ]; exact q2) x1 (all_len hes) (all_len hs2) (fun k x hx j c hj => ?_) (fun k x hx j c hj => ?_) x4 hn1 (fun b o hb hF => ?_)
                          · obtain ⟨u, hu, hc⟩ := x3 k x hx j c hj
                            exact ⟨u, hu, hc.ext he.F he.cell⟩
                          · obtain ⟨u, hu, hc⟩ := hnr k x hx j c hj
                            exact ⟨u, hu, hc.ext he.F he.cell⟩
                          · rw [hβ] at hb
                            rw [hb] at hvb
                            simp at hvb
                            have := hI.flt b o hF
                            omega)
                      refine ⟨v1, w1, _, ?_, this.1, .c (owns_view q2 (.inl rfl) (if_pos rfl)), this.2⟩
                      simp only [builtin, Sem.run_bind]
                      have q1' : (Builtin.append_ #[t, t] ty [Value.slice a es.length es.length, Value.slice (some ad) (x2 :: r2).length cap2].toArray).run P w = .ok v1 w1 := q1
                      rw [q1']
                      rfl
                    · exact absurd hfull hes
                · cases h
            · rename_i o lo n _
              split at h
              · rename_i e' sz es fr hm
                split at h
                · rename_i hcond
                  obtain ⟨rfl, rfl, rfl, rfl, hbytes⟩ := hcond
                  simp at h
                  obtain ⟨rfl, rfl⟩ := h
                  obtain ⟨hko, ho⟩ := hI.ok o _ hm
                  cases ho with
                  | arr us hz'' ho' hs' hr' h1' hf' =>
                  cases h0 with
                  | c h0 => cases h0 with
                    | pure h0 => cases h0
                    | view hk hv hle ha hsp =>
                      rename_i len cap a a' _
                      have hva : Value.slice a' es.length (cap - 0) = g.β o := by
                        have haa := ha (.inr rfl)
                        rw [Nat.zero_mul] at haa
                        have hid : a.map (fun x => x.add 0) = a := by cases a <;> simp [Addr.add]
                        rw [hid] at haa
                        subst haa
                        rcases ho'.2 with ⟨hnil, hz0⟩ | ⟨gb, cap', cur, hb', _, _, hnc, _⟩
                        · rw [hv] at hnil ⊢; simp at hnil
                          obtain ⟨rfl, rfl, rfl⟩ := hnil
                          simp [hz0]
                        · rw [hv] at hb' ⊢; simp at hb'; obtain ⟨rfl, rfl, rfl⟩ := hb'
                          simp
                      rw [hva]
                      have := append_core hI d hfd hd hi' hz' hzs hc2 ty (m1 := { m with o := mdel m.o o }) (fun j oj hj => by
                          rw [mget_mdel] at hj
                          split at hj
                          · cases hj
                          · exact hj) ⟨rfl, rfl⟩ ho' (fun b hb => ⟨fun j oj hj hb2 => by
                          rw [mget_mdel] at hj
                          split at hj
                          · cases hj
                          · rename_i hne
                            exact hI.apart j o oj _ b hj hm hne hb2 hb, hI.own o _ b hm hb⟩) hs' hr' h1' hf' h1 hel hs2 hbytes
                      obtain ⟨v1, w1, g1, r1, r2, r3, r4⟩ := this
                      refine ⟨v1, w1, g1, ?_, r2, r3, r4⟩
                      simp [builtin, r1]
                · cases h
              · cases h
            · cases h
        · cases h
      · cases h
    · cases h
  · rename_i t t' o lo n y hat
    match vals, hl with
    | [v, v'], _ =>
    have h0 := hr 0 _ v rfl rfl
    have h1 := hr 1 _ v' rfl rfl
    rw [list2 hat]
    split at h
    · rename_i e _ hti
      obtain ⟨i, dd, z, hi, hd, hz, he⟩ := tiOf_spec hti
      simp only [TI.mk.injEq] at he
      obtain ⟨_, _, _, _, hds, _⟩ := he
      obtain rfl := descOf_slice hds.symm
      split at h
      · rename_i te es2 e' sz es hte hel hm
        split at h
        · rename_i hcond
          obtain ⟨rfl, rfl, hfit, hs0, hs2⟩ := hcond
          simp at h
          obtain ⟨rfl, rfl⟩ := h
          obtain ⟨i', dd', z', hi', hd'', hz', rfl⟩ := tiOf_spec hte
          cases h1 with
          | c h1 =>
            obtain ⟨w1, g1, r1, r2, r3⟩ := copy_core (t2 := t') hI hd hi' ty h0 hm hfit h1 hel hs2 rfl
            refine ⟨_, w1, g1, ?_, r2, .c (repC_sc rfl), r3⟩
            simp only [builtin, Sem.run_bind]
            have r1' : (Builtin.copy_ #[t, t'] ty [v, v'].toArray).run P w = _ := r1
            rw [r1']
            rfl
        · cases h
      · cases h
    · cases h
  · cases h

end
end Go.Abs
