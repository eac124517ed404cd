/- The abstract evaluator is right: pure data out of cells; new variables; stores. -/
import Derived.Test.YtfhnicamjcfddaaGreatDoorAbsG
import Derived.Laws.CopyRow
namespace Go.Abs
open Go.RowKit

section
variable {P : Program} {B : Base} {g g' : G} {m m' : Mem} {w w' : World}

theorem nrm_rep {F : Nat → Nat → Prop} {v : Value} (h : scalar v = true) : RepP F w (nrm v) v := by
  unfold nrm
  split
  · exact .nil
  · exact .sc h

theorem pur_ok (hI : Inv B g m w) {c c' : Cell} {v : Value} (hr : RepC g w c v) (h : pur m c = some (c', m')) : ∃ g', Ext g w g' w ∧ Inv B g' m' w ∧ RepP g'.F w c' v := by
  unfold pur at h
  split at h
  · simp at h; obtain ⟨rfl, rfl⟩ := h
    cases hr with
    | pure hr => cases hr with
      | sc hs => exact ⟨g, .refl g w, hI, nrm_rep hs⟩
  · simp at h; obtain ⟨rfl, rfl⟩ := h
    cases hr with
    | pure hr => exact ⟨g, .refl g w, hI, hr⟩
  · simp at h; obtain ⟨rfl, rfl⟩ := h
    cases hr with
    | pure hr => cases hr
    | full hr => exact ⟨g, .refl g w, hI, hr⟩
  · rename_i o lo n
    split at h
    · rename_i e sz es fr hm
      split at h
      · rename_i hle
        simp at h; obtain ⟨rfl, rfl⟩ := h
        obtain ⟨he, hI'⟩ := inv_freeze hI hm
        refine ⟨_, he, hI', ?_⟩
        cases hr with
        | pure hr => cases hr
        | view hk hv hle' ha hsp =>
          rename_i len cap a a'
          obtain ⟨_, ho⟩ := hI.ok o _ hm
          cases ho with
          | arr us hz ho hs hr h1 hf =>
            have hlen : ((es.drop lo).take n).length = n := by simp; omega
            by_cases hn : n = 0
            · subst hn
              simp
              cases a' with
              | none =>
                by_cases hc : lo < cap
                · have := ha (.inl hc)
                  rcases ho.2 with ⟨hnil, _⟩ | ⟨gb, cap', cur, hb, _, hh, hnc, hcm, _⟩
                  · rw [hv] at hnil; simp at hnil; omega
                  · rw [hv] at hb; simp at hb; obtain ⟨rfl, _, rfl⟩ := hb
                    simp at this
                · rw [show cap - lo = 0 by omega]; exact .nil
              | some ad =>
                obtain ⟨b, o', sp⟩ := ad
                have := hsp _ rfl
                simp at this
                subst this
                have hcm : cap ≤ maxLen := by
                  rcases ho.2 with ⟨hnil, _⟩ | ⟨gb, cap', cur, hb, _, hh, hnc, hcm, _⟩
                  · rw [hv] at hnil; simp at hnil; omega
                  · rw [hv] at hb; simp at hb; obtain ⟨_, _, rfl⟩ := hb; exact hcm
                have := RepP.lst (F := (frozenG g o (es.length * sz)).F) (w := w) (es := []) (b := b) (off := o') (cap := cap - lo) (sz := 0) (fun _ _ => undef) (fun i e h => by simp at h) (fun i e h => by simp at h) (fun i e h => by simp at h) (by simp) (by omega)
                simpa using this
            · rcases ho.2 with ⟨hnil, hz0⟩ | ⟨gb, cap', cur, hb, _, hh, hnc, hcm, hcs, htk⟩
              · omega
              · rw [hv] at hb; simp at hb; obtain ⟨rfl, rfl, rfl⟩ := hb
                have ha' := ha (.inl (by omega))
                rw [hz] at ha'
                simp only [Option.map_some, Addr.add_lit, Nat.zero_add] at ha'
                subst ha'
                have hsub : ∀ (i : Nat) x, ((es.drop lo).take n)[i]? = some x → es[lo + i]? = some x := fun i x hx => by
                  rw [List.getElem?_take] at hx
                  split at hx
                  · rwa [List.getElem?_drop] at hx
                  · cases hx
                have hcells := ho.cells (g := gb) (by rw [hv]; rfl)
                have key := RepP.lst (F := (frozenG g o (es.length * sz)).F) (w := w) (es := (es.drop lo).take n) (b := gb) (off := lo * sz) (cap := cap - lo) (sz := sz) (fun i j => us.getD ((lo + i) * sz + j) undef)
                  (fun i x hx => hs _ x (hsub i x hx)) (fun i x hx j c hj => ?_) (fun i x hx j c hj => ?_) (by omega) (by omega)
                · rwa [hlen] at key
                · obtain ⟨u, hu, hc⟩ := hr _ x (hsub i x hx) j c hj
                  have e1 : lo * sz + i * sz + j = (lo + i) * sz + j := by rw [Nat.add_mul]
                  have e2 : (lo + i) * sz + j < es.length * sz := by
                    have h1 : lo + i < es.length := (List.getElem?_eq_some_iff.1 (hsub i x hx)).1
                    have h2 : j < sz := by rw [← hs _ x (hsub i x hx)]; exact (List.getElem?_eq_some_iff.1 hj).1
                    calc (lo + i) * sz + j < (lo + i) * sz + sz := by omega
                      _ = (lo + i + 1) * sz := by rw [Nat.add_mul (lo + i) 1, Nat.one_mul]
                      _ ≤ es.length * sz := Nat.mul_le_mul_right _ h1
                  refine ⟨.inr ⟨by rw [hv]; rfl, by rw [e1]; exact e2⟩, ?_⟩
                  have := hcells _ u hu
                  rw [Addr.add_lit, Nat.zero_add] at this
                  rw [e1, this, getD_of hu]
                · obtain ⟨u, hu, hc⟩ := hr _ x (hsub i x hx) j c hj
                  rw [getD_of hu]
                  exact hc.ext he.F he.cell
      · cases h
    · cases h
  · cases h

theorem purL_ok : ∀ {cs cs' : List Cell} {g : G} {m m' : Mem} (_ : Inv B g m w) {us : List Value} (_ : us.length = cs.length) (_ : ∀ (j : Nat) c u, cs[j]? = some c → us[j]? = some u → RepC g w c u) (_ : purL m cs = some (cs', m')),
    cs'.length = cs.length ∧ ∃ g', Ext g w g' w ∧ Inv B g' m' w ∧ ∀ (j : Nat) c u, cs'[j]? = some c → us[j]? = some u → RepP g'.F w c u := by
  intro cs
  induction cs with
  | nil =>
    intro cs' g m m' hI us hl hr h
    simp [purL] at h
    obtain ⟨rfl, rfl⟩ := h
    exact ⟨rfl, g, .refl g w, hI, fun j c u h => by simp at h⟩
  | cons c r ih =>
    intro cs' g m m' hI us hl hr h
    unfold purL at h
    split at h
    · rename_i c' m1 hc
      split at h
      · rename_i r' m2 hr2
        simp at h
        obtain ⟨rfl, rfl⟩ := h
        match us, hl with
        | u :: us, hl =>
          obtain ⟨g1, e1, i1, p1⟩ := pur_ok hI (hr 0 c u rfl rfl) hc
          obtain ⟨hl', g2, e2, i2, p2⟩ := ih i1 (us := us) (by simpa using hl) (fun j c' u' h1 h2 => (hr (j + 1) c' u' (by simpa using h1) (by simpa using h2)).ext e1) hr2
          refine ⟨by simp [hl'], g2, e1.trans e2, i2, fun j c'' u'' h1 h2 => ?_⟩
          cases j with
          | zero => simp at h1 h2; subst h1; subst h2; exact p1.ext e2.F e2.cell
          | succ j => simp at h1 h2; exact p2 j c'' u'' h1 h2
      · cases h
    · cases h

theorem pur_nu {m m' : Mem} {c c' : Cell} (h : pur m c = some (c', m')) : m'.nx = m.nx ∧ m'.us = m.us := by
  unfold pur at h
  split at h
  · simp at h; rw [← h.2]; exact ⟨rfl, rfl⟩
  · simp at h; rw [← h.2]; exact ⟨rfl, rfl⟩
  · simp at h; rw [← h.2]; exact ⟨rfl, rfl⟩
  · split at h
    · split at h
      · simp at h; rw [← h.2]; exact ⟨rfl, rfl⟩
      · cases h
    · cases h
  · cases h
theorem purL_nu {m' : Mem} : ∀ {l l' : List Cell} {m : Mem}, purL m l = some (l', m') → m'.nx = m.nx ∧ m'.us = m.us
  | [], _, _, h => by simp [purL] at h; rw [← h.2]; exact ⟨rfl, rfl⟩
  | c :: r, l', m, h => by
    unfold purL at h
    split at h
    · rename_i e1
      split at h
      · rename_i e2
        simp at h
        rw [← h.2]
        have a := pur_nu e1
        have b := purL_nu e2
        exact ⟨b.1.trans a.1, b.2.trans a.2⟩
      · cases h
    · cases h
theorem parts_nu {L : Nat → Option AV} {sz : Nat} {m' : Mem} : ∀ {l : List (Nat × Operand)} {i : Nat} {es : List (List Cell)} {m : Mem}, parts L sz i l m = some (es, m') → m'.nx = m.nx ∧ m'.us = m.us
  | [], _, _, _, h => by simp [parts] at h; rw [← h.2]; exact ⟨rfl, rfl⟩
  | (k, x) :: r, i, es, m, h => by
    unfold parts at h
    split at h
    · split at h
      · split at h
        · split at h
          · split at h
            · rename_i e1
              split at h
              · rename_i e2
                simp at h
                rw [← h.2]
                have a := purL_nu e1
                have b := parts_nu e2
                exact ⟨b.1.trans a.1, b.2.trans a.2⟩
              · cases h
            · cases h
          · cases h
        · cases h
      · cases h
    · cases h

/-! ### New variables -/

theorem heap_new (w : World) (o : Obj) : (w.alloc o).heap[w.heap.size]? = some o := by
  show (w.heap.push o)[w.heap.size]? = _
  simp

theorem new_blk (hI : Inv B g m w) (d : Nat) (hfd : memU d m.us = false) {cs : List Cell} {us : List Value} (T : TypeId) (hl : us.length = cs.length) (hr : ∀ (j : Nat) c u, cs[j]? = some c → us[j]? = some u → RepC g w c u) (h1 : ∀ u ∈ us, u.oneCell' = true) :
    ∃ g', Ext g w g' (w.alloc (.cells us.toArray T)) ∧ Inv B g' (addObj d m (.blk cs)) (w.alloc (.cells us.toArray T)) ∧ RepA g' (w.alloc (.cells us.toArray T)) (.c (.ptr (newId d m) 0)) (.pointer (some ⟨w.heap.size, 0, none⟩)) := by
  have := inv_add (w' := w.alloc (.cells us.toArray T)) hI d (m1 := m) (fun _ _ h => h) ⟨rfl, rfl⟩ hfd (row := none) (World.grownBy_alloc w _ none) (fun b h => by cases h) (V := .pointer (some ⟨w.heap.size, 0, none⟩)) (s := 0) (obj := .blk cs)
    (fun b hb => by simp [blockOf] at hb; exact .inl (by omega)) (fun he => .blk us (if_pos rfl) (heap_new w _) hl (fun j c u h1 h2 => (hr j c u h1 h2).ext he) h1 (fun o hF => by have := hI.flt _ _ hF; omega))
  exact ⟨_, this.1, this.2, .c (.ptr (.inl rfl) (if_pos rfl))⟩

theorem alloc_ok (hI : Inv B g m w) (d : Nat) (hfd : memU d m.us = false) {T : TypeId} {ti : TI} (hti : tiOf P T = some ti) {cs : List Cell} (hc : constCells ti.zero = some cs) :
    ∃ v w' g', (Instr.alloc T true (.tuple #[])).run P w = .ok v w' ∧ Ext g w g' w' ∧ RepA g' w' (.c (.ptr (newId d m) 0)) v ∧ Inv B g' (addObj d m (.blk cs)) w' := by
  obtain ⟨i, dd, z, hi, hd, hz, rfl⟩ := tiOf_spec hti
  obtain ⟨hl, hr⟩ := constCells_rep (g := g) (w := w) hc
  obtain ⟨hcs, hsc⟩ := constCells_spec hc
  obtain ⟨g', e, i', r⟩ := new_blk (g := g) hI d hfd (cs := cs) (us := z.cells.toList) T hl hr (fun u hu => by have := hsc u hu; cases u <;> simp_all [scalar, Value.oneCell'])
  refine ⟨_, _, g', ?_, e, r, i'⟩
  simp [Instr.alloc, zeroValue, typeInfo, hi, hz, newVar, newRow]

theorem box_ok (hI : Inv B g m w) (d : Nat) (hfd : memU d m.us = false) {T : TypeId} {x : AV} {v : Value} {cs : List Cell} (hc : avCells x = some cs) (hr : RepA g w x v) :
    ∃ u w' g', (Instr.box T v).run P w = .ok u w' ∧ Ext g w g' w' ∧ RepA g' w' (.c (.ptr (newId d m) 0)) u ∧ Inv B g' (addObj d m (.blk cs)) w' := by
  obtain ⟨hl, hrc⟩ := avCells_rep hc hr (repA_one hr)
  obtain ⟨g', e, i', r⟩ := new_blk (g := g) hI d hfd (cs := cs) (us := v.cells.toList) T (by simpa using hl) (fun j c u h1 h2 => hrc j c u h1 (by simpa using h2)) (cells_one hc hr)
  refine ⟨_, _, g', ?_, e, r, i'⟩
  simp [Instr.box, newVar, newRow]

/-! ### Stores -/

theorem wr_get {α : Type} (cs : List α) (off : Nat) (xs : List α) (h : off + xs.length ≤ cs.length) (j : Nat) :
    (cs.take off ++ (xs ++ cs.drop (off + xs.length)))[j]? = if off ≤ j ∧ j < off + xs.length then xs[j - off]? else cs[j]? := by
  rw [List.getElem?_append, List.length_take, Nat.min_eq_left (by omega)]
  by_cases h1 : j < off
  · rw [if_pos h1, if_neg (by omega), List.getElem?_take, if_pos h1]
  · rw [if_neg h1, List.getElem?_append]
    by_cases h2 : j - off < xs.length
    · rw [if_pos h2, if_pos (by omega)]
    · rw [if_neg h2, if_neg (by omega), List.getElem?_drop]
      congr 1
      omega
theorem wr_len {α : Type} (cs : List α) (off : Nat) (xs : List α) (h : off + xs.length ≤ cs.length) : (cs.take off ++ (xs ++ cs.drop (off + xs.length))).length = cs.length := by
  simp; omega

theorem set_get {α : Type} {l : List α} {k j : Nat} {a x : α} (h : (l.set k a)[j]? = some x) : (j = k ∧ x = a) ∨ (j ≠ k ∧ l[j]? = some x) := by
  rw [List.getElem?_set] at h
  by_cases hk : k = j
  · subst hk
    rw [if_pos rfl] at h
    by_cases hl : k < l.length
    · rw [if_pos hl] at h
      simp at h
      exact .inl ⟨rfl, h.symm⟩
    · rw [if_neg hl] at h; cases h
  · rw [if_neg hk] at h
    exact .inr ⟨fun e => hk e.symm, h⟩

theorem run_storeVar {t : TypeId} {ti : TypeInfo} (hi : P.info? t = some ti) {b off : Nat} {T : TypeId} {cur : List Value} (hh : w.heap[b]? = some (.cells cur.toArray T (0, 0))) {v : Value} (hs : v.cells.size = ti.size)
    (hfit : off + ti.size ≤ cur.length) (h1 : ∀ u ∈ v.cells.toList, u.oneCell' = true) :
    (storeVar t ⟨b, off, none⟩ v).run P w = .ok () (w.setRow b (cur.take off ++ (v.cells.toList ++ cur.drop (off + v.cells.toList.length))).toArray) := by
  have := run_storeCells_at P b off T v.cells.toList 0 cur.toArray w hh (by simp; omega) h1
  simp only [Nat.add_zero, List.append_assoc] at this
  simp [storeVar, run_sizeOf hi, hs, this]

theorem setRow_grown (w : World) (b : Nat) (cs : Array Value) : w.grownBy (w.setRow b cs) (some b) := ⟨rfl, rfl, rfl, by simp, fun k _ hk => setRow_other w b k cs (fun e => hk (by rw [e]))⟩

theorem storeF_ok (hI : Inv B g m w) {t : TypeId} {ti : TI} (hti : tiOf P t = some ti) {p x : AV} {pv v : Value} (hp : RepA g w p pv) (hx : RepA g w x v) (h : storeF ti m p x = some m') :
    ∃ w' g', (Instr.storeAt t pv v).run P w = .ok () w' ∧ Ext g w g' w' ∧ Inv B g' m' w' := by
  obtain ⟨i, dd, z, hi, hd, hz, rfl⟩ := tiOf_spec hti
  unfold storeF at h
  split at h
  · cases h
  · rename_i cs' hcs'
    obtain ⟨hvl, hvr⟩ := avCells_rep hcs' hx (repA_one hx)
    have hv1 := cells_one hcs' hx
    simp only at h
    split at h
    · rename_i hlen
      split at h
      · rename_i j off
        split at h
        · rename_i cs hm
          split at h
          · rename_i hfit
            simp at h; subst h
            cases hp with
            | c hp => cases hp with
              | pure hp => cases hp
              | ptr hk hv =>
                rename_i b
                obtain ⟨_, ho⟩ := hI.ok j _ hm
                cases ho with
                | blk us hv' hh hl hr h1 hf =>
                  rename_i b' T
                  rw [hv] at hv'
                  simp at hv'
                  subst hv'
                  have hrun := run_storeVar (P := P) hi (off := off) hh (v := v) (by omega) (by omega) hv1
                  have hl2 : v.cells.toList.length = cs'.length := by simpa using hvl
                  have := inv_upd (w' := w.setRow b (us.take off ++ (v.cells.toList ++ us.drop (off + v.cells.toList.length))).toArray) hI hm (setRow_grown w b _) (fun b'' hb => by simp at hb; subst hb; rw [hv]; rfl)
                    (fun b'' x hb hF => by simp at hb; subst hb; exact (hf x hF).elim) (o' := .blk (wr cs off cs'))
                    (fun he => .blk (us.take off ++ (v.cells.toList ++ us.drop (off + v.cells.toList.length))) hv (setRow_heap w b _ _ T _ hh) (by rw [wr_len _ _ _ (by omega), wr, wr_len _ _ _ (by omega)]; exact hl) (fun k c u hc hu => by
                        rw [wr, wr_get _ _ _ (by omega)] at hc
                        rw [wr_get _ _ _ (by omega)] at hu
                        rw [hl2] at hu
                        split at hc
                        · rename_i hk
                          rw [if_pos hk] at hu
                          exact (hvr _ c u hc (by simpa using hu)).ext he
                        · rename_i hk
                          rw [if_neg hk] at hu
                          exact (hr k c u hc hu).ext he) (fun u hu => by
                        simp only [List.mem_append] at hu
                        rcases hu with hu | hu | hu
                        · exact h1 u (List.mem_of_mem_take hu)
                        · exact hv1 u hu
                        · exact h1 u (List.mem_of_mem_drop hu)) hf)
                  exact ⟨_, g, by simpa [Instr.storeAt, Instr.sureAddr] using hrun, this.1, this.2⟩
          · cases h
        · cases h
      · rename_i o k kk
        split at h
        · rename_i pcs m1 hpur
          obtain ⟨hl', g1, e1, i1, p1⟩ := purL_ok hI (us := v.cells.toList) (by simpa using hvl) (fun j c u h1 h2 => hvr j c u h1 (by simpa using h2)) hpur
          split at h
          · rename_i e sz es hm
            split at h
            · rename_i cs hcs
              split at h
              · rename_i hfit
                simp at h; subst h
                have hp' := hp.ext e1
                cases hp' with
                | c hp => cases hp with
                  | pure hp => cases hp
                  | aptr hk hv =>
                    rename_i b len cap
                    obtain ⟨_, ho⟩ := i1.ok o _ hm
                    cases ho with
                    | arr us hz ho hs hr h1 hf =>
                      have hkl : k < es.length := (List.getElem?_eq_some_iff.1 hcs).1
                      rcases ho.2 with ⟨hnil, hz0⟩ | ⟨gb, cap', cur, hb, _, hh, hnc, hcm, hcsz, htk⟩
                      · omega
                      · rw [hv] at hb; simp at hb; obtain ⟨rfl, rfl, rfl⟩ := hb
                        have hcl : cs.length = sz := hs k cs hcs
                        have hrow : k * sz + sz ≤ es.length * sz := by
                          rw [← Nat.succ_mul]; exact Nat.mul_le_mul_right _ hkl
                        have hcap : es.length * sz ≤ cap * sz := Nat.mul_le_mul_right _ hnc
                        have hvl2 : v.cells.toList.length = i.size := by simp; omega
                        have hcur : cur.toList.length = cap * sz := by simpa using hcsz
                        have husl : us.length = es.length * sz := ho.1
                        have hrun := run_storeVar (P := P) hi (b := b) (off := k * sz + kk) (T := e) (cur := cur.toList) (by simpa using hh) (v := v) (by omega) (by omega) hv1
                        have hnew : ∀ j, (us.take (k * sz + kk) ++ (v.cells.toList ++ us.drop (k * sz + kk + v.cells.toList.length)))[j]? = if k * sz + kk ≤ j ∧ j < k * sz + kk + v.cells.toList.length then v.cells.toList[j - (k * sz + kk)]? else us[j]? := wr_get us _ _ (by omega)
                        have := inv_upd (w' := w.setRow b (cur.toList.take (k * sz + kk) ++ (v.cells.toList ++ cur.toList.drop (k * sz + kk + v.cells.toList.length))).toArray) i1 hm (setRow_grown w b _) (fun b'' hb => by simp at hb; subst hb; rw [hv]; rfl)
                          (fun b'' x hb hF => by simp at hb; subst hb; have := (hf b x (by rw [hv]; rfl) hF).1; cases this) (o' := .arr e sz (es.set k (wr cs kk pcs)) false)
                          (fun he => .arr (us.take (k * sz + kk) ++ (v.cells.toList ++ us.drop (k * sz + kk + v.cells.toList.length))) hz ⟨by rw [wr_len _ _ _ (by omega)]; simpa using husl, .inr ⟨b, cap, _, by simpa using hv, Nat.zero_le _, setRow_heap w b _ _ e _ hh, by simpa using hnc, hcm, by
                              have := wr_len cur.toList (k * sz + kk) v.cells.toList (by omega)
                              simp only [List.size_toArray]
                              omega, by
                              simp only [List.length_set]
                              apply List.ext_getElem?
                              intro j
                              rw [hnew, List.getElem?_take]
                              have hcg := wr_get cur.toList (k * sz + kk) v.cells.toList (by omega) j
                              by_cases hj : j < es.length * sz
                              · rw [if_pos hj, hcg]
                                have : us[j]? = cur.toList[j]? := by rw [← htk, List.getElem?_take, if_pos hj]
                                rw [this]
                              · rw [if_neg hj, if_neg (by omega)]
                                exact (List.getElem?_eq_none (by omega)).symm⟩⟩ (fun k' x hx => by
                              rcases set_get hx with ⟨rfl, rfl⟩ | ⟨_, hx⟩
                              · rw [wr, wr_len _ _ _ (by omega)]; exact hcl
                              · exact hs k' x hx) (fun k' x hx j c hj => by
                              have old : ∀ y, es[k']? = some y → y[j]? = some c → ¬ (k * sz + kk ≤ k' * sz + j ∧ k' * sz + j < k * sz + kk + v.cells.toList.length) →
                                  ∃ u, (us.take (k * sz + kk) ++ (v.cells.toList ++ us.drop (k * sz + kk + v.cells.toList.length)))[k' * sz + j]? = some u ∧ RepP g1.F (w.setRow b (cur.toList.take (k * sz + kk) ++ (v.cells.toList ++ cur.toList.drop (k * sz + kk + v.cells.toList.length))).toArray) c u := fun y hy hjy hno => by
                                obtain ⟨u, hu, hc⟩ := hr k' y hy j c hjy
                                exact ⟨u, by rw [hnew, if_neg hno]; exact hu, hc.ext he.F he.cell⟩
                              rcases set_get hx with ⟨hkk, rfl⟩ | ⟨hne, hx⟩
                              · rw [hkk] at old ⊢
                                rw [wr, wr_get _ _ _ (by omega)] at hj
                                split at hj
                                · rename_i hjj
                                  have hju : (v.cells.toList[j - kk]?).isSome = true := by rw [List.getElem?_eq_getElem (by omega)]; rfl
                                  obtain ⟨u, hu⟩ := Option.isSome_iff_exists.1 hju
                                  refine ⟨u, ?_, (p1 _ c u hj hu).ext he.F he.cell⟩
                                  rw [hnew, if_pos (by omega)]
                                  rw [show k * sz + j - (k * sz + kk) = j - kk by omega]
                                  exact hu
                                · rename_i hjj
                                  exact old cs hcs hj (by omega)
                              · refine old x hx hj ?_
                                have hjs : j < sz := by rw [← hs k' x hx]; exact (List.getElem?_eq_some_iff.1 hj).1
                                intro hin
                                rcases Nat.lt_or_gt_of_ne (Ne.symm hne) with hlt | hgt
                                · have : (k + 1) * sz ≤ k' * sz := Nat.mul_le_mul_right _ hlt
                                  rw [Nat.add_mul, Nat.one_mul] at this
                                  omega
                                · have : (k' + 1) * sz ≤ k * sz := Nat.mul_le_mul_right _ hgt
                                  rw [Nat.add_mul, Nat.one_mul] at this
                                  omega) (fun u hu => by
                              simp only [List.mem_append] at hu
                              rcases hu with hu | hu | hu
                              · exact h1 u (List.mem_of_mem_take hu)
                              · exact hv1 u hu
                              · exact h1 u (List.mem_of_mem_drop hu)) (fun b' o' hb' hF => by simpa using hf b' o' hb' hF))
                        refine ⟨_, g1, ?_, e1.trans this.1, this.2⟩
                        rw [hz]
                        simpa [Instr.storeAt, Instr.sureAddr] using hrun
              · cases h
            · cases h
          · cases h
        · cases h
      · cases h
    · cases h

end
end Go.Abs
