/- Proved here: what functions of the given program come to, and the plain laws of it; no condition but those in the theorems. -/
import Derived.Test.YtknjncmgohjpkaaAbsP
import Derived.Deep.Fields
/- Arguments that come in: slices of numbers, truth values or flat structs, and structs of such. -/
namespace Go.Abs
open Go.RowKit Go.ChangeShapes Go.WideShapes Go.Deep

/-- What an element's cells are: a number of a kind, or a truth value. -/
def flatKs (P : Program) : Nat → List Field → Option (List (Option IntKind))
  | _, [] => some []
  | i, f :: r => if f.offset = i ∧ P.cellsOf f.type = 1 then (match P.underlying f.type with
    | some (.int k) => (flatKs P (i + 1) r).map (some k :: ·)
    | some .bool => (flatKs P (i + 1) r).map (none :: ·)
    | _ => none) else none
def elKs (P : Program) (e : TypeId) : Option (List (Option IntKind)) := match P.underlying e with
  | some (.int k) => some [some k]
  | some .bool => some [none]
  | some (.struct fs) => flatKs P 0 fs.toList
  | _ => none
def ksOk : List (Option IntKind) → List Cell → Prop
  | [], [] => True
  | some k :: ks, .sc (.int k' _) :: r => k' = k ∧ ksOk ks r
  | none :: ks, .sc (.bool _) :: r => ksOk ks r
  | _, _ => False
def allSc : List Value → Prop := fun l => ∀ u ∈ l, scalar u = true

section
variable {H : Type} {enc : TypeId × Value → H} {P : Program} {w : World} {base : Nat} {spare : Nat → Bool} {held : Bool}

theorem flatKs_ok : ∀ (l : List Field) (i n : Nat) (cs : List Value) (ks : List (Option IntKind)), flatKs P i l = some ks → cs.length = i + l.length →
    (∀ (j : Nat) f, l[j]? = some f → ∃ y, DataW.trod enc P w base spare held n f.type ((cs.drop f.offset).take (P.cellsOf f.type)) = some y) →
    ksOk ks ((cs.drop i).map .sc) ∧ allSc (cs.drop i)
  | [], i, n, cs, ks, h, hl, _ => by
    simp [flatKs] at h
    subst h
    rw [List.drop_eq_nil_of_le (by simp at hl; omega)]
    exact ⟨trivial, fun u hu => by simp at hu⟩
  | f :: r, i, n, cs, ks, h, hl, ht => by
    simp only [flatKs] at h
    split at h
    case isFalse => cases h
    rename_i hf
    obtain ⟨y, hy⟩ := ht 0 f rfl
    rw [hf.1, hf.2] at hy
    have hi : i < cs.length := by simp at hl; omega
    rw [List.drop_eq_getElem_cons hi] at hy ⊢
    have hy : DataW.trod enc P w base spare held n f.type [cs[i]] = some y := hy
    have ih := fun ks2 h2 => flatKs_ok r (i + 1) n cs ks2 h2 (by simp at hl; omega) fun j f' hj => ht (j + 1) f' (by simpa using hj)
    split at h
    · rename_i k hd
      obtain ⟨ks2, h2, rfl⟩ := Option.map_eq_some_iff.1 h
      obtain ⟨i1, i2⟩ := ih ks2 h2
      obtain ⟨m, hm, _⟩ := DataW.trod_int hd hy
      simp only [List.cons.injEq, and_true] at hm
      rw [hm]
      exact ⟨⟨rfl, i1⟩, fun u hu => by
        rcases List.mem_cons.1 hu with rfl | hu
        · rfl
        · exact i2 u hu⟩
    · rename_i hd
      obtain ⟨ks2, h2, rfl⟩ := Option.map_eq_some_iff.1 h
      obtain ⟨i1, i2⟩ := ih ks2 h2
      obtain ⟨b, hb, _⟩ := DataW.trod_bool hd hy
      simp only [List.cons.injEq, and_true] at hb
      rw [hb]
      exact ⟨i1, fun u hu => by
        rcases List.mem_cons.1 hu with rfl | hu
        · rfl
        · exact i2 u hu⟩
    · cases h

theorem elKs_ok {e : TypeId} {ks : List (Option IntKind)} (hk : elKs P e = some ks) (hC : P.cellsOf e = ks.length) {n : Nat} {cs : List Value} {y : DataW H × List MemPlace} (h : DataW.trod enc P w base spare held n e cs = some y) :
    ksOk ks (cs.map .sc) ∧ allSc cs := by
  unfold elKs at hk
  split at hk
  · rename_i k hd
    simp at hk; subst hk
    obtain ⟨m, rfl, _⟩ := DataW.trod_int hd h
    exact ⟨⟨rfl, trivial⟩, fun u hu => by simp at hu; subst hu; rfl⟩
  · rename_i hd
    simp at hk; subst hk
    obtain ⟨b, rfl, _⟩ := DataW.trod_bool hd h
    exact ⟨trivial, fun u hu => by simp at hu; subst hu; rfl⟩
  · rename_i fs hd
    obtain ⟨xs, m, _, _, hlen, hxl, hf⟩ := DataW.trod_struct hd h
    have hkl : ∀ (l : List Field) (i : Nat) (ks : List (Option IntKind)), flatKs P i l = some ks → ks.length = l.length := by
      intro l
      induction l with
      | nil => intro i ks h; simp [flatKs] at h; subst h; rfl
      | cons f r ih =>
        intro i ks h
        simp only [flatKs] at h
        split at h
        · split at h
          · obtain ⟨k2, h2, rfl⟩ := Option.map_eq_some_iff.1 h; simp [ih _ _ h2]
          · obtain ⟨k2, h2, rfl⟩ := Option.map_eq_some_iff.1 h; simp [ih _ _ h2]
          · cases h
        · cases h
    have := hkl _ _ _ hk
    have q := flatKs_ok fs.toList 0 m cs ks hk (by rw [hlen, hC, this]; simp) (fun j f hj => by
      have hj' : fs[j]? = some f := by simpa using hj
      have hjl : j < xs.length := by rw [hxl]; exact (Array.getElem?_eq_some_iff.1 hj').1
      exact ⟨xs[j], by rw [hf j f hj']; exact List.getElem?_eq_getElem hjl⟩)
    simpa using q
  · cases hk

/-- A slice that came in, of elements without pointers. -/
theorem flat_row {t e : TypeId} {ks : List (Option IntKind)} (ht : P.underlying t = some (.slice e)) (hk : elKs P e = some ks) (hC : P.cellsOf e = ks.length) {fuel : Nat} {v : Value} {x : DataW H × List MemPlace}
    (hspot : ∀ a len cap, v = .slice (some a) len cap → a.spot = none) (h : DataW.trod enc P w base spare held fuel t [v] = some x) :
    ∃ es, RepP (FIn w) w (.lst es) v ∧ es.length ≤ maxLen ∧ ∀ y ∈ es, ksOk ks y := by
  rcases open_slice ht h with ⟨h0, _⟩ | ⟨a, len, cap, m, n, D, Pl, hcs, hb, hl, hm, hmm, hx, hi⟩
  · simp only [List.cons.injEq, and_true] at h0
    subst h0
    exact ⟨[], .nil, Nat.zero_le _, fun y hy => by simp at hy⟩
  · simp only [List.cons.injEq, and_true] at hcs
    subst hcs
    have hs := hspot a len cap rfl
    have hlm : len ≤ m := by rw [hmm]; split <;> omega
    have hE : ∀ i, ∃ cs' : List Value, i < len → (cs'.length = ks.length ∧ (∀ j, j < ks.length → w.cell? (a.add (i * ks.length + j)) = cs'[j]?) ∧ ksOk ks (cs'.map .sc) ∧ allSc cs') := fun i => by
      by_cases hi' : i < len
      · obtain ⟨cs', h1, h2⟩ := hi i (by omega)
        rw [hC] at h1
        obtain ⟨_, hcl, hat⟩ := World.cells?_some h1
        obtain ⟨q1, q2⟩ := elKs_ok hk hC h2
        exact ⟨cs', fun _ => ⟨hcl, fun j hj => by rw [← add_add]; exact hat j hj, q1, q2⟩⟩
      · exact ⟨[], fun h => absurd h hi'⟩
    obtain ⟨E, hE⟩ := Classical.axiomOfChoice hE
    have hget : ∀ (i : Nat) z, ((List.range len).map fun i => (E i).map Cell.sc)[i]? = some z → i < len ∧ z = (E i).map Cell.sc := fun i z hz => by
      rw [List.getElem?_map] at hz
      obtain ⟨i', h1, rfl⟩ := Option.map_eq_some_iff.1 hz
      obtain ⟨h2, h3⟩ := List.getElem?_eq_some_iff.1 h1
      simp at h2 h3
      subst h3
      exact ⟨h2, rfl⟩
    have hax : a = ⟨a.block, a.off, none⟩ := by cases a; simp only at hs; subst hs; rfl
    refine ⟨(List.range len).map fun i => (E i).map Cell.sc, ?_, by simp; omega, fun y hy => ?_⟩
    · have key := RepP.lst (F := FIn w) (w := w) (es := (List.range len).map fun i => (E i).map Cell.sc) (b := a.block) (off := a.off) (cap := cap) (sz := ks.length) (fun i j => (E i).getD j (.bool false))
        (fun i z hz => by
          obtain ⟨h1, rfl⟩ := hget i z hz
          rw [List.length_map]; exact (hE i h1).1)
        (fun i z hz j c hj => by
          obtain ⟨h1, rfl⟩ := hget i z hz
          obtain ⟨e1, e2, _, _⟩ := hE i h1
          rw [List.getElem?_map] at hj
          obtain ⟨u, hu, rfl⟩ := Option.map_eq_some_iff.1 hj
          have hjl : j < ks.length := by rw [← e1]; exact (List.getElem?_eq_some_iff.1 hu).1
          have hc := e2 j hjl
          rw [addr_add hs, hu] at hc
          rw [List.getD_eq_getElem?_getD, hu, Nat.add_assoc]
          exact ⟨cell_lt (a := ⟨a.block, a.off + (i * ks.length + j), none⟩) hc, hc⟩)
        (fun i z hz j c hj => by
          obtain ⟨h1, rfl⟩ := hget i z hz
          rw [List.getElem?_map] at hj
          obtain ⟨u, hu, rfl⟩ := Option.map_eq_some_iff.1 hj
          rw [List.getD_eq_getElem?_getD, hu]
          exact .sc ((hE i h1).2.2.2 u (List.mem_of_getElem? hu))) (by simp; exact hl) hm
      rw [show ((List.range len).map fun i => (E i).map Cell.sc).length = len by simp] at key
      rw [hax]
      exact key
    · obtain ⟨i, hi', rfl⟩ := List.mem_map.1 hy
      exact (hE i (by simpa using hi')).2.2.1
end
theorem cell_spot {P : Program} {w : World} {r : Reach} {b : Nat} {u : TypeId} {a : Addr} {len cap : Nat} (h : Cell.okWide P w r b u (.slice (some a) len cap)) : a.spot = none := by
  unfold Cell.okWide at h
  split at h
  all_goals first
    | (rename_i hh; cases hh; done)
    | (rename_i hh _; cases hh; done)
    | skip
  unfold Cell.ok at h
  split at h
  all_goals first
    | exact h.elim
    | (rename_i hh; cases hh; done)
    | (rename_i hh _; cases hh; done)
    | skip
  · rename_i hh
    simp only [Value.slice.injEq, Option.some.injEq] at hh
    obtain ⟨rfl, rfl, rfl⟩ := hh
    exact h.2.2.2.1
theorem struct_spots {P : Program} {w : World} {r : Reach} {b : Nat} {t : TypeId} {fs : Array Field} (ht : P.underlying t = some (.struct fs)) {v : Value} (h : Value.okWide P w r b t v) :
    ∃ us : List Value, v = .agg us.toArray ∧ us.length = P.cellsOf t ∧ ∀ u ∈ us, ∀ a len cap, u = .slice (some a) len cap → a.spot = none := by
  simp only [Value.okWide, ht] at h
  obtain ⟨cs, rfl, h2, ts, _, _, h5⟩ := h
  refine ⟨cs.toList, rfl, by simpa using h2, fun u hu a len cap e => ?_⟩
  obtain ⟨i, hi, rfl⟩ := List.getElem_of_mem hu
  obtain ⟨x, _, h6⟩ := h5 i cs.toList[i] (by simp at hi; simp [hi])
  rw [e] at h6
  exact cell_spot h6
/-- A struct of one-cell fields that came in: each field reads by itself. -/
theorem struct_arg {H : Type} {enc : TypeId × Value → H} {P : Program} {w : World} {base : Nat} {spare : Nat → Bool} {held : Bool} {r : Reach} {b : Nat} {t : TypeId} {fs : Array Field} (ht : P.underlying t = some (.struct fs)) (hone : oneCellFields P fs = true) (hC : P.cellsOf t = fs.size)
    {v : Value} {d : DataW H} {p : List MemPlace} (hv : Value.okWide P w r b t v) (h : DataW.Trod enc P w base spare held t v d p) :
    ∃ us : List Value, v = .agg us.toArray ∧ us.length = fs.size ∧ ∀ (j : Nat) f, fs[j]? = some f → ∃ u y n, us[j]? = some u ∧ DataW.trod enc P w base spare held n f.type [u] = some y ∧ ∀ a len cap, u = .slice (some a) len cap → a.spot = none := by
  obtain ⟨us, rfl, hl, hsp⟩ := struct_spots ht hv
  refine ⟨us, rfl, hl.trans hC, fun j f hj => ?_⟩
  obtain ⟨fuel, hf⟩ := h
  obtain ⟨xs, n, _, hx, _, hlen, hg⟩ := DataW.trod_struct ht hf
  obtain ⟨o0, k0⟩ := hone_of hone j f hj
  have hjl : j < fs.size := (Array.getElem?_eq_some_iff.1 hj).1
  have hju : j < us.length := by omega
  have q := hg j f hj
  rw [o0, k0] at q
  have e1 : ((Value.agg us.toArray).cells.toList.drop j).take 1 = [us[j]] := by
    show (us.drop j).take 1 = _
    rw [List.drop_eq_getElem_cons hju]
    rfl
  rw [e1] at q
  exact ⟨us[j], xs[j]'(by omega), n, List.getElem?_eq_getElem hju, by rw [q]; exact List.getElem?_eq_getElem (by omega), hsp _ (List.getElem_mem hju)⟩
/-- Elements of one form are a list's. -/
theorem all_form {α : Type} {f : α → List Cell} {p : List Cell → Prop} (hf : ∀ y, p y → ∃ a, y = f a) : ∀ {es : List (List Cell)}, (∀ y ∈ es, p y) → ∃ l : List α, es = l.map f
  | [], _ => ⟨[], rfl⟩
  | y :: r, h => by
    obtain ⟨a, rfl⟩ := hf y (h y (by simp))
    obtain ⟨l, rfl⟩ := all_form (es := r) hf (fun z hz => h z (List.mem_cons_of_mem _ hz))
    exact ⟨a :: l, rfl⟩
end Go.Abs

/- Arguments that come in, of any depth: numbers, truth values, structs and slices of such. -/
namespace Go.Abs
open Go.RowKit Go.ChangeShapes Go.WideShapes Go.Deep
set_option linter.unusedVariables false
set_option linter.unusedSimpArgs false

inductive Sh where
  | i (k : IntKind)
  | b
  | l (e : List Sh)
mutual
def okS : Sh → Cell → Prop
  | .i k, .sc (.int k' _) => k' = k
  | .b, .sc (.bool _) => True
  | .l e, .lst es => es.length ≤ maxLen ∧ ∀ y ∈ es, okSs e y
  | _, _ => False
def okSs : List Sh → List Cell → Prop
  | [], [] => True
  | s :: ss, c :: cs => okS s c ∧ okSs ss cs
  | _, _ => False
end
theorem okSs_len : ∀ {s : List Sh} {c : List Cell}, okSs s c → c.length = s.length
  | [], [], _ => rfl
  | _ :: s, _ :: c, h => by simp only [okSs] at h; simp [okSs_len h.2]
  | [], _ :: _, h => by simp [okSs] at h
  | _ :: _, [], h => by simp [okSs] at h
theorem okSs_app : ∀ {s t : List Sh} {c d : List Cell}, okSs s c → okSs t d → okSs (s ++ t) (c ++ d)
  | [], _, [], _, _, h => h
  | _ :: s, t, _ :: c, d, h, k => by
    simp only [okSs] at h
    simp only [List.cons_append, okSs]
    exact ⟨h.1, okSs_app h.2 k⟩
  | [], _, _ :: _, _, h, _ => by simp [okSs] at h
  | _ :: _, _, [], _, h, _ => by simp [okSs] at h
def shFs (P : Program) (F : TypeId → Option (List Sh)) : Nat → List Field → Option (List Sh)
  | _, [] => some []
  | i, f :: r => match F f.type with
    | some s => if f.offset = i ∧ P.cellsOf f.type = s.length then (shFs P F (i + s.length) r).map (s ++ ·) else none
    | none => none
def shT (P : Program) : Nat → TypeId → Option (List Sh)
  | 0, _ => none
  | n + 1, t => match P.underlying t with
    | some (.int k) => some [.i k]
    | some .bool => some [.b]
    | some (.slice e) => match shT P n e with
      | some s => if P.cellsOf e = s.length ∧ 0 < s.length then some [.l s] else none
      | none => none
    | some (.struct fs) => shFs P (shT P n) 0 fs.toList
    | _ => none
theorem cell_none {w : World} {a : Addr} {v : Value} (h : w.cell? a = some v) : a.spot = none := World.cell?_spot h

section
variable {H : Type} {enc : TypeId × Value → H} {P : Program} {w : World} {base : Nat} {spare : Nat → Bool} {held : Bool}
def Comes (w : World) (s : List Sh) (cs : List Value) : Prop := ∃ ys : List Cell, okSs s ys ∧ ys.length = cs.length ∧ ∀ (j : Nat) c u, ys[j]? = some c → cs[j]? = some u → RepP (FIn w) w c u
theorem shFs_ok {n : Nat} (IH : ∀ (t : TypeId) (s : List Sh) (cs : List Value) (x : DataW H × List MemPlace) (fuel : Nat), shT P n t = some s → DataW.trod enc P w base spare held fuel t cs = some x → cs.length = s.length → Comes w s cs) :
    ∀ (l : List Field) (i m : Nat) (cs : List Value) (ss : List Sh), shFs P (shT P n) i l = some ss → cs.length = i + ss.length →
      (∀ (j : Nat) f, l[j]? = some f → ∃ y, DataW.trod enc P w base spare held m f.type ((cs.drop f.offset).take (P.cellsOf f.type)) = some y) → Comes w ss (cs.drop i)
  | [], i, m, cs, ss, h, hl, _ => by
    simp [shFs] at h
    subst h
    exact ⟨[], trivial, by simp at hl ⊢; omega, fun j c u h => by simp at h⟩
  | f :: r, i, m, cs, ss, h, hl, ht => by
    simp only [shFs] at h
    split at h
    case h_2 => cases h
    rename_i s hs
    split at h
    case isFalse => cases h
    rename_i hf
    obtain ⟨s2, h2, rfl⟩ := Option.map_eq_some_iff.1 h
    obtain ⟨y, hy⟩ := ht 0 f rfl
    rw [hf.1, hf.2] at hy
    rw [List.length_append] at hl
    have hlt : ((cs.drop i).take s.length).length = s.length := by rw [List.length_take, List.length_drop]; omega
    obtain ⟨ys1, a1, a2, a3⟩ := IH _ _ _ _ _ hs hy hlt
    obtain ⟨ys2, b1, b2, b3⟩ := shFs_ok IH r (i + s.length) m cs s2 h2 (by omega) fun j f' hj => ht (j + 1) f' (by simpa using hj)
    refine ⟨ys1 ++ ys2, okSs_app a1 b1, by rw [List.length_append, a2, b2, hlt, List.length_drop, List.length_drop]; omega, fun j c u hc hu => ?_⟩
    by_cases hj : j < ys1.length
    · rw [List.getElem?_append_left hj] at hc
      refine a3 j c u hc ?_
      rw [List.getElem?_take, if_pos (by omega)]
      exact hu
    · rw [List.getElem?_append_right (by omega)] at hc
      refine b3 _ c u hc ?_
      rw [List.getElem?_drop] at hu ⊢
      rw [← hu]
      congr 1
      omega
theorem shT_ok : ∀ (n : Nat) (t : TypeId) (s : List Sh) (cs : List Value) (x : DataW H × List MemPlace) (fuel : Nat), shT P n t = some s → DataW.trod enc P w base spare held fuel t cs = some x → cs.length = s.length → Comes w s cs
  | 0, _, _, _, _, _, h, _, _ => by simp [shT] at h
  | n + 1, t, s, cs, x, fuel, h, ht, hcl => by
    simp only [shT] at h
    split at h
    · rename_i k hd
      simp at h; subst h
      obtain ⟨m, rfl, _⟩ := DataW.trod_int hd ht
      exact ⟨[.sc (.int k m)], ⟨rfl, trivial⟩, rfl, fun j c u hc hu => by
        cases j with
        | zero => simp at hc hu; subst hc hu; exact .sc rfl
        | succ j => simp at hc⟩
    · rename_i hd
      simp at h; subst h
      obtain ⟨m, rfl, _⟩ := DataW.trod_bool hd ht
      exact ⟨[.sc (.bool m)], ⟨trivial, trivial⟩, rfl, fun j c u hc hu => by
        cases j with
        | zero => simp at hc hu; subst hc hu; exact .sc rfl
        | succ j => simp at hc⟩
    · rename_i e hd
      split at h
      case h_2 => cases h
      rename_i s' hs'
      split at h
      case isFalse => cases h
      rename_i hC
      obtain ⟨hC, hpos⟩ := hC
      simp at h; subst h
      have one : ∀ {es : List (List Cell)} {v : Value}, cs = [v] → es.length ≤ maxLen → (∀ y ∈ es, okSs s' y) → RepP (FIn w) w (.lst es) v → Comes w [.l s'] cs := fun {es v} hcs h1 h2 h3 => by
        subst hcs
        exact ⟨[.lst es], ⟨⟨h1, h2⟩, trivial⟩, rfl, fun j c u hc hu => by
          cases j with
          | zero => simp at hc hu; subst hc hu; exact h3
          | succ j => simp at hc⟩
      rcases open_slice hd ht with ⟨h0, _⟩ | ⟨a, len, cap, m, n', D, Pl, hcs, hb, hl, hm, hmm, hx, hi⟩
      · exact one h0 (Nat.zero_le _) (fun y hy => by simp at hy) .nil
      · have hlm : len ≤ m := by rw [hmm]; split <;> omega
        rcases Nat.eq_zero_or_pos len with h0 | hpl
        · subst h0
          exact one hcs (Nat.zero_le _) (fun y hy => by simp at hy) (.emp hm fun e => by cases e)
        have hE : ∀ i, ∃ q : List Value × List Cell, i < len → (q.1.length = s'.length ∧ (∀ j, j < s'.length → w.cell? (a.add (i * s'.length + j)) = q.1[j]?) ∧ okSs s' q.2 ∧ q.2.length = q.1.length ∧ ∀ (j : Nat) c u, q.2[j]? = some c → q.1[j]? = some u → RepP (FIn w) w c u) := fun i => by
          by_cases hi' : i < len
          · obtain ⟨cs', h1, h2⟩ := hi i (by omega)
            rw [hC] at h1
            obtain ⟨_, hcl', hat⟩ := World.cells?_some h1
            obtain ⟨ys, q1, q2, q3⟩ := shT_ok n _ _ _ _ _ hs' h2 hcl'
            exact ⟨(cs', ys), fun _ => ⟨hcl', fun j hj => by rw [← add_add]; exact hat j hj, q1, q2, q3⟩⟩
          · exact ⟨([], []), fun h => absurd h hi'⟩
        obtain ⟨E, hE⟩ := Classical.axiomOfChoice hE
        have hs : a.spot = none := by
          obtain ⟨e1, e2, _⟩ := hE 0 hpl
          have h1 := e2 0 hpos
          have h2 : (E 0).1[0]? = some (E 0).1[0] := List.getElem?_eq_getElem (by omega)
          rw [h2] at h1
          simpa [Addr.add] using cell_none h1
        have hget : ∀ (i : Nat) z, ((List.range len).map fun i => (E i).2)[i]? = some z → i < len ∧ z = (E i).2 := fun i z hz => by
          rw [List.getElem?_map] at hz
          obtain ⟨i', h1, rfl⟩ := Option.map_eq_some_iff.1 hz
          obtain ⟨h2, h3⟩ := List.getElem?_eq_some_iff.1 h1
          simp at h2 h3
          subst h3
          exact ⟨h2, rfl⟩
        have hax : a = ⟨a.block, a.off, none⟩ := by cases a; simp only at hs; subst hs; rfl
        refine one (es := (List.range len).map fun i => (E i).2) hcs (by simp; omega) (fun y hy => ?_) ?_
        · obtain ⟨i, hi', rfl⟩ := List.mem_map.1 hy
          exact (hE i (by simpa using hi')).2.2.1
        · have key := RepP.lst (F := FIn w) (w := w) (es := (List.range len).map fun i => (E i).2) (b := a.block) (off := a.off) (cap := cap) (sz := s'.length) (fun i j => (E i).1.getD j (.bool false))
            (fun i z hz => by
              obtain ⟨h1, rfl⟩ := hget i z hz
              obtain ⟨e1, _, _, e4, _⟩ := hE i h1
              rw [e4, e1])
            (fun i z hz j c hj => by
              obtain ⟨h1, rfl⟩ := hget i z hz
              obtain ⟨e1, e2, _, e4, _⟩ := hE i h1
              have hjl : j < s'.length := by rw [← e1, ← e4]; exact (List.getElem?_eq_some_iff.1 hj).1
              have hu : (E i).1[j]? = some (E i).1[j] := List.getElem?_eq_getElem (by omega)
              have hc := e2 j hjl
              rw [addr_add hs, hu] at hc
              rw [List.getD_eq_getElem?_getD, hu, Nat.add_assoc]
              exact ⟨cell_lt (a := ⟨a.block, a.off + (i * s'.length + j), none⟩) hc, hc⟩)
            (fun i z hz j c hj => by
              obtain ⟨h1, rfl⟩ := hget i z hz
              obtain ⟨e1, e2, _, e4, e5⟩ := hE i h1
              have hjl : j < (E i).1.length := by rw [← e4]; exact (List.getElem?_eq_some_iff.1 hj).1
              have hu : (E i).1[j]? = some (E i).1[j] := List.getElem?_eq_getElem hjl
              rw [List.getD_eq_getElem?_getD, hu]
              exact e5 j c _ hj hu) (by simp; exact hl) hm
          rw [show ((List.range len).map fun i => (E i).2).length = len by simp] at key
          rw [hax]
          exact key
    · rename_i fs hd
      obtain ⟨xs, m, _, _, hlen, hxl, hf⟩ := DataW.trod_struct hd ht
      have := shFs_ok (fun t s cs x fuel a b c => shT_ok n t s cs x fuel a b c) fs.toList 0 m cs s h (by omega) (fun j f hj => by
        have hj' : fs[j]? = some f := by simpa using hj
        have hjl : j < xs.length := by rw [hxl]; exact (Array.getElem?_eq_some_iff.1 hj').1
        exact ⟨xs[j], by rw [hf j f hj']; exact List.getElem?_eq_getElem hjl⟩)
      simpa using this
    · cases h
end
/-- A struct that came in. -/
theorem deep_struct {H : Type} {enc : TypeId × Value → H} {P : Program} {w : World} {base : Nat} {spare : Nat → Bool} {held : Bool} {r : Reach} {b : Nat} {t : TypeId} {fs : Array Field} (n : Nat) (s : List Sh) (ht : P.underlying t = some (.struct fs)) (hs : shT P n t = some s) (hC : P.cellsOf t = s.length)
    {v : Value} {d : DataW H} {p : List MemPlace} (hv : Value.okWide P w r b t v) (h : DataW.Trod enc P w base spare held t v d p) :
    ∃ ys, okSs s ys ∧ RepA (g0 (FIn w)) w (.agg ys) v := by
  obtain ⟨us, rfl, hl, _⟩ := struct_spots ht hv
  obtain ⟨fuel, hf⟩ := h
  have hf : DataW.trod enc P w base spare held fuel t us = some (d, p) := by simpa [Value.cells] using hf
  obtain ⟨ys, h1, h2, h3⟩ := shT_ok n t s us _ fuel hs hf (hl.trans hC)
  exact ⟨ys, h1, .agg us h2.symm fun j c u hc hu => .pure (h3 j c u hc hu)⟩
/-- A slice that came in. -/
theorem deep_slice {H : Type} {enc : TypeId × Value → H} {P : Program} {w : World} {base : Nat} {spare : Nat → Bool} {held : Bool} {t e : TypeId} (n : Nat) (s : List Sh) (ht : P.underlying t = some (.slice e)) (hs : shT P (n + 1) t = some [.l s])
    {a : Option Addr} {len cap : Nat} {d : DataW H} {p : List MemPlace} (h : DataW.Trod enc P w base spare held t (.slice a len cap) d p) :
    ∃ es, (es.length ≤ maxLen ∧ ∀ y ∈ es, okSs s y) ∧ RepA (g0 (FIn w)) w (.c (.lst es)) (.slice a len cap) := by
  obtain ⟨fuel, hf⟩ := h
  have hf : DataW.trod enc P w base spare held fuel t [.slice a len cap] = some (d, p) := by simpa [Value.cells] using hf
  obtain ⟨ys, h1, h2, h3⟩ := shT_ok (n + 1) t _ _ _ fuel hs hf rfl
  match ys, h1 with
  | [.lst es], h1 => exact ⟨es, h1.1, .c (.pure (h3 0 _ _ rfl rfl))⟩
/-- Elements of one form are a list's. -/
theorem all_formQ {α : Type} {f : α → List Cell} {p : List Cell → Prop} {q : α → Prop} (hf : ∀ y, p y → ∃ a, y = f a ∧ q a) : ∀ {es : List (List Cell)}, (∀ y ∈ es, p y) → ∃ l : List α, es = l.map f ∧ ∀ a ∈ l, q a
  | [], _ => ⟨[], rfl, fun a h => by simp at h⟩
  | y :: r, h => by
    obtain ⟨a, rfl, ha⟩ := hf y (h y (by simp))
    obtain ⟨l, rfl, hl⟩ := all_formQ (es := r) hf (fun z hz => h z (List.mem_cons_of_mem _ hz))
    exact ⟨a :: l, rfl, fun b hb => (List.mem_cons.1 hb).elim (fun e => e ▸ ha) (hl b)⟩
end Go.Abs
