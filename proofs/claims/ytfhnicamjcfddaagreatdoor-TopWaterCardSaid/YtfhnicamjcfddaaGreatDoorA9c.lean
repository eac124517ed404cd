/- Proved here: what functions of the given program come to, and the plain laws of it; no condition but those in the theorems. -/
import Derived.Test.YtfhnicamjcfddaaGreatDoorShlf99
import Derived.Test.YtfhnicamjcfddaaGreatDoorB99
import Derived.Test.YtfhnicamjcfddaaGreatDoorPTop
import Derived.Lib.AtoiErrMem
import Derived.Sort.OwnSortedInts
/- Functions of the library that awake calls, in the layer's form: out of the kit's contracts. -/
namespace Go.Proofs
open Go Go.Abs Go.RowKit
set_option linter.unusedSimpArgs false
set_option linter.unusedVariables false
set_option maxRecDepth 4000

/-- A list of strings in a row of its own. -/
theorem rep_strs {F : Nat → Nat → Prop} {w : World} {b cap : Nat} {l : List ByteArray} (hF : ∀ j, j < l.length → F b j) (hc : ∀ (j : Nat) s, l[j]? = some s → w.cell? ⟨b, j, none⟩ = some (.string s)) (hl : l.length ≤ cap) (hcap : cap ≤ maxLen) :
    RepP F w (.lst (l.map fun s => [.sc (.string s)])) (.slice (some ⟨b, 0, none⟩) l.length cap) := by
  have key := RepP.lst (F := F) (w := w) (es := l.map fun s => [Cell.sc (.string s)]) (b := b) (off := 0) (cap := cap) (sz := 1) (fun i _ => .string (l.getD i ByteArray.empty))
    (fun i e he => by rw [List.getElem?_map] at he; cases hs : l[i]? with
      | none => rw [hs] at he; cases he
      | some s => rw [hs] at he; simp at he; subst he; rfl)
    (fun i e he j c hj => by rw [List.getElem?_map] at he; cases hs : l[i]? with
      | none => rw [hs] at he; cases he
      | some s =>
        rw [hs] at he; simp at he; subst he
        have hi : i < l.length := (List.getElem?_eq_some_iff.1 hs).1
        match j with
        | 0 =>
          have e0 : 0 + i * 1 + 0 = i := by omega
          rw [e0]
          refine ⟨hF i hi, ?_⟩
          rw [hc i s hs]
          simp [List.getD, hs]
        | j + 1 => simp at hj)
    (fun i e he j c hj => by rw [List.getElem?_map] at he; cases hs : l[i]? with
      | none => rw [hs] at he; cases he
      | some s =>
        rw [hs] at he; simp at he; subst he
        match j with
        | 0 =>
          simp at hj; subst hj
          simp only [List.getD, hs, Option.getD_some]
          exact .sc rfl
        | j + 1 => simp at hj)
    (by rw [List.length_map]; exact hl) hcap
  rw [List.length_map] at key
  exact key

def St (s : ByteArray) : AV := .c (.sc (.string s))
theorem isSt {g : G} {w : World} {s : ByteArray} {v : Value} (h : RepA g w (St s) v) : v = .string s := (isSc h).1

def eSt (l : List ByteArray) : List (List Cell) := l.map fun s => [.sc (.string s)]
def R_split : RT := fun args k => ∃ s sep : ByteArray, args = [St s, St sep] ∧ s.size < 4294967281 ∧ 1 ≤ sep.size ∧ k (.c (.lst (eSt (Lib.splitB sep 0 (Lib.countB s sep) s))))
theorem two_vals {vals : List Value} {a b : AV} {g : G} {w : World} (hl : vals.length = [a, b].length) (hr : ∀ (j : Nat) x v, [a, b][j]? = some x → vals[j]? = some v → RepA g w x v) : ∃ u v, vals = [u, v] ∧ RepA g w a u ∧ RepA g w b v := by
  match vals, hl with
  | [u, v], _ => exact ⟨u, v, rfl, hr 0 a u rfl rfl, hr 1 b v rfl rfl⟩
theorem one_val {vals : List Value} {a : AV} {g : G} {w : World} (hl : vals.length = [a].length) (hr : ∀ (j : Nat) x v, [a][j]? = some x → vals[j]? = some v → RepA g w x v) : ∃ u, vals = [u] ∧ RepA g w a u := by
  match vals, hl with
  | [u], _ => exact ⟨u, rfl, hr 0 a u rfl rfl⟩

theorem cell_alloc (w : World) (cs : List Value) (t : TypeId) {j : Nat} {v : Value} (h : cs[j]? = some v) : (w.alloc (.cells cs.toArray t)).cell? ⟨w.heap.size, j, none⟩ = some v := by
  simp only [World.cell?, heap_new, Option.isSome_none, Bool.false_eq_true, if_false]
  simpa using h
theorem below_alloc (w : World) (o : Obj) : Below w.heap.size w (w.alloc o) :=
  have g := World.grownBy_alloc w o none
  ⟨g.os, g.tape, g.output, g.size, fun k hk => g.block k hk (by simp)⟩

theorem split_ok : FunR Tryz.prog 68 R_split := by
  rintro args k ⟨s, sep, rfl, hs, h1, hk⟩
  refine ⟨_, ⟨callable Tryz.func68 rfl rfl, fun F w vals hF hL hl hr => ?_⟩, hk⟩
  obtain ⟨u, v, rfl, hu, hv⟩ := two_vals hl hr
  obtain rfl := isSt hu
  obtain rfl := isSt hv
  obtain ⟨_, m, hm⟩ := hL.int 2 (by simp [gints])
  have hle := Lib.countB_le sep h1 s.size s (Nat.le_refl _)
  have hlen := Lib.splitB_all sep h1 0 _ s rfl
  refine (Any.strings_Split Tryz.lays146 (by kernel_rfl) s sep m w hs hm h1).mono fun e w' ⟨he, hw⟩ => ?_
  subst hw
  generalize Lib.splitB sep 0 (Lib.countB s sep) s = l at hlen ⊢
  rw [← hlen] at he
  refine ⟨_, fun b o => F b o ∨ (b = w.heap.size ∧ o < l.length), he, fun b o h => .inl h, fun b o h => h.imp id fun h => by omega, fun b o h => ?_, .c (.pure (rep_strs (fun j hj => .inr ⟨rfl, hj⟩) (fun j s hj => cell_alloc w _ _ (by rw [List.getElem?_map, hj]; rfl)) (Nat.le_refl _) (by unfold maxLen; omega))), below_alloc w _⟩
  show b < (w.heap.push _).size
  rw [Array.size_push]
  rcases h with h | h
  · have := hF b o h; omega
  · omega

def R_trim : RT := fun args k => ∃ s cs : ByteArray, args = [St s, St cs] ∧ s.size ≤ 9223372036854775807 ∧ cs.size < 4294967281 ∧ cs.data.toList.all (fun b => decide (b.toNat < 128)) = true ∧ k (St ⟨(Lib.trimS s.data.toList cs.data.toList).toArray⟩)
theorem trim_ok : FunR Tryz.prog 103 R_trim := by
  rintro args k ⟨s, cs, rfl, hs, h1, h2, hk⟩
  refine ⟨_, ⟨callable Tryz.func103 rfl rfl, fun F w vals hF hL hl hr => ?_⟩, hk⟩
  obtain ⟨u, v, rfl, hu, hv⟩ := two_vals hl hr
  obtain rfl := isSt hu
  obtain rfl := isSt hv
  refine (Any.strings_Trim_laid Tryz.lays160 (by kernel_rfl) s cs w hs h1 (ascii_of_all h2)).mono fun e w' ⟨he, hw⟩ => ?_
  exact ⟨_, F, he, fun _ _ h => h, fun _ _ h => .inl h, fun b o h => Nat.lt_of_lt_of_le (hF b o h) hw.size, .c (.pure (.sc rfl)), hw⟩

def R_atoi : RT := fun args k => ∃ (s : ByteArray) (n : Int), args = [St s] ∧ s.size ≤ 18 ∧ Lib.atoi s.data.toList = some n ∧ k (.tup [I n, .c (.sc .nilIface)])
theorem atoi_ok : FunR Tryz.prog 104 R_atoi := by
  rintro args k ⟨s, n, rfl, hs, h1, hk⟩
  refine ⟨_, ⟨callable Tryz.func104 rfl rfl, fun F w vals hF hL hl hr => ?_⟩, hk⟩
  obtain ⟨u, rfl, hu⟩ := one_val hl hr
  obtain rfl := isSt hu
  refine (Any.strconv_Atoi Tryz.lays172 s n hs h1 w).mono fun e w' ⟨he, t, hw⟩ => ?_
  have hb : Below w.heap.size w w' := hw ▸ Lib.bytesWorld_below w _ t
  exact ⟨_, F, he, fun _ _ h => h, fun _ _ h => .inl h, fun b o h => Nat.lt_of_lt_of_le (hF b o h) hb.size, .tup [.int .i64 n, .nilIface] rfl (fun j x v h1 h2 => by
    match j with
    | 0 => simp at h1 h2; subst h1; subst h2; exact .c (.pure (.sc rfl))
    | 1 => simp at h1 h2; subst h1; subst h2; exact .c (.pure (.sc rfl))
    | j + 2 => simp at h1), hb⟩

/-- The runes that rules.Split takes for gaps. -/
def isGap (x : Nat) : Bool := decide ((x : Int) = 32) || decide ((x : Int) = 10)
def R_gap : RT := fun args k => ∃ x : Nat, args = [.c (.sc (.int .i32 x))] ∧ k (Bo (isGap x))
theorem gap_ok : FunR Tryz.prog 102 R_gap := by
  rintro args k ⟨x, rfl, hk⟩
  refine does_ex (qc := qc1) (np := []) (CK := ckK []) mixed Tryz.func102 rfl rfl Tryz.ntmps102 Tryz.results102 τ_ok (by kernel_rfl) (ckK_ok trivial) (by simp) ?_
  conv => whnf
  repeat' ((first | refine fork_t ?_ | refine Fork.mk (fun h => ?_) (fun h => ?_) | fail) <;> (conv => whnf))
  all_goals (refine kBo hk ?_; simp_all [isGap])
def R_fields : RT := fun args k => ∃ s : ByteArray, args = [St s, .c (.fn 102 [])] ∧ s.size ≤ 4294967296 ∧ (Lib.goFieldsP isGap s).length ≤ maxLen ∧ k (.c (.lst (eSt (Lib.goFieldsP isGap s))))
theorem fields_ok : FunR Tryz.prog 101 R_fields := by
  rintro args k ⟨s, rfl, hs, h1, hk⟩
  refine ⟨_, ⟨callable Tryz.func101 rfl rfl, fun F w vals hF hL hl hr => ?_⟩, hk⟩
  obtain ⟨u, v, rfl, hu, hv⟩ := two_vals hl hr
  obtain rfl := isSt hu
  have hv' : v = .func (.func 102) #[] #[] := by
    cases hv with
    | c h => cases h with
      | pure h => cases h
      | fn us hl2 h =>
        have : us = [] := List.eq_nil_of_length_eq_zero hl2
        subst this
        rfl
  subst hv'
  have hp : PredGrows Tryz.prog 102 #[] isGap w := fun W x hx hb => by
    obtain ⟨r, hd, rfl⟩ := gap_ok _ (fun r => r = Bo (isGap x)) ⟨x, rfl, rfl⟩
    have hLW : Laid F W := hL.mono (fun _ _ h => h) fun b o h => World.cell?_of_block (w := w) (a := ⟨b, o, none⟩) (hb.block b (hF b o h))
    refine (hd.2 F W [.int .i32 x] (fun b o h => Nat.lt_of_lt_of_le (hF b o h) hb.size) hLW rfl (fun j a v h1 h2 => ?_)).mono fun e w' ⟨v, F', he, _, _, _, hr, hb⟩ => ?_
    · match j with
      | 0 => simp at h1 h2; subst h1; subst h2; exact .c (.pure (.sc rfl))
      | j + 1 => simp at h1
    · obtain ⟨rfl, _⟩ := isSc hr
      exact ⟨he, hb⟩
  refine (Any.strings_FieldsFunc_grows Tryz.lays229 102 #[] (callable Tryz.func102 rfl rfl) isGap s w hs hp (by kernel_rfl) (by kernel_rfl)).mono fun e w' ⟨A, he, hA, hown, hb⟩ => ?_
  generalize Lib.goFieldsP isGap s = l at *
  obtain ⟨_, hn | ⟨g, cap, cur, hv, hg, hh, hle, hcm, hsz, htk⟩⟩ := hown
  · cases hn.1
  · simp only [Value.slice.injEq, Option.some.injEq, Addr.mk.injEq, and_true, true_and] at hv
    obtain ⟨rfl, rfl⟩ := hv
    refine ⟨_, fun b o => F b o ∨ (b = A ∧ o < l.length), he, fun b o h => .inl h, fun b o h => h.imp id fun h => by omega, fun b o h => ?_, .c (.pure (rep_strs (fun j hj => .inr ⟨rfl, hj⟩) (fun j s hj => ?_) (Nat.le_refl _) h1)), hb⟩
    · rcases h with h | h
      · exact Nat.lt_of_lt_of_le (hF b o h) hb.size
      · rw [h.1]; exact (Array.getElem?_eq_some_iff.1 hh).1
    · have hjl : j < l.length := (List.getElem?_eq_some_iff.1 hj).1
      have : cur.toList[j]? = some (.string s) := by
        have e1 : (cur.toList.take (l.length * 1))[j]? = some (Value.string s) := by rw [htk, List.getElem?_map, hj]; rfl
        rw [List.getElem?_take] at e1
        split at e1
        · exact e1
        · cases e1
      simp only [World.cell?, hh, Option.isSome_none, Bool.false_eq_true, if_false]
      simpa using this

end Go.Proofs

/- slices.Sort and slices.Compact of numbers, on an array of one's own: out of the kit's contracts. -/
namespace Go.Proofs
open Go Go.Abs Go.RowKit Go.Sort
set_option linter.unusedSimpArgs false
set_option linter.unusedVariables false
set_option maxRecDepth 4000

/-- One array of numbers, at the name .x 0: its block. -/
theorem own_ints {g : G} {w : World} {l : Ls} (hne : l ≠ []) (h : ObjOk g w (.x 0) (.arr 3 1 (eL l) false)) :
    ∃ b cap cur, g.β (.x 0) = .slice (some ⟨b, 0, none⟩) l.length cap ∧ w.heap[b]? = some (.cells cur 3 (0, 0)) ∧ l.length ≤ cap ∧ cap ≤ maxLen ∧ cur.size = cap * 1 ∧ cur.toList.take l.length = l.map (Value.int .i64) ∧ g.sz (.x 0) = 1 ∧ (∀ o, ¬ g.F b o) := by
  cases h with
  | arr us hz ho hs hr h1 hf =>
    have hml := eL_len l
    have hus : us = l.map (Value.int .i64) := by
      apply List.ext_getElem?
      intro j
      have hul := ho.1
      by_cases hj : j < l.length
      · obtain ⟨u, e1, e2⟩ := hr j (eI l[j]) (by rw [List.getElem?_map, List.getElem?_eq_getElem hj]; rfl) 0 (IC l[j]) rfl
        have e1 : us[j]? = some u := by simpa using e1
        have e3 : u = .int .i64 l[j] := by cases e2; rfl
        rw [e1, e3, List.getElem?_map, List.getElem?_eq_getElem hj]
        rfl
      · rw [List.getElem?_eq_none (by rw [hul, hml]; omega), List.getElem?_eq_none (by simp; omega)]
    rcases ho.2 with ⟨_, h0⟩ | ⟨b, cap, cur, hb, _, hh, hnc, hcm, hcs, htk⟩
    · rw [hml] at h0
      exact absurd (List.eq_nil_of_length_eq_zero h0) hne
    · rw [hml] at hb hnc htk
      refine ⟨b, cap, cur, hb, hh, hnc, hcm, hcs, by rw [← hus, ← htk, Nat.mul_one], hz, fun o hF => ?_⟩
      have := (hf b o (by rw [hb]; rfl) hF).1
      cases this

/-- Behind a change of all its numbers. -/
theorem put_ints {g : G} {w : World} {l t : Ls} (hM : MInv g (mX [.arr 3 1 (eL l) false]) w) {b cap : Nat} {cur : Array Value} (hβ : g.β (.x 0) = .slice (some ⟨b, 0, none⟩) l.length cap) (hh : w.heap[b]? = some (.cells cur 3 (0, 0))) (hnc : l.length ≤ cap) (hcm : cap ≤ maxLen) (hcs : cur.size = cap * 1)
    (hz : g.sz (.x 0) = 1) (hF : ∀ o, ¬ g.F b o) (hl : t.length = l.length) (n : Nat) (os : Array Obj) :
    Ext g w g (grow (putRow (Value.int .i64) (Sort.ahead w n) b 0 t.toArray) os) ∧ MInv g (mX [.arr 3 1 (eL t) false]) (grow (putRow (Value.int .i64) (Sort.ahead w n) b 0 t.toArray) os) ∧
    Abs.Frame g (mX [.arr 3 1 (eL l) false]) w g (mX [.arr 3 1 (eL t) false]) (grow (putRow (Value.int .i64) (Sort.ahead w n) b 0 t.toArray) os) := by
  have hg := grownBy_sortedI (w := w) (g := b) (n := n) (os := os) t.toArray
  have he : Ext g w g (grow (putRow (Value.int .i64) (Sort.ahead w n) b 0 t.toArray) os) := ⟨fun _ h => h, fun _ _ => rfl, fun _ _ => rfl, fun _ _ h => h, fun b' o h => by
    refine World.cell?_of_block (w := w) (a := ⟨b', o, none⟩) (hg.block b' (hM.flt b' o h) fun e => ?_)
    simp only [Option.some.injEq] at e
    subst e
    exact hF o h⟩
  have hown := ownsRow_sortedI (w := w) (base := 0) (g := b) (cap := cap) (n := n) (e := 3) (os := os) (cur := cur) (ss := l) (ts := t) hl (Nat.zero_le _) hh hnc hcm hcs
  have hk0 : g.K (.x 0) := (hM.ok (.x 0) _ rfl).1
  have hml := eL_len t
  have key : ∀ i o, mget (mX [MObj.arr 3 1 (eL t) false]) i = some o → i = .x 0 ∧ o = .arr 3 1 (eL t) false := fun i o h => by
    simp only [mX, nameX, mget] at h
    split at h
    · rename_i e; simp at h; exact ⟨e, h.symm⟩
    · cases h
  have tch : touches g (mX [.arr 3 1 (eL l) false]) b := ⟨.x 0, _, rfl, by rw [hβ]; rfl⟩
  refine ⟨he, ⟨fun i o h => ?_, fun i j oi oj b' hi hj hij => ?_, fun b' o h => Nat.lt_of_lt_of_le (hM.flt b' o h) hg.size⟩, ⟨hg.os, hg.tape, hg.output, hg.size, fun b' hb' ht => hg.block b' hb' fun e => ?_, fun b' o h => .inl h, fun i o b' hi hb => ?_⟩⟩
  · obtain ⟨rfl, rfl⟩ := key i o h
    refine ⟨hk0, .arr (t.map (Value.int .i64)) hz (by rw [hβ, hml, hl]; exact hown) (fun k x hx => ?_) (fun k x hx j c hj => ?_) (fun u hu => ?_) fun b' o hb hF' => ?_⟩
    · rw [List.getElem?_map] at hx
      cases hs : t[k]? with
      | none => rw [hs] at hx; cases hx
      | some a => rw [hs] at hx; simp at hx; subst hx; rfl
    · rw [List.getElem?_map] at hx
      cases hs : t[k]? with
      | none => rw [hs] at hx; cases hx
      | some a =>
        rw [hs] at hx; simp at hx; subst hx
        match j with
        | 0 =>
          simp [eI] at hj; subst hj
          exact ⟨.int .i64 a, by simp [hs], .sc rfl⟩
        | j + 1 => simp [eI] at hj
    · obtain ⟨a, _, rfl⟩ := List.mem_map.1 hu
      rfl
    · rw [hβ] at hb
      simp [blockOf] at hb
      subst hb
      exact absurd hF' (hF o)
  · obtain ⟨rfl, _⟩ := key i oi hi
    obtain ⟨rfl, _⟩ := key j oj hj
    exact absurd rfl hij
  · simp only [Option.some.injEq] at e
    subst e
    exact ht tch
  · obtain ⟨rfl, _⟩ := key i o hi
    rw [hβ] at hb
    simp [blockOf] at hb
    subst hb
    exact .inr tch

theorem view_ints {g : G} {w : World} {n b len cap : Nat} {v : Value} (hv : RepA g w (.c (.view (.x 0) 0 n)) v) (hβ : g.β (.x 0) = .slice (some ⟨b, 0, none⟩) len cap) (hn : 0 < n) : v = .slice (some ⟨b, 0, none⟩) n cap := by
  cases hv with
  | c h => cases h with
    | pure h => cases h
    | view hk hv hle ha hsp =>
      rw [hβ] at hv
      simp only [Value.slice.injEq] at hv
      obtain ⟨rfl, rfl, rfl⟩ := hv
      have := ha (.inl (by omega))
      simp at this
      subst this
      simp [Addr.add]

def sortZ (l : Ls) : Ls := l.mergeSort fun x y => decide (x ≤ y)
def R_sort : RG := fun args os k => ∃ l : Ls, args = [.c (.view (.x 0) 0 l.length)] ∧ os = [.arr 3 1 (eL l) false] ∧ l ≠ [] ∧ l.length < 4611686018427387904 ∧ k (.tup []) [.arr 3 1 (eL (sortZ l)) false]
theorem sort_ok : FunG Tryz.prog 138 R_sort := by
  rintro args os k ⟨l, rfl, rfl, hne, hl, hk⟩
  refine ⟨.tup [], [.arr 3 1 (eL (sortZ l)) false], ⟨⟨rfl, rfl, rfl, rfl, rfl⟩, callable Tryz.func138 rfl rfl, fun g w vals hK hL hM hlv hr => ?_⟩, hk⟩
  obtain ⟨v, rfl, hv⟩ := one_val hlv hr
  obtain ⟨b, cap, cur, hβ, hh, hnc, hcm, hcs, htk, hz, hF⟩ := own_ints hne (hM.ok (.x 0) _ rfl).2
  have hpos : 0 < l.length := List.length_pos_iff.2 hne
  obtain rfl := view_ints hv hβ hpos
  refine (Any.slices_Sort_int Tryz.lays189 b 0 cap l w (holds_of_blockI hh htk) (Array.getElem?_eq_some_iff.1 hh).1 hl).mono fun e w' ⟨he, n, os, hw⟩ => ?_
  subst hw
  obtain ⟨h1, h2, h3⟩ := put_ints (t := sortZ l) hM hβ hh hnc hcm hcs hz hF (List.length_mergeSort _) n os
  exact ⟨_, g, he, h1, .tup [] rfl (fun j x v h => by simp at h), h2, fun i hi => .inl (hK i hi), h3⟩

def cmpZ (l : Ls) : Ls := Lib.compact l ++ List.replicate (l.length - (Lib.compact l).length) 0
theorem compact_le (l : Ls) : (Lib.compact l).length ≤ l.length := by
  unfold Lib.compact Lib.compactUpTo
  rw [List.length_map]
  exact Nat.le_trans (List.length_filter_le _ _) (by simp)
theorem compact_pos {l : Ls} (h : l ≠ []) : 0 < (Lib.compact l).length := by
  match l, h with
  | a :: r, _ =>
    unfold Lib.compact Lib.compactUpTo
    rw [List.length_map]
    refine List.length_pos_of_mem (a := 0) (List.mem_filter.2 ⟨by simp, ?_⟩)
    simp [Lib.keeps]
theorem mem_compact {l : Ls} {x : Int} (h : x ∈ Lib.compact l) : x ∈ l := by
  unfold Lib.compact Lib.compactUpTo at h
  obtain ⟨i, hi, rfl⟩ := List.mem_map.1 h
  have := (List.mem_filter.1 hi).1
  have hlt : i < l.length := by simpa using this
  simp [hlt]
def R_compact : RG := fun args os k => ∃ l : Ls, args = [.c (.view (.x 0) 0 l.length)] ∧ os = [.arr 3 1 (eL l) false] ∧ l ≠ [] ∧ l.length ≤ 9223372036854775807 ∧ k (.c (.view (.x 0) 0 (Lib.compact l).length)) [.arr 3 1 (eL (cmpZ l)) false]
theorem compact_ok : FunG Tryz.prog 139 R_compact := by
  rintro args os k ⟨l, rfl, rfl, hne, hl, hk⟩
  refine ⟨.c (.view (.x 0) 0 (Lib.compact l).length), [.arr 3 1 (eL (cmpZ l)) false], ⟨⟨rfl, rfl, rfl, rfl, rfl⟩, callable Tryz.func139 rfl rfl, fun g w vals hK hL hM hlv hr => ?_⟩, hk⟩
  obtain ⟨v, rfl, hv⟩ := one_val hlv hr
  obtain ⟨b, cap, cur, hβ, hh, hnc, hcm, hcs, htk, hz, hF⟩ := own_ints hne (hM.ok (.x 0) _ rfl).2
  have hpos : 0 < l.length := List.length_pos_iff.2 hne
  obtain rfl := view_ints hv hβ hpos
  refine (Any.slices_Compact_int Tryz.laysNm220 b 0 cap l w (holds_of_blockI hh htk) hl hnc).mono fun e w' ⟨he, n, hw⟩ => ?_
  subst hw
  have hle := compact_le l
  obtain ⟨h1, h2, h3⟩ := put_ints (t := cmpZ l) hM hβ hh hnc hcm hcs hz hF (by simp [cmpZ]; omega) n #[]
  rw [grow_empty] at h1 h2 h3
  refine ⟨_, g, he, h1, .c ?_, h2, fun i hi => .inl (hK i hi), h3⟩
  have := RepC.view (g := g) (w := putRow (Value.int .i64) (Sort.ahead w n) b 0 (cmpZ l).toArray) (o := .x 0) (lo := 0) (n := (Lib.compact l).length) (len := l.length) (cap := cap) (a := some ⟨b, 0, none⟩) (a' := some ⟨b, 0, none⟩) (hM.ok (.x 0) _ rfl).1 hβ (by omega) (fun _ => by simp [Addr.add]) (fun ad h => by simp at h; subst h; rfl)
  rw [Nat.sub_zero] at this
  exact this

end Go.Proofs

namespace Go.Proofs
open Go Go.Abs
set_option linter.unusedSimpArgs false
set_option linter.unusedVariables false
set_option maxRecDepth 20000
theorem flowsA_ok : FunA Tryz.prog 137 (R_flA 3) := by
  intro args k h
  obtain ⟨u, g, rfl, hu, h0, hk⟩ := h
  refine doesA_ex (qc := qc1) (np := []) (CK := ckK [(82, cSc (R_unI ckU)), (119, cSc R_bey)]) mixed Tryz.func137 rfl rfl Tryz.ntmps137 Tryz.results137 τ_ok (by kernel_rfl) (ckK_ok ⟨cSc_ok ckU_prog, cSc_ok bey_ok, trivial⟩) (by simp) rfl ?_
  conv => whnf
  refine ⟨u, rfl, hu, ?_⟩
  conv => whnf
  refine Fork.mk (fun h => ?_) (fun h => ?_)
  · have h1 : ckU u ≠ 0 := by simpa using h
    rw [show flS u g = ([], ckU u) from if_pos h1] at h0
    exact absurd h0 h1
  have h1 : ckU u = 0 := by simpa using h
  have ho := ckU_ok h1
  have ho1 := ho.l1
  have ho2 := ho.lm
  have ho3 := ho.m
  conv => whnf
  refine Fork.mk (fun h => ?_) (fun h => ?_)
  · have h2 : g < 1 := by simpa using h
    rw [show flS u g = ([], 1) by rw [flS, if_neg (by simp [h1]), if_pos (.inl h2)]] at h0
    cases h0
  have h2 : ¬ g < 1 := by simpa using h
  conv => whnf
  refine Fork.mk (fun h => ?_) (fun h => ?_)
  · have h3 : 1073741824 < g := by simpa using h
    rw [show flS u g = ([], 1) by rw [flS, if_neg (by simp [h1]), if_pos (.inr h3)]] at h0
    cases h0
  have h3 : ¬ 1073741824 < g := by simpa using h
  have e1 : flS u g = if 200 < (flT u g (u.mo + 1)).length then ([], 10) else (flT u g (u.mo + 1), 0) := by rw [flS, if_neg (by simp [h1]), if_neg (by omega)]
  conv => whnf
  refine ⟨Ls × Int, fun s => ([(1, I g), (2, .c (.ptr (.l 2 0) 0)), (7, .c (.view (.l 49 1) 0 s.1.length)), (8, I s.2)], ⟨[(.l 2 0, .blk (unC u)), (.l 49 1, .arr 3 1 (eL s.1) false)], 5, []⟩),
    fun s => s.1 = flT u g s.2 ∧ (u.lo ≤ s.2 ∧ s.2 ≤ 1073741825) ∧ s.1.length ≤ 200 ∧ ∀ x, u.mo < x → x < s.2 → okQ u g x = false, fun s => (1073741826 - s.2).toNat, ([], u.lo), ⟨(flT_lo (Int.le_refl _)).symm, ⟨Int.le_refl _, by dsimp only; omega⟩, Nat.zero_le _, fun x hx1 hx2 => by dsimp only at hx2; omega⟩,
    Shift.trans (Shift.rename [] ⟨rfl, rfl, rfl, rfl, trivial⟩ ⟨rfl, rfl, trivial⟩ rfl rfl rfl) (Shift.nilArr (t := 7) rfl 49 3 1), fun s hs => ?_⟩
  obtain ⟨l, f⟩ := s
  obtain ⟨hl, ⟨hf1, hf2⟩, hf3, hf4⟩ := hs
  dsimp only at hl hf1 hf2 hf3 hf4 ⊢
  subst hl
  have hm := eL_len (flT u g f)
  obtain ⟨u1, u2, u3, u4⟩ := up_mul (f := f) (g := g) (by omega) (by omega)
  have w3 : IntKind.i64.wrap ((f + g - 1).tdiv g) = (f + g - 1) / g := by
    have q1 := Int.ediv_nonneg (show 0 ≤ f + g - 1 by omega) (show 0 ≤ g by omega)
    have q2 := Int.ediv_le_self g (show 0 ≤ f + g - 1 by omega)
    rw [Int.tdiv_eq_ediv_of_nonneg (by omega)]; exact wrap_in (by omega) (by omega)
  have w4 : IntKind.i64.wrap ((f + g - 1) / g * g) = (f + g - 1) / g * g := wrap_in (by omega) (by omega)
  conv => whnf
  rw [show IntKind.i64.wrap (f + g) = f + g from wrap_in (by omega) (by omega)]
  rw [show IntKind.i64.wrap (f + g - 1) = f + g - 1 from wrap_in (by omega) (by omega)]
  refine ⟨by omega, ?_⟩
  rw [w3]
  conv => whnf
  rw [w4]
  generalize (f + g - 1) / g * g = a at u1 u2 u3 u4 w4 ⊢
  clear w3 w4
  have sk : ∀ x, f ≤ x → x < a → okQ u g x = false := fun x hx1 hx2 => by simp [okQ, u4 x hx1 hx2]
  refine Fork.mk (fun h => ?_) (fun h => ?_)
  · have h4 : u.mo < a := by simpa using h
    have e2 : flT u g (u.mo + 1) = flT u g f := by
      by_cases hc : f ≤ u.mo + 1
      · exact flT_to hc fun x hx1 hx2 => sk x hx1 (by omega)
      · exact (flT_to (by omega) fun x hx1 hx2 => hf4 x (by omega) hx2).symm
    rw [e2, if_neg (by omega)] at e1
    rw [e1] at hk
    conv => whnf
    refine ⟨.l 49 1, ?_⟩
    conv => whnf
    exact ⟨rfl, rfl, rfl, hk⟩
  have h4 : ¬ u.mo < a := by simpa using h
  conv => whnf
  refine ⟨u, a, rfl, hu, fun r hr => ?_⟩
  conv => whnf
  obtain ⟨r1, r2, r3, r4⟩ := hr
  refine Fork.mk (fun h => ?_) (fun h => ?_)
  · have h5 : r ≠ a := by simpa using h
    have h6 : r ≤ 1073741824 := by
      rcases r4 with r4 | ⟨z, hz, rfl⟩
      · exact absurd r4 h5
      · exact (ho.z z hz).2.1.2
    have sk2 : ∀ x, f ≤ x → x < r → okQ u g x = false := fun x hx1 hx2 => by
      by_cases hx : x < a
      · exact sk x hx1 hx
      · simp [okQ, r3 x (by omega) hx2]
    conv => whnf
    refine ⟨(flT u g f, r), ⟨(flT_to (by omega) sk2).symm, ⟨by dsimp only; omega, by dsimp only; omega⟩, hf3, fun x hx1 hx2 => sk2 x (by dsimp only at hx2; omega) hx2⟩, Shift.reset ⟨rfl, rfl, rfl, rfl, trivial⟩ ⟨rfl, rfl, trivial⟩ rfl rfl, ?_⟩
    show (1073741826 - r).toNat < (1073741826 - f).toNat
    omega
  have h5 : r = a := by simpa using h
  subst h5
  have hok : okQ u g r = true := by simp [okQ, u1, r2]
  have e2 : flT u g (r + 1) = flT u g f ++ [r] := by rw [flT_one (by omega), flT_to u2 sk, if_pos hok]
  conv => whnf
  refine Fork.mk (fun h => ?_) (fun h => ?_)
  · have h6 : (flT u g f).length = 200 := by simp at h; omega
    have h7 := flT_mono (u := u) (g := g) (show r + 1 ≤ u.mo + 1 by omega)
    rw [e2, List.length_append, h6] at h7
    rw [e1, if_pos (by simp at h7; omega)] at h0
    cases h0
  have h6 : ¬ (flT u g f).length = 200 := by simp at h; omega
  conv => whnf
  refine ⟨by simp, ?_⟩
  conv => whnf
  refine ⟨rfl, ?_⟩
  conv => whnf
  refine ⟨⟨rfl, rfl, rfl, hm.symm, by rw [hm]; simp; omega⟩, ?_⟩
  conv => whnf
  rw [show IntKind.i64.wrap (r + 1) = r + 1 from wrap_in (by omega) (by omega)]
  refine ⟨(flT u g f ++ [r], r + 1), ⟨e2.symm, ⟨by dsimp only; omega, by dsimp only; omega⟩, by simp; omega, fun x hx1 hx2 => by dsimp only at hx2; omega⟩, Shift.rename [(.l 49 1, .l 49 6)] ⟨rfl, rfl, ?_, rfl, trivial⟩ ⟨rfl, ?_, trivial⟩ rfl rfl rfl, ?_⟩
  · dsimp only; rw [List.length_append, ← hm]; rfl
  · dsimp only; rw [← eL_snoc]; rfl
  · show (1073741826 - (r + 1)).toNat < (1073741826 - f).toNat
    omega
end Go.Proofs
