/- Contracts with a small memory. -/
import Derived.Test.YtfhnicamjcfddaaGreatDoorAbsW
import Derived.Test.YtfhnicamjcfddaaGreatDoorAbsV
namespace Go.Abs
set_option linter.unusedVariables false
open Go.RowKit

structure MInv (g : G) (m : List (Id × MObj)) (w : World) : Prop where
  ok : ∀ i o, mget m i = some o → g.K i ∧ ObjOk g w i o
  apart : ∀ i j oi oj b, mget m i = some oi → mget m j = some oj → i ≠ j → blockOf (g.β i) = some b → blockOf (g.β j) ≠ some b
  flt : ∀ b o, g.F b o → b < w.heap.size

def keys (m : List (Id × MObj)) (i : Id) : Prop := ∃ o, mget m i = some o
def touches (g : G) (m : List (Id × MObj)) (b : Nat) : Prop := ∃ i o, mget m i = some o ∧ blockOf (g.β i) = some b

structure Frame (g : G) (m : List (Id × MObj)) (w : World) (g' : G) (m' : List (Id × MObj)) (w' : World) : Prop where
  os : w'.os = w.os
  tape : w'.tape = w.tape
  output : w'.output = w.output
  size : w.heap.size ≤ w'.heap.size
  block : ∀ b, b < w.heap.size → ¬ touches g m b → w'.heap[b]? = w.heap[b]?
  fnew : ∀ b o, g'.F b o → g.F b o ∨ w.heap.size ≤ b ∨ touches g m b
  own : ∀ i o b, mget m' i = some o → blockOf (g'.β i) = some b → w.heap.size ≤ b ∨ touches g m b

/-- A function that is given what may change, and hands back the like. -/
def DoesM (P : Program) (f : Nat) (args : List AV) (m : List (Id × MObj)) (r : AV) (m' : List (Id × MObj)) : Prop :=
  (∀ vals w, (callFunc f vals).run P w = .ok (.enter f vals) w) ∧
  ∀ (g : G) (w : World) (vals : List Value), (∀ i, g.K i → keys m i) → Laid g.F w → MInv g m w → vals.length = args.length → (∀ (j : Nat) a v, args[j]? = some a → vals[j]? = some v → RepA g w a v) →
    Calls P f vals.toArray w fun e w' => ∃ v g', e = .returned v ∧ Ext g w g' w' ∧ RepA g' w' r v ∧ MInv g' m' w' ∧ (∀ i, g'.K i → keys m i ∨ keys m' i) ∧ Frame g m w g' m' w'

/-- Names of a contract, as the names where it is used. -/
def pull (ρ : Id → Id) (D : Id → Prop) (g : G) : G := { K := fun i => D i ∧ g.K (ρ i), β := fun i => g.β (ρ i), sz := fun i => g.sz (ρ i), F := g.F }
theorem pull_link {ρ : Id → Id} {D : Id → Prop} {g : G} : Link ρ D (pull ρ D g) g := ⟨fun i hi => ⟨fun h => h.2, fun h => ⟨hi, h⟩⟩, fun _ _ _ => rfl, fun _ _ _ => rfl, rfl⟩

section
variable {P : Program}

/-- The small memory at a function's end, as the contract names it. -/
structure LeafM (ρ : Id → Id) (m m' : List (Id × MObj)) (r : AV) (mf : List (Id × MObj)) (rf : AV) : Prop where
  res : renA ρ r = rf
  resIn : inA (fun i => keys m i ∨ keys m' i) r
  mem : ∀ i o, mget m' i = some o → mget mf (ρ i) = some (renO ρ o) ∧ inO (fun i => keys m i ∨ keys m' i) o
  inj : ∀ i j, keys m' i → keys m' j → ρ i = ρ j → i = j
  same : ∀ i, keys m i → ρ i = i

/-- How a result is handed on: lists as data, names as they are. -/
def outA (own : Bool) (m : Mem) : AV → Option (AV × Mem)
  | .c (.ptr i off) => some (.c (.ptr i off), m)
  | x => match own with
    | true => some (x, m)
    | false => purA1 m x
def outAs (own : Bool) (m : Mem) : List AV → Option (List AV × Mem)
  | [] => some ([], m)
  | x :: r => match outA own m x with
    | some (y, m1) => match outAs own m1 r with
      | some (l, m2) => some (y :: l, m2)
      | none => none
    | none => none

theorem outA_ok {B : Base} {g : G} {own : Bool} {m m' : Mem} {w : World} (hI : Inv B g m w) {x y : AV} {v : Value} (hr : RepA g w x v) (h : outA own m x = some (y, m')) : ∃ g', Ext g w g' w ∧ Inv B g' m' w ∧ RepA g' w y v := by
  unfold outA at h
  split at h
  · simp at h
    obtain ⟨rfl, rfl⟩ := h
    exact ⟨g, .refl _ _, hI, hr⟩
  · split at h
    · simp at h
      obtain ⟨rfl, rfl⟩ := h
      exact ⟨g, .refl _ _, hI, hr⟩
    · obtain ⟨g', h1, h2, h3⟩ := purA1_ok hI hr h
      have : Ext (g0 g'.F) w g' w := ⟨fun _ h => h.elim, fun _ h => h.elim, fun _ h => h.elim, fun _ _ h => h, fun _ _ _ => rfl⟩
      exact ⟨g', h1, h2, h3.ext this⟩

theorem outAs_ok {B : Base} {own : Bool} : ∀ {l l' : List AV} {g : G} {m m' : Mem} {w : World} {vs : List Value} (_ : Inv B g m w) (_ : vs.length = l.length) (_ : ∀ (j : Nat) x v, l[j]? = some x → vs[j]? = some v → RepA g w x v) (_ : outAs own m l = some (l', m')),
    l'.length = l.length ∧ ∃ g', Ext g w g' w ∧ Inv B g' m' w ∧ ∀ (j : Nat) x v, l'[j]? = some x → vs[j]? = some v → RepA g' w x v := by
  intro l
  induction l with
  | nil =>
    intro l' g m m' w vs hI hl hr h
    simp [outAs] at h
    obtain ⟨rfl, rfl⟩ := h
    exact ⟨rfl, g, .refl g w, hI, fun j x v h => by simp at h⟩
  | cons x r ih =>
    intro l' g m m' w vs hI hl hr h
    unfold outAs at h
    split at h
    · rename_i y m1 hx
      split at h
      · rename_i l2 m2 hr2
        simp at h
        obtain ⟨rfl, rfl⟩ := h
        match vs, hl with
        | v :: vs, hl =>
          obtain ⟨g1, e1, i1, p1⟩ := outA_ok hI (hr 0 x v rfl rfl) hx
          obtain ⟨hl', g2, e2, i2, p2⟩ := ih i1 (vs := vs) (by simpa using hl) (fun j x' v' h1 h2 => (hr (j + 1) x' v' (by simpa using h1) (by simpa using h2)).ext e1) hr2
          refine ⟨by simp [hl'], g2, e1.trans e2, i2, fun j x' v' h1 h2 => ?_⟩
          cases j with
          | zero => simp at h1 h2; subst h1; subst h2; exact p1.ext e2
          | succ j => simp at h1 h2; exact p2 j x' v' h1 h2
      · cases h
    · cases h

def RetM (P : Program) (own : Bool) (fn : Func) (σ : St) (Q : AV → Mem → Prop) : Prop := ∃ l l' m', resF P σ fn.results.toList = some l ∧ outAs own σ.m l = some (l', m') ∧ Q (oneOf l') m'

theorem resultsM_ok {B : Base} {own : Bool} {g : G} {σ : St} {a : Act} {w : World} (hs : Slots g w (tget σ.t) a) (hI : Inv B g σ.m w) {fn : Func} {Q : AV → Mem → Prop} (h : RetM P own fn σ Q) :
    ∃ v r g' m', (results fn a.tmps).run P w = .ok v w ∧ Ext g w g' w ∧ Inv B g' m' w ∧ RepA g' w r v ∧ Q r m' := by
  obtain ⟨l, l', m', h1, h2, hQ⟩ := h
  obtain ⟨vs, r1, r2, r3⟩ := resF_ok hs hI (f := fun x => match x with | .tmp t => pure (a.tmps.getD t undef) | .cell c t => do loadVar t (← asAddr (a.tmps.getD c undef))) (fun _ => rfl) (fun _ _ => rfl) h1
  obtain ⟨hl, g', e1, i1, p1⟩ := outAs_ok hI r2 r3 h2
  have hrun : (results fn a.tmps).run P w = .ok (if h : vs.toArray.size = 1 then vs.toArray[0] else .tuple vs.toArray) w := by
    unfold results
    rw [Array.mapM_eq_mapM_toList]
    simp only [Sem.run_bind, Sem.run_map]
    erw [r1]
    rfl
  refine ⟨_, _, g', m', hrun, e1, i1, ?_, hQ⟩
  have hlv : vs.length = l'.length := by omega
  rcases l' with _ | ⟨x, _ | ⟨y, r⟩⟩
  · obtain rfl : vs = [] := List.eq_nil_of_length_eq_zero hlv
    exact .tup [] rfl (fun j x u h => by simp at h)
  · obtain ⟨v, rfl⟩ : ∃ v, vs = [v] := by
      match vs, hlv with
      | [v], _ => exact ⟨v, rfl⟩
    exact p1 0 x v rfl rfl
  · obtain ⟨v, u, vr, rfl⟩ : ∃ v u vr, vs = v :: u :: vr := by
      match vs, hlv with
      | v :: u :: vr, _ => exact ⟨v, u, vr, rfl⟩
    have : ¬ (v :: u :: vr).toArray.size = 1 := by simp
    rw [dif_neg this]
    exact .tup _ hlv p1

theorem spec_ofM {qc : Nat → Bool} {np : NPT} {CK : Nat → KT} {own : Bool} {f : Nat} {fn : Func} {c : Code} (hm : P.follows .mixedOrders = true) (hf : P.funcs[f]? = some fn) (hname : (fn.name == "runtime.NumGoroutine") = false) (hb : fn.body = some c) {N : Nat} (hn : fn.ntmps = N) {args : List AV} {r : AV} {m m' : List (Id × MObj)}
    (hx : ∀ i, keys m i → ∃ n, i = .x n)
    (hCK : ∀ f args d m k, CK f args d m k → callK P qc f args d m k) (hsz : args.length ≤ N)
    (h : awp P qc np CK N c (fun e σ => (match e with | .normal => True | .ret => True | _ => False) ∧ RetM P own fn σ (fun rf mf => ∃ ρ, LeafM ρ m m' r mf.o rf)) ⟨initT args 0, ⟨m, 0, []⟩⟩) : DoesM P f args m r m' := by
  subst hn
  refine ⟨callable hf hname hb, fun g w vals hK hL hM hl hr => ?_⟩
  refine calls_of_wp hf hb ?_
  let B : Base := { w0 := w, X := touches g m, g0 := g, N := fn.ntmps, gx := fun i hi => hx i (hK i hi), gl := hL }
  have hI : Inv B g ⟨m, 0, []⟩ w := { ok := hM.ok, apart := hM.apart, fresh := fun s k _ hk => (by obtain ⟨n, hn⟩ := hx _ (hK _ hk); cases hn), flt := hM.flt, ext := .refl _ _, fnew := fun b o h => .inl h, own := fun i o b hi hb => .inr ⟨i, o, hi, hb⟩, os := rfl, tape := rfl, output := rfl, size := Nat.le_refl _, block := fun _ _ _ => rfl }
  have hR : RS B (tget (initT args 0)) ⟨m, 0, []⟩ { tmps := vals.toArray ++ Array.replicate (fn.ntmps - vals.toArray.size) undef, defers := [] } w := by
    refine ⟨⟨g, fun t x hx => ?_, hI⟩, rfl, by simp [B]; omega⟩
    obtain ⟨_, h2⟩ := initT_get args 0 t hx
    rw [Nat.sub_zero] at h2
    have ht : t < vals.length := by rw [hl]; exact (List.getElem?_eq_some_iff.1 h2).1
    refine ⟨vals[t], ?_, hr t x _ h2 (List.getElem?_eq_getElem ht)⟩
    rw [Array.getElem?_append, if_pos (by simpa using ht)]
    simp [ht]
  refine wp_mono (awp_ok hCK (B := B) (N := fn.ntmps) hm rfl c _ _ _ _ hR h) fun e a w' hq => ?_
  obtain ⟨σ, hR', he, hret⟩ := hq
  obtain ⟨⟨g1, hs, hI'⟩, hd, _⟩ := hR'
  obtain ⟨v, rf, g2, mf, q1, q2, q3, q4, ρ, hL⟩ := resultsM_ok hs hI' hret
  let D : Id → Prop := fun i => keys m i ∨ keys m' i
  let g' := pull ρ D g2
  have hlink : Link ρ D g' g2 := pull_link
  have hext : Ext g w g2 w' := q3.ext
  have hext' : Ext g w g' w' := ⟨fun i hi => ⟨.inl (hK i hi), by rw [hL.same i (hK i hi)]; exact hext.K i hi⟩, fun i hi => by show g2.β (ρ i) = _; rw [hL.same i (hK i hi)]; exact hext.β i hi,
    fun i hi => by show g2.sz (ρ i) = _; rw [hL.same i (hK i hi)]; exact hext.sz i hi, hext.F, hext.cell⟩
  have fin : ∃ v', (results fn a.tmps).run P w' = .ok v' w' ∧ ∃ v g', (Ending.returned v') = .returned v ∧ Ext g w g' w' ∧ RepA g' w' r v ∧ MInv g' m' w' ∧ (∀ i, g'.K i → keys m i ∨ keys m' i) ∧ Frame g m w g' m' w' := by
    refine ⟨v, q1, v, g', rfl, hext', hlink.pullA q4 r hL.res hL.resIn, ⟨fun i o hi => ?_, fun i j oi oj b hi hj hij hbi hbj => ?_, q3.flt⟩, fun i hi => hi.1, ⟨q3.os, q3.tape, q3.output, q3.size, fun b hb hX => q3.block b hb hX, fun b o hF => q3.fnew b o hF, fun i o b hi hb => ?_⟩⟩
    · obtain ⟨h1, h2⟩ := hL.mem i o hi
      obtain ⟨h3, h4⟩ := q3.ok _ _ h1
      have hk : g'.K i := ⟨.inr ⟨o, hi⟩, h3⟩
      exact ⟨hk, hlink.pullO (.inr ⟨o, hi⟩) hk h4 h2⟩
    · exact q3.apart (ρ i) (ρ j) _ _ b (hL.mem i oi hi).1 (hL.mem j oj hj).1 (fun e => hij (hL.inj i j ⟨oi, hi⟩ ⟨oj, hj⟩ e)) hbi hbj
    · exact q3.own (ρ i) _ b (hL.mem i o hi).1 hb
  cases e <;> first | exact he.elim | exact ⟨hd, fin⟩

/-! ### Where such a function is called -/

structure LinkM (ρ : Id → Id) (m m' : List (Id × MObj)) (M M' : Mem) : Prop where
  mem : ∀ i o, mget m i = some o → mget M.o (ρ i) = some (renO ρ o) ∧ inO (keys m) o
  mem' : ∀ j o, mget M'.o j = some o → (∃ i o', mget m' i = some o' ∧ ρ i = j ∧ o = renO ρ o' ∧ inO (fun i => keys m i ∨ keys m' i) o') ∨ (mget M.o j = some o ∧ ∀ i, keys m i → ρ i ≠ j)
  new : ∀ i, keys m' i → ¬ keys m i → ∃ s k, ρ i = .l s k ∧ ¬ Used M s k ∧ Used M' s k
  inj : ∀ i j, (keys m i ∨ keys m' i) → (keys m j ∨ keys m' j) → ρ i = ρ j → i = j
  nx : ∀ s k, Used M s k → Used M' s k

open Classical in
theorem callM {f : Nat} {args : List AV} {m m' : List (Id × MObj)} {r : AV} (h : DoesM P f args m r m') {ρ : Id → Id} {M M' : Mem} (hL : LinkM ρ m m' M M') (ha : inAs (keys m) args) (hr : inA (fun i => keys m i ∨ keys m' i) r) :
    CallSem P f (renAs ρ args) M (renA ρ r) M' := by
  refine ⟨h.1, fun B gC w vals hI hl hrep => ?_⟩
  let g := pull ρ (keys m) gC
  have hlk : Link ρ (keys m) g gC := pull_link
  have hKi : ∀ i o, mget m i = some o → g.K i := fun i o hi => ⟨⟨o, hi⟩, (hI.ok _ _ (hL.mem i o hi).1).1⟩
  have hMI : MInv g m w := ⟨fun i o hi => ⟨hKi i o hi, hlk.pullO ⟨o, hi⟩ (hKi i o hi) (hI.ok _ _ (hL.mem i o hi).1).2 (hL.mem i o hi).2⟩,
    fun i j oi oj b hi hj hij => hI.apart _ _ _ _ b (hL.mem i oi hi).1 (hL.mem j oj hj).1 (fun e => hij (hL.inj i j (.inl ⟨oi, hi⟩) (.inl ⟨oj, hj⟩) e)), hI.flt⟩
  rw [renAs_len] at hl
  refine (h.2 g w vals (fun i hi => hi.1) hI.laid hMI hl (fun j a v hj hv => hlk.pullA (hrep j (renA ρ a) v (by rw [renAs_get, hj]; rfl) hv) a rfl (inAs_get ha hj))).mono fun e w' ⟨v, g', he, hext, hrv, hMI', hK', hFr⟩ => ?_
  -- the names after it
  let D : Id → Prop := fun i => keys m i ∨ keys m' i
  have newK : ∀ i, keys m' i → ¬ keys m i → ¬ gC.K (ρ i) := fun i h1 h2 hk => by
    obtain ⟨s, k, e1, e2, _⟩ := hL.new i h1 h2
    rw [e1] at hk
    exact hI.fresh s k e2 hk
  let inv : Id → Id := fun j => if hj : ∃ i, D i ∧ ρ i = j then Classical.choose hj else j
  have inv_ρ : ∀ i, D i → inv (ρ i) = i := fun i hi => by
    have hj : ∃ i', D i' ∧ ρ i' = ρ i := ⟨i, hi, rfl⟩
    show (if hj : ∃ i', D i' ∧ ρ i' = ρ i then Classical.choose hj else ρ i) = i
    rw [dif_pos hj]
    exact hL.inj _ _ (Classical.choose_spec hj).1 hi (Classical.choose_spec hj).2
  let gC' : G := { K := fun j => gC.K j ∨ ∃ i, D i ∧ ρ i = j ∧ g'.K i, β := fun j => if gC.K j then gC.β j else g'.β (inv j), sz := fun j => if gC.K j then gC.sz j else g'.sz (inv j), F := g'.F }
  have hKin : ∀ i, D i → gC.K (ρ i) → keys m i := fun i hi hk => by
    rcases hi with hi | hi
    · exact hi
    · by_cases h2 : keys m i
      · exact h2
      · exact absurd hk (newK i hi h2)
  have hgK : ∀ i, D i → gC.K (ρ i) → g.K i := fun i hi hk => ⟨hKin i hi hk, hk⟩
  have hlk' : Link ρ D g' gC' := by
    refine ⟨fun i hi => ⟨fun hk => .inr ⟨i, hi, rfl, hk⟩, fun hk => ?_⟩, fun i hi hk => ?_, fun i hi hk => ?_, rfl⟩
    · rcases hk with hk | ⟨i', hi', e, hk⟩
      · exact hext.K i (hgK i hi hk)
      · rw [← hL.inj _ _ hi' hi e]; exact hk
    · show g'.β i = if gC.K (ρ i) then gC.β (ρ i) else g'.β (inv (ρ i))
      split
      · rename_i hkk; exact hext.β i (hgK i hi hkk)
      · rw [inv_ρ i hi]
    · show g'.sz i = if gC.K (ρ i) then gC.sz (ρ i) else g'.sz (inv (ρ i))
      split
      · rename_i hkk; exact hext.sz i (hgK i hi hkk)
      · rw [inv_ρ i hi]
  have hextC : Ext gC w gC' w' := ⟨fun j hj => .inl hj, fun j hj => if_pos hj, fun j hj => if_pos hj, hext.F, hext.cell⟩
  have tch : ∀ b, touches g m b → ∃ i o, mget M.o (ρ i) = some o ∧ keys m i ∧ blockOf (gC.β (ρ i)) = some b := fun b ⟨i, o, hi, hb⟩ => ⟨i, _, (hL.mem i o hi).1, ⟨o, hi⟩, hb⟩
  have ntch : ∀ j o b, mget M.o j = some o → (∀ i, keys m i → ρ i ≠ j) → blockOf (gC.β j) = some b → ¬ touches g m b := fun j o b hj hne hb ht => by
    obtain ⟨i, o', h1, h2, h3⟩ := tch b ht
    exact hI.apart (ρ i) j _ _ b h1 hj (hne i h2) h3 hb
  refine ⟨v, gC', he, hextC, hlk'.pushA hrv hr, ?_⟩
  refine { ok := fun j o hj => ?_, apart := fun j1 j2 o1 o2 b h1 h2 hne hb1 hb2 => ?_, fresh := fun s k hk hK => ?_, flt := hMI'.flt, ext := hI.ext.trans hextC, fnew := fun b o hF => ?_, own := fun j o b hj hb => ?_,
           os := hFr.os.trans hI.os, tape := hFr.tape.trans hI.tape, output := hFr.output.trans hI.output, size := Nat.le_trans hI.size hFr.size, block := fun b hb hX => ?_ }
  · rcases hL.mem' j o hj with ⟨i, o', h1, h2, h3, h4⟩ | ⟨h1, h2⟩
    · obtain ⟨k1, k2⟩ := hMI'.ok i o' h1
      rw [← h2, h3]
      exact ⟨.inr ⟨i, .inr ⟨_, h1⟩, rfl, k1⟩, hlk'.pushO (.inr ⟨_, h1⟩) k1 k2 h4⟩
    · obtain ⟨k1, k2⟩ := hI.ok j o h1
      refine ⟨.inl k1, k2.keep k1 hextC fun b hb => ⟨hFr.block b (k2.lt hb) (ntch j o b h1 h2 hb), fun o' hF => ?_⟩⟩
      rcases hFr.fnew b o' hF with hf | hf | hf
      · exact hf
      · have := k2.lt hb; omega
      · exact absurd hf (ntch j o b h1 h2 hb)
  · have hβ : ∀ i, D i → g'.K i → gC'.β (ρ i) = g'.β i := fun i hi hk => (hlk'.β i hi hk).symm
    have hold : ∀ j o, mget M.o j = some o → gC'.β j = gC.β j := fun j o hj => if_pos (hI.ok j o hj).1
    rcases hL.mem' j1 o1 h1 with ⟨i1, p1, a1, a2, a3, a4⟩ | ⟨a1, a2⟩ <;> rcases hL.mem' j2 o2 h2 with ⟨i2, p2, c1, c2, c3, c4⟩ | ⟨c1, c2⟩
    · have k1 := (hMI'.ok i1 p1 a1).1
      have k2 := (hMI'.ok i2 p2 c1).1
      rw [← a2, hβ i1 (.inr ⟨_, a1⟩) k1] at hb1
      rw [← c2, hβ i2 (.inr ⟨_, c1⟩) k2] at hb2
      exact hMI'.apart i1 i2 p1 p2 b a1 c1 (fun e => hne (by rw [← a2, ← c2, e])) hb1 hb2
    · have k1 := (hMI'.ok i1 p1 a1).1
      rw [← a2, hβ i1 (.inr ⟨_, a1⟩) k1] at hb1
      rw [hold j2 o2 c1] at hb2
      rcases hFr.own i1 p1 b a1 hb1 with hs | hs
      · have := (hI.ok j2 o2 c1).2.lt hb2; omega
      · exact ntch j2 o2 b c1 c2 hb2 hs
    · have k2 := (hMI'.ok i2 p2 c1).1
      rw [← c2, hβ i2 (.inr ⟨_, c1⟩) k2] at hb2
      rw [hold j1 o1 a1] at hb1
      rcases hFr.own i2 p2 b c1 hb2 with hs | hs
      · have := (hI.ok j1 o1 a1).2.lt hb1; omega
      · exact ntch j1 o1 b a1 a2 hb1 hs
    · rw [hold j1 o1 a1] at hb1
      rw [hold j2 o2 c1] at hb2
      exact hI.apart j1 j2 o1 o2 b a1 c1 hne hb1 hb2
  · rcases hK with hK | ⟨i, hi, e, hK⟩
    · exact hI.fresh s k (fun hU => hk (hL.nx s k hU)) hK
    · by_cases h2 : keys m i
      · obtain ⟨o, ho⟩ := h2
        have := (hI.ok _ _ (hL.mem i o ho).1).1
        rw [e] at this
        exact hI.fresh s k (fun hU => hk (hL.nx s k hU)) this
      · have h1 : keys m' i := by rcases hi with hi | hi; exact absurd hi h2; exact hi
        obtain ⟨s', k', e', _, h4⟩ := hL.new i h1 h2
        rw [e'] at e
        simp at e
        exact hk (e.1 ▸ e.2 ▸ h4)
  · rcases hFr.fnew b o hF with h1 | h1 | h1
    · exact hI.fnew b o h1
    · exact .inr (.inl (Nat.le_trans hI.size h1))
    · obtain ⟨i, o', h2, h3, h4⟩ := tch b h1
      exact .inr (hI.own _ _ b h2 h4)
  · rcases hL.mem' j o hj with ⟨i, o', h1, h2, h3, h4⟩ | ⟨h1, h2⟩
    · have k1 := (hMI'.ok i o' h1).1
      have : gC'.β j = g'.β i := by rw [← h2]; exact (hlk'.β i (.inr ⟨_, h1⟩) k1).symm
      rw [this] at hb
      rcases hFr.own i o' b h1 hb with hs | hs
      · exact .inl (Nat.le_trans hI.size hs)
      · obtain ⟨i', o'', h2, h3, h4⟩ := tch b hs
        exact hI.own _ _ b h2 h4
    · have : gC'.β j = gC.β j := if_pos (hI.ok j o h1).1
      rw [this] at hb
      exact hI.own j o b h1 hb
  · have hb' : b < w.heap.size := Nat.lt_of_lt_of_le hb hI.size
    rw [hFr.block b hb' (fun ht => ?_)]
    · exact hI.block b hb hX
    · obtain ⟨i', o'', h2, h3, h4⟩ := tch b ht
      rcases hI.own _ _ b h2 h4 with hh | hh
      · omega
      · exact hX hh

end
end Go.Abs
