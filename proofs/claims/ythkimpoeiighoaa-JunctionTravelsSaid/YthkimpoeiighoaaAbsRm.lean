/- Proved here: what functions of the given program come to, and the plain laws of it; no condition but those in the theorems. -/
import Derived.Test.YthkimpoeiighoaaAbsRj
/- The bases of a range over a function: pB keeps the two blocks of the statement (Z) as they are, qB says nothing of them. -/
namespace Go.Abs
open Go.RowKit
set_option linter.unusedVariables false
set_option linter.unusedSimpArgs false
structure Part where
  g : G
  m : List (Id × MObj)
  w : World
  gx : ∀ i, g.K i → ∃ n, i = .x n
  flt : ∀ b o, g.F b o → b < w.heap.size
  tch : ∀ b, touches g m b → b < w.heap.size
namespace Part
variable (p : Part)
def Z (b : Nat) : Prop := b = p.w.heap.size ∨ b = p.w.heap.size + 1
def XP (b : Nat) : Prop := touches p.g p.m b ∨ p.w.heap.size ≤ b
def pB (W : World) (F : Nat → Nat → Prop) (N : Nat) (ds : List Deferred) : Base := { w0 := W, X := fun b => ¬ p.Z b ∧ p.XP b, g0 := { p.g with F := F }, N := N, gx := p.gx, ds := ds }
def qB (W : World) (F : Nat → Nat → Prop) (N : Nat) (ds : List Deferred) : Base := { w0 := W, X := p.XP, g0 := { p.g with F := F }, N := N, gx := p.gx, ds := ds }
variable {p} {W w w1 w' : World} {F : Nat → Nat → Prop} {N N' : Nat} {ds ds' : List Deferred} {g g1 g' : G} {m m1 m' : Mem}

theorem Z_x {b : Nat} (h : p.Z b) : p.XP b := by rcases h with h | h <;> right <;> omega
theorem pq (h : Inv (p.pB W F N ds) g m w) : Inv (p.qB W F N ds) g m w where
  ok := h.ok
  apart := h.apart
  fresh := h.fresh
  flt := h.flt
  ext := h.ext
  fnew := fun b o hf => (h.fnew b o hf).imp_right fun h => h.imp_right fun h => h.2
  own := fun i o b hi hb => (h.own i o b hi hb).imp_right fun h => h.2
  os := h.os
  tape := h.tape
  output := h.output
  size := h.size
  block := fun b hb hX => h.block b hb fun hx => hX hx.2
/-- Nothing at Z is frozen or own. -/
structure NoZ (p : Part) (g : G) (m : Mem) : Prop where
  F : ∀ b o, g.F b o → ¬ p.Z b
  own : ∀ i o b, mget m.o i = some o → blockOf (g.β i) = some b → ¬ p.Z b
theorem qp (h : Inv (p.qB W F N ds) g m w) (hn : NoZ p g m) (hz : ∀ b, p.Z b → w.heap[b]? = W.heap[b]?) : Inv (p.pB W F N ds) g m w where
  ok := h.ok
  apart := h.apart
  fresh := h.fresh
  flt := h.flt
  ext := h.ext
  fnew := fun b o hf => (h.fnew b o hf).imp_right fun h => h.imp_right fun h => ⟨hn.F b o hf, h⟩
  own := fun i o b hi hb => (h.own i o b hi hb).imp_right fun h => ⟨hn.own i o b hi hb, h⟩
  os := h.os
  tape := h.tape
  output := h.output
  size := h.size
  block := fun b hb hX => by
    by_cases hzb : p.Z b
    · exact hz b hzb
    · exact h.block b hb fun hx => hX ⟨hzb, hx⟩
theorem noZ (h : Inv (p.pB W F N ds) g m w) (hW : ∀ b, p.Z b → b < W.heap.size) (hF : ∀ b o, F b o → ¬ p.Z b) : NoZ p g m where
  F := fun b o hf hz => by
    rcases h.fnew b o hf with h1 | h1 | h1
    · exact hF b o h1 hz
    · have := hW b hz
      have h1 : W.heap.size ≤ b := h1
      omega
    · exact h1.1 hz
  own := fun i o b hi hb hz => by
    rcases h.own i o b hi hb with h1 | h1
    · have := hW b hz
      have h1 : W.heap.size ≤ b := h1
      omega
    · exact h1.1 hz
theorem q_step (h : Inv (p.qB W F N ds) g1 m1 w1) (hW : p.w.heap.size ≤ W.heap.size) : Inv (p.qB w1 g1.F N' ds') g1 m1 w1 where
  ok := h.ok
  apart := h.apart
  fresh := h.fresh
  flt := h.flt
  ext := ⟨h.ext.K, h.ext.β, h.ext.sz, fun _ _ h => h, fun _ _ _ => rfl⟩
  fnew := fun b o hf => .inl hf
  own := fun i o b hi hb => .inr ((h.own i o b hi hb).elim (fun h1 => .inr (Nat.le_trans hW h1)) fun h1 => h1)
  os := rfl
  tape := rfl
  output := rfl
  size := Nat.le_refl _
  block := fun _ _ _ => rfl
theorem q_join (h : Inv (p.qB W F N ds) g1 m1 w1) (k : Inv (p.qB w1 g1.F N' ds') g' m' w') : Inv (p.qB W F N ds) g' m' w' where
  ok := k.ok
  apart := k.apart
  fresh := k.fresh
  flt := k.flt
  ext := ⟨k.ext.K, k.ext.β, k.ext.sz, fun b o hf => k.ext.F b o (h.ext.F b o hf), fun b o hf => (k.ext.cell b o (h.ext.F b o hf)).trans (h.ext.cell b o hf)⟩
  fnew := fun b o hf => by
    rcases k.fnew b o hf with h1 | h1 | h1
    · exact h.fnew b o h1
    · exact .inr (.inl (Nat.le_trans h.size h1))
    · exact .inr (.inr h1)
  own := fun i o b hi hb => (k.own i o b hi hb).imp_left fun h1 => Nat.le_trans h.size h1
  os := k.os.trans h.os
  tape := k.tape.trans h.tape
  output := k.output.trans h.output
  size := Nat.le_trans h.size k.size
  block := fun b hb hX => (k.block b (Nat.lt_of_lt_of_le hb h.size) hX).trans (h.block b hb hX)
/-- The record turns. -/
theorem q_turn (h : Inv (p.qB W F N ds) g m w) (hn : NoZ p g m) {l : Nat} (hz : p.Z l) (hg : w.grownBy w' (some l)) : Ext g w g w' ∧ Inv (p.qB W F N ds) g m w' :=
  h.foreign hg (.inr (Z_x hz)) (fun o hf => hn.F l o hf hz) fun i o hi hb => hn.own i o l hi hb hz
end Part
end Go.Abs

/- One round of a range over a function. -/
namespace Go.Abs
open Go.RowKit
set_option linter.unusedVariables false
set_option linter.unusedSimpArgs false
def setPs : List Tmp → List AV → List (Nat × AV) → List (Nat × AV)
  | p :: ps, x :: xs, t => setPs ps xs (tset t p x)
  | _, _, t => t
theorem setPs_slots {g : G} {w : World} : ∀ (ps : List Tmp) (xs : List AV) (vs : List Value) (t : List (Nat × AV)) (tm : Array Value), vs.length = xs.length → (∀ (j : Nat) x v, xs[j]? = some x → vs[j]? = some v → RepA g w x v) → (∀ p ∈ ps, p < tm.size) →
    Slots g w (tget t) { tmps := tm, defers := [] } → Slots g w (tget (setPs ps xs t)) { tmps := (ps.zip vs).foldl (fun t (p, v) => t.setIfInBounds p v) tm, defers := [] }
  | [], xs, vs, t, tm, _, _, _, hs => by simpa [setPs] using hs
  | p :: ps, [], vs, t, tm, hl, _, _, hs => by
    obtain rfl : vs = [] := List.eq_nil_of_length_eq_zero (by simpa using hl)
    simpa [setPs] using hs
  | p :: ps, x :: xs, [], t, tm, hl, _, _, hs => by simp at hl
  | p :: ps, x :: xs, v :: vs, t, tm, hl, hr, hp, hs => by
    refine setPs_slots ps xs vs (tset t p x) (tm.setIfInBounds p v) (by simpa using hl) (fun j y u h1 h2 => hr (j + 1) y u (by simpa using h1) (by simpa using h2)) (fun q hq => by rw [Array.size_setIfInBounds]; exact hp q (by simp [hq])) fun k y hk => ?_
    rw [tget_tset] at hk
    split at hk
    · rename_i e
      simp at hk
      subst hk
      subst e
      exact ⟨v, by simp [hp k (by simp)], hr 0 x v rfl rfl⟩
    · rename_i e
      obtain ⟨u, h1, h2⟩ := hs k y hk
      refine ⟨u, ?_, h2⟩
      rw [Array.getElem?_setIfInBounds_ne (fun h => e h.symm)]
      exact h1

theorem fold_size : ∀ (l : List (Tmp × Value)) (tm : Array Value), (l.foldl (fun (t : Array Value) (x : Tmp × Value) => t.setIfInBounds x.1 x.2) tm).size = tm.size
  | [], tm => rfl
  | x :: l, tm => by rw [List.foldl_cons, fold_size l, Array.size_setIfInBounds]

abbrev lpRec (fn : FuncId) (tmps : Array Value) (ps : Array Tmp) (assign body : Code) (D : Nat) (st : LoopState) (pe : Option Code) : Loop := { state := st, pending := pe, fn, tmps, params := ps, assign, body, defers := D }
def jumpOf : Exit → Option Code
  | .ret => some .ret
  | .exit i => some (.exit i)
  | _ => none
/-- A round that goes on, or leaves. -/
def roundQ (QJ : Exit → Mem → Prop) (k : Mem → Prop) : Exit → St → Prop
  | .normal, σ => k σ.m
  | .ret, σ => QJ .ret σ.m
  | .exit i, σ => QJ (.exit i) σ.m
  | _, _ => False
namespace Part
variable {P : Program} {p : Part} {N Ng : Nat} {qc : Nat → Bool} {CK : Nat → KT}
structure Stop (p : Part) (rec : LoopState → Option Code → Loop) (W1 : World) (Ng : Nat) (ds : List Deferred) (QJ : Exit → Mem → Prop) (w : World) : Prop where
  ex : ∃ e c g' m', jumpOf e = some c ∧ w.heap[p.w.heap.size + 1]? = some (.loop (rec .done (some c))) ∧ w.heap[p.w.heap.size]? = some (.deferred (some [])) ∧ Inv (p.qB W1 p.g.F Ng ds) g' m' w ∧ NoZ p g' m' ∧ QJ e m'

theorem round_ok {np : NPT} (hCK : ∀ f args d m k, CK f args d m k → callK P qc f args d m k) (hm : P.follows .mixedOrders = true) {fn : FuncId} {tmps : Array Value} {ps : Array Tmp} {assign body : Code} {W1 : World} {ds : List Deferred} (hN : tmps.size = N)
    (hpa : plainC assign = true) (hpb : plainC body = true) (hps : ∀ q ∈ ps.toList, q < N) (hWs : W1.heap.size = p.w.heap.size + 2) (hl1 : W1.heap[p.w.heap.size + 1]? = some (.loop (lpRec fn tmps ps assign body p.w.heap.size .ready none))) (hk1 : W1.heap[p.w.heap.size]? = some (.deferred (some [])))
    (heW : Ext p.g p.w p.g W1) {t0 : List (Nat × AV)} (hs0 : Slots p.g p.w (tget t0) { tmps := tmps, defers := [] }) {QJ : Exit → Mem → Prop} :
    YOk P (p.pB W1 p.g.F Ng ds) (p.w.heap.size + 1) (Stop p (lpRec fn tmps ps assign body p.w.heap.size) W1 Ng ds QJ)
      (fun args m k => args.length = ps.size ∧ awp P qc np CK N assign (fun e σ => match e with | .normal => awp P qc np CK N body (roundQ QJ k) σ | _ => False) ⟨setPs ps.toList args t0, m⟩) := by
  rintro args m1 k ⟨hlen, hA⟩ g1 w1 vals hI hvl hrep
  have zD : p.Z p.w.heap.size := .inl rfl
  have zl : p.Z (p.w.heap.size + 1) := .inr rfl
  have zW : ∀ b, p.Z b → b < W1.heap.size := fun b h => by rcases h with rfl | rfl <;> omega
  have keepZ : ∀ {W : World} {F : Nat → Nat → Prop} {N ds g m w}, Inv (p.pB W F N ds) g m w → p.w.heap.size + 2 ≤ W.heap.size → ∀ b, p.Z b → w.heap[b]? = W.heap[b]? := fun h hs b hz => h.block b (by rcases hz with rfl | rfl <;> (show _ < _; dsimp only [pB]; omega)) fun hx => hx.1 hz
  have nz1 : NoZ p g1 m1 := noZ hI zW fun b o hf hz => by have := p.flt b o hf; rcases hz with rfl | rfl <;> omega
  have hl := (keepZ hI (by omega) _ zl).trans hl1
  have hk := (keepZ hI (by omega) _ zD).trans hk1
  have q1 := pq hI
  have s1 : Inv (p.qB w1 g1.F N []) g1 m1 w1 := q_step q1 (by omega)
  have a1 := qp s1 nz1 fun _ _ => rfl
  have hsz1 : p.w.heap.size + 2 ≤ w1.heap.size := by have : W1.heap.size ≤ w1.heap.size := hI.size; omega
  have heg : Ext p.g p.w g1 w1 := heW.trans ⟨hI.ext.K, hI.ext.β, hI.ext.sz, hI.ext.F, hI.ext.cell⟩
  have hst : Slots g1 w1 (tget t0) { tmps := tmps, defers := [] } := slots_ext hs0 heg
  have hy := run_yield (P := P) (args := vals.toArray) hl (by rw [List.size_toArray, hvl]; exact hlen)
  refine ⟨_, _, _, _, hy, roundIn_of_wpIn trivial ?_⟩
  have hsl : Slots g1 w1 (tget (setPs ps.toList args t0)) { tmps := (ps.zip vals.toArray).foldl (fun t (p, v) => t.setIfInBounds p v) tmps, defers := [] } := by
    have := setPs_slots ps.toList args vals t0 tmps hvl hrep (by rw [hN]; exact hps) hst
    rw [← Array.foldl_toList, Array.toList_zip]
    exact this
  have hfs : ((ps.zip vals.toArray).foldl (fun (t : Array Value) (x : Tmp × Value) => t.setIfInBounds x.1 x.2) tmps).size = N := by
    rw [← Array.foldl_toList, fold_size, hN]
  refine wpIn_mono (awpIn_ok (B := p.pB w1 g1.F N []) hCK hm rfl assign _ ⟨setPs ps.toList args t0, m1⟩ _ _ hpa ⟨⟨g1, hsl, a1⟩, rfl, hfs⟩ hA) ?_
  rintro e a2 w2 ⟨σ2, hR2, hq⟩
  cases e <;> try exact hq.elim
  obtain ⟨⟨g2, hs2, hI2⟩, hd2, hz2⟩ := hR2
  have zw1 : ∀ b, p.Z b → b < w1.heap.size := fun b h => by rcases h with rfl | rfl <;> omega
  have nz2 : NoZ p g2 σ2.m := noZ hI2 zw1 nz1.F
  have hl2 := (keepZ hI2 hsz1 _ zl).trans hl
  have hk2 := (keepZ hI2 hsz1 _ zD).trans hk
  refine ⟨_, run_beginRound hl2 rfl, ?_⟩
  obtain ⟨w3, hw3⟩ : ∃ w3, w2.putObj (p.w.heap.size + 1) (.loop (lpRec fn tmps ps assign body p.w.heap.size .busy none)) = w3 := ⟨_, rfl⟩
  have hsz2 : p.w.heap.size + 2 ≤ w2.heap.size := by have : w1.heap.size ≤ w2.heap.size := hI2.size; omega
  have hg3 : w2.grownBy w3 (some (p.w.heap.size + 1)) := by rw [← hw3]; exact grownBy_putObj' _ _ _
  have hl3 : w3.heap[p.w.heap.size + 1]? = some (.loop (lpRec fn tmps ps assign body p.w.heap.size .busy none)) := by rw [← hw3]; exact World.putObj_heap_same (by omega)
  have hk3 : w3.heap[p.w.heap.size]? = some (.deferred (some [])) := by rw [← hw3]; exact (World.putObj_heap_other (by omega)).trans hk2
  rw [hw3]
  obtain ⟨e3, q3⟩ := q_turn (pq hI2) nz2 zl hg3
  have hsz3 : p.w.heap.size + 2 ≤ w3.heap.size := by have := hg3.size; omega
  have a3 : Inv (p.pB w3 g2.F N []) g2 σ2.m w3 := qp (q_step q3 (by omega)) nz2 fun _ _ => rfl
  refine wpIn_mono (awpIn_ok (B := p.pB w3 g2.F N []) hCK hm rfl body _ σ2 _ _ hpb ⟨⟨g2, slots_ext hs2 e3, a3⟩, hd2, hz2⟩ hq) ?_
  rintro e a4 w4 ⟨σ4, hR4, hq4⟩
  obtain ⟨⟨g4, hs4, hI4⟩, hd4, hz4⟩ := hR4
  have nz4 : NoZ p g4 σ4.m := noZ hI4 (fun b h => by rcases h with rfl | rfl <;> omega) nz2.F
  have hl4 := (keepZ hI4 hsz3 _ zl).trans hl3
  have hk4 := (keepZ hI4 hsz3 _ zD).trans hk3
  have hsz4 : p.w.heap.size + 2 ≤ w4.heap.size := by have : w3.heap.size ≤ w4.heap.size := hI4.size; omega
  have fin : ∀ jump : Option Code, ∃ w5, (Instr.endRound (p.w.heap.size + 1) jump).run P w4 = .ok (.bool jump.isNone) w5 ∧ w5.heap[p.w.heap.size + 1]? = some (.loop (lpRec fn tmps ps assign body p.w.heap.size (if jump.isNone then .ready else .done) jump)) ∧ w5.heap[p.w.heap.size]? = some (.deferred (some [])) ∧
      Inv (p.qB w1 g1.F N []) g4 σ4.m w5 := fun jump => by
    refine ⟨_, run_endRound jump hl4, World.putObj_heap_same (by omega), (World.putObj_heap_other (by omega)).trans hk4, ?_⟩
    exact q_join q3 (q_turn (pq hI4) nz4 zl (grownBy_putObj' _ _ _)).2
  have stop : ∀ e c, jumpOf e = some c → QJ e σ4.m → ∃ v w', (Instr.endRound (p.w.heap.size + 1) (some c)).run P w4 = .ok v w' ∧ ((Ending.returned v = .returned (.bool true) ∧ ∃ g' m', Ext { (p.pB W1 p.g.F Ng ds).g0 with F := g1.F } w1 g' w' ∧ Inv (p.pB W1 p.g.F Ng ds) g' m' w' ∧ k m') ∨ (Ending.returned v = .returned (.bool false) ∧ Stop p (lpRec fn tmps ps assign body p.w.heap.size) W1 Ng ds QJ w')) := fun e c he hj => by
    obtain ⟨w5, r1, r2, r3, r4⟩ := fin (some c)
    exact ⟨_, w5, r1, .inr ⟨rfl, ⟨e, c, g4, σ4.m, he, r2, r3, q_join q1 r4, nz4, hj⟩⟩⟩
  cases e with
  | normal =>
    obtain ⟨w5, r1, r2, r3, r4⟩ := fin none
    refine ⟨_, w5, r1, .inl ⟨rfl, g4, σ4.m, ⟨r4.ext.K, r4.ext.β, r4.ext.sz, r4.ext.F, r4.ext.cell⟩, qp (q_join q1 r4) nz4 fun b hz => ?_, hq4⟩⟩
    rcases hz with rfl | rfl
    · exact r3.trans hk1.symm
    · exact r2.trans hl1.symm
  | ret => exact stop .ret .ret rfl hq4
  | exit i => exact stop (.exit i) (.exit i) rfl hq4
  | goto t => exact hq4.elim
  | panic c => exact hq4.elim
  | outgrown => exact hq4.elim
end Part
end Go.Abs

/- The statement of a range over a function, in a part. -/
namespace Go.Abs
open Go.RowKit
set_option linter.unusedVariables false
set_option linter.unusedSimpArgs false
namespace Part
variable {P : Program} {p : Part} {N Ng : Nat} {qc qcg : Nat → Bool} {CK CKg : Nat → KT} {τ : List (Nat × TI)}
def genQ (QJ : Exit → Mem → Prop) : Exit → TK
  | .normal => fun _ m => QJ .normal m
  | .ret => fun _ m => QJ .normal m
  | _ => fun _ _ => False
theorem range_in (hτ : TyOk P τ) {np npg : NPT} (hCK : ∀ f args d m k, CK f args d m k → callK P qc f args d m k) (hCKg : ∀ f args d m k, CKg f args d m k → callK P qcg f args d m k) (hm : P.follows .mixedOrders = true)
    {gop : Operand} {ps : Array Tmp} {assign body : Code} {a : Act} (hN : a.tmps.size = N) (hpa : plainC assign = true) (hpb : plainC body = true) (hps : ∀ q ∈ ps.toList, q < N)
    {f : FuncId} {fnG : Func} {gc : Code} (hf : P.funcs[f]? = some fnG) (hname : (fnG.name == "runtime.NumGoroutine") = false) (hb : fnG.body = some gc) (hNg : fnG.ntmps = Ng) (hres : fnG.results = #[]) (hcg : codeOk qcg npg Ng gc = true)
    {caps : List Cell} {us : List Value} (hg : a.eval gop = .func (.func f) #[] us.toArray) (hul : us.length = caps.length) (hur : ∀ (j : Nat) c u, caps[j]? = some c → us[j]? = some u → RepC p.g p.w c u) (hsz : caps.length + 1 ≤ Ng)
    {t0 : List (Nat × AV)} (hs0 : Slots p.g p.w (tget t0) { tmps := a.tmps, defers := [] }) (hI : Inv (p.qB p.w p.g.F N []) p.g ⟨p.m, 0, []⟩ p.w) {kx : Nat} (hKx : ∀ i, KX kx i → p.g.K i) {QJ : Exit → Mem → Prop}
    {Y : YT} (hYc : ∀ args m k, Y args m k → args.length = ps.size ∧ awp P qc np CK N assign (fun e σ => match e with | .normal => awp P qc np CK N body (roundQ QJ k) σ | _ => False) ⟨setPs ps.toList args t0, m⟩)
    (h : awpYC τ npg CKg kx Ng (p.w.heap.size + 1) Y gc (genQ QJ) (initT (yV (p.w.heap.size + 1) :: caps.map .c) 0) ⟨p.m, 0, []⟩) :
    (Code.rangeFunc gop ps assign body).wpIn Fence.wide 0 P (fun e a' w' => a'.tmps = a.tmps ∧ a'.defers = { target := .collected p.w.heap.size, args := #[] } :: a.defers ∧ w'.heap[p.w.heap.size]? = some (.deferred (some [])) ∧ ∃ g' m', Inv (p.qB p.w p.g.F N []) g' m' w' ∧ NoZ p g' m' ∧ QJ e m') a p.w := by
  refine wpIn_rangeFunc fun fn _ => ?_
  rw [show Fence.wide.round = none from rfl]
  obtain ⟨W1, hW1⟩ : ∃ W1, (p.w.alloc (.deferred (some []))).alloc (.loop (lpRec fn a.tmps ps assign body p.w.heap.size .ready none)) = W1 := ⟨_, rfl⟩
  have hl1 : W1.heap[p.w.heap.size + 1]? = some (.loop (lpRec fn a.tmps ps assign body p.w.heap.size .ready none)) := by
    rw [← hW1]; have := World.alloc_heap_new (p.w.alloc (.deferred (some []))) (.loop (lpRec fn a.tmps ps assign body p.w.heap.size .ready none)); rwa [World.size_alloc] at this
  have hk1 : W1.heap[p.w.heap.size]? = some (.deferred (some [])) := by
    rw [← hW1]; exact (Below.heap_alloc _ _ _ (by simp)).trans (World.alloc_heap_new p.w _)
  have hWs : W1.heap.size = p.w.heap.size + 2 := by rw [← hW1]; simp
  obtain ⟨e1, i1⟩ := inv_quiet hI (World.grownBy_alloc p.w (.deferred (some [])) none)
  obtain ⟨e2, i2⟩ := inv_quiet i1 (World.grownBy_alloc (p.w.alloc (.deferred (some []))) (.loop (lpRec fn a.tmps ps assign body p.w.heap.size .ready none)) none)
  rw [hW1] at e2 i2
  have heW : Ext p.g p.w p.g W1 := e1.trans e2
  have nz0 : NoZ p p.g ⟨p.m, 0, []⟩ := ⟨fun b o hf hz => by have := p.flt b o hf; rcases hz with rfl | rfl <;> omega, fun i o b hi hb hz => by have := p.tch b ⟨i, o, hi, hb⟩; rcases hz with rfl | rfl <;> omega⟩
  have hIg : Inv (p.pB W1 p.g.F Ng []) p.g ⟨p.m, 0, []⟩ W1 := qp (q_step i2 (Nat.le_refl _)) nz0 fun _ _ => rfl
  refine ⟨p.w.heap.size + 1, [{ target := .collected p.w.heap.size, args := #[] }], W1, { target := .fn (.func f) us.toArray, args := #[.func (.yield (p.w.heap.size + 1)) #[] #[]] }, W1, f,
    #[.func (.yield (p.w.heap.size + 1)) #[] #[]] ++ us.toArray, W1, ?_, ?_, fun _ _ => trivial, ?_, fun h => by simp [Fence.wide] at h, ?_⟩
  · rw [← hW1]; exact run_enterLoop_outer _ _ _ _ _
  · simp only [resolve, hg]
    simp [go_sem]
  · simp [invoke, go_sem, callable hf hname hb]
  have hY0 := round_ok (Ng := Ng) (ds := []) (qc := qc) (np := np) hCK hm (fn := fn) (p := p) hN hpa hpb hps hWs hl1 hk1 heW hs0 (QJ := QJ)
  have hY : YOk P (p.pB W1 p.g.F Ng []) (p.w.heap.size + 1) (Stop p (lpRec fn a.tmps ps assign body p.w.heap.size) W1 Ng [] QJ) Y := fun args m k h => hY0 args m k (hYc args m k h)
  refine callsIn_of_wp hf hb trivial ?_
  have hR : RS (p.pB W1 p.g.F Ng []) (tget (initT (yV (p.w.heap.size + 1) :: caps.map .c) 0)) ⟨p.m, 0, []⟩ { tmps := ((#[Value.func (.yield (p.w.heap.size + 1)) #[] #[]] : Array Value) ++ us.toArray) ++ Array.replicate (fnG.ntmps - ((#[Value.func (.yield (p.w.heap.size + 1)) #[] #[]] : Array Value) ++ us.toArray).size) undef, defers := [] } W1 := by
    refine ⟨⟨p.g, fun t x hx => ?_, hIg⟩, rfl, by simp [pB]; omega⟩
    obtain ⟨_, h2⟩ := initT_get _ 0 t hx
    rw [Nat.sub_zero] at h2
    have ht : t < us.length + 1 := by have := (List.getElem?_eq_some_iff.1 h2).1; simp at this; omega
    have hgt : ∀ (r : Array Value), (((#[Value.func (.yield (p.w.heap.size + 1)) #[] #[]] : Array Value) ++ us.toArray) ++ r)[t]? = (Value.func (.yield (p.w.heap.size + 1)) #[] #[] :: us)[t]? := fun r => by
      rw [Array.getElem?_append, if_pos (by simp; omega), show (#[Value.func (.yield (p.w.heap.size + 1)) #[] #[]] : Array Value) ++ us.toArray = (Value.func (.yield (p.w.heap.size + 1)) #[] #[] :: us).toArray by simp]
      simp
    cases t with
    | zero =>
      simp at h2
      subst h2
      exact ⟨_, hgt _, .c (.pure (.sc rfl))⟩
    | succ t =>
      simp only [List.getElem?_cons_succ, List.getElem?_map] at h2
      obtain ⟨c, hc, rfl⟩ := Option.map_eq_some_iff.1 h2
      have hu := List.getElem?_eq_getElem (show t < us.length by omega)
      exact ⟨us[t], (hgt _).trans (by rw [List.getElem?_cons_succ]; exact hu), .c ((hur t c _ hc hu).ext heW)⟩
  refine wpIn_mono (awpYC_ok hτ hY hKx hCKg hm rfl gc hcg _ _ _ _ _ hR h) ?_
  rintro e a3 w3 hq
  have hrun : ∀ (tm : Array Value) (w : World), ∃ v, (results fnG tm).run P w = .ok v w := fun tm w => by
    unfold results
    rw [hres]
    exact ⟨_, by simp; rfl⟩
  have zl : p.Z (p.w.heap.size + 1) := .inr rfl
  have zD : p.Z p.w.heap.size := .inl rfl
  have keepZ : ∀ {g m w}, Inv (p.pB W1 p.g.F Ng []) g m w → ∀ b, p.Z b → w.heap[b]? = W1.heap[b]? := fun h b hz => h.block b (by rcases hz with rfl | rfl <;> (show _ < _; dsimp only [pB]; omega)) fun hx => hx.1 hz
  have out : ∀ {g' : G} {m' : Mem} {w : World} (st : LoopState) (pe : Option Code), Inv (p.qB W1 p.g.F Ng []) g' m' w → NoZ p g' m' → w.heap[p.w.heap.size + 1]? = some (.loop (lpRec fn a.tmps ps assign body p.w.heap.size st pe)) → w.heap[p.w.heap.size]? = some (.deferred (some [])) → st ≠ .busy →
      ∃ w4, (Instr.endLoop (p.w.heap.size + 1)).run P w = .ok pe w4 ∧ w4.heap[p.w.heap.size]? = some (.deferred (some [])) ∧ Inv (p.qB p.w p.g.F N []) g' m' w4 := fun st pe hi hn hl hk hb => by
    have hs : p.w.heap.size + 1 < _ := (Array.getElem?_eq_some_iff.1 hl).1
    refine ⟨_, run_endLoop hl hb, (World.putObj_heap_other (by omega)).trans hk, ?_⟩
    exact q_join i2 (q_turn hi hn zl (grownBy_putObj' _ _ _)).2
  have goN : ∀ {g' : G} {m' : Mem} {v : Value}, Inv (p.pB W1 p.g.F Ng []) g' m' w3 → QJ .normal m' → rangePost Fence.wide 0 P (p.w.heap.size + 1) (fun e a' w' => a'.tmps = a.tmps ∧ a'.defers = { target := .collected p.w.heap.size, args := #[] } :: a.defers ∧ w'.heap[p.w.heap.size]? = some (.deferred (some [])) ∧ ∃ g' m', Inv (p.qB p.w p.g.F N []) g' m' w' ∧ NoZ p g' m' ∧ QJ e m') { a with defers := [{ target := .collected p.w.heap.size, args := #[] }] ++ a.defers } (.returned v) w3 := fun {g' m' v} hi hj => by
    have hn : NoZ p g' m' := noZ hi (fun b h => by rcases h with rfl | rfl <;> omega) nz0.F
    obtain ⟨w4, r1, r2, r3⟩ := out .ready none (pq hi) hn ((keepZ hi _ zl).trans hl1) ((keepZ hi _ zD).trans hk1) (by simp)
    exact ⟨none, w4, r1, rfl, rfl, r2, g', m', r3, hn, hj⟩
  rcases hq with ⟨t, m', ⟨⟨g', _, hI3⟩, hd3, _⟩, hj⟩ | ⟨rfl, hd3, _, ⟨e, c, g', m', he, hl3, hk3, hI3, hn3, hj⟩⟩
  · obtain ⟨v, hv⟩ := hrun a3.tmps w3
    cases e with
    | normal => exact ⟨hd3, v, hv, goN hI3 hj⟩
    | ret => exact ⟨hd3, v, hv, goN hI3 hj⟩
    | _ => exact hj.elim
  · obtain ⟨v, hv⟩ := hrun a3.tmps w3
    obtain ⟨w4, r1, r2, r3⟩ := out .done (some c) hI3 hn3 hl3 hk3 (by simp)
    refine ⟨hd3, v, hv, some c, w4, r1, ?_⟩
    cases e with
    | ret => cases he; exact wpIn_ret ⟨rfl, rfl, r2, g', m', r3, hn3, hj⟩
    | exit i => cases he; exact wpIn_exit ⟨rfl, rfl, r2, g', m', r3, hn3, hj⟩
    | _ => cases he
end Part
end Go.Abs
