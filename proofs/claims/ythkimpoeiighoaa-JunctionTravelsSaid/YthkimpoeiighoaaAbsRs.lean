/- The evaluator over code with ranges over functions: marks among the deferred calls. -/
import Derived.Test.YthkimpoeiighoaaAbsRr
namespace Go.Abs
open Go.RowKit
set_option linter.unusedVariables false
set_option linter.unusedSimpArgs false
/-- The state is right, and the frame's deferred calls are marks. -/
structure RSM (B : Base) (t : List (Nat × AV)) (m : Mem) (a : Act) (w : World) : Prop where
  ex : ∃ (Ds : List Nat) (g : G), Slots g w (tget t) a ∧ Inv B g m w ∧ a.defers = Ds.map markD ∧ a.tmps.size = B.N ∧ Ds.Nodup ∧ ∀ D ∈ Ds, w.heap[D]? = some (.deferred (some [])) ∧ (∀ o, ¬ g.F D o) ∧ B.w0.heap.size ≤ D
section
variable {P : Program} {B : Base} {τ : List (Nat × TI)} {N : Nat} {qc : Nat → Bool}
theorem own_mark {g : G} {m : Mem} {w : World} (hI : Inv B g m w) {D : Nat} (hh : w.heap[D]? = some (.deferred (some []))) (i : Id) (o : MObj) (hi : mget m.o i = some o) : blockOf (g.β i) ≠ some D := fun hb => by
  obtain ⟨c, T, z, hc⟩ := own_cells (hI.ok i o hi).2 hb
  rw [hh] at hc
  cases hc
theorem lt_mark {w : World} {D : Nat} {x : Obj} (hh : w.heap[D]? = some x) : D < w.heap.size := by
  rcases Array.getElem?_eq_some_iff.1 hh with ⟨h, _⟩
  exact h
/-- A walk of a piece: in a base that keeps the marks. -/
theorem rsm_walk {t : List (Nat × AV)} {m : Mem} {a : Act} {w : World} (h : RSM B t m a w) : ∃ B' : Base, B'.N = B.N ∧ RS B' (tget t) m a w ∧ ∀ t' m' a' w', RS B' (tget t') m' a' w' → RSM B t' m' a' w' := by
  obtain ⟨Ds, g, hs, hI, hd, hz, hn, hD⟩ := h.ex
  have hO := hI.over
  refine ⟨reB B w B.N a.defers (· ∈ Ds), rfl, ⟨⟨g, hs, ?_⟩, rfl, hz⟩, ?_⟩
  · refine hI.back hO (Nat.le_refl _) (fun _ _ _ => rfl) (fun b o hf => .inr (.inr fun hb => (hD b hb).2.1 o hf)) (fun i o b hi hb => .inr fun hz => own_mark hI (hD b hz).1 i o hi hb)
  · rintro t' m' a' w' ⟨⟨g', hs', hI'⟩, hd', hz'⟩
    refine ⟨Ds, g', hs', hI'.out hO, hd'.trans hd, hz', hn, fun D hm => ?_⟩
    obtain ⟨h1, h2, h3⟩ := hD D hm
    have hlt := lt_mark h1
    refine ⟨(hI'.block D hlt fun hx => hx.1 hm).trans h1, fun o hf => ?_, h3⟩
    rcases hI'.fnew D o hf with h4 | h4 | h4
    · exact h2 o (hI.ext.F _ _ h4)
    · have h4 : w.heap.size ≤ D := h4
      omega
    · exact h4.1 hm
theorem rsm_shift {a b : St} (hs : Shift a b) {act : Act} {w : World} (h : RSM B b.t b.m act w) : RSM B a.t a.m act w := by
  obtain ⟨B', _, h1, h2⟩ := rsm_walk h
  exact h2 _ _ _ _ (hs B' act w h1)
theorem rsm_bump {t : List (Nat × AV)} {m : Mem} {a : Act} {w : World} (h : RSM B t m a w) : RSM B t (bump m) a w := by
  obtain ⟨B', _, h1, h2⟩ := rsm_walk h
  exact h2 _ _ _ _ h1.bump

def awpT (P : Program) (τ : List (Nat × TI)) (np : NPT) (CK : Nat → KT) (RC : Operand → Array Tmp → Code → Code → (Exit → TK) → TK) : Code → (Exit → TK) → TK
  | .skip, Q => Q .normal
  | .label _, Q => Q .normal
  | .region id ops draw, Q => awpC τ np CK (.region id ops draw) Q
  | .seq a b, Q => awpT P τ np CK RC a (seqQ (awpT P τ np CK RC b Q) Q)
  | .cond c a b, Q => condK c (awpT P τ np CK RC a Q) (awpT P τ np CK RC b Q)
  | .block id c, Q => awpT P τ np CK RC c (blockQ id Q)
  | .loop c, Q => fun t m => ∃ (X : Type) (I : X → List (Nat × AV) × Mem) (inv : X → Prop) (μ : X → Nat) (x0 : X), inv x0 ∧ Shift ⟨(I x0).1, (I x0).2⟩ ⟨t, m⟩ ∧
      ∀ x, inv x → awpT P τ np CK RC c (fun e t m => match e with | .normal => ∃ x', inv x' ∧ Shift ⟨(I x').1, (I x').2⟩ ⟨t, m⟩ ∧ μ x' < μ x | e => Q e t m) (I x).1 (I x).2
  | .exit id, Q => Q (.exit id)
  | .ret, Q => Q .ret
  | .rangeFunc g ps a b, Q => RC g ps a b Q
  | _, _ => fun _ _ => False
/-- What holds behind a part of the code. -/
def concT (B : Base) (Q : Exit → TK) : Exit → Act → World → Prop := fun e a w => ∃ t m, RSM B t m a w ∧ Q e t m
/-- A rule for the statement. -/
def RCOk (P : Program) (N : Nat) (RC : Operand → Array Tmp → Code → Code → (Exit → TK) → TK) : Prop := ∀ (B : Base), B.N = N → ∀ gop ps a b Q t m act w, RSM B t m act w → RC gop ps a b Q t m → (Code.rangeFunc gop ps a b).wpIn Fence.wide 0 P (concT B Q) act w
theorem awpT_ok (hτ : TyOk P τ) {np : NPT} {CK : Nat → KT} (hCK : ∀ f args d m k, CK f args d m k → callK P qc f args d m k) (hm : P.follows .mixedOrders = true) {RC : Operand → Array Tmp → Code → Code → (Exit → TK) → TK} (hRC : RCOk P N RC) (hN : B.N = N) :
    ∀ (c : Code) (_ : codeOk qc np N c = true) (Q : Exit → TK) (t : List (Nat × AV)) (m : Mem) (a : Act) (w : World), RSM B t m a w → awpT P τ np CK RC c Q t m → c.wpIn Fence.wide 0 P (concT B Q) a w := by
  have hCC : ∀ f args d m k, callK P qc f args d m k → callK P qc f args d m k := fun _ _ _ _ _ h => h
  intro c
  induction c with
  | skip => intro _ Q t m a w hR h; exact wpIn_skip ⟨t, m, hR, h⟩
  | label l => intro _ Q t m a w hR h; exact wpIn_label ⟨t, m, hR, h⟩
  | exit id => intro _ Q t m a w hR h; exact wpIn_exit ⟨t, m, hR, h⟩
  | ret => intro _ Q t m a w hR h; exact wpIn_ret ⟨t, m, hR, h⟩
  | region id ops draw =>
    intro hc Q t m a w hR h
    obtain ⟨B', hN', h1, h2⟩ := rsm_walk hR
    refine wpIn_mono (wpIn_wide.2 (awp_ok (B := B') hCC hm (hN'.trans hN) _ _ ⟨t, m⟩ a w h1 (awpC_ok hτ hCK hc h))) fun e a w ⟨σ, h3, h4⟩ => ⟨σ.t, σ.m, h2 _ _ _ _ h3, h4⟩
  | seq x y ihx ihy =>
    intro hc Q t m a w hR h
    simp only [codeOk, Bool.and_eq_true] at hc
    refine wpIn_seq (wpIn_mono (ihx hc.1 _ t m a w hR h) fun e a w ⟨t', m', h1, h2⟩ => ?_)
    cases e with
    | normal => exact ihy hc.2 Q t' m' a w h1 h2
    | _ => exact ⟨t', m', h1, h2⟩
  | cond c x y iha ihb =>
    intro hc Q t m a w hR h
    simp only [codeOk, Bool.and_eq_true] at hc
    unfold awpT condK at h
    obtain ⟨v, h1, h2⟩ := evK_ok h
    split at h2
    · obtain ⟨_, g, hs, _⟩ := hR.ex
      have hv := isBool (ev_rep hs h1)
      exact wpIn_cond_split hv (fun e => iha hc.1 Q t m a w hR (h2.yes e)) (fun e => ihb hc.2 Q t m a w hR (h2.no e))
    · exact h2.elim
  | block id c ih =>
    intro hc Q t m a w hR h
    refine wpIn_block (wpIn_mono (ih hc _ t m a w hR h) fun e a w ⟨t', m', h1, h2⟩ => ?_)
    cases e with
    | exit i =>
      simp only [blockQ] at h2
      simp only [Exit.inBlock]
      cases hi : Nat.beq i id with
      | true => rw [hi] at h2; rw [if_pos (natBeq hi)]; exact ⟨t', m', h1, h2⟩
      | false => rw [hi] at h2; rw [if_neg (natBeqF hi)]; exact ⟨t', m', h1, h2⟩
    | _ => exact ⟨t', m', h1, h2⟩
  | loop c ih =>
    intro hc Q t m a w hR h
    obtain ⟨X, I, inv, μ, x0, h0, hs, hround⟩ := h
    refine wpIn_loop_ghost (fun n a w => ∃ x, inv x ∧ RSM B (I x).1 (I x).2 a w ∧ μ x = n) (μ x0) ⟨x0, h0, rsm_shift hs hR, rfl⟩ ?_
    intro n a w ⟨x, hx, hRx, hn⟩
    refine wpIn_mono (ih hc _ (I x).1 (I x).2 a w hRx (hround x hx)) fun e a' w' ⟨t', m', h1, h2⟩ => ?_
    cases e with
    | normal =>
      obtain ⟨x', hx', hsh, hlt⟩ := h2
      exact ⟨μ x', by omega, x', hx', rsm_shift hsh h1, rfl⟩
    | _ => exact ⟨t', m', h1, h2⟩
  | rangeFunc f p x y _ _ => intro _ Q t m a w hR h; exact hRC B hN _ _ _ _ Q t m a w hR h
  | scope c ih => intro _ Q t m a w hR h; exact h.elim
  | goto l => intro _ Q t m a w hR h; exact h.elim
  | refuse s => intro _ Q t m a w hR h; exact h.elim

/-- The statement, its memory named as it was. -/
def rcK (τ : List (Nat × TI)) (np : NPT) (CK : Nat → KT) (qc : Nat → Bool) (N : Nat) (G : Gen P) : Operand → Array Tmp → Code → Code → (Exit → TK) → TK := fun gop ps a b Q t m => rangeC τ np CK qc N G gop ps a b (fun e m' => Q e t m') t m
theorem rcK_ok (hτ : TyOk P τ) {np : NPT} {CK : Nat → KT} (hCK : ∀ f args d m k, CK f args d m k → callK P qc f args d m k) (hm : P.follows .mixedOrders = true) (G : Gen P) : RCOk P N (rcK τ np CK qc N G) := fun B hN gop ps x y Q t m a w hR h => by
  obtain ⟨Ds, g, hs, hI, hd, hz, hn, hD⟩ := hR.ex
  have hO := hI.over
  have hR' : RS (reB B w B.N a.defers (· ∈ Ds)) (tget t) m a w := ⟨⟨g, hs, hI.back hO (Nat.le_refl _) (fun _ _ _ => rfl) (fun b o hf => .inr (.inr fun hb => (hD b hb).2.1 o hf)) (fun i o b hi hb => .inr fun hz => own_mark hI (hD b hz).1 i o hi hb)⟩, rfl, hz⟩
  refine wpIn_mono (rangeC_ok hτ hCK hm (B := reB B w B.N a.defers (· ∈ Ds)) hN hR' h) ?_
  rintro e a' w' ⟨q1, q2, q3, g', m', hs', hI', hF', hw', hQ⟩
  have hlt : ∀ D ∈ Ds, D < w.heap.size := fun D hm => lt_mark (hD D hm).1
  refine ⟨t, m', ⟨w.heap.size :: Ds, g', hs', hI'.out hO, by rw [q2, hd]; rfl, by rw [q1]; exact hz, List.nodup_cons.2 ⟨fun hm => Nat.lt_irrefl _ (hlt _ hm), hn⟩, fun D hm => ?_⟩, hQ⟩
  rcases List.mem_cons.1 hm with rfl | hm
  · exact ⟨q3, hF', hI.size⟩
  · obtain ⟨h1, h2, h3⟩ := hD D hm
    refine ⟨(hI'.block D (hlt D hm) fun hx => hx.1 hm).trans h1, fun o hf => ?_, h3⟩
    rcases hI'.fnew D o hf with h4 | h4 | h4
    · exact h2 o (hI.ext.F _ _ h4)
    · have h4 : w.heap.size ≤ D := h4
      have := hlt D hm
      omega
    · exact h4.1 hm

/-! ### A function's end -/

theorem leaves_marks {fn : Func} {tmps : Array Value} {R : Ending → World → Prop} {g : G} {m : Mem} : ∀ {Ds : List Nat} {w : World}, Inv B g m w → Ds.Nodup → (∀ D ∈ Ds, w.heap[D]? = some (.deferred (some [])) ∧ (∀ o, ¬ g.F D o) ∧ B.w0.heap.size ≤ D) →
    (∀ w', Ext g w g w' → Inv B g m w' → ∃ v, (results fn tmps).run P w' = .ok v w' ∧ R (.returned v) w') → LeavesInM Fence.wide 0 P fn tmps R (Ds.map markD) .returning w
  | [], w, hI, _, _, h => by
    obtain ⟨v, h1, h2⟩ := h w (.refl _ _) hI
    exact leaves_none h1 h2
  | D :: r, w, hI, hn, hD, h => by
    obtain ⟨h1, h2, h3⟩ := hD D (by simp)
    have hlt := lt_mark h1
    obtain ⟨hnD, hnr⟩ := List.nodup_cons.1 hn
    obtain ⟨e1, i1⟩ := hI.foreign (grownBy_putObj' w D (.deferred none)) (.inl h3) h2 fun i o hi => own_mark hI h1 i o hi
    rw [List.map_cons]
    unfold LeavesInM
    refine ⟨by simp, .inl ⟨D, _, rfl, run_takeDeferred h1, ?_⟩⟩
    refine leaves_marks i1 hnr (fun D' hm => ?_) fun w' e2 i2 => h w' (e1.trans e2) i2
    obtain ⟨h4, h5, h6⟩ := hD D' (by simp [hm])
    exact ⟨(World.putObj_heap_other (fun e => hnD (by rw [← e]; exact hm))).trans h4, h5, h6⟩

theorem calls_of_T {f : FuncId} {fn : Func} {c : Code} {args : Array Value} {w : World} {R : Ending → World → Prop} (hf : P.funcs[f]? = some fn) (hb : fn.body = some c) {Q : Exit → TK}
    (h : c.wpIn Fence.wide 0 P (concT B Q) { tmps := args ++ Array.replicate (fn.ntmps - args.size) undef, defers := [] } w)
    (hQ : ∀ e t m, Q e t m → (e = .normal ∨ e = .ret) ∧ ∀ g (a : Act) w', Slots g w' (tget t) a → Inv B g m w' → ∃ v, (results fn a.tmps).run P w' = .ok v w' ∧ R (.returned v) w') : Calls P f args w R := by
  refine callsIn_wide (n := 0).1 (callsIn_of_wp_marks hf hb trivial (wpIn_mono h ?_))
  rintro e a w ⟨t, m, ⟨Ds, g, hs, hI, hd, hz, hn, hD⟩, hq⟩
  obtain ⟨he, hq⟩ := hQ e t m hq
  have key : LeavesInM Fence.wide 0 P fn a.tmps R a.defers .returning w := by
    rw [hd]
    exact leaves_marks hI hn hD fun w' e' i' => hq g a w' (slots_ext hs e') i'
  rcases he with rfl | rfl <;> exact key

theorem rsm_of {t : List (Nat × AV)} {m : Mem} {a : Act} {w : World} (h : RS B (tget t) m a w) (hd : B.ds = []) : RSM B t m a w := by
  obtain ⟨⟨g, hs, hI⟩, h1, h2⟩ := h
  exact ⟨[], g, hs, hI, h1.trans hd, h2, List.nodup_nil, fun D hm => by cases hm⟩

/-- A function with ranges over functions, given data, that hands back data. -/
theorem doesT_of {f : Nat} {fn : Func} {c : Code} {rs : Array ResultVar} {np : NPT} {CK : Nat → KT} {RC : Operand → Array Tmp → Code → Code → (Exit → TK) → TK} (hm : P.follows .mixedOrders = true) (hf : P.funcs[f]? = some fn) (hname : (fn.name == "runtime.NumGoroutine") = false) (hb : fn.body = some c) (hn : fn.ntmps = N) (hrs : fn.results = rs) (hτ : TyOk P τ)
    (hcode : codeOk qc np N c = true) {args : List AV} {r : AV} (hCK : ∀ f args d m k, CK f args d m k → callK P qc f args d m k) (hRC : RCOk P N RC) (hsz : args.length ≤ N)
    (h : initK args fun t => awpT P τ np CK RC c (fun e t m => match e with
      | .normal => resK τ t m rs.toList fun l => purAsK m l fun l _ => r = oneOf l
      | .ret => resK τ t m rs.toList fun l => purAsK m l fun l _ => r = oneOf l
      | _ => False) t ⟨[], 0, []⟩) : Does P f args r := by
  subst hn
  refine ⟨callable hf hname hb, fun F w vals hF hl hr => ?_⟩
  let B : Base := { w0 := w, X := fun _ => False, g0 := g0 F, N := fn.ntmps, gx := fun _ h => h.elim }
  have hI : Inv B (g0 F) ⟨[], 0, []⟩ w := { ok := fun i o h => (by cases h), apart := fun i j oi oj b h => (by cases h), fresh := fun _ _ _ h => h.elim, flt := hF, ext := .refl _ _, fnew := fun b o h => .inl h, own := fun i o b h => (by cases h), os := rfl, tape := rfl, output := rfl, size := Nat.le_refl _, block := fun _ _ _ => rfl }
  have hR : RS B (tget (initT args 0)) ⟨[], 0, []⟩ { tmps := vals.toArray ++ Array.replicate (fn.ntmps - vals.toArray.size) undef, defers := [] } w := by
    refine ⟨⟨g0 F, fun t x hx => ?_, hI⟩, rfl, by simp [B]; omega⟩
    obtain ⟨_, h2⟩ := initT_get args 0 t hx
    rw [Nat.sub_zero] at h2
    have ht : t < vals.length := by rw [hl]; exact (List.getElem?_eq_some_iff.1 h2).1
    refine ⟨vals[t], ?_, hr t x _ h2 (List.getElem?_eq_getElem ht)⟩
    rw [Array.getElem?_append, if_pos (by simpa using ht)]
    simp [ht]
  refine calls_of_T (B := B) hf hb (awpT_ok hτ hCK hm hRC rfl c hcode _ _ _ _ _ (rsm_of hR rfl) (initK_go h)) fun e t m hq => ?_
  have fin : (resK τ t m rs.toList fun l => purAsK m l fun l _ => r = oneOf l) → ∀ g (a : Act) w', Slots g w' (tget t) a → Inv B g m w' → ∃ v', (results fn a.tmps).run P w' = .ok v' w' ∧ ∃ v F', (Ending.returned v') = .returned v ∧ (∀ b o, F b o → F' b o) ∧ (∀ b o, F' b o → F b o ∨ w.heap.size ≤ b) ∧ (∀ b o, F' b o → b < w'.heap.size) ∧ RepA (g0 F') w' r v ∧ Below w.heap.size w w' := fun hr g a w' hs hI' => by
    subst hrs
    obtain ⟨l, h1, h2⟩ := resK_ok hτ hr
    obtain ⟨l', m', h3, h4⟩ := purAsK_ok h2
    obtain ⟨v, g', m', q1, q2, q3, q4⟩ := results_ok (σ := ⟨t, m⟩) hs hI' ⟨l, l', m', h1, h3, h4⟩
    exact ⟨v, q1, v, g'.F, rfl, q3.ext.F, fun b o hF' => by rcases q3.fnew b o hF' with h | h | h; exact .inl h; exact .inr h; exact h.elim, q3.flt, q4, ⟨q3.os, q3.tape, q3.output, q3.size, fun k hk => q3.block k hk (fun h => h)⟩⟩
  cases e with
  | normal => exact ⟨.inl rfl, fin hq⟩
  | ret => exact ⟨.inr rfl, fin hq⟩
  | _ => exact hq.elim
end
end Go.Abs
