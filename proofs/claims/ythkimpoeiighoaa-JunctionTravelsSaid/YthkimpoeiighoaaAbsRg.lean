/- Proved here: what functions of the given program come to, and the plain laws of it; no condition but those in the theorems. -/
import Derived.Test.YthkimpoeiighoaaAbsBA
import Derived.RangeFuncLeaves
import Derived.RangeFuncKeeps
import Derived.RangeFuncCalls
import Derived.TacticsIn
/- Code walked within a round of a range over a function. -/
namespace Go.Abs
open Go.RowKit
set_option linter.unusedVariables false
set_option linter.unusedSimpArgs false

def plainOp (o : Oper) : Bool := match o.op with
  | .defer _ => false
  | _ => true
def plainL : List Oper → Bool
  | [] => true
  | o :: r => match plainOp o with
    | true => plainL r
    | false => false
theorem plainL_mem : ∀ {l : List Oper}, plainL l = true → ∀ o ∈ l, ∀ c, o.op ≠ .defer c
  | [], _, _, h, _ => by cases h
  | x :: l, h, o, ho, c => by
    simp only [plainL] at h
    split at h
    · rename_i e
      rcases List.mem_cons.1 ho with rfl | ho
      · intro e2; simp [plainOp, e2] at e
      · exact plainL_mem h o ho c
    · cases h
/-- Code without defer statements, scopes, other ranges over functions. -/
def plainC : Code → Bool
  | .skip => true
  | .label _ => true
  | .region _ ops _ => plainL ops.toList
  | .seq a b => match plainC a with
    | true => plainC b
    | false => false
  | .cond _ a b => match plainC a with
    | true => plainC b
    | false => false
  | .block _ c => plainC c
  | .loop c => plainC c
  | .exit _ => true
  | .ret => true
  | _ => false

section
variable {P : Program} {B : Base} {N : Nat} {qc : Nat → Bool} {CK : Nat → KT}

abbrev rF (L : Nat) : Fence := Fence.wide.inRound L

theorem callsIn_r {L n : Nat} {f : FuncId} {args : Array Value} {w : World} {R : Ending → World → Prop} (h : Calls P f args w R) : CallsIn (rF L) n P f args w R := CallsIn.inRound L (callsIn_wide.2 h)
theorem rowsIn_r {L n : Nat} {row : String} {args : Array Value} {w : World} {R : Value → World → Prop} (h : Rows P row args w R) : RowsIn (rF L) n P row args w R := fun c cs _ => by
  obtain ⟨v, w', r, s⟩ := h c cs
  exact ⟨v, w', r, stepsIn_wide.2 s⟩

theorem wpOps_in {L : Nat} {ops : Array Oper} {Q : Exit → Act → World → Prop} (hp : plainL ops.toList = true) (hQ : ¬ LetsOut Q) : ∀ (l : List Nat) (a : Act) (w : World), wpOps P ops Q l a w → wpOpsIn (rF L) 0 P ops Q l a w
  | [], a, w, h => h
  | i :: rest, a, w, h => by
    unfold wpOps at h
    unfold wpOpsIn
    cases ho : ops[i]? with
    | none => simp only [ho] at h; exact wpOps_in hp hQ rest a w h
    | some o =>
      simp only [ho] at h ⊢
      split at h
      · rename_i hw
        rw [if_pos hw]
        rcases h with h | ⟨_, h⟩
        · have hnd := plainL_mem hp o (by
            obtain ⟨h1, h2⟩ := Array.getElem?_eq_some_iff.1 ho
            rw [← h2]; simp)
          refine ⟨fun _ _ => trivial, ?_⟩
          rw [show (rF L).round = some L from rfl, Oper.semAt_some L _ _ hnd]
          unfold Oper.wp at h
          revert h
          generalize (execOp a.eval o).run P w = res
          intro h
          unfold Oper.upon at h
          unfold Oper.uponIn
          split at h
          · exact wpOps_in hp hQ rest _ _ h
          · exact wpOps_in hp hQ rest _ _ h
          · exact wpOps_in hp hQ rest _ _ h
          · refine ⟨fun h => by simp [rF, Fence.wide] at h, callsIn_r (h.mono fun e w' hr => ?_)⟩
            cases e with
            | returned v => exact wpOps_in hp hQ rest _ _ hr
            | panicked c => exact hr
            | outgrown => exact hr
          · exact ⟨fun h => by simp [rF, Fence.wide] at h, rowsIn_r (h.mono fun v w' hr => wpOps_in hp hQ rest _ _ hr)⟩
          · exact h
          · exact h.elim
        · exact absurd h hQ
      · rename_i hw
        rw [if_neg hw]
        exact ⟨fun _ _ => trivial, wpOps_in hp hQ rest _ _ h⟩

theorem wpIn_loop_ghost {F : Fence} {n : Nat} {c : Code} {Q : Exit → Act → World → Prop} {a : Act} {w : World} (I : Nat → Act → World → Prop) (j : Nat) (h₀ : I j a w)
    (round : ∀ j a w, I j a w → c.wpIn F n P (Exit.then (fun a' w' => ∃ i, i < j ∧ I i a' w') Q) a w) : (Code.loop c).wpIn F n P Q a w := by
  intro b k cs hro hb hr
  have key : ∀ j a w, I j a w →
      ∃ e a' w', Q e a' w' ∧ ArrivesIn (Machine.fenced P F) P (lone (b.atR a (.code c :: .inLoop c :: k)) cs w) b k cs e a' w' := by
    intro j
    induction j using Nat.strongRecOn with
    | _ j ih =>
      intro a w hI
      obtain ⟨e, a₁, w₁, hq, harr⟩ := round j a w hI b (.inLoop c :: k) cs hro hb hr
      cases e with
      | normal =>
        obtain ⟨i, hlt, hI₁⟩ := hq
        obtain ⟨e₂, a₂, w₂, hq₂, harr₂⟩ := ih i hlt a₁ w₁ hI₁
        exact ⟨e₂, a₂, w₂, hq₂, .of_steps (StepsIn.trans harr (.one (fenced_calm hb hr rfl) stepR_inLoop)) harr₂⟩
      | exit id => exact ⟨_, a₁, w₁, hq, .pass (x := .inLoop c) rfl (fun _ _ => .inl (by simp)) harr⟩
      | goto l => exact ⟨_, a₁, w₁, hq, .pass (x := .inLoop c) rfl (fun _ _ => .inl (by simp)) harr⟩
      | ret => exact ⟨_, a₁, w₁, hq, .pass (x := .inLoop c) rfl (fun _ _ => .inl (by simp)) harr⟩
      | panic ch => exact ⟨_, a₁, w₁, hq, .pass (x := .inLoop c) rfl (fun _ _ => .inl (by simp)) harr⟩
      | outgrown => exact ⟨_, a₁, w₁, hq, .pass (x := .inLoop c) rfl (fun _ _ => .inl (by simp)) harr⟩
  obtain ⟨e, a', w', hq, harr⟩ := key _ a w h₀
  exact ⟨e, a', w', hq, .of_steps (.one (fenced_calm hb hr rfl) stepR_loop) harr⟩

/-- What a region comes to, without the way out. -/
abbrev concN (B : Base) (Q : St → Prop) : Exit → Act → World → Prop := fun e a w => e = .normal ∧ ∃ σ : St, RS B (tget σ.t) σ.m a w ∧ Q σ
theorem concN_out {Q : St → Prop} : ¬ LetsOut (concN B Q) := by rintro ⟨a, w, h, _⟩; cases h

theorem awpIn_ok {L : Nat} {np : NPT} (hCK : ∀ f args d m k, CK f args d m k → callK P qc f args d m k) (hm : P.follows .mixedOrders = true) (hN : B.N = N) : ∀ (c : Code) (Q : Exit → St → Prop) (σ : St) (a : Act) (w : World), plainC c = true → RS B (tget σ.t) σ.m a w → awp P qc np CK N c Q σ → c.wpIn (rF L) 0 P (conc B Q) a w := by
  intro c
  induction c with
  | skip => intro Q σ a w _ hR h; exact wpIn_skip ⟨σ, hR, h⟩
  | label l => intro Q σ a w _ hR h; exact wpIn_label ⟨σ, hR, h⟩
  | exit id => intro Q σ a w _ hR h; exact wpIn_exit ⟨σ, hR, h⟩
  | ret => intro Q σ a w _ hR h; exact wpIn_ret ⟨σ, hR, h⟩
  | region id ops draw =>
    intro Q σ a w hp hR h
    have hp : plainL ops.toList = true := hp
    have fin : ∀ e a w, concN B (Q .normal) e a w → conc B Q e a w := fun e a w ⟨he, σ, h1, h2⟩ => by subst he; exact ⟨σ, h1, h2⟩
    cases draw with
    | false =>
      refine wpIn_mono (wpIn_region (wpOps_in hp (concN_out (B := B) (Q := Q .normal)) _ _ _ ?_)) fin
      rw [List.range_eq_range', ← Array.length_toList, wpOps_eq_wpList ops.toList 0 (by simp)]
      exact evalOps_wp hCK hN _ _ _ _ _ a w (fun ls σ' a w hR' hk => ⟨rfl, σ', hR', hk⟩) hR h
    | true =>
      obtain ⟨h1, h2⟩ := h
      obtain ⟨ls, q1, q2, q3⟩ := evalOps_listS hCK ops.toList 0 [] _ _ (by simp) ⟨fun _ _ => rfl, fun _ _ _ _ => rfl, fun _ _ _ _ => rfl⟩ h2
      by_cases hn : npOk ls (npF np id) = true
      · have hl : LabOk qc (npF np id) ops (labAt ls) := ⟨q2.c0, q2.c1, npOk_spec hn⟩
        refine wpIn_mono (wpIn_region_draw fun t => wpOps_in hp (concN_out (B := B) (Q := Q .normal)) _ _ _ ?_) fin
        simp only [Region.schedule, hm, Bool.true_or, if_true]
        refine wpAny_sound ops.size t _ a _ (wpAny_of_anyS (lab := labAt ls) hN (K := fun φ F => ∃ σ' : St, φ = tget σ'.t ∧ F = fm σ'.m ∧ npOk ls (npF np id) = true ∧ Q .normal σ') (fun φ m a w hR' hk => ?_) _ _ (tget σ.t) (fm (bump σ.m)) a _ ⟨bump σ.m, rfl, hR.bump.drew⟩ ?_)
        · obtain ⟨σ', e1, e2, _, hk⟩ := hk
          subst e1
          exact ⟨rfl, σ', hR'.fm e2, hk⟩
        · have := anyS_lex (P := P) (N := N) h1 hl ops.toList 0 (Array.replicate ops.size false) (tget σ.t) (fm (bump σ.m)) (by simp) (by simp) (fun j hj => by simp [hj]) (by simp) q3
          simpa using this
      · exfalso
        have key : ∀ (l : List Oper) (k : Nat) (φ : Nat → Option AV) (F : FM), listS P N ops (labAt ls) (fun φ F => ∃ σ' : St, φ = tget σ'.t ∧ F = fm σ'.m ∧ npOk ls (npF np id) = true ∧ Q .normal σ') k l φ F → False := by
          intro l
          induction l with
          | nil => intro k φ F h; obtain ⟨_, _, _, h, _⟩ := h; exact hn h
          | cons o l ih => intro k φ F h; obtain ⟨_, _, _, h⟩ := h; exact ih _ _ _ h
        exact key _ _ _ _ q3
  | seq x y ihx ihy =>
    intro Q σ a w hp hR h
    simp only [plainC] at hp
    split at hp
    · rename_i hpx
      refine wpIn_seq (wpIn_mono (ihx _ σ a w hpx hR h) fun e a w hq => ?_)
      obtain ⟨σ', hR', hq⟩ := hq
      cases e with
      | normal => exact ihy Q σ' a w hp hR' hq
      | _ => exact ⟨σ', hR', hq⟩
    · cases hp
  | cond c t e iht ihe =>
    intro Q σ a w hp hR h
    simp only [plainC] at hp
    split at hp
    · rename_i hpt
      unfold awp at h
      split at h
      · rename_i b hb
        obtain ⟨g, hs, _⟩ := hR.ex
        have hv := isBool (ev_rep hs hb)
        exact wpIn_cond_split hv (fun ht => iht Q σ a w hpt hR (h.1 ht)) (fun hf => ihe Q σ a w hp hR (h.2 hf))
      · exact h.elim
    · cases hp
  | block id c ih =>
    intro Q σ a w hp hR h
    refine wpIn_block (wpIn_mono (ih _ σ a w hp hR h) fun e a w hq => ?_)
    obtain ⟨σ', hR', hq⟩ := hq
    cases e with
    | exit i =>
      simp only at hq
      simp only [Exit.inBlock]
      split
      · rename_i hi; rw [if_pos hi] at hq; exact ⟨σ', hR', hq⟩
      · rename_i hi; rw [if_neg hi] at hq; exact ⟨σ', hR', hq⟩
    | _ => exact ⟨σ', hR', hq⟩
  | loop c ih =>
    intro Q σ a w hp hR h
    obtain ⟨X, I, inv, μ, x0, h0, hs, hround⟩ := h
    refine wpIn_loop_ghost (fun n a w => ∃ x, inv x ∧ RS B (tget (I x).t) (I x).m a w ∧ μ x = n) (μ x0) ⟨x0, h0, hs B a w hR, rfl⟩ ?_
    intro n a w ⟨x, hx, hRx, hn⟩
    refine wpIn_mono (ih _ (I x) a w hp hRx (hround x hx)) fun e a' w' hq => ?_
    obtain ⟨σ', hR', hq⟩ := hq
    cases e with
    | normal =>
      obtain ⟨x', hx', hsh, hlt⟩ := hq
      exact ⟨μ x', by omega, x', hx', hsh B a' w' hR', rfl⟩
    | _ => exact ⟨σ', hR', hq⟩
  | rangeFunc f p a b _ _ => intro Q σ a w hp hR h; exact h.elim
  | scope c ih => intro Q σ a w hp; cases hp
  | goto l => intro Q σ a w _ hR h; exact h.elim
  | refuse s => intro Q σ a w _ hR h; exact h.elim
end
end Go.Abs

/- Bases: a walk of a part of the code, from a later world on, with some blocks that no walk touches. -/
namespace Go.Abs
open Go.RowKit
set_option linter.unusedVariables false
set_option linter.unusedSimpArgs false
section
variable {B : Base} {g : G} {m : Mem} {w w' : World}

/-- What a later world keeps of a base. -/
structure Over (B : Base) (W : World) : Prop where
  cell : ∀ b o, B.g0.F b o → W.cell? ⟨b, o, none⟩ = B.w0.cell? ⟨b, o, none⟩
  os : W.os = B.w0.os
  tape : W.tape = B.w0.tape
  output : W.output = B.w0.output
  size : B.w0.heap.size ≤ W.heap.size
  block : ∀ b, b < B.w0.heap.size → ¬ B.X b → W.heap[b]? = B.w0.heap[b]?
theorem Inv.over (h : Inv B g m w) : Over B w := ⟨h.ext.cell, h.os, h.tape, h.output, h.size, h.block⟩

/-- The base of a part: all that is the whole's own, but for the blocks of Z. -/
def reB (B : Base) (W : World) (N : Nat) (ds : List Deferred) (Z : Nat → Prop) : Base := { w0 := W, X := fun b => ¬ Z b ∧ (B.X b ∨ B.w0.heap.size ≤ b), g0 := B.g0, N := N, gx := B.gx, ds := ds }

theorem Inv.out {W : World} {N : Nat} {ds : List Deferred} {Z : Nat → Prop} (hO : Over B W) (h : Inv (reB B W N ds Z) g m w) : Inv B g m w where
  ok := h.ok
  apart := h.apart
  fresh := h.fresh
  flt := h.flt
  ext := ⟨h.ext.K, h.ext.β, h.ext.sz, h.ext.F, fun b o hF => (h.ext.cell b o hF).trans (hO.cell b o hF)⟩
  fnew := fun b o hF => by
    rcases h.fnew b o hF with h1 | h1 | ⟨_, h1⟩
    · exact .inl h1
    · exact .inr (.inl (Nat.le_trans hO.size h1))
    · exact .inr h1.symm
  own := fun i o b hi hb => by
    rcases h.own i o b hi hb with h1 | ⟨_, h1⟩
    · exact .inl (Nat.le_trans hO.size h1)
    · exact h1.symm
  os := h.os.trans hO.os
  tape := h.tape.trans hO.tape
  output := h.output.trans hO.output
  size := Nat.le_trans hO.size h.size
  block := fun b hb hX => (h.block b (Nat.lt_of_lt_of_le hb hO.size) (fun ⟨_, h1⟩ => h1.elim hX (fun h => by omega))).trans (hO.block b hb hX)

theorem Inv.back {W : World} {N : Nat} {ds : List Deferred} {Z : Nat → Prop} (hO : Over B W) (h : Inv B g m w) (hs : W.heap.size ≤ w.heap.size) (hZ : ∀ b, b < W.heap.size → Z b → w.heap[b]? = W.heap[b]?)
    (hF : ∀ b o, g.F b o → B.g0.F b o ∨ W.heap.size ≤ b ∨ ¬ Z b) (hown : ∀ i o b, mget m.o i = some o → blockOf (g.β i) = some b → W.heap.size ≤ b ∨ ¬ Z b) : Inv (reB B W N ds Z) g m w where
  ok := h.ok
  apart := h.apart
  fresh := h.fresh
  flt := h.flt
  ext := ⟨h.ext.K, h.ext.β, h.ext.sz, h.ext.F, fun b o hF => (h.ext.cell b o hF).trans (hO.cell b o hF).symm⟩
  fnew := fun b o hf => by
    rcases hF b o hf with h1 | h1 | h1
    · exact .inl h1
    · exact .inr (.inl h1)
    · rcases h.fnew b o hf with h2 | h2 | h2
      · exact .inl h2
      · exact .inr (.inr ⟨h1, .inr h2⟩)
      · exact .inr (.inr ⟨h1, .inl h2⟩)
  own := fun i o b hi hb => by
    rcases hown i o b hi hb with h1 | h1
    · exact .inl h1
    · exact .inr ⟨h1, (h.own i o b hi hb).symm⟩
  os := h.os.trans hO.os.symm
  tape := h.tape.trans hO.tape.symm
  output := h.output.trans hO.output.symm
  size := hs
  block := fun b hb hX => by
    by_cases hz : Z b
    · exact hZ b hb hz
    · have h1 : ¬ B.X b := fun h1 => hX ⟨hz, .inl h1⟩
      have h2 : b < B.w0.heap.size := Nat.lt_of_not_le fun h2 => hX ⟨hz, .inr h2⟩
      exact (h.block b h2 h1).trans (hO.block b h2 h1).symm

/-- One block that is nobody's turns. -/
theorem Inv.foreign (hI : Inv B g m w) {l : Nat} (hg : w.grownBy w' (some l)) (hl : B.w0.heap.size ≤ l ∨ B.X l) (hF : ∀ o, ¬ g.F l o) (hown : ∀ i o, mget m.o i = some o → blockOf (g.β i) ≠ some l) : Ext g w g w' ∧ Inv B g m w' := by
  have he : Ext g w g w' := ⟨fun _ h => h, fun _ _ => rfl, fun _ _ => rfl, fun _ _ h => h, fun b x h => World.cell?_of_block (w := w) (a := ⟨b, x, none⟩) (hg.block b (hI.flt b x h) (fun e => by cases e; exact hF x h))⟩
  refine ⟨he, ?_⟩
  refine { ok := ?_, apart := hI.apart, fresh := hI.fresh, flt := fun b x h => Nat.lt_of_lt_of_le (hI.flt b x h) hg.size, ext := hI.ext.trans he, fnew := hI.fnew, own := hI.own, os := hg.os.trans hI.os,
           tape := hg.tape.trans hI.tape, output := hg.output.trans hI.output, size := Nat.le_trans hI.size hg.size, block := ?_ }
  · intro j oj hj
    obtain ⟨hk, ho⟩ := hI.ok j oj hj
    exact ⟨hk, ho.keep hk he fun b hb => ⟨hg.block b (ho.lt hb) (fun e => by cases e; exact hown j oj hj hb), fun _ h => h⟩⟩
  · intro b hb hX
    rw [hg.block b (Nat.lt_of_lt_of_le hb hI.size) (fun e => by cases e; rcases hl with h | h; omega; exact hX h)]
    exact hI.block b hb hX
end
end Go.Abs
