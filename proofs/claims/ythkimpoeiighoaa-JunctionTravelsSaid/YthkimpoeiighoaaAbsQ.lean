/- Proved here: what functions of the given program come to, and the plain laws of it; no condition but those in the theorems. -/
import Derived.Test.YthkimpoeiighoaaAbsSb
import Derived.Test.YthkimpoeiighoaaAbsP
import Derived.Deep.Fields
/- The evaluator over code where slices are put into a slice of one's own, and what it proves of a function. -/
namespace Go.Abs
open Go.RowKit
set_option linter.unusedVariables false
set_option linter.unusedSimpArgs false
section
variable {P : Program} {B : Base} {τ : List (Nat × TI)} {N : Nat} {qc : Nat → Bool} {CK : Nat → KT} {np : NPT} {cuts : List Cut}
theorem wpl_val' {ops : Array Oper} {Q : Exit → Act → World → Prop} {o : Oper} {l : List Oper} {a : Act} {w w' : World} {v : Value} {d : Nat} (hg : o.guard = none) (hd : o.dst = some d) (hr : (execOp a.eval o).run P w = .ok (.value v) w') (h : wpList P ops Q l (a.put (some d) v) w') : wpList P ops Q (o :: l) a w := by
  unfold wpList
  rw [if_pos (by simp [Region.wanted, hg])]
  refine .inl ?_
  unfold Oper.wp
  rw [hr, Oper.upon_value, hd]
  exact h
def cutE (τ : List (Nat × TI)) (N : Nat) (c : Cut) (R : List Oper → TK) (l : List Oper) : TK := match c.kd with
  | 0 => (match l with
    | i :: o :: r => ixE τ N i (stE τ o (R r))
    | _ => fun _ _ => False)
  | 1 => (match l with
    | i :: o :: r => ixE τ N i (ldE τ N o (R r))
    | _ => fun _ _ => False)
  | _ => puE c.d (R l)
def awpG (τ : List (Nat × TI)) (np : NPT) (CK : Nat → KT) (N : Nat) (cuts : List Cut) : Code → (Exit → TK) → TK
  | .skip, Q => Q .normal
  | .label _, Q => Q .normal
  | .region id ops draw, Q => (match ctF cuts id, draw with
    | some c, false => runC τ CK ops false (cutE τ N c (fun l => runC τ CK ops false (Q .normal) l []) (ops.toList.drop c.i)) (ops.toList.take c.i) []
    | _, _ => awpC τ np CK (.region id ops draw) Q)
  | .seq a b, Q => awpG τ np CK N cuts a (seqQ (awpG τ np CK N cuts b Q) Q)
  | .cond c a b, Q => condK c (awpG τ np CK N cuts a Q) (awpG τ np CK N cuts b Q)
  | .block id c, Q => awpG τ np CK N cuts c (blockQ id Q)
  | .loop c, Q => fun t m => ∃ (X : Type) (I : X → List (Nat × AV) × Mem) (inv : X → Prop) (μ : X → Nat) (x0 : X), inv x0 ∧ Shift ⟨(I x0).1, (I x0).2⟩ ⟨t, m⟩ ∧
      ∀ x, inv x → awpG τ np CK N cuts c (fun e t m => match e with | .normal => ∃ x', inv x' ∧ Shift ⟨(I x').1, (I x').2⟩ ⟨t, m⟩ ∧ μ x' < μ x | e => Q e t m) (I x).1 (I x).2
  | .exit id, Q => Q (.exit id)
  | .ret, Q => Q .ret
  | _, _ => fun _ _ => False
theorem awpG_ok (hτ : TyOk P τ) (hG : GhB B) (hCK : ∀ f args d m k, CK f args d m k → callK P qc f args d m k) (hm : P.follows .mixedOrders = true) (hN : B.N = N) :
    ∀ (c : Code) (_ : codeOk qc np N c = true) (Q : Exit → TK) (t : List (Nat × AV)) (m : Mem) (a : Act) (w : World), RS B (tget t) m a w → awpG τ np CK N cuts c Q t m → c.wp P (concD B Q) a w := by
  have hCC : ∀ f args d m k, callK P qc f args d m k → callK P qc f args d m k := fun _ _ _ _ _ h => h
  intro c
  induction c with
  | skip => intro _ Q t m a w hR h; exact wp_skip ⟨t, m, hR, h⟩
  | label l => intro _ Q t m a w hR h; exact wp_label ⟨t, m, hR, h⟩
  | exit id => intro _ Q t m a w hR h; exact wp_exit ⟨t, m, hR, h⟩
  | ret => intro _ Q t m a w hR h; exact wp_ret ⟨t, m, hR, h⟩
  | region id ops draw =>
    intro hc Q t m a w hR h
    have base : awpC τ np CK (.region id ops draw) Q t m → (Code.region id ops draw).wp P (concD B Q) a w := fun h =>
      wp_mono (awp_ok hCC hm hN _ _ ⟨t, m⟩ a w hR (awpC_ok hτ hCK hc h)) fun e a w ⟨σ, h1, h2⟩ => ⟨σ.t, σ.m, h1, h2⟩
    have h : (match ctF cuts id, draw with
      | some c, false => runC τ CK ops false (cutE τ N c (fun l => runC τ CK ops false (Q .normal) l []) (ops.toList.drop c.i)) (ops.toList.take c.i) []
      | _, _ => awpC τ np CK (.region id ops draw) Q) t m := h
    cases hcut : ctF cuts id with
    | none =>
      rw [hcut] at h
      exact base h
    | some c =>
    rw [hcut] at h
    cases draw with
    | true => exact base h
    | false =>
      simp only [codeOk, Bool.and_eq_true, List.all_eq_true] at hc
      have hall := hc.2
      have run : ∀ (l : List Oper), (∀ o ∈ l, o ∈ ops.toList) → ∀ (K : TK) (Q' : Exit → Act → World → Prop), (∀ t m a w, RS B (tget t) m a w → K t m → Q' .normal a w) → ∀ t m a w, RS B (tget t) m a w → runC τ CK ops false K l [] t m → wpList P ops Q' l a w := fun l hl K Q' hQ t m a w hR h =>
        evalOps_wp hCC hN l 0 [] ⟨t, m⟩ (fun _ σ => K σ.t σ.m) a w (fun ls σ' a w hR' hk => hQ _ _ _ _ hR' hk) hR (runC_ok hτ hCK (fun o ho => hall o (hl o ho)) h)
      refine wp_region_list ?_
      have key : wpList P ops (concD B Q) (ops.toList.take c.i ++ ops.toList.drop c.i) a w := by
        refine wpl_app (Q1 := fun e a w => e = .normal ∧ ∃ t m, RS B (tget t) m a w ∧ cutE τ N c (fun l => runC τ CK ops false (Q .normal) l []) (ops.toList.drop c.i) t m) ?_ (fun c a w h => by cases h.1) (by rintro ⟨_, _, h, _⟩; cases h) _ a w
          (run _ (fun o ho => List.mem_of_mem_take ho) _ _ (fun t m a w hR hk => ⟨rfl, t, m, hR, hk⟩) t m a w hR h)
        rintro a w ⟨_, t, m, hR, h⟩
        have hsub : ∀ o ∈ ops.toList.drop c.i, o ∈ ops.toList := fun o ho => List.mem_of_mem_drop ho
        revert h hsub
        generalize ops.toList.drop c.i = l
        intro h hsub
        have fin : ∀ (l : List Oper), (∀ o ∈ l, o ∈ ops.toList) → ∀ t m a w, RS B (tget t) m a w → runC τ CK ops false (Q .normal) l [] t m → wpList P ops (concD B Q) l a w := fun l hl t m a w hR h => run l hl _ _ (fun t m a w hR hk => ⟨t, m, hR, hk⟩) t m a w hR h
        obtain ⟨cid, ci, ckd, cd⟩ := c
        rcases ckd with _ | _ | k
        · rcases l with _ | ⟨o0, _ | ⟨o, r⟩⟩
          · exact h.elim
          · exact h.elim
          obtain ⟨d1, v1, s1, d2, p1, t1, m1, hR1, h1⟩ := ixE_ok hτ hG hN hR h
          refine wpl_val d1 d2 p1 ?_
          obtain ⟨⟨e1, e2⟩, w', r1, t', m', r2, r3⟩ := stE_ok hτ hG hR1 h1
          exact wpl_skip e1 e2 r1 (fin r (fun o ho => hsub o (by simp [ho])) _ _ _ _ r2 r3)
        · rcases l with _ | ⟨o0, _ | ⟨o, r⟩⟩
          · exact h.elim
          · exact h.elim
          obtain ⟨d1, v1, s1, d2, p1, t1, m1, hR1, h1⟩ := ixE_ok hτ hG hN hR h
          refine wpl_val d1 d2 p1 ?_
          obtain ⟨e1, v, d, e2, r1, t', m', r2, r3⟩ := ldE_ok hτ hG hN hR1 h1
          exact wpl_val e1 e2 r1 (fin r (fun o ho => hsub o (by simp [ho])) _ _ _ _ r2 r3)
        · obtain ⟨t', m', r2, r3⟩ := puE_ok hG hR h
          exact fin l hsub _ _ _ _ r2 r3
      rw [List.take_append_drop] at key
      exact key
  | seq x y ihx ihy =>
    intro hc Q t m a w hR h
    simp only [codeOk, Bool.and_eq_true] at hc
    refine wp_seq (wp_mono (ihx hc.1 _ t m a w hR h) fun e a w hq => ?_)
    obtain ⟨t', m', h1, h2⟩ := hq
    cases e with
    | normal => exact ihy hc.2 Q t' m' a w h1 h2
    | _ => exact ⟨t', m', h1, h2⟩
  | cond c x y iha ihb =>
    intro hc Q t m a w hR h
    simp only [codeOk, Bool.and_eq_true] at hc
    unfold awpG condK at h
    obtain ⟨v, h1, h2⟩ := evK_ok h
    split at h2
    · obtain ⟨g, hs, _⟩ := hR.ex
      have hv := isBool (ev_rep hs h1)
      exact wp_cond_split hv (fun e => iha hc.1 Q t m a w hR (h2.yes e)) (fun e => ihb hc.2 Q t m a w hR (h2.no e))
    · exact h2.elim
  | block id c ih =>
    intro hc Q t m a w hR h
    refine wp_block (wp_mono (ih hc _ t m a w hR h) fun e a w hq => ?_)
    obtain ⟨t', m', h1, h2⟩ := hq
    cases e with
    | exit i =>
      simp only [Exit.inBlock]
      simp only [blockQ] at h2
      split
      · rename_i hi
        subst hi
        rw [Nat.beq_refl] at h2
        exact ⟨t', m', h1, h2⟩
      · rename_i hi
        have : Nat.beq i id = false := by
          cases e : Nat.beq i id with
          | false => rfl
          | true => exact absurd (natBeq e) hi
        rw [this] at h2
        exact ⟨t', m', h1, h2⟩
    | _ => exact ⟨t', m', h1, h2⟩
  | loop c ih =>
    intro hc Q t m a w hR h
    obtain ⟨X, I, inv, μ, x0, h0, hs, hround⟩ := h
    refine wp_loop_ghost (fun n a w => ∃ x, inv x ∧ RS B (tget (I x).1) (I x).2 a w ∧ μ x = n) (μ x0) ⟨x0, h0, hs B a w hR, rfl⟩ ?_
    intro n a w ⟨x, hx, hRx, hn⟩
    refine wp_mono (ih hc _ _ _ a w hRx (hround x hx)) fun e a' w' hq => ?_
    obtain ⟨t', m', hR', hq⟩ := hq
    cases e with
    | normal =>
      obtain ⟨x', hx', hsh, hlt⟩ := hq
      exact ⟨μ x', by omega, x', hx', hsh B a' w' hR', rfl⟩
    | _ => exact ⟨t', m', hR', hq⟩
  | _ => intro _ Q t m a w hR h; exact h.elim
def asReg : Code → Option (Array Oper × Code)
  | .seq (.region _ ops false) r => some (ops, r)
  | _ => none
theorem asReg_ok {c r : Code} {o1 : Array Oper} (h : asReg c = some (o1, r)) : ∃ i, c = .seq (.region i o1 false) r := by
  unfold asReg at h
  split at h
  · rename_i i o1' r'
    cases h
    exact ⟨i, rfl⟩
  · cases h
/-- So many statements from the top of the code down the slice is made, by operation i of its region. -/
def awpE (τ : List (Nat × TI)) (np : NPT) (CK : Nat → KT) (N : Nat) (cuts : List Cut) (i : Nat) : Nat → Code → (Exit → TK) → TK
  | 0, c, Q => match asReg c with
    | some (ops, r) => (match ops.toList.drop i with
      | o :: l => runC τ CK ops false (mkE τ N o (runC τ CK ops false (awpG τ np CK N cuts r Q) l [])) (ops.toList.take i) []
      | [] => fun _ _ => False)
    | none => fun _ _ => False
  | n + 1, c, Q => match asSeq c with
    | some (a, b) => awpC τ np CK a (seqQ (awpE τ np CK N cuts i n b Q) Q)
    | none => fun _ _ => False
def concE (B : Base) (Q : Exit → TK) : Exit → Act → World → Prop := fun e a w => ∃ B', Under B B' ∧ concD B' Q e a w
theorem awpE_ok (hτ : TyOk P τ) (hCK : ∀ f args d m k, CK f args d m k → callK P qc f args d m k) (hm : P.follows .mixedOrders = true) (hN : B.N = N) {i : Nat} : ∀ (n : Nat) (c : Code) (_ : codeOk qc np N c = true) (Q : Exit → TK) (t : List (Nat × AV)) (m : Mem) (a : Act) (w : World), RS B (tget t) m a w → awpE τ np CK N cuts i n c Q t m → c.wp P (concE B Q) a w := by
  have hCC : ∀ f args d m k, callK P qc f args d m k → callK P qc f args d m k := fun _ _ _ _ _ h => h
  have base : ∀ (c : Code) (_ : codeOk qc np N c = true) (Q : Exit → TK) (t : List (Nat × AV)) (m : Mem) (a : Act) (w : World), RS B (tget t) m a w → awpC τ np CK c Q t m → c.wp P (concD B Q) a w := fun c hc Q t m a w hR h =>
    wp_mono (awp_ok hCC hm hN _ _ ⟨t, m⟩ a w hR (awpC_ok hτ hCK hc h)) fun e a w ⟨σ, h1, h2⟩ => ⟨σ.t, σ.m, h1, h2⟩
  intro n
  induction n with
  | zero =>
    intro c hc Q t m a w hR h
    unfold awpE at h
    cases hs : asReg c with
    | none => rw [hs] at h; exact h.elim
    | some z =>
    obtain ⟨ops, r⟩ := z
    rw [hs] at h
    dsimp only at h
    obtain ⟨id, rfl⟩ := asReg_ok hs
    simp only [codeOk, Bool.and_eq_true, List.all_eq_true] at hc
    have hall := hc.1.2
    cases hd : ops.toList.drop i with
    | nil => rw [hd] at h; exact h.elim
    | cons o l =>
      rw [hd] at h
      dsimp only at h
      have hsub : ∀ o' ∈ o :: l, o' ∈ ops.toList := fun o' ho => List.mem_of_mem_drop (by rw [hd]; exact ho)
      have key : wpList P ops (fun e a w => e = .normal ∧ ∃ B', Under B B' ∧ GhB B' ∧ ∃ t m, RS B' (tget t) m a w ∧ awpG τ np CK N cuts r Q t m) (ops.toList.take i ++ ops.toList.drop i) a w := by
        refine wpl_app (Q1 := fun e a w => e = .normal ∧ ∃ t m, RS B (tget t) m a w ∧ mkE τ N o (runC τ CK ops false (awpG τ np CK N cuts r Q) l []) t m) ?_ (fun c a w h => by cases h.1) (by rintro ⟨_, _, h, _⟩; cases h) _ a w
          (evalOps_wp hCC hN _ 0 [] ⟨t, m⟩ (fun _ σ => mkE τ N o (runC τ CK ops false (awpG τ np CK N cuts r Q) l []) σ.t σ.m) a w (fun ls σ' a w hR' hk => ⟨rfl, _, _, hR', hk⟩) hR (runC_ok hτ hCK (fun o ho => hall o (List.mem_of_mem_take ho)) h))
        rintro a w ⟨_, t, m, hR, h⟩
        rw [hd]
        obtain ⟨e1, v, d, w', e2, r1, B', r2, r3, t', m', r4, r5⟩ := mkE_ok hτ hN hR h
        exact wpl_val' e1 e2 r1 (evalOps_wp hCC (r3.N.trans hN) l 0 [] ⟨t', m'⟩ (fun _ σ => awpG τ np CK N cuts r Q σ.t σ.m) _ _ (fun ls σ' a w hR' hk => ⟨rfl, B', r3, r2, _, _, hR', hk⟩) r4 (runC_ok hτ hCK (fun o ho => hall o (hsub o (by simp [ho]))) r5))
      rw [List.take_append_drop] at key
      refine wp_seq (wp_mono (wp_region_list key) ?_)
      rintro e a w ⟨rfl, B', r3, r2, t, m, r4, r5⟩
      exact wp_mono (awpG_ok hτ r2 hCK hm (r3.N.trans hN) r hc.2 Q t m a w r4 r5) fun e a w hq => ⟨B', r3, hq⟩
  | succ n ih =>
    intro c hc Q t m a w hR h
    unfold awpE at h
    cases hs : asSeq c with
    | none => rw [hs] at h; exact h.elim
    | some z =>
      obtain ⟨x, y⟩ := z
      rw [hs] at h
      have := asSeq_ok hs
      subst this
      simp only [codeOk, Bool.and_eq_true] at hc
      refine wp_seq (wp_mono (base _ hc.1 _ t m a w hR h) fun e a w ⟨t', m', h1, h2⟩ => ?_)
      cases e with
      | normal => exact ih _ hc.2 Q t' m' a w h1 h2
      | _ => exact ⟨B, .refl B, t', m', h1, h2⟩
theorem doesE_of {f : Nat} {fn : Func} {c : Code} {rs : Array ResultVar} {np : NPT} (cuts : List Cut) (i n : Nat) {args : List AV} {r : AV} (hm : P.follows .mixedOrders = true) (hf : P.funcs[f]? = some fn) (hname : (fn.name == "runtime.NumGoroutine") = false) (hb : fn.body = some c) (hn : fn.ntmps = N) (hrs : fn.results = rs) (hτ : TyOk P τ)
    (hcode : codeOk qc np N c = true) (hCK : ∀ f args d m k, CK f args d m k → callK P qc f args d m k) (hsz : args.length ≤ N)
    (h : initK args fun t => awpE τ np CK N cuts i n c (fun e t m => match e with
      | .normal => resK τ t m rs.toList fun l => purAsK m l fun l _ => r = oneOf l
      | .ret => resK τ t m rs.toList fun l => purAsK m l fun l _ => r = oneOf l
      | _ => False) t ⟨[], 0, []⟩) : Does P f args r := by
  subst hn
  refine ⟨callable hf hname hb, fun F w vals hF hl hr => ?_⟩
  refine calls_of_wp hf hb ?_
  let B : Base := { w0 := w, X := fun _ => False, g0 := g0 F, N := fn.ntmps, gx := fun _ h => h.elim }
  have hI : Inv B (g0 F) ⟨[], 0, []⟩ w := { ok := fun i o h => (by cases h), apart := fun i j oi oj b h => (by cases h), fresh := fun _ _ _ h => h.elim, flt := hF, ext := .refl _ _, fnew := fun b o h => .inl h, own := fun i o b h => (by cases h), os := rfl, tape := rfl, output := rfl, size := Nat.le_refl _, block := fun _ _ _ => rfl }
  have hR : RS B (tget (initT args 0)) ⟨[], 0, []⟩ { tmps := vals.toArray ++ Array.replicate (fn.ntmps - vals.toArray.size) undef, defers := [] } w := by
    refine ⟨⟨g0 F, fun t x hx => ?_, hI⟩, rfl, by simp [B]; omega⟩
    obtain ⟨_, h2⟩ := initT_get args 0 t hx
    rw [Nat.sub_zero] at h2
    have ht : t < vals.length := by rw [hl]; exact (List.getElem?_eq_some_iff.1 h2).1
    refine ⟨vals[t], ?_, hr t x _ h2 (List.getElem?_eq_getElem ht)⟩
    rw [Array.getElem?_append, if_pos (by simpa using ht)]
    simp [ht]
  refine wp_mono (awpE_ok (B := B) (N := fn.ntmps) hτ hCK hm rfl n c hcode _ _ _ _ _ hR (initK_go h)) fun e a w' hq => ?_
  obtain ⟨B', hU, t, m, hR', hq⟩ := hq
  have he : (e = .normal ∨ e = .ret) ∧ resK τ t m rs.toList fun l => purAsK m l fun l _ => r = oneOf l := by
    cases e with
    | normal => exact ⟨.inl rfl, hq⟩
    | ret => exact ⟨.inr rfl, hq⟩
    | _ => exact hq.elim
  obtain ⟨he, hq⟩ := he
  obtain ⟨l, h3, h4⟩ := resK_ok hτ hq
  obtain ⟨l', m', h5, h6⟩ := purAsK_ok h4
  have hret : RetIs P fn ⟨t, m⟩ r := ⟨l, l', m', by rw [hrs]; exact h3, h5, h6⟩
  obtain ⟨⟨g, hs, hI'⟩, hd, _⟩ := hR'
  have hd : a.defers = [] := hd.trans hU.ds
  obtain ⟨v, g', m', q1, q2, q3, q4⟩ := results_ok hs hI' hret
  have fin : ∃ v', (results fn a.tmps).run P w' = .ok v' w' ∧ ∃ v F', (Ending.returned v') = .returned v ∧ (∀ b o, F b o → F' b o) ∧ (∀ b o, F' b o → F b o ∨ w.heap.size ≤ b) ∧ (∀ b o, F' b o → b < w'.heap.size) ∧ RepA (g0 F') w' r v ∧ Below w.heap.size w w' :=
    ⟨v, q1, v, g'.F, rfl, fun b o h => q3.ext.F b o (hU.F1 b o h), fun b o hF' => by
      have key : B'.g0.F b o → F b o ∨ w.heap.size ≤ b := fun h => by
        rcases hU.F2 b o h with h | h | h
        · exact .inl h
        · exact .inr h
        · exact h.elim
      have hsz := hU.size
      rcases q3.fnew b o hF' with h | h | h
      · exact key h
      · exact .inr (Nat.le_trans hsz h)
      · rcases hU.X b h with h | h
        · exact h.elim
        · exact .inr h, q3.flt, q4, ⟨q3.os.trans hU.os, q3.tape.trans hU.tape, q3.output.trans hU.output, Nat.le_trans hU.size q3.size, fun k hk => (q3.block k (Nat.lt_of_lt_of_le hk hU.size) (fun h => by
          rcases hU.X k h with h | h
          · exact h
          · exact absurd hk (Nat.not_lt.2 h))).trans (hU.block k hk fun h => h)⟩⟩
  rcases he with rfl | rfl <;> exact ⟨hd, fin⟩
end
end Go.Abs

/- Arguments that come in: slices of numbers, truth values or flat structs, and structs of such. -/
namespace Go.Abs
open Go.RowKit Go.ChangeShapes Go.WideShapes Go.Deep

/-- What an element's cells are: a number of a kind, or a truth value. -/
def flatKs (P : Program) : Nat → List Field → Option (List (Option IntKind))
  | _, [] => some []
  | i, f :: r => if f.offset = i ∧ P.cellsOf f.type = 1 then (match P.underlying f.type with
    | some (.int k) => (flatKs P (i + 1) r).map (some k :: ·)
    | some .bool => (flatKs P (i + 1) r).map (none :: ·)
    | _ => none) else none
def elKs (P : Program) (e : TypeId) : Option (List (Option IntKind)) := match P.underlying e with
  | some (.int k) => some [some k]
  | some .bool => some [none]
  | some (.struct fs) => flatKs P 0 fs.toList
  | _ => none
def ksOk : List (Option IntKind) → List Cell → Prop
  | [], [] => True
  | some k :: ks, .sc (.int k' _) :: r => k' = k ∧ ksOk ks r
  | none :: ks, .sc (.bool _) :: r => ksOk ks r
  | _, _ => False
def allSc : List Value → Prop := fun l => ∀ u ∈ l, scalar u = true

section
variable {H : Type} {enc : TypeId × Value → H} {P : Program} {w : World} {base : Nat} {spare : Nat → Bool} {held : Bool}

theorem flatKs_ok : ∀ (l : List Field) (i n : Nat) (cs : List Value) (ks : List (Option IntKind)), flatKs P i l = some ks → cs.length = i + l.length →
    (∀ (j : Nat) f, l[j]? = some f → ∃ y, DataW.trod enc P w base spare held n f.type ((cs.drop f.offset).take (P.cellsOf f.type)) = some y) →
    ksOk ks ((cs.drop i).map .sc) ∧ allSc (cs.drop i)
  | [], i, n, cs, ks, h, hl, _ => by
    simp [flatKs] at h
    subst h
    rw [List.drop_eq_nil_of_le (by simp at hl; omega)]
    exact ⟨trivial, fun u hu => by simp at hu⟩
  | f :: r, i, n, cs, ks, h, hl, ht => by
    simp only [flatKs] at h
    split at h
    case isFalse => cases h
    rename_i hf
    obtain ⟨y, hy⟩ := ht 0 f rfl
    rw [hf.1, hf.2] at hy
    have hi : i < cs.length := by simp at hl; omega
    rw [List.drop_eq_getElem_cons hi] at hy ⊢
    have hy : DataW.trod enc P w base spare held n f.type [cs[i]] = some y := hy
    have ih := fun ks2 h2 => flatKs_ok r (i + 1) n cs ks2 h2 (by simp at hl; omega) fun j f' hj => ht (j + 1) f' (by simpa using hj)
    split at h
    · rename_i k hd
      obtain ⟨ks2, h2, rfl⟩ := Option.map_eq_some_iff.1 h
      obtain ⟨i1, i2⟩ := ih ks2 h2
      obtain ⟨m, hm, _⟩ := DataW.trod_int hd hy
      simp only [List.cons.injEq, and_true] at hm
      rw [hm]
      exact ⟨⟨rfl, i1⟩, fun u hu => by
        rcases List.mem_cons.1 hu with rfl | hu
        · rfl
        · exact i2 u hu⟩
    · rename_i hd
      obtain ⟨ks2, h2, rfl⟩ := Option.map_eq_some_iff.1 h
      obtain ⟨i1, i2⟩ := ih ks2 h2
      obtain ⟨b, hb, _⟩ := DataW.trod_bool hd hy
      simp only [List.cons.injEq, and_true] at hb
      rw [hb]
      exact ⟨i1, fun u hu => by
        rcases List.mem_cons.1 hu with rfl | hu
        · rfl
        · exact i2 u hu⟩
    · cases h

theorem elKs_ok {e : TypeId} {ks : List (Option IntKind)} (hk : elKs P e = some ks) (hC : P.cellsOf e = ks.length) {n : Nat} {cs : List Value} {y : DataW H × List MemPlace} (h : DataW.trod enc P w base spare held n e cs = some y) :
    ksOk ks (cs.map .sc) ∧ allSc cs := by
  unfold elKs at hk
  split at hk
  · rename_i k hd
    simp at hk; subst hk
    obtain ⟨m, rfl, _⟩ := DataW.trod_int hd h
    exact ⟨⟨rfl, trivial⟩, fun u hu => by simp at hu; subst hu; rfl⟩
  · rename_i hd
    simp at hk; subst hk
    obtain ⟨b, rfl, _⟩ := DataW.trod_bool hd h
    exact ⟨trivial, fun u hu => by simp at hu; subst hu; rfl⟩
  · rename_i fs hd
    obtain ⟨xs, m, _, _, hlen, hxl, hf⟩ := DataW.trod_struct hd h
    have hkl : ∀ (l : List Field) (i : Nat) (ks : List (Option IntKind)), flatKs P i l = some ks → ks.length = l.length := by
      intro l
      induction l with
      | nil => intro i ks h; simp [flatKs] at h; subst h; rfl
      | cons f r ih =>
        intro i ks h
        simp only [flatKs] at h
        split at h
        · split at h
          · obtain ⟨k2, h2, rfl⟩ := Option.map_eq_some_iff.1 h; simp [ih _ _ h2]
          · obtain ⟨k2, h2, rfl⟩ := Option.map_eq_some_iff.1 h; simp [ih _ _ h2]
          · cases h
        · cases h
    have := hkl _ _ _ hk
    have q := flatKs_ok fs.toList 0 m cs ks hk (by rw [hlen, hC, this]; simp) (fun j f hj => by
      have hj' : fs[j]? = some f := by simpa using hj
      have hjl : j < xs.length := by rw [hxl]; exact (Array.getElem?_eq_some_iff.1 hj').1
      exact ⟨xs[j], by rw [hf j f hj']; exact List.getElem?_eq_getElem hjl⟩)
    simpa using q
  · cases hk

/-- A slice that came in, of elements without pointers. -/
theorem flat_row {t e : TypeId} {ks : List (Option IntKind)} (ht : P.underlying t = some (.slice e)) (hk : elKs P e = some ks) (hC : P.cellsOf e = ks.length) {fuel : Nat} {v : Value} {x : DataW H × List MemPlace}
    (hspot : ∀ a len cap, v = .slice (some a) len cap → a.spot = none) (h : DataW.trod enc P w base spare held fuel t [v] = some x) :
    ∃ es, RepP (FIn w) w (.lst es) v ∧ es.length ≤ maxLen ∧ ∀ y ∈ es, ksOk ks y := by
  rcases open_slice ht h with ⟨h0, _⟩ | ⟨a, len, cap, m, n, D, Pl, hcs, hb, hl, hm, hmm, hx, hi⟩
  · simp only [List.cons.injEq, and_true] at h0
    subst h0
    exact ⟨[], .nil, Nat.zero_le _, fun y hy => by simp at hy⟩
  · simp only [List.cons.injEq, and_true] at hcs
    subst hcs
    have hs := hspot a len cap rfl
    have hlm : len ≤ m := by rw [hmm]; split <;> omega
    have hE : ∀ i, ∃ cs' : List Value, i < len → (cs'.length = ks.length ∧ (∀ j, j < ks.length → w.cell? (a.add (i * ks.length + j)) = cs'[j]?) ∧ ksOk ks (cs'.map .sc) ∧ allSc cs') := fun i => by
      by_cases hi' : i < len
      · obtain ⟨cs', h1, h2⟩ := hi i (by omega)
        rw [hC] at h1
        obtain ⟨_, hcl, hat⟩ := World.cells?_some h1
        obtain ⟨q1, q2⟩ := elKs_ok hk hC h2
        exact ⟨cs', fun _ => ⟨hcl, fun j hj => by rw [← add_add]; exact hat j hj, q1, q2⟩⟩
      · exact ⟨[], fun h => absurd h hi'⟩
    obtain ⟨E, hE⟩ := Classical.axiomOfChoice hE
    have hget : ∀ (i : Nat) z, ((List.range len).map fun i => (E i).map Cell.sc)[i]? = some z → i < len ∧ z = (E i).map Cell.sc := fun i z hz => by
      rw [List.getElem?_map] at hz
      obtain ⟨i', h1, rfl⟩ := Option.map_eq_some_iff.1 hz
      obtain ⟨h2, h3⟩ := List.getElem?_eq_some_iff.1 h1
      simp at h2 h3
      subst h3
      exact ⟨h2, rfl⟩
    have hax : a = ⟨a.block, a.off, none⟩ := by cases a; simp only at hs; subst hs; rfl
    refine ⟨(List.range len).map fun i => (E i).map Cell.sc, ?_, by simp; omega, fun y hy => ?_⟩
    · have key := RepP.lst (F := FIn w) (w := w) (es := (List.range len).map fun i => (E i).map Cell.sc) (b := a.block) (off := a.off) (cap := cap) (sz := ks.length) (fun i j => (E i).getD j (.bool false))
        (fun i z hz => by
          obtain ⟨h1, rfl⟩ := hget i z hz
          rw [List.length_map]; exact (hE i h1).1)
        (fun i z hz j c hj => by
          obtain ⟨h1, rfl⟩ := hget i z hz
          obtain ⟨e1, e2, _, _⟩ := hE i h1
          rw [List.getElem?_map] at hj
          obtain ⟨u, hu, rfl⟩ := Option.map_eq_some_iff.1 hj
          have hjl : j < ks.length := by rw [← e1]; exact (List.getElem?_eq_some_iff.1 hu).1
          have hc := e2 j hjl
          rw [addr_add hs, hu] at hc
          rw [List.getD_eq_getElem?_getD, hu, Nat.add_assoc]
          exact ⟨cell_lt (a := ⟨a.block, a.off + (i * ks.length + j), none⟩) hc, hc⟩)
        (fun i z hz j c hj => by
          obtain ⟨h1, rfl⟩ := hget i z hz
          rw [List.getElem?_map] at hj
          obtain ⟨u, hu, rfl⟩ := Option.map_eq_some_iff.1 hj
          rw [List.getD_eq_getElem?_getD, hu]
          exact .sc ((hE i h1).2.2.2 u (List.mem_of_getElem? hu))) (by simp; exact hl) hm
      rw [show ((List.range len).map fun i => (E i).map Cell.sc).length = len by simp] at key
      rw [hax]
      exact key
    · obtain ⟨i, hi', rfl⟩ := List.mem_map.1 hy
      exact (hE i (by simpa using hi')).2.2.1
end
theorem cell_spot {P : Program} {w : World} {r : Reach} {b : Nat} {u : TypeId} {a : Addr} {len cap : Nat} (h : Cell.okWide P w r b u (.slice (some a) len cap)) : a.spot = none := by
  unfold Cell.okWide at h
  split at h
  all_goals first
    | (rename_i hh; cases hh; done)
    | (rename_i hh _; cases hh; done)
    | skip
  unfold Cell.ok at h
  split at h
  all_goals first
    | exact h.elim
    | (rename_i hh; cases hh; done)
    | (rename_i hh _; cases hh; done)
    | skip
  · rename_i hh
    simp only [Value.slice.injEq, Option.some.injEq] at hh
    obtain ⟨rfl, rfl, rfl⟩ := hh
    exact h.2.2.2.1
theorem struct_spots {P : Program} {w : World} {r : Reach} {b : Nat} {t : TypeId} {fs : Array Field} (ht : P.underlying t = some (.struct fs)) {v : Value} (h : Value.okWide P w r b t v) :
    ∃ us : List Value, v = .agg us.toArray ∧ us.length = P.cellsOf t ∧ ∀ u ∈ us, ∀ a len cap, u = .slice (some a) len cap → a.spot = none := by
  simp only [Value.okWide, ht] at h
  obtain ⟨cs, rfl, h2, ts, _, _, h5⟩ := h
  refine ⟨cs.toList, rfl, by simpa using h2, fun u hu a len cap e => ?_⟩
  obtain ⟨i, hi, rfl⟩ := List.getElem_of_mem hu
  obtain ⟨x, _, h6⟩ := h5 i cs.toList[i] (by simp at hi; simp [hi])
  rw [e] at h6
  exact cell_spot h6
/-- A struct of one-cell fields that came in: each field reads by itself. -/
theorem struct_arg {H : Type} {enc : TypeId × Value → H} {P : Program} {w : World} {base : Nat} {spare : Nat → Bool} {held : Bool} {r : Reach} {b : Nat} {t : TypeId} {fs : Array Field} (ht : P.underlying t = some (.struct fs)) (hone : oneCellFields P fs = true) (hC : P.cellsOf t = fs.size)
    {v : Value} {d : DataW H} {p : List MemPlace} (hv : Value.okWide P w r b t v) (h : DataW.Trod enc P w base spare held t v d p) :
    ∃ us : List Value, v = .agg us.toArray ∧ us.length = fs.size ∧ ∀ (j : Nat) f, fs[j]? = some f → ∃ u y n, us[j]? = some u ∧ DataW.trod enc P w base spare held n f.type [u] = some y ∧ ∀ a len cap, u = .slice (some a) len cap → a.spot = none := by
  obtain ⟨us, rfl, hl, hsp⟩ := struct_spots ht hv
  refine ⟨us, rfl, hl.trans hC, fun j f hj => ?_⟩
  obtain ⟨fuel, hf⟩ := h
  obtain ⟨xs, n, _, hx, _, hlen, hg⟩ := DataW.trod_struct ht hf
  obtain ⟨o0, k0⟩ := hone_of hone j f hj
  have hjl : j < fs.size := (Array.getElem?_eq_some_iff.1 hj).1
  have hju : j < us.length := by omega
  have q := hg j f hj
  rw [o0, k0] at q
  have e1 : ((Value.agg us.toArray).cells.toList.drop j).take 1 = [us[j]] := by
    show (us.drop j).take 1 = _
    rw [List.drop_eq_getElem_cons hju]
    rfl
  rw [e1] at q
  exact ⟨us[j], xs[j]'(by omega), n, List.getElem?_eq_getElem hju, by rw [q]; exact List.getElem?_eq_getElem (by omega), hsp _ (List.getElem_mem hju)⟩
/-- Elements of one form are a list's. -/
theorem all_form {α : Type} {f : α → List Cell} {p : List Cell → Prop} (hf : ∀ y, p y → ∃ a, y = f a) : ∀ {es : List (List Cell)}, (∀ y ∈ es, p y) → ∃ l : List α, es = l.map f
  | [], _ => ⟨[], rfl⟩
  | y :: r, h => by
    obtain ⟨a, rfl⟩ := hf y (h y (by simp))
    obtain ⟨l, rfl⟩ := all_form (es := r) hf (fun z hz => h z (List.mem_cons_of_mem _ hz))
    exact ⟨a :: l, rfl⟩
end Go.Abs
