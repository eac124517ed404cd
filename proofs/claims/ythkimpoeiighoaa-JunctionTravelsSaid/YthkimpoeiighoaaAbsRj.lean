/- Proved here: what functions of the given program come to, and the plain laws of it; no condition but those in the theorems. -/
import Derived.Test.YthkimpoeiighoaaAbsRh
/- The evaluator over the code of a function ranged over. -/
namespace Go.Abs
open Go.RowKit
set_option linter.unusedVariables false
set_option linter.unusedSimpArgs false
structure YD where
  ops : Array Oper
  pre : List Oper
  q : Nat
  d : Nat
  u : Nat
  args : Array Operand
def last2 : List Oper → Option (List Oper × Oper × Oper)
  | [] => none
  | [_] => none
  | [x, y] => some ([], x, y)
  | x :: y :: z :: r => match last2 (y :: z :: r) with
    | some (p, a, b) => some (x :: p, a, b)
    | none => none
theorem last2_ok : ∀ {l p : List Oper} {a b : Oper}, last2 l = some (p, a, b) → l = p ++ [a, b]
  | [], _, _, _, h => by cases h
  | [_], _, _, _, h => by cases h
  | [x, y], _, _, _, h => by simp [last2] at h; obtain ⟨rfl, rfl, rfl⟩ := h; rfl
  | x :: y :: z :: r, p, a, b, h => by
    simp only [last2] at h
    split at h
    · rename_i p' a' b' e
      simp at h
      obtain ⟨rfl, rfl, rfl⟩ := h
      rw [last2_ok e]; rfl
    · cases h
def yCall (o : Oper) : Option (Nat × Nat × Array Operand) := match o.op, o.dst, o.guard with
  | .call c, some d, none => match c.callee with
    | .value (.tmp q) => some (q, d, c.args)
    | _ => none
  | _, _, _ => none
theorem yCall_ok {o : Oper} {q d : Nat} {args : Array Operand} (h : yCall o = some (q, d, args)) : ∃ ats, o.op = .call { callee := .value (.tmp q), args := args, argTypes := ats } ∧ o.dst = some d ∧ o.guard = none := by
  unfold yCall at h
  split at h
  · rename_i c d' h1 h2 h3
    split at h
    · rename_i q' h4
      simp at h
      obtain ⟨rfl, rfl, rfl⟩ := h
      refine ⟨c.argTypes, ?_, h2, h3⟩
      rw [h1]
      obtain ⟨ce, ca, ct⟩ := c
      simp only at h4
      rw [h4]
    · cases h
  · cases h
def yNot (d u : Nat) (o : Oper) : Bool := match o.op, o.dst, o.guard with
  | .unOp .not _ (.tmp d'), some u', none => match Nat.beq d' d with
    | true => Nat.beq u' u
    | false => false
  | _, _, _ => false
theorem yNot_ok {d u : Nat} {o : Oper} (h : yNot d u o = true) : ∃ T, o.op = .unOp .not T (.tmp d) ∧ o.dst = some u ∧ o.guard = none := by
  unfold yNot at h
  split at h
  · rename_i T d' u' h1 h2 h3
    split at h
    · rename_i e
      have e1 := natBeq e
      have e2 := natBeq h
      subst e1; subst e2
      exact ⟨T, h1, h2, h3⟩
    · cases h
  · cases h
def yOf (a b : Code) : Option YD := match a, b with
  | .region _ ops false, .cond (.tmp u) .ret .skip => match last2 ops.toList with
    | some (pre, oc, on) => match yCall oc with
      | some (q, d, args) => match yNot d u on with
        | true => some ⟨ops, pre, q, d, u, args⟩
        | false => none
      | none => none
    | none => none
  | _, _ => none
theorem yOf_ok {a b : Code} {y : YD} (h : yOf a b = some y) : ∃ id, a = .region id y.ops false ∧ b = .cond (.tmp y.u) .ret .skip ∧ YEnd y.ops y.pre y.q y.d y.u y.args := by
  unfold yOf at h
  split at h
  · rename_i id ops u
    split at h
    · rename_i pre oc on h1
      split at h
      · rename_i q d args h2
        split at h
        · rename_i h3
          simp at h
          subst h
          obtain ⟨ats, c1, c2, c3⟩ := yCall_ok h2
          obtain ⟨T, n1, n2, n3⟩ := yNot_ok h3
          exact ⟨id, rfl, rfl, ⟨oc, on, ats, T, last2_ok h1, c1, c2, c3, n1, n2, n3⟩⟩
        · cases h
      · cases h
    · cases h
  · cases h

/-! ### The second form: the answer is one part of a larger question. -/
structure YD2 where
  ops : Array Oper
  pre : List Oper
  q : Nat
  d : Nat
  u : Nat
  args : Array Operand
  tl : List Oper
  c : Nat
def last1 : List Oper → Option (List Oper × Oper)
  | [] => none
  | [x] => some ([], x)
  | x :: y :: r => match last1 (y :: r) with
    | some (p, a) => some (x :: p, a)
    | none => none
theorem last1_ok : ∀ {l p : List Oper} {a : Oper}, last1 l = some (p, a) → l = p ++ [a]
  | [], _, _, h => by cases h
  | [x], _, _, h => by simp [last1] at h; obtain ⟨rfl, rfl⟩ := h; rfl
  | x :: y :: r, p, a, h => by
    simp only [last1] at h
    split at h
    · rename_i p' a' e
      simp at h
      obtain ⟨rfl, rfl⟩ := h
      rw [last1_ok e]; rfl
    · cases h
def splitY : List Oper → Option (List Oper × Oper × List Oper)
  | [] => none
  | o :: r => match yCall o with
    | some _ => some ([], o, r)
    | none => match splitY r with
      | some (p, a, t) => some (o :: p, a, t)
      | none => none
theorem splitY_ok : ∀ {l p t : List Oper} {a : Oper}, splitY l = some (p, a, t) → l = p ++ a :: t
  | [], _, _, _, h => by cases h
  | o :: r, p, t, a, h => by
    simp only [splitY] at h
    split at h
    · simp at h; obtain ⟨rfl, rfl, rfl⟩ := h; rfl
    · split at h
      · rename_i p' a' t' e
        simp at h
        obtain ⟨rfl, rfl, rfl⟩ := h
        rw [splitY_ok e]; rfl
      · cases h
def yMv (u : Nat) (o : Oper) : Option Nat := match o.op, o.dst, o.guard with
  | .move (.tmp u'), some v, none => match Nat.beq u' u with
    | true => some v
    | false => none
  | _, _, _ => none
theorem yMv_ok {u v : Nat} {o : Oper} (h : yMv u o = some v) : o.op = .move (.tmp u) ∧ o.dst = some v ∧ o.guard = none := by
  unfold yMv at h
  split at h
  · rename_i u' v' h1 h2 h3
    split at h
    · rename_i e
      have e := natBeq e
      simp at h
      subst e; subst h
      exact ⟨h1, h2, h3⟩
    · cases h
  · cases h
def yDst (v : Nat) : Option Nat → Bool
  | none => true
  | some t => match Nat.beq t v with
    | true => false
    | false => true
def yGs (n0 v : Nat) : List Oper → Bool
  | [] => true
  | o :: r => match o.guard with
    | some (j, false) => match Nat.beq j n0, yDst v o.dst with
      | true, true => yGs n0 v r
      | _, _ => false
    | _ => false
theorem yGs_ok {n0 v : Nat} : ∀ {l : List Oper}, yGs n0 v l = true → ∀ o ∈ l, o.guard = some (n0, false) ∧ o.dst ≠ some v
  | [], _, _, h => by cases h
  | x :: r, h, o, ho => by
    unfold yGs at h
    split at h
    · rename_i j hg
      split at h
      · rename_i h1 h2
        rcases List.mem_cons.1 ho with rfl | ho
        · refine ⟨by rw [hg, natBeq h1], fun e => ?_⟩
          rw [e] at h2
          simp [yDst] at h2
        · exact yGs_ok h o ho
      · cases h
    · cases h
def yPk (v c : Nat) (o : Oper) : Bool := match o.op, o.dst, o.guard with
  | .pick (.tmp v') (.const (.bool true)) _, some c', none => match Nat.beq v' v with
    | true => Nat.beq c' c
    | false => false
  | _, _, _ => false
theorem yPk_ok {v c : Nat} {o : Oper} (h : yPk v c o = true) : ∃ x, o.op = .pick (.tmp v) (.const (.bool true)) x ∧ o.dst = some c ∧ o.guard = none := by
  unfold yPk at h
  split at h
  · rename_i v' x c' h1 h2 h3
    split at h
    · rename_i e
      have e1 := natBeq e
      have e2 := natBeq h
      subst e1; subst e2
      exact ⟨x, h1, h2, h3⟩
    · cases h
  · cases h
def yOf2 (a b : Code) : Option YD2 := match a, b with
  | .region _ ops false, .cond (.tmp c) .ret .skip => match splitY ops.toList with
    | some (pre, oc, on :: om :: r) => match yCall oc, on.dst, last1 r with
      | some (q, d, args), some u, some (gs, op) => match yNot d u on, yMv u om with
        | true, some v => match yGs (pre.length + 2) v gs, yPk v c op with
          | true, true => some ⟨ops, pre, q, d, u, args, om :: r, c⟩
          | _, _ => none
        | _, _ => none
      | _, _, _ => none
    | _ => none
  | _, _ => none
theorem yOf2_ok {a b : Code} {y : YD2} {N : Nat} (h : yOf2 a b = some y) : ∃ id, a = .region id y.ops false ∧ b = .cond (.tmp y.c) .ret .skip ∧ ((∀ o ∈ y.ops.toList, okO o.dst N = true) → YEnd2 N y.ops y.pre y.q y.d y.u y.args y.tl y.c) := by
  unfold yOf2 at h
  split at h
  · rename_i id ops c
    split at h
    · rename_i pre oc on om r h1
      split at h
      · rename_i q d args u gs op h2 h3 h4
        split at h
        · rename_i v h5 h6
          split at h
          · rename_i h7 h8
            simp at h
            subst h
            obtain ⟨ats, c1, c2, c3⟩ := yCall_ok h2
            obtain ⟨T, n1, n2, n3⟩ := yNot_ok h5
            obtain ⟨m1, m2, m3⟩ := yMv_ok h6
            obtain ⟨x, p1, p2, p3⟩ := yPk_ok h8
            have e := splitY_ok h1
            have e2 := last1_ok h4
            refine ⟨id, rfl, rfl, fun hok => ⟨oc, on, om, op, ats, T, v, x, gs, by rw [e]; rfl, c1, c2, c3, n1, n2, n3, by rw [e2], m1, m2, m3, yGs_ok h7, p1, p2, p3, ?_, ?_⟩⟩
            · have := hok om (by rw [e]; simp)
              rw [m2] at this
              exact okO_lt this v rfl
            · have := hok op (by rw [e, e2]; simp)
              rw [p2] at this
              exact okO_lt this c rfl
          · cases h
        · cases h
      · cases h
    · cases h
  · cases h

section
variable {P : Program} {B : Base} {N : Nat} {τ : List (Nat × TI)} {np : NPT} {qc : Nat → Bool} {CK : Nat → KT}
def yEndC (kx N l : Nat) (Y : YT) (y : YD) (Q : TK) : TK := fun t m => match Nat.blt y.d N, Nat.blt y.u N with
  | true, true => evK t (.tmp y.q) fun x => x = yV l ∧ evsK t y.args.toList fun xs => Y xs m fun m' => cleanK kx t fun t0 => tsetK y.d (.c (.sc (.bool true))) t0 fun t1 => tsetK y.u (.c (.sc (.bool false))) t1 fun t2 => Q t2 m'
  | _, _ => False
theorem yEndC_ok {kx l : Nat} {Y : YT} {y : YD} {Q : TK} {t : List (Nat × AV)} {m : Mem} (h : yEndC kx N l Y y Q t m) : yEnd y.pre (fun σ => Q σ.t σ.m) l Y kx N y.q y.d y.u y.args ⟨t, m⟩ := by
  unfold yEndC at h
  split at h
  · rename_i h1 h2
    obtain ⟨x, h3, rfl, h4⟩ := evK_ok h
    obtain ⟨xs, h5, h6⟩ := evsK_ok h4
    exact ⟨⟨h1, h2⟩, h3, xs, _, h5, h6, fun m' h => tsetK_ok (tsetK_ok (cleanK_ok h))⟩
  · exact h.elim

def yEndC2 (τ : List (Nat × TI)) (CK : Nat → KT) (kx N l : Nat) (Y : YT) (y : YD2) (K : TK) : TK := fun t m => match Nat.blt y.d N, Nat.blt y.u N with
  | true, true => evK t (.tmp y.q) fun x => x = yV l ∧ evsK t y.args.toList fun xs => Y xs m fun m' => cleanK kx t fun t0 => tsetK y.d (.c (.sc (.bool true))) t0 fun t1 => tsetK y.u (.c (.sc (.bool false))) t1 fun t2 => runC τ CK y.ops false K y.tl [] t2 m'
  | _, _ => False
theorem yEndC2_ok (hτ : TyOk P τ) (hCK : ∀ f args d m k, CK f args d m k → callK P qc f args d m k) {kx l : Nat} {Y : YT} {y : YD2} {K : TK} {t : List (Nat × AV)} {m : Mem} (hsub : ∀ o ∈ y.tl, okO o.dst N = true) (h : yEndC2 τ CK kx N l Y y K t m) : yEnd2 P (callK P qc) y.ops y.tl (y.pre.length + 2) (fun σ => K σ.t σ.m) l Y kx N y.q y.d y.u y.args ⟨t, m⟩ := by
  unfold yEndC2 at h
  split at h
  · rename_i h1 h2
    obtain ⟨x, h3, rfl, h4⟩ := evK_ok h
    obtain ⟨xs, h5, h6⟩ := evsK_ok h4
    exact ⟨⟨h1, h2⟩, h3, xs, _, h5, h6, fun m' h => runC_ok hτ hCK hsub (tsetK_ok (tsetK_ok (cleanK_ok h)))⟩
  · exact h.elim

def awpYC (τ : List (Nat × TI)) (np : NPT) (CK : Nat → KT) (kx N l : Nat) (Y : YT) : Code → (Exit → TK) → TK
  | .skip, Q => Q .normal
  | .label _, Q => Q .normal
  | .region id ops draw, Q => awpC τ np CK (.region id ops draw) Q
  | .seq a b, Q => match yOf a b with
    | some y => runC τ CK y.ops false (yEndC kx N l Y y (Q .normal)) y.pre []
    | none => match yOf2 a b with
      | some y => runC τ CK y.ops false (yEndC2 τ CK kx N l Y y (condK (.tmp y.c) (Q .ret) (Q .normal))) y.pre []
      | none => awpYC τ np CK kx N l Y a (seqQ (awpYC τ np CK kx N l Y b Q) Q)
  | .cond c a b, Q => condK c (awpYC τ np CK kx N l Y a Q) (awpYC τ np CK kx N l Y b Q)
  | .block id c, Q => awpYC τ np CK kx N l Y c (blockQ id Q)
  | .loop c, Q => fun t m => ∃ (X : Type) (I : X → List (Nat × AV) × Mem) (inv : X → Prop) (μ : X → Nat) (x0 : X), inv x0 ∧ Shift ⟨(I x0).1, (I x0).2⟩ ⟨t, m⟩ ∧
      ∀ x, inv x → awpYC τ np CK kx N l Y c (fun e t m => match e with | .normal => ∃ x', inv x' ∧ Shift ⟨(I x').1, (I x').2⟩ ⟨t, m⟩ ∧ μ x' < μ x | e => Q e t m) (I x).1 (I x).2
  | .exit id, Q => Q (.exit id)
  | .ret, Q => Q .ret
  | _, _ => fun _ _ => False

def concY (B : Base) (Q : Exit → TK) (Stop : World → Prop) : Exit → Act → World → Prop := fun e a w => (∃ t m, RS B (tget t) m a w ∧ Q e t m) ∨ (e = .ret ∧ a.defers = B.ds ∧ a.tmps.size = B.N ∧ Stop w)

theorem awpYC_ok (hτ : TyOk P τ) {kx l : Nat} {Stop : World → Prop} {Y : YT} (hY : YOk P B l Stop Y) (hKx : ∀ i, KX kx i → B.g0.K i) (hCK : ∀ f args d m k, CK f args d m k → callK P qc f args d m k) (hm : P.follows .mixedOrders = true) (hN : B.N = N) :
    ∀ (c : Code) (_ : codeOk qc np N c = true) (Q : Exit → TK) (t : List (Nat × AV)) (m : Mem) (a : Act) (w : World), RS B (tget t) m a w → awpYC τ np CK kx N l Y c Q t m → c.wpIn Fence.wide 0 P (concY B Q Stop) a w := by
  have hCC : ∀ f args d m k, callK P qc f args d m k → callK P qc f args d m k := fun _ _ _ _ _ h => h
  intro c
  induction c with
  | skip => intro _ Q t m a w hR h; exact wpIn_skip (.inl ⟨t, m, hR, h⟩)
  | label l => intro _ Q t m a w hR h; exact wpIn_label (.inl ⟨t, m, hR, h⟩)
  | exit id => intro _ Q t m a w hR h; exact wpIn_exit (.inl ⟨t, m, hR, h⟩)
  | ret => intro _ Q t m a w hR h; exact wpIn_ret (.inl ⟨t, m, hR, h⟩)
  | region id ops draw =>
    intro hc Q t m a w hR h
    refine wpIn_mono (wpIn_wide.2 (awp_ok hCC hm hN _ _ ⟨t, m⟩ a w hR (awpC_ok hτ hCK hc h))) fun e a w ⟨σ, h1, h2⟩ => .inl ⟨σ.t, σ.m, h1, h2⟩
  | seq x y ihx ihy =>
    intro hc Q t m a w hR h
    have hc0 := hc
    simp only [codeOk, Bool.and_eq_true] at hc
    have h : (match yOf x y with
      | some y => runC τ CK y.ops false (yEndC kx N l Y y (Q .normal)) y.pre []
      | none => match yOf2 x y with
        | some y => runC τ CK y.ops false (yEndC2 τ CK kx N l Y y (condK (.tmp y.c) (Q .ret) (Q .normal))) y.pre []
        | none => awpYC τ np CK kx N l Y x (seqQ (awpYC τ np CK kx N l Y y Q) Q)) t m := h
    cases hy : yOf x y with
    | some yd =>
      rw [hy] at h
      obtain ⟨id, rfl, rfl, hE⟩ := yOf_ok hy
      obtain ⟨hc1, _⟩ := hc
      simp only [codeOk, Bool.and_eq_true, List.all_eq_true] at hc1
      have hsub : ∀ o ∈ yd.pre, okO o.dst N = true := fun o ho => by
        obtain ⟨oc, on, _, _, e, _⟩ := hE.ex
        exact hc1.2 o (by rw [e]; simp [ho])
      refine wpIn_mono (idiom_ok hY hKx hCC hN hE (K := fun σ => Q .normal σ.t σ.m) (σ := ⟨t, m⟩) hR (evalOps_mono _ (fun ls σ h => yEndC_ok h) (runC_ok hτ hCK hsub h))) fun e a w hq => ?_
      rcases hq with ⟨rfl, σ, h1, h2⟩ | h2
      · exact .inl ⟨σ.t, σ.m, h1, h2⟩
      · exact .inr h2
    | none =>
      rw [hy] at h
      cases hy2 : yOf2 x y with
      | some yd =>
        rw [hy2] at h
        obtain ⟨id, rfl, rfl, hE⟩ := yOf2_ok (N := N) hy2
        obtain ⟨hc1, _⟩ := hc
        simp only [codeOk, Bool.and_eq_true, List.all_eq_true] at hc1
        have hE := hE hc1.2
        have hops : ∃ oc on, yd.ops.toList = yd.pre ++ ([oc, on] ++ yd.tl) := by
          obtain ⟨oc, on, _, _, _, _, _, _, _, e, _⟩ := hE.ex
          exact ⟨oc, on, e⟩
        obtain ⟨oc, on, hops⟩ := hops
        have hsub : ∀ o ∈ yd.pre, okO o.dst N = true := fun o ho => hc1.2 o (by rw [hops]; simp [ho])
        have hsub2 : ∀ o ∈ yd.tl, okO o.dst N = true := fun o ho => hc1.2 o (by rw [hops]; simp [ho])
        refine wpIn_seq (wpIn_mono (idiom2_ok hY hKx hCC hN hE (K := fun σ => condK (.tmp yd.c) (Q .ret) (Q .normal) σ.t σ.m) (σ := ⟨t, m⟩) hR (evalOps_mono _ (fun ls σ h => yEndC2_ok hτ hCK hsub2 h) (runC_ok hτ hCK hsub h))) fun e a w hq => ?_)
        obtain ⟨rfl, hq⟩ := hq
        rcases hq with ⟨σ, h1, h2⟩ | ⟨h1, h2⟩
        · obtain ⟨v, h3, h4⟩ := evK_ok h2
          split at h4
          · obtain ⟨g, hs, _⟩ := h1.ex
            have hv := isBool (ev_rep hs h3)
            exact wpIn_cond_split hv (fun e => wpIn_ret (.inl ⟨σ.t, σ.m, h1, h4.yes e⟩)) (fun e => wpIn_skip (.inl ⟨σ.t, σ.m, h1, h4.no e⟩))
          · exact h4.elim
        · exact wpIn_cond_true h1 (wpIn_ret (.inr ⟨rfl, h2⟩))
      | none =>
        rw [hy2] at h
        refine wpIn_seq (wpIn_mono (ihx hc.1 _ t m a w hR h) fun e a w hq => ?_)
        rcases hq with ⟨t', m', h1, h2⟩ | ⟨rfl, h2⟩
        · cases e with
          | normal => exact ihy hc.2 Q t' m' a w h1 h2
          | _ => exact .inl ⟨t', m', h1, h2⟩
        · exact .inr ⟨rfl, h2⟩
  | cond c x y iha ihb =>
    intro hc Q t m a w hR h
    simp only [codeOk, Bool.and_eq_true] at hc
    unfold awpYC condK at h
    obtain ⟨v, h1, h2⟩ := evK_ok h
    split at h2
    · obtain ⟨g, hs, _⟩ := hR.ex
      have hv := isBool (ev_rep hs h1)
      exact wpIn_cond_split hv (fun e => iha hc.1 Q t m a w hR (h2.yes e)) (fun e => ihb hc.2 Q t m a w hR (h2.no e))
    · exact h2.elim
  | block id c ih =>
    intro hc Q t m a w hR h
    refine wpIn_block (wpIn_mono (ih hc _ t m a w hR h) fun e a w hq => ?_)
    rcases hq with ⟨t', m', h1, h2⟩ | ⟨rfl, h2⟩
    · cases e with
      | exit i =>
        simp only [blockQ] at h2
        simp only [Exit.inBlock]
        cases hi : Nat.beq i id with
        | true => rw [hi] at h2; rw [if_pos (natBeq hi)]; exact .inl ⟨t', m', h1, h2⟩
        | false => rw [hi] at h2; rw [if_neg (natBeqF hi)]; exact .inl ⟨t', m', h1, h2⟩
      | _ => exact .inl ⟨t', m', h1, h2⟩
    · exact .inr ⟨rfl, h2⟩
  | loop c ih =>
    intro hc Q t m a w hR h
    obtain ⟨X, I, inv, μ, x0, h0, hs, hround⟩ := h
    refine wpIn_loop_ghost (fun n a w => ∃ x, inv x ∧ RS B (tget (I x).1) (I x).2 a w ∧ μ x = n) (μ x0) ⟨x0, h0, hs B a w hR, rfl⟩ ?_
    intro n a w ⟨x, hx, hRx, hn⟩
    refine wpIn_mono (ih hc _ (I x).1 (I x).2 a w hRx (hround x hx)) fun e a' w' hq => ?_
    rcases hq with ⟨t', m', h1, h2⟩ | ⟨rfl, h2⟩
    · cases e with
      | normal =>
        obtain ⟨x', hx', hsh, hlt⟩ := h2
        exact ⟨μ x', by omega, x', hx', hsh B a' w' h1, rfl⟩
      | _ => exact .inl ⟨t', m', h1, h2⟩
    · exact .inr ⟨rfl, h2⟩
  | rangeFunc f p a b _ _ => intro _ Q t m a w hR h; exact h.elim
  | scope c ih => intro _ Q t m a w hR h; exact h.elim
  | goto l => intro _ Q t m a w hR h; exact h.elim
  | refuse s => intro _ Q t m a w hR h; exact h.elim
end
end Go.Abs

/- A part of the code with a small memory of its own: from its names to those of the whole, and back. -/
namespace Go.Abs
open Go.RowKit
set_option linter.unusedVariables false
set_option linter.unusedSimpArgs false
section
variable {P : Program} {B : Base}

/-- What the part knows of the world at its beginning. -/
theorem core_in {gC : G} {M : Mem} {w : World} (hI : Inv B gC M w) {m m' : List (Id × MObj)} {ρ : Id → Id} {M' : Mem} (hL : LinkM ρ m m' M M') : MInv (pull ρ (keys m) gC) m w :=
  have hlk : Link ρ (keys m) (pull ρ (keys m) gC) gC := pull_link
  have hKi : ∀ i o, mget m i = some o → (pull ρ (keys m) gC).K i := fun i o hi => ⟨⟨o, hi⟩, (hI.ok _ _ (hL.mem i o hi).1).1⟩
  ⟨fun i o hi => ⟨hKi i o hi, hlk.pullO ⟨o, hi⟩ (hKi i o hi) (hI.ok _ _ (hL.mem i o hi).1).2 (hL.mem i o hi).2⟩,
    fun i j oi oj b hi hj hij => hI.apart _ _ _ _ b (hL.mem i oi hi).1 (hL.mem j oj hj).1 (fun e => hij (hL.inj i j (.inl ⟨oi, hi⟩) (.inl ⟨oj, hj⟩) e)), hI.flt⟩

open Classical in
/-- What the whole knows at its end. -/
theorem core_out {gC : G} {M M' : Mem} {w w' : World} (hI : Inv B gC M w) {m m' : List (Id × MObj)} {ρ : Id → Id} (hL : LinkM ρ m m' M M') {g' : G}
    (hext : Ext (pull ρ (keys m) gC) w g' w') (hMI' : MInv g' m' w') (hK' : ∀ i, g'.K i → keys m i ∨ keys m' i) (hFr : Frame (pull ρ (keys m) gC) m w g' m' w') :
    ∃ gC', Ext gC w gC' w' ∧ Inv B gC' M' w' ∧ gC'.F = g'.F := by
  let g := pull ρ (keys m) gC
  -- the names after it
  let D : Id → Prop := fun i => keys m i ∨ keys m' i
  have newK : ∀ i, keys m' i → ¬ keys m i → ¬ gC.K (ρ i) := fun i h1 h2 hk => by
    obtain ⟨s, k, e1, e2, _⟩ := hL.new i h1 h2
    rw [e1] at hk
    exact hI.fresh s k e2 hk
  let inv : Id → Id := fun j => if hj : ∃ i, D i ∧ ρ i = j then Classical.choose hj else j
  have inv_ρ : ∀ i, D i → inv (ρ i) = i := fun i hi => by
    have hj : ∃ i', D i' ∧ ρ i' = ρ i := ⟨i, hi, rfl⟩
    show (if hj : ∃ i', D i' ∧ ρ i' = ρ i then Classical.choose hj else ρ i) = i
    rw [dif_pos hj]
    exact hL.inj _ _ (Classical.choose_spec hj).1 hi (Classical.choose_spec hj).2
  let gC' : G := { K := fun j => gC.K j ∨ ∃ i, D i ∧ ρ i = j ∧ g'.K i, β := fun j => if gC.K j then gC.β j else g'.β (inv j), sz := fun j => if gC.K j then gC.sz j else g'.sz (inv j), F := g'.F }
  have hKin : ∀ i, D i → gC.K (ρ i) → keys m i := fun i hi hk => by
    rcases hi with hi | hi
    · exact hi
    · by_cases h2 : keys m i
      · exact h2
      · exact absurd hk (newK i hi h2)
  have hgK : ∀ i, D i → gC.K (ρ i) → g.K i := fun i hi hk => ⟨hKin i hi hk, hk⟩
  have hlk' : Link ρ D g' gC' := by
    refine ⟨fun i hi => ⟨fun hk => .inr ⟨i, hi, rfl, hk⟩, fun hk => ?_⟩, fun i hi hk => ?_, fun i hi hk => ?_, rfl⟩
    · rcases hk with hk | ⟨i', hi', e, hk⟩
      · exact hext.K i (hgK i hi hk)
      · rw [← hL.inj _ _ hi' hi e]; exact hk
    · show g'.β i = if gC.K (ρ i) then gC.β (ρ i) else g'.β (inv (ρ i))
      split
      · rename_i hkk; exact hext.β i (hgK i hi hkk)
      · rw [inv_ρ i hi]
    · show g'.sz i = if gC.K (ρ i) then gC.sz (ρ i) else g'.sz (inv (ρ i))
      split
      · rename_i hkk; exact hext.sz i (hgK i hi hkk)
      · rw [inv_ρ i hi]
  have hextC : Ext gC w gC' w' := ⟨fun j hj => .inl hj, fun j hj => if_pos hj, fun j hj => if_pos hj, hext.F, hext.cell⟩
  have tch : ∀ b, touches g m b → ∃ i o, mget M.o (ρ i) = some o ∧ keys m i ∧ blockOf (gC.β (ρ i)) = some b := fun b ⟨i, o, hi, hb⟩ => ⟨i, _, (hL.mem i o hi).1, ⟨o, hi⟩, hb⟩
  have ntch : ∀ j o b, mget M.o j = some o → (∀ i, keys m i → ρ i ≠ j) → blockOf (gC.β j) = some b → ¬ touches g m b := fun j o b hj hne hb ht => by
    obtain ⟨i, o', h1, h2, h3⟩ := tch b ht
    exact hI.apart (ρ i) j _ _ b h1 hj (hne i h2) h3 hb
  refine ⟨gC', hextC, ?_, rfl⟩
  refine { ok := fun j o hj => ?_, apart := fun j1 j2 o1 o2 b h1 h2 hne hb1 hb2 => ?_, fresh := fun s k hk hK => ?_, flt := hMI'.flt, ext := hI.ext.trans hextC, fnew := fun b o hF => ?_, own := fun j o b hj hb => ?_,
           os := hFr.os.trans hI.os, tape := hFr.tape.trans hI.tape, output := hFr.output.trans hI.output, size := Nat.le_trans hI.size hFr.size, block := fun b hb hX => ?_ }
  · rcases hL.mem' j o hj with ⟨i, o', h1, h2, h3, h4⟩ | ⟨h1, h2⟩
    · obtain ⟨k1, k2⟩ := hMI'.ok i o' h1
      rw [← h2, h3]
      exact ⟨.inr ⟨i, .inr ⟨_, h1⟩, rfl, k1⟩, hlk'.pushO (.inr ⟨_, h1⟩) k1 k2 h4⟩
    · obtain ⟨k1, k2⟩ := hI.ok j o h1
      refine ⟨.inl k1, k2.keep k1 hextC fun b hb => ⟨hFr.block b (k2.lt hb) (ntch j o b h1 h2 hb), fun o' hF => ?_⟩⟩
      rcases hFr.fnew b o' hF with hf | hf | hf
      · exact hf
      · have := k2.lt hb; omega
      · exact absurd hf (ntch j o b h1 h2 hb)
  · have hβ : ∀ i, D i → g'.K i → gC'.β (ρ i) = g'.β i := fun i hi hk => (hlk'.β i hi hk).symm
    have hold : ∀ j o, mget M.o j = some o → gC'.β j = gC.β j := fun j o hj => if_pos (hI.ok j o hj).1
    rcases hL.mem' j1 o1 h1 with ⟨i1, p1, a1, a2, a3, a4⟩ | ⟨a1, a2⟩ <;> rcases hL.mem' j2 o2 h2 with ⟨i2, p2, c1, c2, c3, c4⟩ | ⟨c1, c2⟩
    · have k1 := (hMI'.ok i1 p1 a1).1
      have k2 := (hMI'.ok i2 p2 c1).1
      rw [← a2, hβ i1 (.inr ⟨_, a1⟩) k1] at hb1
      rw [← c2, hβ i2 (.inr ⟨_, c1⟩) k2] at hb2
      exact hMI'.apart i1 i2 p1 p2 b a1 c1 (fun e => hne (by rw [← a2, ← c2, e])) hb1 hb2
    · have k1 := (hMI'.ok i1 p1 a1).1
      rw [← a2, hβ i1 (.inr ⟨_, a1⟩) k1] at hb1
      rw [hold j2 o2 c1] at hb2
      rcases hFr.own i1 p1 b a1 hb1 with hs | hs
      · have := (hI.ok j2 o2 c1).2.lt hb2; omega
      · exact ntch j2 o2 b c1 c2 hb2 hs
    · have k2 := (hMI'.ok i2 p2 c1).1
      rw [← c2, hβ i2 (.inr ⟨_, c1⟩) k2] at hb2
      rw [hold j1 o1 a1] at hb1
      rcases hFr.own i2 p2 b c1 hb2 with hs | hs
      · have := (hI.ok j1 o1 a1).2.lt hb1; omega
      · exact ntch j1 o1 b a1 a2 hb1 hs
    · rw [hold j1 o1 a1] at hb1
      rw [hold j2 o2 c1] at hb2
      exact hI.apart j1 j2 o1 o2 b a1 c1 hne hb1 hb2
  · rcases hK with hK | ⟨i, hi, e, hK⟩
    · exact hI.fresh s k (fun hU => hk (hL.nx s k hU)) hK
    · by_cases h2 : keys m i
      · obtain ⟨o, ho⟩ := h2
        have := (hI.ok _ _ (hL.mem i o ho).1).1
        rw [e] at this
        exact hI.fresh s k (fun hU => hk (hL.nx s k hU)) this
      · have h1 : keys m' i := by rcases hi with hi | hi; exact absurd hi h2; exact hi
        obtain ⟨s', k', e', _, h4⟩ := hL.new i h1 h2
        rw [e'] at e
        simp at e
        exact hk (e.1 ▸ e.2 ▸ h4)
  · rcases hFr.fnew b o hF with h1 | h1 | h1
    · exact hI.fnew b o h1
    · exact .inr (.inl (Nat.le_trans hI.size h1))
    · obtain ⟨i, o', h2, h3, h4⟩ := tch b h1
      exact .inr (hI.own _ _ b h2 h4)
  · rcases hL.mem' j o hj with ⟨i, o', h1, h2, h3, h4⟩ | ⟨h1, h2⟩
    · have k1 := (hMI'.ok i o' h1).1
      have : gC'.β j = g'.β i := by rw [← h2]; exact (hlk'.β i (.inr ⟨_, h1⟩) k1).symm
      rw [this] at hb
      rcases hFr.own i o' b h1 hb with hs | hs
      · exact .inl (Nat.le_trans hI.size hs)
      · obtain ⟨i', o'', h2, h3, h4⟩ := tch b hs
        exact hI.own _ _ b h2 h4
    · have : gC'.β j = gC.β j := if_pos (hI.ok j o h1).1
      rw [this] at hb
      exact hI.own j o b h1 hb
  · have hb' : b < w.heap.size := Nat.lt_of_lt_of_le hb hI.size
    rw [hFr.block b hb' (fun ht => ?_)]
    · exact hI.block b hb hX
    · obtain ⟨i', o'', h2, h3, h4⟩ := tch b ht
      rcases hI.own _ _ b h2 h4 with hh | hh
      · omega
      · exact hX hh


/-- Names that are listed. -/
theorem link_names {ns : List Id} {os os' : List MObj} {M : Mem} (hn : nodupI ns = true) (hl1 : os.length = ns.length) (hg2 : ∀ (j : Nat) i, ns[j]? = some i → ∃ x, os[j]? = some x ∧ mget M.o i = some x) (hlo : lsOs ns os = true)
    (wfo : xsOs ns.length os' = true) (hl' : os'.length = ns.length) : LinkM (ofX ns) (mX (mapO (toX ns) os)) (mX os') M { M with o := sets ns (mapO (ofX ns) os') M.o } := by
  have hlx : (mapO (toX ns) os).length = ns.length := getD_len hl1
  have hlm : (mapO (ofX ns) os').length = ns.length := by rw [mapO_len, hl']
  have kx : ∀ i, keys (mX (mapO (toX ns) os)) i ↔ KX ns.length i := fun i => by rw [keys_mX, hlx]
  have kx' : ∀ i, keys (mX os') i ↔ KX ns.length i := fun i => by rw [keys_mX, hl']
  have inK : ∀ {n : Nat}, n = ns.length → KX n = keys (mX (mapO (toX ns) os)) := fun e => by subst e; exact funext fun i => propext (kx i).symm
  have hof : ∀ i, KX ns.length i → ∃ n, i = .x n ∧ n < ns.length ∧ ns[n]? = some (ofX ns i) := fun i ⟨n, hn, e⟩ => by
    subst e
    exact ⟨n, rfl, hn, by rw [ofX_x (List.getElem?_eq_getElem hn)]; exact List.getElem?_eq_getElem hn⟩
  have hD : (fun i => keys (mX (mapO (toX ns) os)) i ∨ keys (mX os') i) = KX ns.length := funext fun i => propext ⟨fun h => h.elim (kx i).1 (kx' i).1, fun h => .inl ((kx i).2 h)⟩
  refine ⟨fun i o hi => ?_, fun j o hj => ?_, fun i a b => ?_, fun a b ha hb e => ?_, fun _ _ h => h⟩
  · obtain ⟨n, e1, e2⟩ := mget_nameX.1 hi
    rw [mapO_get] at e2
    obtain ⟨x, e3, rfl⟩ := Option.map_eq_some_iff.1 e2
    have hnl : n < ns.length := by rw [← hl1]; exact (List.getElem?_eq_some_iff.1 e3).1
    obtain ⟨y, e4, e5⟩ := hg2 n ns[n] (List.getElem?_eq_getElem hnl)
    rw [e3] at e4
    cases e4
    obtain ⟨q1, q2⟩ := lsO_ok (lsOs_get hlo e3)
    refine ⟨?_, by rw [← inK rfl]; exact q2⟩
    rw [q1, e1, Nat.zero_add, ofX_x (List.getElem?_eq_getElem hnl)]
    exact e5
  · obtain ⟨s1, s2⟩ := mget_sets (ns := ns) (l := mapO (ofX ns) os') (o := M.o) (j := j) hlm hn
    cases e : inI j ns with
    | true =>
      obtain ⟨n, hp⟩ := posI_in (n := 0) e
      obtain ⟨_, hp⟩ := posI_spec hp
      rw [Nat.sub_zero] at hp
      have hj' := s1 n hp
      rw [show mget (sets ns (mapO (ofX ns) os') M.o) j = some o from hj, mapO_get] at hj'
      obtain ⟨x, e3, e4⟩ := Option.map_eq_some_iff.1 hj'.symm
      exact .inl ⟨.x n, x, mget_nameX.2 ⟨n, by congr 1; omega, e3⟩, ofX_x hp, e4.symm, by rw [hD]; exact xsO_ok (xsOs_get wfo e3)⟩
    | false =>
      refine .inr ⟨by rw [← s2 e]; exact hj, fun i hi e' => ?_⟩
      obtain ⟨n, _, _, h3⟩ := hof i ((kx i).1 hi)
      rw [e'] at h3
      rw [inI_get h3] at e
      cases e
  · exact absurd ((kx i).2 ((kx' i).1 a)) b
  · have ha' : KX ns.length a := ha.elim (kx a).1 (kx' a).1
    have hb' : KX ns.length b := hb.elim (kx b).1 (kx' b).1
    obtain ⟨n, rfl, _, h3⟩ := hof a ha'
    obtain ⟨n', rfl, _, h4⟩ := hof b hb'
    rw [← e] at h4
    rw [nodup_get hn h3 h4]

end
end Go.Abs
