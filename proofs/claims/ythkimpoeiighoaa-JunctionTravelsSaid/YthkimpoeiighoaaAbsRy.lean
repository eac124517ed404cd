/- A row is put into a slice and written through it: the rule for two regions of a function's code. -/
import Derived.Test.YthkimpoeiighoaaAbsRx
namespace Go.Abs
open Go.RowKit
set_option linter.unusedVariables false
set_option linter.unusedSimpArgs false
def mvO (o : Oper) : Option (Nat × Nat) := match o.op, o.dst, o.guard with
  | .move (.tmp s), some d, none => some (s, d)
  | _, _, _ => none
theorem mvO_ok {o : Oper} {s d : Nat} (h : mvO o = some (s, d)) : o.op = .move (.tmp s) ∧ o.dst = some d ∧ o.guard = none := by
  unfold mvO at h
  split at h
  · rename_i h1 h2 h3; cases h; exact ⟨h1, h2, h3⟩
  · cases h
def iaO (o : Oper) : Option (Nat × Nat × Nat × Nat) := match o.op, o.dst, o.guard with
  | .indexAddr T (.tmp a) (.tmp b), some d, none => some (T, a, b, d)
  | _, _, _ => none
theorem iaO_ok {o : Oper} {T a b d : Nat} (h : iaO o = some (T, a, b, d)) : o.op = .indexAddr T (.tmp a) (.tmp b) ∧ o.dst = some d ∧ o.guard = none := by
  unfold iaO at h
  split at h
  · rename_i h1 h2 h3; cases h; exact ⟨h1, h2, h3⟩
  · cases h
def ldO (o : Oper) : Option (Nat × Nat × Nat) := match o.op, o.dst, o.guard with
  | .load T (.tmp a), some d, none => some (T, a, d)
  | _, _, _ => none
theorem ldO_ok {o : Oper} {T a d : Nat} (h : ldO o = some (T, a, d)) : o.op = .load T (.tmp a) ∧ o.dst = some d ∧ o.guard = none := by
  unfold ldO at h
  split at h
  · rename_i h1 h2 h3; cases h; exact ⟨h1, h2, h3⟩
  · cases h
def cvO (o : Oper) : Option (Nat × Nat × Nat × Nat) := match o.op, o.dst, o.guard with
  | .convert S T (.tmp a), some d, none => some (S, T, a, d)
  | _, _, _ => none
theorem cvO_ok {o : Oper} {S T a d : Nat} (h : cvO o = some (S, T, a, d)) : o.op = .convert S T (.tmp a) ∧ o.dst = some d ∧ o.guard = none := by
  unfold cvO at h
  split at h
  · rename_i h1 h2 h3; cases h; exact ⟨h1, h2, h3⟩
  · cases h
def adO (o : Oper) : Option (Nat × Nat × Nat × Nat × Nat) := match o.op, o.dst, o.guard with
  | .binOp .add T (.tmp a) (.tmp b) U, some d, none => some (T, a, b, U, d)
  | _, _, _ => none
theorem adO_ok {o : Oper} {T a b U d : Nat} (h : adO o = some (T, a, b, U, d)) : o.op = .binOp .add T (.tmp a) (.tmp b) U ∧ o.dst = some d ∧ o.guard = none := by
  unfold adO at h
  split at h
  · rename_i h1 h2 h3; cases h; exact ⟨h1, h2, h3⟩
  · cases h
def stO (o : Oper) : Option (Nat × Nat × Nat) := match o.op, o.dst, o.guard with
  | .store T (.tmp a) (.tmp b), none, none => some (T, a, b)
  | _, _, _ => none
theorem stO_ok {o : Oper} {T a b : Nat} (h : stO o = some (T, a, b)) : o.op = .store T (.tmp a) (.tmp b) ∧ o.dst = none ∧ o.guard = none := by
  unfold stO at h
  split at h
  · rename_i h1 h2 h3; cases h; exact ⟨h1, h2, h3⟩
  · cases h
structure RD where
  T1 : Nat
  T2 : Nat
  T4 : Nat
  T5 : Nat
  p : Nat
  v : Nat
  s : Nat
  kx : Nat
  ix : Nat
  bx : Nat
  x1 : Nat
  x2 : Nat
  x3 : Nat
  x4 : Nat
  x5 : Nat
  x6 : Nat
  x7 : Nat
  x8 : Nat
  x9 : Nat
  x10 : Nat
  x11 : Nat
abbrev RD.xs (y : RD) : List Nat := [y.x1, y.x2, y.x3, y.x4, y.x5, y.x6, y.x7, y.x8, y.x9, y.x10, y.x11]
section
variable {P : Program} {B : Base} {τ : List (Nat × TI)} {N : Nat} {qc : Nat → Bool} {CK : Nat → KT}
theorem eval_put_ne {a : Act} {d t : Nat} {v : Value} (h : ¬ t = d) : (a.put (some d) v).eval (.tmp t) = a.eval (.tmp t) := by
  simp [Act.put, Act.eval, Array.getElem?_setIfInBounds, Ne.symm h]
theorem eval_put_eq {a : Act} {d : Nat} {v : Value} (h : d < a.tmps.size) : (a.put (some d) v).eval (.tmp d) = v := by
  simp [Act.put, Act.eval, h]
theorem wpl_val {ops : Array Oper} {Q : Exit → Act → World → Prop} {o : Oper} {l : List Oper} {a : Act} {w : World} {v : Value} {d : Nat} (hg : o.guard = none) (hd : o.dst = some d) (hr : (execOp a.eval o).run P w = .ok (.value v) w) (h : wpList P ops Q l (a.put (some d) v) w) : wpList P ops Q (o :: l) a w := by
  unfold wpList
  rw [if_pos (by simp [Region.wanted, hg])]
  refine .inl ?_
  unfold Oper.wp
  rw [hr, Oper.upon_value, hd]
  exact h
theorem wpl_skip {ops : Array Oper} {Q : Exit → Act → World → Prop} {o : Oper} {l : List Oper} {a : Act} {w w' : World} (hg : o.guard = none) (hd : o.dst = none) (hr : (execOp a.eval o).run P w = .ok .skip w') (h : wpList P ops Q l a w') : wpList P ops Q (o :: l) a w := by
  unfold wpList
  rw [if_pos (by simp [Region.wanted, hg])]
  refine .inl ?_
  unfold Oper.wp
  rw [hr, Oper.upon_skip, hd]
  exact h
theorem wpl_app {ops : Array Oper} {Q Q1 : Exit → Act → World → Prop} {l2 : List Oper} (h1 : ∀ a w, Q1 .normal a w → wpList P ops Q l2 a w) (h2 : ∀ c a w, Q1 (.panic c) a w → False) (h3 : ¬ LetsOut Q1) : ∀ (l1 : List Oper) (a : Act) (w : World), wpList P ops Q1 l1 a w → wpList P ops Q (l1 ++ l2) a w
  | [], a, w, h => h1 a w h
  | o :: l1, a, w, h => by
    have ih := wpl_app (Q := Q) (l2 := l2) h1 h2 h3 l1
    rw [List.cons_append]
    unfold wpList at h ⊢
    split at h
    · rename_i hw
      rw [if_pos hw]
      rcases h with h | ⟨_, h⟩
      · refine .inl ?_
        unfold Oper.wp at h ⊢
        revert h
        generalize (execOp a.eval o).run P w = res
        intro h
        unfold Oper.upon at h ⊢
        split at h
        · exact ih _ _ h
        · exact ih _ _ h
        · exact ih _ _ h
        · exact h.mono fun e w' hr => by
            cases e with
            | returned v => exact ih _ _ hr
            | panicked c => exact (h2 _ _ _ hr).elim
            | outgrown => exact absurd hr h3
        · intro c cs
          obtain ⟨v, w', r, s⟩ := h c cs
          exact ⟨v, w', ih _ _ r, s⟩
        · exact (h2 _ _ _ h).elim
        · exact h.elim
      · exact absurd h h3
    · rename_i hw
      rw [if_neg hw]
      exact ih _ _ h
/-- The operations. -/
structure RwEnd (y : RD) (N : Nat) (ops1 ops2 : List Oper) (pre : List Oper) : Prop where
  ex : ∃ st m1 m2 ia ld m3 ib lb m4 cv ad ic s2 U, ops1 = pre ++ [st] ∧ ops2 = [m1, m2, ia, ld, m3, ib, lb, m4, cv, ad, ic, s2] ∧ stO st = some (y.T1, y.p, y.v) ∧ mvO m1 = some (y.s, y.x1) ∧ mvO m2 = some (y.kx, y.x2) ∧
    iaO ia = some (y.T2, y.x1, y.x2, y.x3) ∧ ldO ld = some (y.T1, y.x3, y.x4) ∧ mvO m3 = some (y.ix, y.x5) ∧ iaO ib = some (y.T1, y.x4, y.x5, y.x6) ∧ ldO lb = some (y.T4, y.x6, y.x7) ∧ mvO m4 = some (y.bx, y.x8) ∧ cvO cv = some (y.T5, y.T4, y.x8, y.x9) ∧
    adO ad = some (y.T4, y.x7, y.x9, U, y.x10) ∧ iaO ic = some (y.T1, y.x4, y.x5, y.x11) ∧ stO s2 = some (y.T4, y.x11, y.x10)
  nd : (y.s :: y.kx :: y.ix :: y.bx :: y.xs).Nodup
  lt : ∀ x ∈ y.xs, x < N
def tdels : List Nat → List (Nat × AV) → List (Nat × AV)
  | [], l => l
  | d :: r, l => tdels r (tdel l d)
theorem tget_tdels : ∀ {ds : List Nat} {l : List (Nat × AV)} {t : Nat} {x : AV}, tget (tdels ds l) t = some x → tget l t = some x ∧ t ∉ ds
  | [], l, t, x, h => ⟨h, by simp⟩
  | d :: r, l, t, x, h => by
    obtain ⟨h1, h2⟩ := tget_tdels (ds := r) h
    rw [tget_tdel] at h1
    split at h1
    · cases h1
    · rename_i e
      exact ⟨h1, by simp [h2]; exact e⟩
def tdelsK : List Nat → List (Nat × AV) → (List (Nat × AV) → Prop) → Prop
  | [], l, k => k l
  | d :: r, l, k => tdelK d l fun l => tdelsK r l k
theorem tdelsK_ok : ∀ {ds : List Nat} {l : List (Nat × AV)} {k : List (Nat × AV) → Prop}, tdelsK ds l k → k (tdels ds l)
  | [], l, k, h => h
  | d :: r, l, k, h => tdelsK_ok (ds := r) (tdelK_ok h)
def rwE (τ : List (Nat × TI)) (y : RD) (K : TK) : TK := fun t m => tyK y.T1 (fun t1 => tyK y.T2 (fun t2 => tyK y.T4 (fun t4 => tyK y.T5 (fun t5 =>
  ((t1.size = 1 ∧ t1.agg = false ∧ t1.d = .slice y.T4) ∧ t2.d = .slice y.T1 ∧ (t4.size = 1 ∧ t4.agg = false ∧ t4.d = .int .i64) ∧ t5.d = .int .u8) ∧
  evK t (.tmp y.s) fun xs => evK t (.tmp y.kx) fun xk => evK t (.tmp y.p) fun xp => evK t (.tmp y.v) fun xv => evK t (.tmp y.ix) fun xi => evK t (.tmp y.bx) fun xb =>
  ∃ (io ir : Id) (n k i : Nat) (bv z : Int), (xs = .c (.view io 0 n) ∧ xk = .c (.sc (.int .i64 k)) ∧ xp = .c (.aptr io k 0) ∧ xi = .c (.sc (.int .i64 i)) ∧ xb = .c (.sc (.int .u8 bv))) ∧ io ≠ ir ∧ k < n ∧
    mgetK io (fun o1 => mgetK ir (fun o2 => ∃ e1 e2 es1 es2, (o1 = .arr e1 1 es1 false ∧ o2 = .arr e2 1 es2 false ∧ xv = .c (.view ir 0 es2.length)) ∧ k < es1.length ∧ es2[i]? = some [.sc (.int .i64 z)] ∧
      msetK ir (.arr e2 1 (es2.set i [.sc (.int .i64 (IntKind.i64.wrap (z + IntKind.i64.wrap bv)))]) true) m.o fun o' =>
      msetK io (.arr e1 1 (es1.set k [.lst (es2.set i [.sc (.int .i64 (IntKind.i64.wrap (z + IntKind.i64.wrap bv)))])]) false) o' fun o'' => setOK m o'' fun m' => tdelsK y.xs t fun t' => K t' m') m.o) m.o) τ) τ) τ) τ
theorem rw_wp (hτ : TyOk P τ) (hCK : ∀ f args d m k, CK f args d m k → callK P qc f args d m k) (hN : B.N = N) {y : RD} {id1 id2 : Nat} {ops1 ops2 : Array Oper} {pre : List Oper} (hE : RwEnd y N ops1.toList ops2.toList pre) (hpre : ∀ o ∈ pre, okO o.dst N = true) {K : TK} {Q : Exit → Act → World → Prop} {rest : Code}
    {t : List (Nat × AV)} {m : Mem} {a : Act} {w : World} (hR : RS B (tget t) m a w) (h : runC τ CK ops1 false (rwE τ y K) pre [] t m) (hrest : ∀ t' m' a' w', RS B (tget t') m' a' w' → K t' m' → rest.wp P Q a' w') :
    (Code.seq (.region id1 ops1 false) (.seq (.region id2 ops2 false) rest)).wp P Q a w := by
  obtain ⟨st, m1, m2, ia, ld, m3, ib, lb, m4, cv, ad, ic, s2, U, ho1, ho2, p0, p1, p2, p3, p4, p5, p6, p7, p8, p9, p10, p11, p12⟩ := hE.ex
  have hnd := hE.nd
  have hlt := hE.lt
  refine wp_seq ?_
  refine wp_region_list ?_
  rw [ho1]
  refine wpl_app (Q1 := fun e a w => e = .normal ∧ ∃ σ1 : St, RS B (tget σ1.t) σ1.m a w ∧ rwE τ y K σ1.t σ1.m) ?_ (fun c a w h => by cases h.1) (by rintro ⟨_, _, h, _⟩; cases h) pre a w (evalOps_wp (fun f args d m k h => h) hN pre 0 [] ⟨t, m⟩ _ a w (fun ls σ' a w hR' hk => ⟨rfl, σ', hR', hk⟩) hR (runC_ok hτ hCK hpre h))
  rintro a w ⟨_, σ, hR1, hr⟩
  obtain ⟨t1, h1, hr⟩ := tyK_ok hτ hr
  obtain ⟨t2, h2, hr⟩ := tyK_ok hτ hr
  obtain ⟨t4, h4, hr⟩ := tyK_ok hτ hr
  obtain ⟨t5, h5, ⟨⟨s1, a1, d1⟩, d2, ⟨s4, a4, d4⟩, d5⟩, hr⟩ := tyK_ok hτ hr
  obtain ⟨xs, v1, hr⟩ := evK_ok hr
  obtain ⟨xk, v2, hr⟩ := evK_ok hr
  obtain ⟨xp, v3, hr⟩ := evK_ok hr
  obtain ⟨xv, v4, hr⟩ := evK_ok hr
  obtain ⟨xi, v5, hr⟩ := evK_ok hr
  obtain ⟨xb, v6, io, ir, n, k, i, bv, z, ⟨rfl, rfl, rfl, rfl, rfl⟩, hne, hkn, hr⟩ := evK_ok hr
  obtain ⟨o1, hio, hr⟩ := mgetK_ok hr
  obtain ⟨o2, hir, e1, e2, es1, es2, ⟨rfl, rfl, rfl⟩, hk2, hz, hr⟩ := mgetK_ok hr
  have hr := tdelsK_ok (setOK_ok (msetK_ok (msetK_ok hr)))
  obtain ⟨⟨g, hs, hI⟩, hds, hsz⟩ := hR1
  obtain ⟨i1, D1, z1, hi1, hd1, _, e1'⟩ := tiOf_spec h1
  obtain ⟨i2, D2, z2, hi2, hd2, _, e2'⟩ := tiOf_spec h2
  obtain ⟨i4, D4, z4, hi4, hd4, _, e4'⟩ := tiOf_spec h4
  obtain ⟨i5, D5, z5, hi5, hd5, _, e5'⟩ := tiOf_spec h5
  have u1 : P.underlying y.T1 = some (.slice y.T4) := by rw [hd1]; exact congrArg some (descOf_slice (by rw [e1'] at d1; exact d1))
  have u2 : P.underlying y.T2 = some (.slice y.T1) := by rw [hd2]; exact congrArg some (descOf_slice (by rw [e2'] at d2; exact d2))
  have u4 : P.underlying y.T4 = some (.int .i64) := by rw [hd4]; exact congrArg some (descOf_int (by rw [e4'] at d4; exact d4))
  have u5 : P.underlying y.T5 = some (.int .u8) := by rw [hd5]; exact congrArg some (descOf_int (by rw [e5'] at d5; exact d5))
  have rv := fun {s : Nat} {x : AV} (h : ev (tget σ.t) (.tmp s) = some x) => ev_rep hs h
  have q1 := rv v1
  have q2 := rv v2
  have q3 := rv v3
  have q4 := rv v4
  have q5 := rv v5
  have q6 := rv v6
  have c2 := isInt q2
  have c5 := isInt q5
  have c6 := isInt q6
  obtain ⟨w', g', ⟨wc, Vq, r1, r2, r3, r4, r5, r6⟩, hX, hI'⟩ := row_write (x := IntKind.i64.wrap (z + IntKind.i64.wrap bv)) hI hio hir hne h1 s1 a1 u2 u1 h4 s4 a4 q1 q3 q4 hkn hk2 hz
  obtain ⟨g01, _, g02⟩ := stO_ok p0
  obtain ⟨b1, b2, b3⟩ := mvO_ok p1
  obtain ⟨b4, b5, b6⟩ := mvO_ok p2
  obtain ⟨b7, b8, b9⟩ := iaO_ok p3
  obtain ⟨b10, b11, b12⟩ := ldO_ok p4
  obtain ⟨b13, b14, b15⟩ := mvO_ok p5
  obtain ⟨b16, b17, b18⟩ := iaO_ok p6
  obtain ⟨b19, b20, b21⟩ := ldO_ok p7
  obtain ⟨b22, b23, b24⟩ := mvO_ok p8
  obtain ⟨b25, b26, b27⟩ := cvO_ok p9
  obtain ⟨b28, b29, b30⟩ := adO_ok p10
  obtain ⟨b31, b32, b33⟩ := iaO_ok p11
  obtain ⟨b34, b35, b36⟩ := stO_ok p12
  simp only [RD.xs, List.nodup_cons, List.mem_cons, not_or, List.not_mem_nil, not_false_eq_true, and_true, List.nodup_nil] at hnd
  simp only [RD.xs, List.mem_cons, List.not_mem_nil, or_false, forall_eq_or_imp, forall_eq] at hlt
  rw [← hN, ← hsz] at hlt
  refine wpl_skip (w' := wc) g02 (stO_ok p0).2.1 (by simp [execOp, g01, r2]) ?_
  show (Code.seq (.region id2 ops2 false) rest).wp P Q a wc
  refine wp_seq (wp_region_list ?_)
  rw [ho2]
  refine wpl_val (v := a.eval (.tmp y.s)) b3 b2 (by simp [execOp, b1]) ?_
  refine wpl_val (v := .int .i64 k) b6 b5 (by simp [execOp, b4, eval_put_ne, hnd, c2]) ?_
  refine wpl_val (v := a.eval (.tmp y.p)) b9 b8 (by simp [execOp, b7, eval_put_ne, eval_put_eq, size_put, hnd, hlt, r1]) ?_
  refine wpl_val (v := a.eval (.tmp y.v)) b12 b11 (by simp [execOp, b10, eval_put_eq, size_put, hlt, r3]) ?_
  refine wpl_val (v := .int .i64 i) b15 b14 (by simp [execOp, b13, eval_put_ne, hnd, c5]) ?_
  refine wpl_val (v := Vq) b18 b17 (by simp [execOp, b16, eval_put_ne, eval_put_eq, size_put, hnd, hlt, r4]) ?_
  refine wpl_val (v := .int .i64 z) b21 b20 (by simp [execOp, b19, eval_put_eq, size_put, hlt, r5]) ?_
  refine wpl_val (v := .int .u8 bv) b24 b23 (by simp [execOp, b22, eval_put_ne, hnd, c6]) ?_
  refine wpl_val (v := .int .i64 (IntKind.i64.wrap bv)) b27 b26 (by simp [execOp, b25, eval_put_eq, size_put, hlt, convert, run_underlying u4, run_underlying u5, Conv.intToInt]) ?_
  refine wpl_val (v := .int .i64 (IntKind.i64.wrap (z + IntKind.i64.wrap bv))) b30 b29 ?_ ?_
  · obtain ⟨hb1, _⟩ := binI_ok (P := P) (w := wc) (op := .add) (t := y.T4) (k := .i64) (a := z) (b := IntKind.i64.wrap bv) (v := .int .i64 (IntKind.i64.wrap (z + IntKind.i64.wrap bv))) rfl
    simp [execOp, b28, eval_put_ne, eval_put_eq, size_put, hnd, hlt, eqGuard, hb1]
  refine wpl_val (v := Vq) b33 b32 (by simp [execOp, b31, eval_put_ne, eval_put_eq, size_put, hnd, hlt, r4]) ?_
  refine wpl_skip (w' := w') b36 b35 (by simp [execOp, b34, eval_put_ne, eval_put_eq, size_put, hnd, hlt, r6]) ?_
  refine hrest _ _ _ _ ⟨⟨g', fun t x hx => ?_, hI'⟩, by simp only [defers_put]; exact hds, by simp only [size_put]; exact hsz⟩ hr
  obtain ⟨hx1, hx2⟩ := tget_tdels hx
  obtain ⟨u, hu1, hu2⟩ := hs t x hx1
  simp only [RD.xs, List.mem_cons, not_or, List.not_mem_nil, not_false_eq_true, and_true] at hx2
  refine ⟨u, ?_, hu2.ext hX⟩
  simp only [Act.put]
  simp [Array.getElem?_setIfInBounds, hx2, Ne.symm, hu1]
def eqsB : List (Nat × Nat) → Bool
  | [] => true
  | (a, b) :: r => match Nat.beq a b with
    | true => eqsB r
    | false => false
theorem eqsB_ok : ∀ {l : List (Nat × Nat)}, eqsB l = true → ∀ q ∈ l, q.1 = q.2
  | [], _, q, h => by cases h
  | (a, b) :: r, h, q, hq => by
    unfold eqsB at h
    split at h
    · rename_i e
      rcases List.mem_cons.1 hq with rfl | hq
      · exact natBeq e
      · exact eqsB_ok h q hq
    · cases h
def offB (d : Nat) : List Nat → Bool
  | [] => true
  | x :: r => match Nat.beq d x with
    | true => false
    | false => offB d r
theorem offB_ok {d : Nat} : ∀ {l : List Nat}, offB d l = true → d ∉ l
  | [], _ => by simp
  | x :: r, h => by
    unfold offB at h
    split at h
    · cases h
    · rename_i e
      intro hm
      rcases List.mem_cons.1 hm with rfl | hm
      · simp at e
      · exact offB_ok h hm
def nodB : List Nat → Bool
  | [] => true
  | x :: r => match offB x r with
    | true => nodB r
    | false => false
theorem nodB_ok : ∀ {l : List Nat}, nodB l = true → l.Nodup
  | [], _ => .nil
  | x :: r, h => by
    unfold nodB at h
    split at h
    · rename_i e
      exact List.nodup_cons.2 ⟨offB_ok e, nodB_ok h⟩
    · cases h
def ltB (N : Nat) : List Nat → Bool
  | [] => true
  | x :: r => match Nat.blt x N with
    | true => ltB N r
    | false => false
theorem ltB_ok {N : Nat} : ∀ {l : List Nat}, ltB N l = true → ∀ x ∈ l, x < N
  | [], _, x, h => by cases h
  | y :: r, h, x, hx => by
    unfold ltB at h
    split at h
    · rename_i e
      rcases List.mem_cons.1 hx with rfl | hx
      · exact Nat.le_of_ble_eq_true e
      · exact ltB_ok h x hx
    · cases h
def rwL (N : Nat) (l1 l2 : List Oper) : Option (RD × List Oper) := match last1 l1, l2 with
  | some (pre, st), [m1, m2, ia, ld, m3, ib, lb, m4, cv, ad, ic, s2] => match stO st, mvO m1, mvO m2, iaO ia, ldO ld, mvO m3, iaO ib, ldO lb, mvO m4, cvO cv, adO ad, iaO ic, stO s2 with
    | some (T1, p, v), some (s, x1), some (kx, x2), some (T2, c1, c2, x3), some (T1b, c3, x4), some (ix, x5), some (T1c, c4, c5, x6), some (T4, c6, x7), some (bx, x8), some (T5, T4b, c8, x9), some (T4c, c7, c9, U, x10), some (T1d, c10, c11, x11), some (T4d, c12, c13) =>
      match eqsB [(T1, T1b), (T1, T1c), (T1, T1d), (T4, T4b), (T4, T4c), (T4, T4d), (x1, c1), (x2, c2), (x3, c3), (x4, c4), (x5, c5), (x6, c6), (x7, c7), (x8, c8), (x9, c9), (x4, c10), (x5, c11), (x11, c12), (x10, c13)],
          nodB [s, kx, ix, bx, x1, x2, x3, x4, x5, x6, x7, x8, x9, x10, x11], ltB N [x1, x2, x3, x4, x5, x6, x7, x8, x9, x10, x11] with
      | true, true, true => some (⟨T1, T2, T4, T5, p, v, s, kx, ix, bx, x1, x2, x3, x4, x5, x6, x7, x8, x9, x10, x11⟩, pre)
      | _, _, _ => none
    | _, _, _, _, _, _, _, _, _, _, _, _, _ => none
  | _, _ => none
theorem rwL_ok {l1 l2 pre : List Oper} {y : RD} (h : rwL N l1 l2 = some (y, pre)) : RwEnd y N l1 l2 pre := by
  unfold rwL at h
  split at h
  · rename_i pre' st m1 m2 ia ld m3 ib lb m4 cv ad ic s2 hl
    split at h
    · rename_i T1 p v s x1 kx x2 T2 c1 c2 x3 T1b c3 x4 ix x5 T1c c4 c5 x6 T4 c6 x7 bx x8 T5 T4b c8 x9 T4c c7 c9 U x10 T1d c10 c11 x11 T4d c12 c13 p0 p1 p2 p3 p4 p5 p6 p7 p8 p9 p10 p11 p12
      split at h
      · rename_i q1 q2 q3
        cases h
        have q1 := eqsB_ok q1
        simp only [List.mem_cons, List.not_mem_nil, or_false, forall_eq_or_imp, forall_eq] at q1
        obtain ⟨rfl, rfl, rfl, rfl, rfl, rfl, rfl, rfl, rfl, rfl, rfl, rfl, rfl, rfl, rfl, rfl, rfl, rfl, rfl⟩ := q1
        exact ⟨⟨st, m1, m2, ia, ld, m3, ib, lb, m4, cv, ad, ic, s2, U, last1_ok hl, rfl, p0, p1, p2, p3, p4, p5, p6, p7, p8, p9, p10, p11, p12⟩, nodB_ok q2, ltB_ok q3⟩
      · cases h
    · cases h
  · cases h
def asRows : Code → Option (Array Oper × Array Oper × Code)
  | .seq (.region _ ops1 false) (.seq (.region _ ops2 false) r) => some (ops1, ops2, r)
  | _ => none
theorem asRows_ok {c r : Code} {o1 o2 : Array Oper} (h : asRows c = some (o1, o2, r)) : ∃ i j, c = .seq (.region i o1 false) (.seq (.region j o2 false) r) := by
  unfold asRows at h
  split at h
  · rename_i i o1' j o2' r'
    cases h
    exact ⟨i, j, rfl⟩
  · cases h
def asSeq : Code → Option (Code × Code)
  | .seq a b => some (a, b)
  | _ => none
theorem asSeq_ok {c a b : Code} (h : asSeq c = some (a, b)) : c = .seq a b := by
  unfold asSeq at h
  split at h
  · cases h; rfl
  · cases h
/-- So many statements from the top of the code down stands a row that is put into a slice and written through it. -/
def awpD (τ : List (Nat × TI)) (np : NPT) (CK : Nat → KT) (N : Nat) : Nat → Code → (Exit → TK) → TK
  | 0, c, Q => match asRows c with
    | some (ops1, ops2, r) => match rwL N ops1.toList ops2.toList with
      | some (y, pre) => runC τ CK ops1 false (rwE τ y (awpC τ np CK r Q)) pre []
      | none => fun _ _ => False
    | none => fun _ _ => False
  | n + 1, c, Q => match asSeq c with
    | some (a, b) => awpC τ np CK a (seqQ (awpD τ np CK N n b Q) Q)
    | none => fun _ _ => False
def concD (B : Base) (Q : Exit → TK) : Exit → Act → World → Prop := fun e a w => ∃ t m, RS B (tget t) m a w ∧ Q e t m
theorem awpD_ok (hτ : TyOk P τ) {np : NPT} (hCK : ∀ f args d m k, CK f args d m k → callK P qc f args d m k) (hm : P.follows .mixedOrders = true) (hN : B.N = N) : ∀ (n : Nat) (c : Code) (_ : codeOk qc np N c = true) (Q : Exit → TK) (t : List (Nat × AV)) (m : Mem) (a : Act) (w : World), RS B (tget t) m a w → awpD τ np CK N n c Q t m → c.wp P (concD B Q) a w := by
  have hCC : ∀ f args d m k, callK P qc f args d m k → callK P qc f args d m k := fun _ _ _ _ _ h => h
  have base : ∀ (c : Code) (_ : codeOk qc np N c = true) (Q : Exit → TK) (t : List (Nat × AV)) (m : Mem) (a : Act) (w : World), RS B (tget t) m a w → awpC τ np CK c Q t m → c.wp P (concD B Q) a w := fun c hc Q t m a w hR h =>
    wp_mono (awp_ok hCC hm hN _ _ ⟨t, m⟩ a w hR (awpC_ok hτ hCK hc h)) fun e a w ⟨σ, h1, h2⟩ => ⟨σ.t, σ.m, h1, h2⟩
  intro n
  induction n with
  | zero =>
    intro c hc Q t m a w hR h
    unfold awpD at h
    cases hs : asRows c with
    | none => rw [hs] at h; exact h.elim
    | some z =>
    obtain ⟨ops1, ops2, r⟩ := z
    rw [hs] at h
    dsimp only at h
    obtain ⟨id1, id2, rfl⟩ := asRows_ok hs
    cases hy : rwL N ops1.toList ops2.toList with
    | none => rw [hy] at h; exact h.elim
    | some z =>
        obtain ⟨y, pre⟩ := z
        rw [hy] at h
        have hE := rwL_ok hy
        simp only [codeOk, Bool.and_eq_true, List.all_eq_true] at hc
        obtain ⟨st, _, _, _, _, _, _, _, _, _, _, _, _, _, ho1, _⟩ := hE.ex
        exact rw_wp hτ hCK hN hE (fun o ho => hc.1.2 o (by rw [ho1]; simp [ho])) hR h fun t' m' a' w' hR' hK => base _ hc.2.2 Q t' m' a' w' hR' hK
  | succ n ih =>
    intro c hc Q t m a w hR h
    unfold awpD at h
    cases hs : asSeq c with
    | none => rw [hs] at h; exact h.elim
    | some z =>
      obtain ⟨x, y⟩ := z
      rw [hs] at h
      have := asSeq_ok hs
      subst this
      simp only [codeOk, Bool.and_eq_true] at hc
      refine wp_seq (wp_mono (base _ hc.1 _ t m a w hR h) fun e a w ⟨t', m', h1, h2⟩ => ?_)
      cases e with
      | normal => exact ih _ hc.2 Q t' m' a w h1 h2
      | _ => exact ⟨t', m', h1, h2⟩
theorem doesD_of {f : Nat} {fn : Func} {c : Code} {rs : Array ResultVar} {np : NPT} (n : Nat) (hm : P.follows .mixedOrders = true) (hf : P.funcs[f]? = some fn) (hname : (fn.name == "runtime.NumGoroutine") = false) (hb : fn.body = some c) (hn : fn.ntmps = N) (hrs : fn.results = rs) (hτ : TyOk P τ)
    (hcode : codeOk qc np N c = true) {args : List AV} {r : AV} (hCK : ∀ f args d m k, CK f args d m k → callK P qc f args d m k) (hsz : args.length ≤ N)
    (h : initK args fun t => awpD τ np CK N n c (fun e t m => match e with
      | .normal => resK τ t m rs.toList fun l => purAsK m l fun l _ => r = oneOf l
      | .ret => resK τ t m rs.toList fun l => purAsK m l fun l _ => r = oneOf l
      | _ => False) t ⟨[], 0, []⟩) : Does P f args r := by
  subst hn
  refine ⟨callable hf hname hb, fun F w vals hF hl hr => ?_⟩
  refine calls_of_wp hf hb ?_
  let B : Base := { w0 := w, X := fun _ => False, g0 := g0 F, N := fn.ntmps, gx := fun _ h => h.elim }
  have hI : Inv B (g0 F) ⟨[], 0, []⟩ w := { ok := fun i o h => (by cases h), apart := fun i j oi oj b h => (by cases h), fresh := fun _ _ _ h => h.elim, flt := hF, ext := .refl _ _, fnew := fun b o h => .inl h, own := fun i o b h => (by cases h), os := rfl, tape := rfl, output := rfl, size := Nat.le_refl _, block := fun _ _ _ => rfl }
  have hR : RS B (tget (initT args 0)) ⟨[], 0, []⟩ { tmps := vals.toArray ++ Array.replicate (fn.ntmps - vals.toArray.size) undef, defers := [] } w := by
    refine ⟨⟨g0 F, fun t x hx => ?_, hI⟩, rfl, by simp [B]; omega⟩
    obtain ⟨_, h2⟩ := initT_get args 0 t hx
    rw [Nat.sub_zero] at h2
    have ht : t < vals.length := by rw [hl]; exact (List.getElem?_eq_some_iff.1 h2).1
    refine ⟨vals[t], ?_, hr t x _ h2 (List.getElem?_eq_getElem ht)⟩
    rw [Array.getElem?_append, if_pos (by simpa using ht)]
    simp [ht]
  refine wp_mono (awpD_ok (B := B) (N := fn.ntmps) hτ hCK hm rfl n c hcode _ _ _ _ _ hR (initK_go h)) fun e a w' hq => ?_
  obtain ⟨t, m, hR', hq⟩ := hq
  have he : (e = .normal ∨ e = .ret) ∧ resK τ t m rs.toList fun l => purAsK m l fun l _ => r = oneOf l := by
    cases e with
    | normal => exact ⟨.inl rfl, hq⟩
    | ret => exact ⟨.inr rfl, hq⟩
    | _ => exact hq.elim
  obtain ⟨he, hq⟩ := he
  obtain ⟨l, h3, h4⟩ := resK_ok hτ hq
  obtain ⟨l', m', h5, h6⟩ := purAsK_ok h4
  have hret : RetIs P fn ⟨t, m⟩ r := ⟨l, l', m', by rw [hrs]; exact h3, h5, h6⟩
  obtain ⟨⟨g, hs, hI'⟩, hd, _⟩ := hR'
  obtain ⟨v, g', m', q1, q2, q3, q4⟩ := results_ok hs hI' hret
  have fin : ∃ v', (results fn a.tmps).run P w' = .ok v' w' ∧ ∃ v F', (Ending.returned v') = .returned v ∧ (∀ b o, F b o → F' b o) ∧ (∀ b o, F' b o → F b o ∨ w.heap.size ≤ b) ∧ (∀ b o, F' b o → b < w'.heap.size) ∧ RepA (g0 F') w' r v ∧ Below w.heap.size w w' :=
    ⟨v, q1, v, g'.F, rfl, q3.ext.F, fun b o hF' => by rcases q3.fnew b o hF' with h | h | h; exact .inl h; exact .inr h; exact h.elim, q3.flt, q4, ⟨q3.os, q3.tape, q3.output, q3.size, fun k hk => q3.block k hk (fun h => h)⟩⟩
  rcases he with rfl | rfl <;> exact ⟨hd, fin⟩
end
end Go.Abs
