/- The function ranged over: where it calls yield and leaves if no more is wanted. -/
import Derived.Test.YthkimpoeiighoaaAbsRg
namespace Go.Abs
open Go.RowKit
set_option linter.unusedVariables false
set_option linter.unusedSimpArgs false
abbrev yV (l : Nat) : AV := .c (.sc (.func (.yield l) #[] #[]))
section
variable {P : Program} {B : Base} {N : Nat} {qc : Nat → Bool} {CK : Nat → KT}

/-- What a round does, where it goes on; where it does not, the function ranged over leaves. -/
abbrev YT := List AV → Mem → (Mem → Prop) → Prop
def YOk (P : Program) (B : Base) (l : Nat) (Stop : World → Prop) (Y : YT) : Prop := ∀ (args : List AV) (m : Mem) (k : Mem → Prop), Y args m k → ∀ (g : G) (w : World) (vals : List Value), Inv B g m w → vals.length = args.length →
  (∀ (j : Nat) x v, args[j]? = some x → vals[j]? = some v → RepA g w x v) →
  YieldAt Fence.wide 0 P l vals.toArray w fun e w' => (e = .returned (.bool true) ∧ ∃ g' m', Ext { B.g0 with F := g.F } w g' w' ∧ Inv B g' m' w' ∧ k m') ∨ (e = .returned (.bool false) ∧ Stop w')

theorem wpOpsIn_pre {ops : Array Oper} {Q Q1 : Exit → Act → World → Prop} {rest : List Nat} (h1 : ∀ a w, Q1 .normal a w → wpOpsIn Fence.wide 0 P ops Q rest a w) (h2 : ¬ LetsOut Q1) (h3 : ∀ c a w, ¬ Q1 (.panic c) a w) :
    ∀ (pre : List Oper) (k : Nat) (a : Act) (w : World), (∀ j o, pre[j]? = some o → ops[k + j]? = some o) → wpList P ops Q1 pre a w → wpOpsIn Fence.wide 0 P ops Q (List.range' k pre.length ++ rest) a w
  | [], k, a, w, _, h => h1 a w h
  | o :: pre, k, a, w, ho, h => by
    have h0 : ops[k]? = some o := by simpa using ho 0 o rfl
    have ho' : ∀ j x, pre[j]? = some x → ops[k + 1 + j]? = some x := fun j x hj => by
      have := ho (j + 1) x (by simpa using hj)
      rwa [show k + (j + 1) = k + 1 + j by omega] at this
    have ih := fun a w => wpOpsIn_pre h1 h2 h3 pre (k + 1) a w ho'
    rw [List.length_cons, List.range'_succ, List.cons_append]
    unfold wpList at h
    unfold wpOpsIn
    simp only [h0]
    split at h
    · rename_i hw
      rw [if_pos hw]
      rcases h with h | ⟨_, h⟩
      · refine ⟨fun _ _ => trivial, ?_⟩
        rw [show Fence.wide.round = none from rfl, Oper.semAt_none]
        unfold Oper.wp at h
        revert h
        generalize (execOp a.eval o).run P w = res
        intro h
        unfold Oper.upon at h
        unfold Oper.uponIn
        split at h
        · exact ih _ _ h
        · exact ih _ _ h
        · exact ih _ _ h
        · refine ⟨fun h => by simp [Fence.wide] at h, callsIn_wide.2 (h.mono fun e w' hr => ?_)⟩
          cases e with
          | returned v => exact ih _ _ hr
          | panicked c => exact absurd hr (h3 _ _ _)
          | outgrown => exact absurd hr h2
        · refine ⟨fun h => by simp [Fence.wide] at h, fun c cs _ => ?_⟩
          obtain ⟨v, w', r, s⟩ := h c cs
          exact ⟨v, w', ih _ _ r, stepsIn_wide.2 s⟩
        · exact absurd h (h3 _ _ _)
        · exact h.elim
      · exact absurd h h2
    · rename_i hw
      rw [if_neg hw]
      exact ⟨fun _ _ => trivial, ih _ _ h⟩

/-- Two last operations of a region: yield is called, its answer is turned. -/
structure YEnd (ops : Array Oper) (pre : List Oper) (q d u : Nat) (args : Array Operand) : Prop where
  ex : ∃ oc on ats T, ops.toList = pre ++ [oc, on] ∧ oc.op = .call { callee := .value (.tmp q), args := args, argTypes := ats } ∧ oc.dst = some d ∧ oc.guard = none ∧ on.op = .unOp .not T (.tmp d) ∧ on.dst = some u ∧ on.guard = none

/-- The slots whose names are those of the part. -/
def cleanT (n : Nat) : List (Nat × AV) → List (Nat × AV)
  | [] => []
  | (t, x) :: r => match xsA n x with
    | true => (t, x) :: cleanT n r
    | false => tdel (cleanT n r) t
theorem cleanT_get {n : Nat} : ∀ {l : List (Nat × AV)} {t : Nat} {x : AV}, tget (cleanT n l) t = some x → tget l t = some x ∧ xsA n x = true
  | [], _, _, h => by cases h
  | (s, y) :: r, t, x, h => by
    unfold cleanT at h
    split at h
    · rename_i e
      simp only [tget] at h ⊢
      split at h
      · rename_i e2; simp at h; subst h; rw [if_pos e2]; exact ⟨rfl, e⟩
      · rename_i e2; rw [if_neg e2]; exact cleanT_get h
    · rw [tget_tdel] at h
      split at h
      · cases h
      · rename_i e2; simp only [tget, if_neg e2]; exact cleanT_get h
def cleanK (n : Nat) : List (Nat × AV) → (List (Nat × AV) → Prop) → Prop
  | [], k => k []
  | (t, x) :: r, k => cleanK n r fun r' => match xsA n x with
    | true => k ((t, x) :: r')
    | false => tdelK t r' k
theorem cleanK_ok {n : Nat} : ∀ {l : List (Nat × AV)} {k : List (Nat × AV) → Prop}, cleanK n l k → k (cleanT n l)
  | [], k, h => h
  | (t, x) :: r, k, h => by
    have h : (match xsA n x with
      | true => k ((t, x) :: cleanT n r)
      | false => tdelK t (cleanT n r) k) := cleanK_ok (l := r) h
    rw [cleanT]
    cases e : xsA n x with
    | true => rw [e] at h; exact h
    | false => rw [e] at h; exact tdelK_ok h

def yEnd (pre : List Oper) (K : St → Prop) (l : Nat) (Y : YT) (kx N q d u : Nat) (args : Array Operand) (σ : St) : Prop :=
  (Nat.blt d N = true ∧ Nat.blt u N = true) ∧ tget σ.t q = some (yV l) ∧ ∃ xs k, evs (tget σ.t) args.toList = some xs ∧ Y xs σ.m k ∧ ∀ m', k m' → K ⟨tset (tset (cleanT kx σ.t) d (.c (.sc (.bool true)))) u (.c (.sc (.bool false))), m'⟩

theorem idiom_ok {l kx : Nat} {Stop : World → Prop} {Y : YT} (hY : YOk P B l Stop Y) (hKx : ∀ i, KX kx i → B.g0.K i) (hCK : ∀ f args d m k, CK f args d m k → callK P qc f args d m k) (hN : B.N = N) {id : Nat} {ops : Array Oper} {pre : List Oper} {q d u : Nat} {args : Array Operand} (hE : YEnd ops pre q d u args) {K : St → Prop} {σ : St} {a : Act} {w : World}
    (hR : RS B (tget σ.t) σ.m a w) (h : evalOps P CK N ops false 0 pre [] σ fun _ σ1 => yEnd pre K l Y kx N q d u args σ1) :
    (Code.seq (.region id ops false) (.cond (.tmp u) .ret .skip)).wpIn Fence.wide 0 P (fun e a w => (e = .normal ∧ ∃ σ' : St, RS B (tget σ'.t) σ'.m a w ∧ K σ') ∨ (e = .ret ∧ a.defers = B.ds ∧ a.tmps.size = B.N ∧ Stop w)) a w := by
  obtain ⟨oc, on, ats, T, hops, c1, c2, c3, n1, n2, n3⟩ := hE.ex
  have hsz : ops.size = pre.length + 2 := by rw [← Array.length_toList, hops]; simp
  have hget : ∀ j : Nat, ops[j]? = (pre ++ [oc, on])[j]? := fun j => by rw [← hops]; simp
  have hoc : ops[pre.length]? = some oc := by rw [hget]; simp
  have hon : ops[pre.length + 1]? = some on := by rw [hget, List.getElem?_append_right (by omega), show pre.length + 1 - pre.length = 1 by omega]; rfl
  refine wpIn_seq (wpIn_region ?_)
  have hrange : List.range ops.size = List.range' 0 pre.length ++ [pre.length, pre.length + 1] := by
    rw [hsz, List.range_eq_range', ← List.range'_append_1 (s := 0) (m := pre.length) (n := 2)]
    simp [List.range']
  rw [hrange]
  refine wpOpsIn_pre (Q1 := fun e a w => e = .normal ∧ ∃ σ1 : St, RS B (tget σ1.t) σ1.m a w ∧ yEnd pre K l Y kx N q d u args σ1) ?_ (by rintro ⟨_, _, h, _⟩; cases h) (fun c a w h => by cases h.1) pre 0 a w (fun j o hj => by rw [Nat.zero_add, hget, List.getElem?_append_left (List.getElem?_eq_some_iff.1 hj).1]; exact hj) (evalOps_wp hCK hN pre 0 [] σ _ a w (fun ls σ' a w hR' hk => ⟨rfl, σ', hR', hk⟩) hR h)
  rintro a w ⟨_, σ1, hR1, ⟨hd, hu⟩, hq, xs, k, hxs, hy, hkK⟩
  have hd : d < N := Nat.le_of_ble_eq_true hd
  have hu : u < N := Nat.le_of_ble_eq_true hu
  obtain ⟨⟨g, hs, hI⟩, hds, hz⟩ := hR1
  have hqv : a.eval (.tmp q) = .func (.yield l) #[] #[] := by
    obtain ⟨v, h1, h2⟩ := hs q _ hq
    obtain ⟨rfl, _⟩ := isSc h2
    simp [Act.eval, h1]
  obtain ⟨hll, hlr⟩ := evs_rep hs hxs
  have hYA := hY xs σ1.m _ hy g w (args.toList.map a.eval) hI (by rw [List.length_map, hll]) hlr
  obtain ⟨fn, tmps, assign, body, hy1, hy2⟩ := hYA
  have hrun : (execOp a.eval oc).run P w = .ok (.round l fn tmps assign body) w := by
    have e : args.map a.eval = (args.toList.map a.eval).toArray := by apply Array.ext'; simp
    simp only [execOp, c1, resolve, Deferred.ofValue, hqv, Sem.run_bind, Sem.run_pure, Result.andThen_ok, invoke, Array.empty_append]
    rw [e]
    simpa using hy1
  have hnot : ∀ (b : Bool) (a' : Act) (w' : World) (Q : Exit → Act → World → Prop), a'.eval (.tmp d) = .bool b → Q .normal (a'.put (some u) (.bool (!b))) w' → wpOpsIn Fence.wide 0 P ops Q [pre.length + 1] a' w' := fun b a' w' Q hv hQ => by
    unfold wpOpsIn
    simp only [hon]
    rw [if_pos (by simp [Region.wanted, n3])]
    refine ⟨fun _ _ => trivial, ?_⟩
    rw [show Fence.wide.round = none from rfl, Oper.semAt_none]
    have hr : (execOp a'.eval on).run P w' = .ok (.value (.bool (!b))) w' := by
      obtain ⟨r1, _⟩ := unV_ok (P := P) (w := w') (op := .not) (x := .bool b) (v := .bool (!b)) rfl
      simp [execOp, n1, hv, r1]
    rw [hr, Oper.uponIn_value, n2]
    exact hQ
  have hdd : ∀ v, (a.put (some d) v).eval (.tmp d) = v := fun v => by
    have : d < a.tmps.size := by omega
    simp [Act.put, Act.eval, this]
  unfold wpOpsIn
  simp only [hoc]
  rw [if_pos (by simp [Region.wanted, c3])]
  refine ⟨fun _ _ => trivial, ?_⟩
  rw [show Fence.wide.round = none from rfl, Oper.semAt_none, hrun, Oper.uponIn_round]
  refine ⟨fun h => by simp [Fence.wide] at h, hy2.mono fun e w' hr => ?_⟩
  have huu : ∀ v x, ((a.put (some d) v).put (some u) x).eval (.tmp u) = x := fun v x => by
    have h1 : ∀ (a1 : Act), u < a1.tmps.size → (a1.put (some u) x).eval (.tmp u) = x := fun a1 h => by simp [Act.put, Act.eval, h]
    exact h1 _ (by rw [size_put]; omega)
  rcases hr with ⟨rfl, g', m', he, hI', hk⟩ | ⟨rfl, hst⟩
  · show wpOpsIn _ _ _ _ _ _ (a.put oc.dst _) _
    rw [c2]
    refine hnot true _ _ _ (hdd _) ?_
    refine wpIn_cond_false (huu _ _) (wpIn_skip (.inl ⟨rfl, _, ?_, hkK m' hk⟩))
    refine ⟨⟨g', ?_, hI'⟩, by rw [defers_put, defers_put]; exact hds, by rw [size_put, size_put]; exact hz⟩
    have hcl : Slots g' w' (tget (cleanT kx σ1.t)) a := fun t x hx => by
      obtain ⟨h1, h2⟩ := cleanT_get hx
      obtain ⟨v, h3, h4⟩ := hs t x h1
      have hlk : Link (_root_.id) (KX kx) { B.g0 with F := g.F } g := ⟨fun i hi => ⟨fun h => hI.ext.K i h, fun _ => hKx i hi⟩, fun i hi hk => (hI.ext.β i hk).symm, fun i hi hk => (hI.ext.sz i hk).symm, rfl⟩
      exact ⟨v, h3, (hlk.pullA h4 x (renA_id x) (xsA_ok h2)).ext he⟩
    have e1 : tget (tset (tset (cleanT kx σ1.t) d (.c (.sc (.bool true)))) u (.c (.sc (.bool false)))) = put (some u) (some (.c (.sc (.bool false)))) (put (some d) (some (.c (.sc (.bool true)))) (tget (cleanT kx σ1.t))) := by
      funext k; simp [put, tget_tset]
    rw [e1]
    refine slots_put (slots_put hcl fun k y h1 h2 => ?_) fun k y h1 h2 => ?_
    · cases h1; cases h2; exact ⟨by omega, .c (.pure (.sc rfl))⟩
    · cases h1; cases h2; exact ⟨by rw [size_put]; omega, .c (.pure (.sc rfl))⟩
  · show wpOpsIn _ _ _ _ _ _ (a.put oc.dst _) _
    rw [c2]
    refine hnot false _ _ _ (hdd _) ?_
    exact wpIn_cond_true (huu _ _) (wpIn_ret (.inr ⟨rfl, by rw [defers_put, defers_put]; exact hds, by rw [size_put, size_put]; exact hz, hst⟩))
/-- What follows in the region: the turned answer is moved, guarded operations ask more, one is picked. -/
structure YEnd2 (N0 : Nat) (ops : Array Oper) (pre : List Oper) (q d u : Nat) (args : Array Operand) (tl : List Oper) (c : Nat) : Prop where
  ex : ∃ oc on om op ats T v x gs, ops.toList = pre ++ ([oc, on] ++ tl) ∧ oc.op = .call { callee := .value (.tmp q), args := args, argTypes := ats } ∧ oc.dst = some d ∧ oc.guard = none ∧ on.op = .unOp .not T (.tmp d) ∧ on.dst = some u ∧ on.guard = none ∧
    tl = om :: (gs ++ [op]) ∧ om.op = .move (.tmp u) ∧ om.dst = some v ∧ om.guard = none ∧ (∀ o ∈ gs, o.guard = some (pre.length + 2, false) ∧ o.dst ≠ some v) ∧ op.op = .pick (.tmp v) (.const (.bool true)) x ∧ op.dst = some c ∧ op.guard = none ∧ v < N0 ∧ c < N0

theorem stop_tail {ops : Array Oper} {v n0 : Nat} {om : Oper} {Q : Exit → Act → World → Prop} {rest : List Nat} {w : World} (h0 : ops[n0]? = some om) (hv : om.dst = some v) :
    ∀ (gs : List Oper) (k : Nat) (a : Act), (∀ j o, gs[j]? = some o → ops[k + j]? = some o) → (∀ o ∈ gs, o.guard = some (n0, false) ∧ o.dst ≠ some v) → a.tmps[v]? = some (.bool true) →
    (∀ a' : Act, a'.tmps[v]? = some (.bool true) → a'.defers = a.defers → a'.tmps.size = a.tmps.size → wpOpsIn Fence.wide 0 P ops Q rest a' w) → wpOpsIn Fence.wide 0 P ops Q (List.range' k gs.length ++ rest) a w
  | [], k, a, _, _, he, h => h a he rfl rfl
  | o :: gs, k, a, ho, hg, he, h => by
    have h1 : ops[k]? = some o := by simpa using ho 0 o rfl
    have ho' : ∀ j x, gs[j]? = some x → ops[k + 1 + j]? = some x := fun j x hj => by
      have := ho (j + 1) x (by simpa using hj)
      rwa [show k + (j + 1) = k + 1 + j by omega] at this
    rw [List.length_cons, List.range'_succ, List.cons_append]
    unfold wpOpsIn
    simp only [h1]
    obtain ⟨g1, g2⟩ := hg o (by simp)
    have hw : Region.wanted o (yielded ops a.tmps) = false := by
      simp [Region.wanted, g1, yielded, h0, hv, he]
    rw [if_neg (by simp [hw])]
    refine ⟨fun _ _ => trivial, stop_tail h0 hv gs (k + 1) _ ho' (fun o ho => hg o (by simp [ho])) ?_ fun a' h1 h2 h3 => h a' h1 (by rw [h2, defers_put]) (by rw [h3, size_put])⟩
    cases hd : o.dst with
    | none => exact he
    | some t =>
      have : t ≠ v := fun e => g2 (by rw [hd, e])
      simp [Act.put, Array.getElem?_setIfInBounds, this, he]

def yEnd2 (P : Program) (CK : Nat → KT) (ops : Array Oper) (tl : List Oper) (n0 : Nat) (K : St → Prop) (l : Nat) (Y : YT) (kx N q d u : Nat) (args : Array Operand) (σ : St) : Prop :=
  (Nat.blt d N = true ∧ Nat.blt u N = true) ∧ tget σ.t q = some (yV l) ∧ ∃ xs k, evs (tget σ.t) args.toList = some xs ∧ Y xs σ.m k ∧ ∀ m', k m' → evalOps P CK N ops false n0 tl [] ⟨tset (tset (cleanT kx σ.t) d (.c (.sc (.bool true)))) u (.c (.sc (.bool false))), m'⟩ fun _ σ2 => K σ2

theorem idiom2_ok {l kx : Nat} {Stop : World → Prop} {Y : YT} (hY : YOk P B l Stop Y) (hKx : ∀ i, KX kx i → B.g0.K i) (hCK : ∀ f args d m k, CK f args d m k → callK P qc f args d m k) (hN : B.N = N) {id : Nat} {ops : Array Oper} {pre tl : List Oper} {q d u c : Nat} {args : Array Operand} (hE : YEnd2 N ops pre q d u args tl c) {K : St → Prop} {σ : St} {a : Act} {w : World}
    (hR : RS B (tget σ.t) σ.m a w) (h : evalOps P CK N ops false 0 pre [] σ fun _ σ1 => yEnd2 P CK ops tl (pre.length + 2) K l Y kx N q d u args σ1) :
    (Code.region id ops false).wpIn Fence.wide 0 P (fun e a w => e = .normal ∧ ((∃ σ' : St, RS B (tget σ'.t) σ'.m a w ∧ K σ') ∨ (a.eval (.tmp c) = .bool true ∧ a.defers = B.ds ∧ a.tmps.size = B.N ∧ Stop w))) a w := by
  obtain ⟨oc, on, om, op, ats, T, v, px, gs, hops, c1, c2, c3, n1, n2, n3, ht, m1, m2, m3, hgs, p1, p2, p3, hvN, hcN⟩ := hE.ex
  have hsz : ops.size = pre.length + (2 + tl.length) := by rw [← Array.length_toList, hops]; simp; omega
  have hget : ∀ j : Nat, ops[j]? = (pre ++ ([oc, on] ++ tl))[j]? := fun j => by rw [← hops]; simp
  have hoc : ops[pre.length]? = some oc := by rw [hget]; simp
  have hon : ops[pre.length + 1]? = some on := by rw [hget, List.getElem?_append_right (by omega), show pre.length + 1 - pre.length = 1 by omega]; rfl
  have htl : ∀ j o, tl[j]? = some o → ops[pre.length + 2 + j]? = some o := fun j o hj => by
    rw [hget, List.getElem?_append_right (by omega), show pre.length + 2 + j - pre.length = j + 2 by omega]
    simpa using hj
  refine wpIn_region ?_
  have hrange : List.range ops.size = List.range' 0 pre.length ++ (pre.length :: (pre.length + 1) :: List.range' (pre.length + 2) tl.length) := by
    rw [hsz, List.range_eq_range', ← List.range'_append_1 (s := 0) (m := pre.length) (n := 2 + tl.length)]
    rw [show 2 + tl.length = tl.length + 1 + 1 by omega, List.range'_succ, List.range'_succ]
    simp
  rw [hrange]
  refine wpOpsIn_pre (Q1 := fun e a w => e = .normal ∧ ∃ σ1 : St, RS B (tget σ1.t) σ1.m a w ∧ yEnd2 P CK ops tl (pre.length + 2) K l Y kx N q d u args σ1) ?_ (by rintro ⟨_, _, h, _⟩; cases h) (fun c a w h => by cases h.1) pre 0 a w (fun j o hj => by rw [Nat.zero_add, hget, List.getElem?_append_left (List.getElem?_eq_some_iff.1 hj).1]; exact hj) (evalOps_wp hCK hN pre 0 [] σ _ a w (fun ls σ' a w hR' hk => ⟨rfl, σ', hR', hk⟩) hR h)
  rintro a w ⟨_, σ1, hR1, ⟨hd, hu⟩, hq, xs, k, hxs, hy, hkK⟩
  have hd : d < N := Nat.le_of_ble_eq_true hd
  have hu : u < N := Nat.le_of_ble_eq_true hu
  obtain ⟨⟨g, hs, hI⟩, hds, hz⟩ := hR1
  have hqv : a.eval (.tmp q) = .func (.yield l) #[] #[] := by
    obtain ⟨v, h1, h2⟩ := hs q _ hq
    obtain ⟨rfl, _⟩ := isSc h2
    simp [Act.eval, h1]
  obtain ⟨hll, hlr⟩ := evs_rep hs hxs
  have hYA := hY xs σ1.m _ hy g w (args.toList.map a.eval) hI (by rw [List.length_map, hll]) hlr
  obtain ⟨fn, tmps, assign, body, hy1, hy2⟩ := hYA
  have hrun : (execOp a.eval oc).run P w = .ok (.round l fn tmps assign body) w := by
    have e : args.map a.eval = (args.toList.map a.eval).toArray := by apply Array.ext'; simp
    simp only [execOp, c1, resolve, Deferred.ofValue, hqv, Sem.run_bind, Sem.run_pure, Result.andThen_ok, invoke, Array.empty_append]
    rw [e]
    simpa using hy1
  have hnot : ∀ (b : Bool) (a' : Act) (w' : World) (Q : Exit → Act → World → Prop) (rest : List Nat), a'.eval (.tmp d) = .bool b → wpOpsIn Fence.wide 0 P ops Q rest (a'.put (some u) (.bool (!b))) w' → wpOpsIn Fence.wide 0 P ops Q ((pre.length + 1) :: rest) a' w' := fun b a' w' Q rest hv hQ => by
    unfold wpOpsIn
    simp only [hon]
    rw [if_pos (by simp [Region.wanted, n3])]
    refine ⟨fun _ _ => trivial, ?_⟩
    rw [show Fence.wide.round = none from rfl, Oper.semAt_none]
    have hr : (execOp a'.eval on).run P w' = .ok (.value (.bool (!b))) w' := by
      obtain ⟨r1, _⟩ := unV_ok (P := P) (w := w') (op := .not) (x := .bool b) (v := .bool (!b)) rfl
      simp [execOp, n1, hv, r1]
    rw [hr, Oper.uponIn_value, n2]
    exact hQ
  have hdd : ∀ v, (a.put (some d) v).eval (.tmp d) = v := fun v => by
    have : d < a.tmps.size := by omega
    simp [Act.put, Act.eval, this]
  unfold wpOpsIn
  simp only [hoc]
  rw [if_pos (by simp [Region.wanted, c3])]
  refine ⟨fun _ _ => trivial, ?_⟩
  rw [show Fence.wide.round = none from rfl, Oper.semAt_none, hrun, Oper.uponIn_round]
  refine ⟨fun h => by simp [Fence.wide] at h, hy2.mono fun e w' hr => ?_⟩
  have hput : ∀ (s : Nat) (x : Value) (a1 : Act), s < a1.tmps.size → (a1.put (some s) x).eval (.tmp s) = x := fun s x a1 h => by simp [Act.put, Act.eval, h]
  rcases hr with ⟨rfl, g', m', he, hI', hk⟩ | ⟨rfl, hst⟩
  · show wpOpsIn _ _ _ _ _ _ (a.put oc.dst _) _
    rw [c2]
    refine hnot true _ _ _ _ (hdd _) ?_
    have hcl : Slots g' w' (tget (cleanT kx σ1.t)) a := fun t x hx => by
      obtain ⟨h1, h2⟩ := cleanT_get hx
      obtain ⟨v, h3, h4⟩ := hs t x h1
      have hlk : Link (_root_.id) (KX kx) { B.g0 with F := g.F } g := ⟨fun i hi => ⟨fun h => hI.ext.K i h, fun _ => hKx i hi⟩, fun i hi hk => (hI.ext.β i hk).symm, fun i hi hk => (hI.ext.sz i hk).symm, rfl⟩
      exact ⟨v, h3, (hlk.pullA h4 x (renA_id x) (xsA_ok h2)).ext he⟩
    have e1 : tget (tset (tset (cleanT kx σ1.t) d (.c (.sc (.bool true)))) u (.c (.sc (.bool false)))) = put (some u) (some (.c (.sc (.bool false)))) (put (some d) (some (.c (.sc (.bool true)))) (tget (cleanT kx σ1.t))) := by
      funext k; simp [put, tget_tset]
    have hRS : RS B (tget (tset (tset (cleanT kx σ1.t) d (.c (.sc (.bool true)))) u (.c (.sc (.bool false))))) m' ((a.put (some d) (.bool true)).put (some u) (.bool (!true))) w' := by
      refine ⟨⟨g', ?_, hI'⟩, by rw [defers_put, defers_put]; exact hds, by rw [size_put, size_put]; exact hz⟩
      rw [e1]
      refine slots_put (slots_put hcl fun k y h1 h2 => ?_) fun k y h1 h2 => ?_
      · cases h1; cases h2; exact ⟨by omega, .c (.pure (.sc rfl))⟩
      · cases h1; cases h2; exact ⟨by rw [size_put]; omega, .c (.pure (.sc rfl))⟩
    have := wpOpsIn_pre (P := P) (ops := ops) (Q := fun e a w => e = .normal ∧ ((∃ σ' : St, RS B (tget σ'.t) σ'.m a w ∧ K σ') ∨ (a.eval (.tmp c) = .bool true ∧ a.defers = B.ds ∧ a.tmps.size = B.N ∧ Stop w))) (rest := []) (Q1 := fun e a w => e = .normal ∧ ∃ σ' : St, RS B (tget σ'.t) σ'.m a w ∧ K σ') (fun a w h => ⟨rfl, .inl h.2⟩) (by rintro ⟨_, _, h, _⟩; cases h) (fun c a w h => by cases h.1) tl (pre.length + 2) _ _ htl (evalOps_wp hCK hN tl (pre.length + 2) [] _ _ _ _ (fun ls σ' a w hR' hk => ⟨rfl, σ', hR', hk⟩) hRS (hkK m' hk))
    rw [List.append_nil] at this
    exact this
  · show wpOpsIn _ _ _ _ _ _ (a.put oc.dst _) _
    rw [c2]
    refine hnot false _ _ _ _ (hdd _) ?_
    have hom : ops[pre.length + 2]? = some om := by simpa using htl 0 om (by rw [ht]; rfl)
    rw [ht, List.length_cons, List.range'_succ]
    unfold wpOpsIn
    simp only [hom]
    rw [if_pos (by simp [Region.wanted, m3])]
    refine ⟨fun _ _ => trivial, ?_⟩
    rw [show Fence.wide.round = none from rfl, Oper.semAt_none]
    have hsz1 : ((a.put (some d) (.bool false)).put (some u) (.bool (!false))).tmps.size = N := by rw [size_put, size_put, hz, hN]
    have hr : (execOp ((a.put (some d) (.bool false)).put (some u) (.bool (!false))).eval om).run P w' = .ok (.value (.bool true)) w' := by
      simp [execOp, m1, hput u _ (a.put (some d) (.bool false)) (by rw [size_put]; omega)]
    rw [hr, Oper.uponIn_value, m2]
    have hgl : List.range' (pre.length + 2 + 1) (gs ++ [op]).length = List.range' (pre.length + 3) gs.length ++ [pre.length + 3 + gs.length] := by
      rw [List.length_append, show ([op] : List Oper).length = 1 from rfl, ← List.range'_append_1]; simp
    rw [hgl]
    refine stop_tail hom m2 gs (pre.length + 3) _ (fun j o hj => ?_) hgs ?_ ?_
    · have := htl (j + 1) o (by rw [ht, List.getElem?_cons_succ, List.getElem?_append_left (List.getElem?_eq_some_iff.1 hj).1]; exact hj)
      rwa [show pre.length + 2 + (j + 1) = pre.length + 3 + j by omega] at this
    · simp only [Act.put]
      have : v < a.tmps.size := by rw [hz, hN]; exact hvN
      simp [this]
    · intro a' h1 h2 h3
      have hop : ops[pre.length + 3 + gs.length]? = some op := by
        have := htl (gs.length + 1) op (by rw [ht, List.getElem?_cons_succ, List.getElem?_append_right (by omega)]; simp)
        rwa [show pre.length + 2 + (gs.length + 1) = pre.length + 3 + gs.length by omega] at this
      have hz' : a'.tmps.size = N := by rw [h3, size_put]; exact hsz1
      unfold wpOpsIn
      simp only [hop]
      rw [if_pos (by simp [Region.wanted, p3])]
      refine ⟨fun _ _ => trivial, ?_⟩
      rw [show Fence.wide.round = none from rfl, Oper.semAt_none]
      have hr : (execOp a'.eval op).run P w' = .ok (.value (.bool true)) w' := by
        have : a'.eval (.tmp v) = .bool true := by simp [Act.eval, h1]
        have h2 : a'.eval (.const (.bool true)) = .bool true := rfl
        simp [execOp, p1, this, h2, asBool]
      rw [hr, Oper.uponIn_value, p2]
      refine ⟨rfl, .inr ⟨hput c _ _ (by omega), by rw [defers_put, h2, defers_put, defers_put, defers_put]; exact hds, by rw [size_put, hz', hN], hst⟩⟩
end
end Go.Abs
