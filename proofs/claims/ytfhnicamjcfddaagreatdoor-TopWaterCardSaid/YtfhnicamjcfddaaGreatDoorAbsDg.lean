/- Proved here: what functions of the given program come to, and the plain laws of it; no condition but those in the theorems. -/
import Derived.Test.YtfhnicamjcfddaaGreatDoorAbsBA
import Derived.Defers
/- Functions that are called when another ends (deferred), and a function that defers such calls: each changes one block. -/
namespace Go.Abs
set_option linter.unusedVariables false
open Go.RowKit
section
variable {P : Program}

/-- What is right of a small memory behind a call, or behind a part of it. -/
structure OutM (g : G) (m : List (Id × MObj)) (w : World) (r : AV) (m' : List (Id × MObj)) (v : Value) (g' : G) (w' : World) : Prop where
  ext : Ext g w g' w'
  rep : RepA g' w' r v
  mem : MInv g' m' w'
  K : ∀ i, g'.K i → keys m i ∨ keys m' i
  fr : Frame g m w g' m' w'

theorem leafM_out {g g2 : G} {m m' : List (Id × MObj)} {w w' : World} {N : Nat} {gx : ∀ i, g.K i → ∃ n, i = .x n} {gl : Laid g.F w} {ds : List Deferred} (hK : ∀ i, g.K i → keys m i)
    {mf : Mem} {r rf : AV} {v : Value} {ρ : Id → Id} (q3 : Inv { w0 := w, X := touches g m, g0 := g, N := N, gx := gx, gl := gl, ds := ds } g2 mf w') (q4 : RepA g2 w' rf v) (hL : LeafM ρ m m' r mf.o rf) : ∃ g', OutM g m w r m' v g' w' := by
  let D : Id → Prop := fun i => keys m i ∨ keys m' i
  let g' := pull ρ D g2
  have hlink : Link ρ D g' g2 := pull_link
  have hext : Ext g w g2 w' := q3.ext
  have hext' : Ext g w g' w' := ⟨fun i hi => ⟨.inl (hK i hi), by rw [hL.same i (hK i hi)]; exact hext.K i hi⟩, fun i hi => by show g2.β (ρ i) = _; rw [hL.same i (hK i hi)]; exact hext.β i hi,
    fun i hi => by show g2.sz (ρ i) = _; rw [hL.same i (hK i hi)]; exact hext.sz i hi, hext.F, hext.cell⟩
  refine ⟨g', hext', hlink.pullA q4 r hL.res hL.resIn, ⟨fun i o hi => ?_, fun i j oi oj b hi hj hij hbi hbj => ?_, q3.flt⟩, fun i hi => hi.1, ⟨q3.os, q3.tape, q3.output, q3.size, fun b hb hX => q3.block b hb hX, fun b o hF => q3.fnew b o hF, fun i o b hi hb => ?_⟩⟩
  · obtain ⟨h1, h2⟩ := hL.mem i o hi
    obtain ⟨h3, h4⟩ := q3.ok _ _ h1
    have hk : g'.K i := ⟨.inr ⟨o, hi⟩, h3⟩
    exact ⟨hk, hlink.pullO (.inr ⟨o, hi⟩) hk h4 h2⟩
  · exact q3.apart (ρ i) (ρ j) _ _ b (hL.mem i oi hi).1 (hL.mem j oj hj).1 (fun e => hij (hL.inj i j ⟨oi, hi⟩ ⟨oj, hj⟩ e)) hbi hbj
  · exact q3.own (ρ i) _ b (hL.mem i o hi).1 hb

theorem OutM.trans {g g1 g2 : G} {m m1 m2 : List (Id × MObj)} {w w1 w2 : World} {r1 r2 : AV} {v1 v2 : Value} (h : OutM g m w r1 m1 v1 g1 w1) (k : OutM g1 m1 w1 r2 m2 v2 g2 w2) (hk : ∀ i, keys m1 i → keys m i ∨ keys m2 i) : OutM g m w r2 m2 v2 g2 w2 := by
  have tch : ∀ b, touches g1 m1 b → w.heap.size ≤ b ∨ touches g m b := fun b ⟨i, o, h1, h2⟩ => h.fr.own i o b h1 h2
  refine ⟨h.ext.trans k.ext, k.rep, k.mem, fun i hi => ?_, ⟨k.fr.os.trans h.fr.os, k.fr.tape.trans h.fr.tape, k.fr.output.trans h.fr.output, Nat.le_trans h.fr.size k.fr.size, fun b hb ht => ?_, fun b o hF => ?_, fun i o b hi hb => ?_⟩⟩
  · rcases k.K i hi with h1 | h1
    · exact hk i h1
    · exact .inr h1
  · rw [k.fr.block b (Nat.lt_of_lt_of_le hb h.fr.size) fun h1 => ?_]
    · exact h.fr.block b hb ht
    · rcases tch b h1 with h2 | h2
      · omega
      · exact ht h2
  · rcases k.fr.fnew b o hF with h1 | h1 | h1
    · exact h.fr.fnew b o h1
    · exact .inr (.inl (Nat.le_trans h.fr.size h1))
    · exact .inr (tch b h1)
  · rcases k.fr.own i o b hi hb with h1 | h1
    · exact .inl (Nat.le_trans h.fr.size h1)
    · exact tch b h1

/-! ### A function's body, with what is forgotten at its end -/

theorem wp_ofM {qc : Nat → Bool} {np : NPT} {CK : Nat → KT} {own : Bool} {fn : Func} {c : Code} (hm : P.follows .mixedOrders = true) {args : List AV} {r : AV} {m m' : List (Id × MObj)}
    (hx : ∀ i, keys m i → ∃ n, i = .x n)
    (hCK : ∀ f args d m k, CK f args d m k → callK P qc f args d m k) (hsz : args.length ≤ fn.ntmps)
    (h : awp P qc np CK fn.ntmps c (fun e σ => ∃ σ', Shift σ' σ ∧ (match e with | .normal => True | .ret => True | _ => False) ∧ RetM P own fn σ' (fun rf mf => ∃ ρ, LeafM ρ m m' r mf.o rf)) ⟨initT args 0, ⟨m, 0, []⟩⟩)
    (g : G) (w : World) (vals : List Value) (hK : ∀ i, g.K i → keys m i) (hLd : Laid g.F w) (hM : MInv g m w) (hl : vals.length = args.length) (hr : ∀ (j : Nat) a v, args[j]? = some a → vals[j]? = some v → RepA g w a v) :
    c.wp P (bodyPost P fn fun e w' => ∃ v g', e = .returned v ∧ OutM g m w r m' v g' w') { tmps := vals.toArray ++ Array.replicate (fn.ntmps - vals.toArray.size) undef, defers := [] } w := by
  let B : Base := { w0 := w, X := touches g m, g0 := g, N := fn.ntmps, gx := fun i hi => hx i (hK i hi), gl := hLd }
  have hI : Inv B g ⟨m, 0, []⟩ w := { ok := hM.ok, apart := hM.apart, fresh := fun s k _ hk => (by obtain ⟨n, hn⟩ := hx _ (hK _ hk); cases hn), flt := hM.flt, ext := .refl _ _, fnew := fun b o h => .inl h, own := fun i o b hi hb => .inr ⟨i, o, hi, hb⟩, os := rfl, tape := rfl, output := rfl, size := Nat.le_refl _, block := fun _ _ _ => rfl }
  have hR : RS B (tget (initT args 0)) ⟨m, 0, []⟩ { tmps := vals.toArray ++ Array.replicate (fn.ntmps - vals.toArray.size) undef, defers := [] } w := by
    refine ⟨⟨g, fun t x hx => ?_, hI⟩, rfl, by simp [B]; omega⟩
    obtain ⟨_, h2⟩ := initT_get args 0 t hx
    rw [Nat.sub_zero] at h2
    have ht : t < vals.length := by rw [hl]; exact (List.getElem?_eq_some_iff.1 h2).1
    refine ⟨vals[t], ?_, hr t x _ h2 (List.getElem?_eq_getElem ht)⟩
    rw [Array.getElem?_append, if_pos (by simpa using ht)]
    simp [ht]
  refine wp_mono (awp_ok hCK (B := B) (N := fn.ntmps) hm rfl c _ _ _ _ hR h) fun e a w' hq => ?_
  obtain ⟨σ0, hR0, σ, hsh, he, hret⟩ := hq
  obtain ⟨⟨g1, hs, hI'⟩, hd, _⟩ := hsh _ _ _ hR0
  obtain ⟨v, rf, g2, mf, q1, q2, q3, q4, ρ, hL⟩ := resultsM_ok hs hI' hret
  obtain ⟨g', ho⟩ := leafM_out hK q3 q4 hL
  have fin : ∃ v', (results fn a.tmps).run P w' = .ok v' w' ∧ ∃ v g', (Ending.returned v') = .returned v ∧ OutM g m w r m' v g' w' := ⟨v, q1, v, g', rfl, ho⟩
  cases e <;> first | exact he.elim | exact ⟨hd, fin⟩

/-- A function that is called when another ends. -/
def DoesMD (P : Program) (f : Nat) (args : List AV) (m : List (Id × MObj)) (r : AV) (m' : List (Id × MObj)) : Prop :=
  (∀ vals w, (callFunc f vals).run P w = .ok (.enter f vals) w) ∧
  ∀ (u : FrameMode) (g : G) (w : World) (vals : List Value), (∀ i, g.K i → keys m i) → Laid g.F w → MInv g m w → vals.length = args.length → (∀ (j : Nat) a v, args[j]? = some a → vals[j]? = some v → RepA g w a v) →
    CallsD P f vals.toArray u w fun e u' w' => u' = u ∧ ∃ v g', e = .returned v ∧ OutM g m w r m' v g' w'

def DoesBD (P : Program) (f : Nat) (cs cs' : List Cell) : Prop := (noCs cs = true ∧ noCs cs' = true) ∧ DoesMD P f [.c (.ptr (.x 0) 0)] (m1 cs) (.tup []) (m1 cs')
abbrev RD := List Cell → (List Cell → Prop) → Prop
def FunD (P : Program) (f : Nat) (R : RD) : Prop := ∀ cs k, R cs k → ∃ cs', DoesBD P f cs cs' ∧ k cs'

end
section
variable {P : Program} {qc : Nat → Bool} {np : NPT} {N : Nat} {τ : List (Nat × TI)}
/-- At the end the block's cells may be made data. -/
theorem doesD_ex {f : Nat} {fn : Func} {c : Code} {CK : Nat → KT} (hm : P.follows .mixedOrders = true) (hf : P.funcs[f]? = some fn) (hname : (fn.name == "runtime.NumGoroutine") = false) (hb : fn.body = some c) (hn : fn.ntmps = N) (hrs : fn.results = #[]) (hτ : TyOk P τ)
    (hcode : codeOk qc np N c = true) {cs : List Cell} {k : List Cell → Prop} (hCK : ∀ f args d m k, CK f args d m k → callK P qc f args d m k) (hsz : 1 ≤ N)
    (hno : noCs cs = true)
    (h : awpC τ np CK c (fun e t mm => match e with
      | .normal => ∃ t' mm', Shift ⟨t', mm'⟩ ⟨t, mm⟩ ∧ mgetK (.x 0) (fun o => match o with
        | .blk cs' => noCs cs' = true ∧ k cs'
        | _ => False) mm'.o
      | _ => False) [(0, .c (.ptr (.x 0) 0))] ⟨m1 cs, 0, []⟩) : ∃ cs', DoesBD P f cs cs' ∧ k cs' := by
  subst hn
  obtain ⟨ef, σf, h1, h2⟩ := awp_det (awpC_ok hτ hCK hcode h)
  have hef : ef = .normal := by cases ef <;> first | rfl | exact h1.elim
  subst hef
  obtain ⟨t', mm', hsh, h3⟩ := h1
  obtain ⟨o, h4, h5⟩ := mgetK_ok h3
  split at h5
  · rename_i cs'
    obtain ⟨n1, hk⟩ := h5
    refine ⟨cs', ⟨⟨hno, n1⟩, callable hf hname hb, fun u g w vals hK hLd hM hl hr => ?_⟩, hk⟩
    refine callsD_of_wp hf hb ?_
    refine wp_ofM (qc := qc) (np := np) (CK := callK P qc) (own := false) hm (fun i hi => ⟨0, keys_m1.1 hi⟩) (fun _ _ _ _ _ h => h) (by simpa using hsz) ?_ g w vals hK hLd hM hl hr
    refine awp_mono ?_ h2
    rintro e σ ⟨rfl, rfl⟩
    refine ⟨⟨t', mm'⟩, hsh, trivial, [], [], mm', by rw [hrs]; rfl, rfl, id, ?_⟩
    refine ⟨rfl, trivial, fun i o' hi => ?_, fun i j _ _ e => e, fun _ _ => rfl⟩
    have hi0 := keys_m1.1 ⟨o', hi⟩
    subst hi0
    simp [m1, mget] at hi
    subst hi
    exact ⟨by rw [id, h4]; simp only [renO, noCs_ren n1], noCs_in n1⟩
  · exact h5.elim

/-! ### A function that defers three such calls on its one block -/

structure DefOps (ops : Array Oper) (t f : Nat) : Prop where
  ex : ∃ o1 o2 ats, ops.toList = [o1, o2] ∧ o1.op = .move (.tmp 0) ∧ o1.dst = some t ∧ o1.guard = none ∧ o2.op = .defer { callee := .value (.func f), args := #[.tmp t], argTypes := ats } ∧ o2.dst = none ∧ o2.guard = none

theorem wp_defer {ops : Array Oper} {t f id : Nat} (hd : DefOps ops t f) {Q : Exit → Act → World → Prop} {a : Act} {w : World} {v : Value} (h0 : a.tmps[0]? = some v) (ht : t < a.tmps.size)
    (hQ : Q .normal { tmps := a.tmps.setIfInBounds t v, defers := ⟨.fn (.func f) #[], #[v]⟩ :: a.defers } w) : (Code.region id ops false).wp P Q a w := by
  obtain ⟨o1, o2, ats, hl, e1, e2, e3, e4, e5, e6⟩ := hd.ex
  refine wp_region_list ?_
  rw [hl]
  have w1 : Region.wanted o1 (yielded ops a.tmps) = true := by simp [Region.wanted, e3]
  have hv : a.eval (.tmp 0) = v := by simp [Act.eval, h0]
  have hr1 : (execOp a.eval o1).run P w = .ok (.value v) w := by simp [execOp, e1, hv]
  unfold wpList
  rw [w1]
  simp only [if_true]
  refine .inl ?_
  unfold Oper.wp
  rw [hr1, Oper.upon_value, e2]
  have w2 : Region.wanted o2 (yielded ops (a.put (some t) v).tmps) = true := by simp [Region.wanted, e6]
  unfold wpList
  rw [w2]
  simp only [if_true]
  refine .inl ?_
  unfold Oper.wp
  have hv2 : (a.put (some t) v).eval (.tmp t) = v := by simp [Act.eval, Act.put, ht]
  have hr2 : (execOp (a.put (some t) v).eval o2).run P w = .ok (.defer ⟨.fn (.func f) #[], #[v]⟩) w := by
    simp only [execOp, e4, resolve, Sem.run_bind]
    have : (#[Operand.tmp t].map (a.put (some t) v).eval) = #[v] := by simp [hv2]
    rw [this]
    have hf : (a.put (some t) v).eval (.func f) = .func (.func f) #[] #[] := rfl
    rw [hf]
    rfl
  rw [hr2, Oper.upon_defer, e5]
  exact hQ

end
end Go.Abs

/- A function that defers three calls on its one block, and then goes on. -/
namespace Go.Abs
set_option linter.unusedVariables false
open Go.RowKit
section
variable {P : Program} {qc : Nat → Bool} {np : NPT} {N : Nat} {τ : List (Nat × TI)}
theorem results_none {fn : Func} (h : fn.results = #[]) (tmps : Array Value) (w : World) : (results fn tmps).run P w = .ok (.tuple #[]) w := by
  unfold results
  rw [h, Array.mapM_eq_mapM_toList]
  simp only [List.mapM_nil]
  rfl

theorem DoesBD.call {f : Nat} {cs cs' : List Cell} (h : DoesBD P f cs cs') {g : G} {w : World} {v : Value} {u : FrameMode} (hK : ∀ i, g.K i → i = .x 0) (hL : Laid g.F w) (hM : MInv g (m1 cs) w) (hr : RepA g w (.c (.ptr (.x 0) 0)) v) :
    (invoke (.fn (.func f) #[]) #[v]).run P w = .ok (.enter f #[v]) w ∧ CallsD P f #[v] u w fun e u' w' => u' = u ∧ ∃ r g', e = .returned r ∧ OutM g (m1 cs) w (.tup []) (m1 cs') r g' w' := by
  obtain ⟨_, h1, h2⟩ := h
  refine ⟨?_, ?_⟩
  · have := h1 #[v] w
    simpa [invoke] using this
  · have := h2 u g w [v] (fun i hi => keys_m1.2 (hK i hi)) hL hM rfl fun j a x ha hx => by
      cases j with
      | zero => simp at ha hx; subst ha; subst hx; exact hr
      | succ j => simp at ha
    exact this

/-- One more deferred call. -/
theorem leaves_one {fn : Func} {tmps : Array Value} {R : Ending → World → Prop} {ds : List Deferred} {f : Nat} {cs0 cs cs' : List Cell} {g0 g : G} {w0 w : World} {v r0 : Value} (h : DoesBD P f cs cs') (hK0 : ∀ i, g0.K i → i = .x 0) (hL0 : Laid g0.F w0)
    (ho : OutM g0 (m1 cs0) w0 (.tup []) (m1 cs) r0 g w) (hr : RepA g0 w0 (.c (.ptr (.x 0) 0)) v)
    (hn : ∀ r g' w', OutM g0 (m1 cs0) w0 (.tup []) (m1 cs') r g' w' → Leaves P fn tmps R ds .returning w') : Leaves P fn tmps R (⟨.fn (.func f) #[], #[v]⟩ :: ds) .returning w := by
  have hK : ∀ i, g.K i → i = .x 0 := fun i hi => (ho.K i hi).elim (fun h => keys_m1.1 h) fun h => keys_m1.1 h
  obtain ⟨h1, h2⟩ := h.call (u := .returning) hK (hL0.ext ho.ext) ho.mem (hr.ext ho.ext)
  refine leaves_cons (by simp) h1 (h2.mono fun e u' w' ⟨hu, r, g', he, ho'⟩ => ?_)
  subst hu
  subst he
  exact hn r g' w' (ho.trans ho' fun i hi => .inl (keys_m1.2 (keys_m1.1 hi)))

theorem doesB_defer3 {f : Nat} {fn : Func} {c : Code} {CK : Nat → KT} {ops0 ops1 ops2 : Array Oper} {id0 id1 id2 t0 t1 t2 f0 f1 f2 : Nat} (hm : P.follows .mixedOrders = true) (hf : P.funcs[f]? = some fn) (hname : (fn.name == "runtime.NumGoroutine") = false)
    (hb : fn.body = some ((Code.region id0 ops0 false).seq ((Code.region id1 ops1 false).seq ((Code.region id2 ops2 false).seq c)))) (hn : fn.ntmps = N) (hrs : fn.results = #[]) (hτ : TyOk P τ)
    (hcode : codeOk qc np N c = true) (hCK : ∀ f args d m k, CK f args d m k → callK P qc f args d m k) (d0 : DefOps ops0 t0 f0) (d1 : DefOps ops1 t1 f1) (d2 : DefOps ops2 t2 f2) (ht : t0 < N ∧ t1 < N ∧ t2 < N)
    {R0 R1 R2 : RD} (F0 : FunD P f0 R0) (F1 : FunD P f1 R1) (F2 : FunD P f2 R2) {cs : List Cell} {k : AV → List Cell → Prop} (hno : noCs cs = true)
    (h : awpC τ np CK c (fun e t mm => match e with
      | .normal => mgetK (.x 0) (fun o => match o with
        | .blk cs1 => noCs cs1 = true ∧ R2 cs1 fun cs2 => R1 cs2 fun cs3 => R0 cs3 (k (.tup []))
        | _ => False) mm.o
      | _ => False) [(0, .c (.ptr (.x 0) 0))] ⟨m1 cs, 0, []⟩) : ∃ r cs', DoesB P f cs [] r cs' ∧ k r cs' := by
  subst hn
  obtain ⟨ht0, ht1, ht2⟩ := ht
  obtain ⟨ef, σf, h1, h2⟩ := awp_det (awpC_ok hτ hCK hcode h)
  have hef : ef = .normal := by cases ef <;> first | rfl | exact h1.elim
  subst hef
  obtain ⟨o, h4, h5⟩ := mgetK_ok h1
  split at h5
  case h_2 => exact h5.elim
  rename_i cs1
  obtain ⟨n1, hk⟩ := h5
  obtain ⟨cs2, D2, hk⟩ := F2 _ _ hk
  obtain ⟨cs3, D1, hk⟩ := F1 _ _ hk
  obtain ⟨cs4, D0, hk⟩ := F0 _ _ hk
  refine ⟨.tup [], cs4, ⟨⟨hno, rfl, rfl, D0.1.2⟩, callable hf hname hb, fun g w vals hK hLd hM hl hr => ?_⟩, hk⟩
  obtain ⟨v, rfl⟩ : ∃ v, vals = [v] := by
    match vals, hl with
    | [v], _ => exact ⟨v, rfl⟩
  have hv := hr 0 _ v rfl rfl
  have hKx : ∀ i, g.K i → i = .x 0 := fun i hi => keys_m1.1 (hK i hi)
  refine calls_of_wp_defers hf hb ?_
  obtain ⟨T, hT⟩ : ∃ T : Array Value, [v].toArray ++ Array.replicate (fn.ntmps - [v].toArray.size) undef = T := ⟨_, rfl⟩
  have hTs : T.size = fn.ntmps := by rw [← hT]; simp; omega
  have hT0 : T[0]? = some v := by rw [← hT, Array.getElem?_append_left (by simp)]; rfl
  rw [hT]
  have keep : ∀ {T : Array Value} {t : Nat}, T[0]? = some v → (T.setIfInBounds t v)[0]? = some v := fun {T t} h => by
    rw [Array.getElem?_setIfInBounds]
    split
    · rename_i e; subst e; split
      · rfl
      · rename_i hh; have := (Array.getElem?_eq_some_iff.1 h).1; omega
    · exact h
  refine wp_seq (wp_defer d0 hT0 (by rw [hTs]; exact ht0) ?_)
  refine wp_seq (wp_defer d1 (keep hT0) (by simp [hTs]; exact ht1) ?_)
  refine wp_seq (wp_defer d2 (keep (keep hT0)) (by simp [hTs]; exact ht2) ?_)
  show c.wp P _ _ _
  have hT3 := keep (t := t2) (keep (t := t1) (keep (t := t0) hT0))
  have hT3s : (((T.setIfInBounds t0 v).setIfInBounds t1 v).setIfInBounds t2 v).size = fn.ntmps := by simp [hTs]
  generalize ((T.setIfInBounds t0 v).setIfInBounds t1 v).setIfInBounds t2 v = T3 at hT3 hT3s
  let B : Base := { w0 := w, X := touches g (m1 cs), g0 := g, N := fn.ntmps, gx := fun i hi => ⟨0, hKx i hi⟩, gl := hLd, ds := [⟨.fn (.func f2) #[], #[v]⟩, ⟨.fn (.func f1) #[], #[v]⟩, ⟨.fn (.func f0) #[], #[v]⟩] }
  have hI : Inv B g ⟨m1 cs, 0, []⟩ w := { ok := hM.ok, apart := hM.apart, fresh := fun s k _ hk => (by cases hKx _ hk), flt := hM.flt, ext := .refl _ _, fnew := fun b o h => .inl h, own := fun i o b hi hb => .inr ⟨i, o, hi, hb⟩, os := rfl, tape := rfl, output := rfl, size := Nat.le_refl _, block := fun _ _ _ => rfl }
  have hR : RS B (tget [(0, .c (.ptr (.x 0) 0))]) ⟨m1 cs, 0, []⟩ { tmps := T3, defers := [⟨.fn (.func f2) #[], #[v]⟩, ⟨.fn (.func f1) #[], #[v]⟩, ⟨.fn (.func f0) #[], #[v]⟩] } w := by
    refine ⟨⟨g, fun t x hx => ?_, hI⟩, rfl, hT3s⟩
    simp only [tget] at hx
    split at hx
    · rename_i e; simp at e hx; subst e; subst hx; exact ⟨v, hT3, hv⟩
    · cases hx
  refine wp_mono (awp_ok (CK := callK P qc) (fun _ _ _ _ _ h => h) (B := B) (N := fn.ntmps) hm rfl c _ _ _ _ hR h2) fun e a w' hq => ?_
  obtain ⟨σ, hR0, rfl, rfl⟩ := hq
  obtain ⟨⟨g1, hs, hI'⟩, hd, _⟩ := hR0
  have hLf : LeafM id (m1 cs) (m1 cs1) (.tup []) σ.m.o (.tup []) := by
    refine ⟨rfl, trivial, fun i o' hi => ?_, fun i j _ _ e => e, fun _ _ => rfl⟩
    have hi0 := keys_m1.1 ⟨o', hi⟩
    subst hi0
    simp [m1, mget] at hi
    subst hi
    exact ⟨by rw [id, h4]; simp only [renO, noCs_ren n1], noCs_in n1⟩
  obtain ⟨g', ho⟩ := leafM_out (v := .tuple #[]) hK hI' (.tup [] rfl fun j x u hx => by simp at hx) hLf
  show Leaves P fn a.tmps _ a.defers .returning w'
  rw [hd]
  refine leaves_one D2 hKx hLd ho hv fun r2 g2 w2 o2 => ?_
  refine leaves_one D1 hKx hLd o2 hv fun r3 g3 w3 o3 => ?_
  refine leaves_one D0 hKx hLd o3 hv fun r4 g4 w4 o4 => ?_
  exact ⟨_, results_none hrs _ _, _, g4, rfl, o4.ext, .tup [] rfl fun j x u hx => (by simp at hx), o4.mem, o4.K, o4.fr⟩
end
end Go.Abs
