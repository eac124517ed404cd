/- Proved here: what functions of the given program come to, and the plain laws of it; no condition but those in the theorems. -/
import Derived.Test.YthkimpoeiighoaaAbsRm
/- From a part's end to the whole. -/
namespace Go.Abs
open Go.RowKit
set_option linter.unusedVariables false
set_option linter.unusedSimpArgs false
namespace Part
variable {p : Part} {N n : Nat} {g' : G} {m' : Mem} {w' : World}
theorem part_out {os os' : List MObj} (hm : p.m = mX os) (hK : ∀ i, p.g.K i → keys p.m i) (hl : os'.length = os.length) (hI : Inv (p.qB p.w p.g.F N []) g' m' w') (hg : ∀ (j : Nat) o, os'[j]? = some o → mget m'.o (.x j) = some o) (hx : xsOs os.length os' = true) :
    Ext p.g p.w (pull (_root_.id) (KX os.length) g') w' ∧ MInv (pull (_root_.id) (KX os.length) g') (mX os') w' ∧ (∀ i, (pull (_root_.id) (KX os.length) g').K i → keys p.m i ∨ keys (mX os') i) ∧ Frame p.g p.m p.w (pull (_root_.id) (KX os.length) g') (mX os') w' := by
  have hlink : Link (_root_.id) (KX os.length) (pull (_root_.id) (KX os.length) g') g' := pull_link
  have kx : ∀ i, keys p.m i ↔ KX os.length i := fun i => by rw [hm, keys_mX]
  have get : ∀ i o, mget (mX os') i = some o → KX os.length i ∧ mget m'.o i = some o ∧ xsO os.length o = true := fun i o hi => by
    obtain ⟨k, e1, e2⟩ := mget_nameX.1 hi
    rw [Nat.zero_add] at e1
    subst e1
    exact ⟨⟨k, by rw [← hl]; exact (List.getElem?_eq_some_iff.1 e2).1, rfl⟩, hg k o e2, xsOs_get hx e2⟩
  refine ⟨⟨fun i hi => ⟨(kx i).1 (hK i hi), hI.ext.K i hi⟩, fun i hi => hI.ext.β i hi, fun i hi => hI.ext.sz i hi, hI.ext.F, hI.ext.cell⟩, ⟨fun i o hi => ?_, fun i j oi oj b hi hj hij hbi hbj => ?_, hI.flt⟩, fun i hi => .inl ((kx i).2 hi.1), ?_⟩
  · obtain ⟨h1, h2, h3⟩ := get i o hi
    obtain ⟨h4, h5⟩ := hI.ok _ _ h2
    have hk : (pull (_root_.id) (KX os.length) g').K i := ⟨h1, h4⟩
    exact ⟨hk, hlink.pullO h1 hk (by rw [renO_id]; exact h5) (xsO_ok h3)⟩
  · exact hI.apart i j _ _ b (get i oi hi).2.1 (get j oj hj).2.1 hij hbi hbj
  · exact ⟨hI.os, hI.tape, hI.output, hI.size, fun b hb ht => hI.block b hb fun hx => hx.elim ht fun h => by have : p.w.heap.size ≤ b := h; omega, fun b o hF => by
      rcases hI.fnew b o hF with h | h | h | h
      · exact .inl h
      · exact .inr (.inl h)
      · exact .inr (.inr h)
      · exact .inr (.inl h), fun i o b hi hb => by
      rcases hI.own i o b (get i o hi).2.1 hb with h | h | h
      · exact .inl h
      · exact .inr h
      · exact .inl h⟩
end Part
end Go.Abs

/- The statement of a range over a function, in the whole. -/
namespace Go.Abs
open Go.RowKit
set_option linter.unusedVariables false
set_option linter.unusedSimpArgs false
/-- Slots whose names are listed, by the part's names. -/
def partT (ns : List Id) : List (Nat × AV) → List (Nat × AV)
  | [] => []
  | (t, x) :: r => match lsA ns x with
    | true => (t, renA (toX ns) x) :: partT ns r
    | false => tdel (partT ns r) t
theorem partT_get {ns : List Id} : ∀ {l : List (Nat × AV)} {t : Nat} {x : AV}, tget (partT ns l) t = some x → ∃ y, tget l t = some y ∧ lsA ns y = true ∧ x = renA (toX ns) y
  | [], _, _, h => by cases h
  | (s, y) :: r, t, x, h => by
    unfold partT at h
    split at h
    · rename_i e
      simp only [tget] at h ⊢
      split at h
      · rename_i e2; simp at h; subst h; rw [if_pos e2]; exact ⟨y, rfl, e, rfl⟩
      · rename_i e2; rw [if_neg e2]; exact partT_get h
    · rw [tget_tdel] at h
      split at h
      · cases h
      · rename_i e2; simp only [tget, if_neg e2]; exact partT_get h
section
variable {P : Program} {B : Base} {gC : G} {M : Mem} {w : World}
/-- The part that is made of listed names. -/
theorem mkPart {ns : List Id} {os : List MObj} (hI : Inv B gC M w) (hn : nodupI ns = true) (hl1 : os.length = ns.length) (hg : ∀ (j : Nat) i, ns[j]? = some i → ∃ x, os[j]? = some x ∧ mget M.o i = some x) (hlo : lsOs ns os = true) (hxo : xsOs ns.length (mapO (toX ns) os) = true) :
    ∃ p : Part, p.w = w ∧ p.m = mX (mapO (toX ns) os) ∧ p.g = pull (ofX ns) (keys (mX (mapO (toX ns) os))) gC ∧ MInv p.g p.m p.w := by
  have hlx : (mapO (toX ns) os).length = ns.length := getD_len hl1
  have hL := link_names (M := M) hn hl1 hg hlo hxo hlx
  have hMI := core_in hI hL
  exact ⟨{ g := pull (ofX ns) (keys (mX (mapO (toX ns) os))) gC, m := mX (mapO (toX ns) os), w := w, gx := fun i hi => by obtain ⟨k, _, e⟩ := keys_mX.1 hi.1; exact ⟨k, e⟩, flt := hMI.flt, tch := fun b ⟨i, o, hi, hb⟩ => (hMI.ok i o hi).2.lt hb }, rfl, rfl, rfl, hMI⟩
theorem part_inv {p : Part} (h : MInv p.g p.m p.w) (hK : ∀ i, p.g.K i → keys p.m i) {N : Nat} : Inv (p.qB p.w p.g.F N []) p.g ⟨p.m, 0, []⟩ p.w where
  ok := h.ok
  apart := h.apart
  fresh := fun s k _ hk => by obtain ⟨n, e⟩ := p.gx _ hk; cases e
  flt := h.flt
  ext := .refl _ _
  fnew := fun b o hf => .inl hf
  own := fun i o b hi hb => .inr (.inl ⟨i, o, hi, hb⟩)
  os := rfl
  tape := rfl
  output := rfl
  size := Nat.le_refl _
  block := fun _ _ _ => rfl
theorem part_slots {ns : List Id} {os : List MObj} (hl1 : os.length = ns.length) {t : List (Nat × AV)} {a : Act} (hs : Slots gC w (tget t) a) : Slots (pull (ofX ns) (keys (mX (mapO (toX ns) os))) gC) w (tget (partT ns t)) { tmps := a.tmps, defers := [] } := fun k x hx => by
  obtain ⟨y, h1, h2, rfl⟩ := partT_get hx
  obtain ⟨v, h3, h4⟩ := hs k y h1
  obtain ⟨q1, q2⟩ := lsA_ok h2
  have hlx : (mapO (toX ns) os).length = ns.length := getD_len hl1
  have hD : KX ns.length = keys (mX (mapO (toX ns) os)) := by rw [← hlx]; exact funext fun i => propext keys_mX.symm
  exact ⟨v, h3, pull_link.pullA h4 _ q1 (by rw [← hD]; exact q2)⟩
end
end Go.Abs

/- The statement of a range over a function. -/
namespace Go.Abs
open Go.RowKit
set_option linter.unusedVariables false
set_option linter.unusedSimpArgs false
section
variable {P : Program} {B : Base} {N Ng : Nat} {qc qcg : Nat → Bool} {CK CKg : Nat → KT} {τ : List (Nat × TI)}
theorem own_cells {g : G} {w : World} {i : Id} {o : MObj} (h : ObjOk g w i o) {b : Nat} (hb : blockOf (g.β i) = some b) : ∃ c T z, w.heap[b]? = some (.cells c T z) := by
  cases h with
  | blk us hv hh hl hr h1 hf =>
    rw [hv] at hb
    simp [blockOf] at hb
    subst hb
    exact ⟨_, _, _, hh⟩
  | arr us hz ho hs hr h1 hf =>
    rcases ho.2 with ⟨hv, _⟩ | ⟨gb, cap, cur, hv, _, hh, _⟩
    · rw [hv] at hb; simp [blockOf] at hb
    · rw [hv] at hb
      simp [blockOf] at hb
      subst hb
      exact ⟨_, _, _, hh⟩
/-- What holds behind a range over a function. -/
structure RangeP (B : Base) (a : Act) (w : World) (t : List (Nat × AV)) (Q : Exit → Mem → Prop) (e : Exit) (a' : Act) (w' : World) : Prop where
  tmps : a'.tmps = a.tmps
  defers : a'.defers = { target := .collected w.heap.size, args := #[] } :: a.defers
  mark : w'.heap[w.heap.size]? = some (.deferred (some []))
  ex : ∃ g m, Slots g w' (tget t) a' ∧ Inv B g m w' ∧ (∀ o, ¬ g.F w.heap.size o) ∧ (∀ i o, mget m.o i = some o → blockOf (g.β i) ≠ some w.heap.size) ∧ Q e m

theorem range_whole (hτ : TyOk P τ) {np npg : NPT} (hCK : ∀ f args d m k, CK f args d m k → callK P qc f args d m k) (hCKg : ∀ f args d m k, CKg f args d m k → callK P qcg f args d m k) (hm : P.follows .mixedOrders = true)
    {gop : Operand} {ps : Array Tmp} {assign body : Code} {a : Act} {w : World} {t : List (Nat × AV)} {M : Mem} (hR : RS B (tget t) M a w) (hN : B.N = N) (hpa : plainC assign = true) (hpb : plainC body = true) (hps : ∀ q ∈ ps.toList, q < N)
    {f : FuncId} {caps : List Cell} (hgo : ev (tget t) gop = some (.c (.fn f caps))) {fnG : Func} {gc : Code} (hf : P.funcs[f]? = some fnG) (hname : (fnG.name == "runtime.NumGoroutine") = false) (hb : fnG.body = some gc) (hNg : fnG.ntmps = Ng) (hres : fnG.results = #[]) (hcg : codeOk qcg npg Ng gc = true) (hsz : caps.length + 1 ≤ Ng)
    {ns : List Id} {os : List MObj} (hn : nodupI ns = true) (hl1 : os.length = ns.length) (hg : ∀ (j : Nat) i, ns[j]? = some i → ∃ x, os[j]? = some x ∧ mget M.o i = some x) (hlo : lsOs ns os = true) (hxo : xsOs ns.length (mapO (toX ns) os) = true) (hlc : lsCs ns caps = true) {Q : Exit → Mem → Prop}
    {Y : YT} (hYc : ∀ args m k, Y args m k → args.length = ps.size ∧ awp P qc np CK N assign (fun e σ => match e with | .normal => awp P qc np CK N body (roundQ (fun e m' => ∃ os', os'.length = ns.length ∧ (∀ (j : Nat) o, os'[j]? = some o → mget m'.o (.x j) = some o) ∧ xsOs ns.length os' = true ∧ Q e { M with o := sets ns (mapO (ofX ns) os') M.o }) k) σ | _ => False) ⟨setPs ps.toList args (partT ns t), m⟩)
    (h : ∀ l, awpYC τ npg CKg ns.length Ng l Y gc
      (Part.genQ (fun e m' => ∃ os', os'.length = ns.length ∧ (∀ (j : Nat) o, os'[j]? = some o → mget m'.o (.x j) = some o) ∧ xsOs ns.length os' = true ∧ Q e { M with o := sets ns (mapO (ofX ns) os') M.o })) (initT (yV l :: (renCs (toX ns) caps).map .c) 0) ⟨mX (mapO (toX ns) os), 0, []⟩) :
    (Code.rangeFunc gop ps assign body).wpIn Fence.wide 0 P (RangeP B a w t Q) a w := by
  obtain ⟨⟨gC, hs, hI⟩, hds, hz⟩ := hR
  have hlx : (mapO (toX ns) os).length = ns.length := getD_len hl1
  obtain ⟨p, pw, pm, pg, hMI⟩ := mkPart hI hn hl1 hg hlo hxo
  have hK : ∀ i, p.g.K i → keys p.m i := fun i hi => by rw [pg] at hi; rw [pm]; exact hi.1
  have hKx : ∀ i, KX ns.length i → p.g.K i := fun i hi => by
    obtain ⟨o, ho⟩ : keys p.m i := by rw [pm, keys_mX, hlx]; exact hi
    exact (hMI.ok i o ho).1
  obtain ⟨us, hfv, hul, hur⟩ : ∃ us : List Value, a.eval gop = .func (.func f) #[] us.toArray ∧ us.length = caps.length ∧ ∀ (j : Nat) c u, caps[j]? = some c → us[j]? = some u → RepC gC w c u := by
    have hfr := ev_rep hs hgo
    generalize a.eval gop = v at hfr
    cases hfr with
    | c hf => cases hf with
      | pure hf => cases hf
      | fn us hl hr => exact ⟨us, rfl, hl, hr⟩
  obtain ⟨c1, c2⟩ := lsCs_ok hlc
  have hD : KX ns.length = keys (mX (mapO (toX ns) os)) := by rw [← hlx]; exact funext fun i => propext keys_mX.symm
  have hur' : ∀ (j : Nat) c u, (renCs (toX ns) caps)[j]? = some c → us[j]? = some u → RepC p.g p.w c u := fun j c u hj hu => by
    have hj0 := hj
    rw [renCs_get] at hj
    obtain ⟨c0, h0, rfl⟩ := Option.map_eq_some_iff.1 hj
    have e1 : renC (ofX ns) (renC (toX ns) c0) = c0 := by
      have := congrArg (fun l => l[j]?) c1
      simp only [renCs_get, h0, Option.map_some] at this
      exact Option.some.inj this
    rw [pg, pw]
    exact pull_link.pullC (hur j c0 u h0 hu) _ e1 (by rw [← hD]; exact inCs_get c2 hj0)
  have hs0 : Slots p.g p.w (tget (partT ns t)) { tmps := a.tmps, defers := [] } := by rw [pg, pw]; exact part_slots hl1 hs
  have key := Part.range_in (p := p) (N := N) hτ (np := np) hCK hCKg hm (hz.trans hN) hpa hpb hps hf hname hb hNg hres hcg (caps := renCs (toX ns) caps) hfv (by rw [renCs_len]; exact hul) hur' (by rw [renCs_len]; exact hsz) hs0 (part_inv hMI hK) hKx (QJ := fun e m' => ∃ os', os'.length = ns.length ∧ (∀ (j : Nat) o, os'[j]? = some o → mget m'.o (.x j) = some o) ∧ xsOs ns.length os' = true ∧ Q e { M with o := sets ns (mapO (ofX ns) os') M.o }) hYc (by rw [pm]; exact h _)
  rw [pw] at key
  refine wpIn_mono key ?_
  rintro e a' w' ⟨q1, q2, q3, g', m', hI', hn', os', z1, z2, z3, z4⟩
  obtain ⟨o1, o2, o3, o4⟩ := Part.part_out (p := p) (os := mapO (toX ns) os) (N := N) pm hK (by rw [z1, hlx]) (by rw [pw]; exact hI') z2 (by rw [hlx]; exact z3)
  have hL := link_names (M := M) hn hl1 hg hlo z3 z1
  rw [pg, pw] at o1
  rw [pg, pm, pw] at o4
  rw [pm] at o3
  obtain ⟨gC', e1, e2, e3⟩ := core_out hI hL o1 o2 o3 o4
  have hF : ∀ o, ¬ gC'.F w.heap.size o := fun o hf => by rw [e3] at hf; exact hn'.F _ o hf (.inl (by rw [pw]))
  refine ⟨q1, q2, q3, gC', _, ?_, e2, hF, fun i o hi hb => ?_, z4⟩
  · intro k x hx
    obtain ⟨v, h1, h2⟩ := slots_ext hs e1 k x hx
    exact ⟨v, by rw [q1]; exact h1, h2⟩
  · obtain ⟨c, T, z, hc⟩ := own_cells (e2.ok i o hi).2 hb
    rw [q3] at hc
    cases hc
end
end Go.Abs

/- A function's end with a mark among its deferred calls. -/
namespace Go.Abs
open Go.RowKit
set_option linter.unusedVariables false
set_option linter.unusedSimpArgs false
variable {P : Program}
abbrev markD (D : Nat) : Deferred := { target := .collected D, args := #[] }
theorem leaves_none {fn : Func} {tmps : Array Value} {R : Ending → World → Prop} {w : World} {v : Value} (hr : (results fn tmps).run P w = .ok v w) (hR : R (.returned v) w) : LeavesInM Fence.wide 0 P fn tmps R [] .returning w := by
  unfold LeavesInM LeavesIn
  exact ⟨v, hr, hR⟩
theorem leaves_mark {fn : Func} {tmps : Array Value} {R : Ending → World → Prop} {w : World} {D : Nat} (hk : w.heap[D]? = some (.deferred (some []))) {v : Value} (hr : (results fn tmps).run P (w.putObj D (.deferred none)) = .ok v (w.putObj D (.deferred none))) (hR : R (.returned v) (w.putObj D (.deferred none))) :
    LeavesInM Fence.wide 0 P fn tmps R [markD D] .returning w := by
  unfold LeavesInM
  exact ⟨by simp, .inl ⟨D, _, rfl, run_takeDeferred hk, leaves_none hr hR⟩⟩
/-- A function's contract out of its body, with or without a mark at its end. -/
theorem calls_of_marks {f : FuncId} {fn : Func} {c : Code} {args : Array Value} {w : World} {R : Ending → World → Prop} (hf : P.funcs[f]? = some fn) (hb : fn.body = some c)
    (h : c.wpIn Fence.wide 0 P (fun e a w => (e = .normal ∨ e = .ret) ∧ ((a.defers = [] ∧ ∃ v, (results fn a.tmps).run P w = .ok v w ∧ R (.returned v) w) ∨
      ∃ D, a.defers = [markD D] ∧ w.heap[D]? = some (.deferred (some [])) ∧ ∃ v, (results fn a.tmps).run P (w.putObj D (.deferred none)) = .ok v (w.putObj D (.deferred none)) ∧ R (.returned v) (w.putObj D (.deferred none))))
      { tmps := args ++ Array.replicate (fn.ntmps - args.size) undef, defers := [] } w) : Calls P f args w R := by
  refine callsIn_wide (n := 0).1 (callsIn_of_wp_marks hf hb trivial (wpIn_mono h ?_))
  rintro e a w ⟨he, hq⟩
  have key : LeavesInM Fence.wide 0 P fn a.tmps R a.defers .returning w := by
    rcases hq with ⟨hd, v, hr, hR⟩ | ⟨D, hd, hk, v, hr, hR⟩
    · rw [hd]; exact leaves_none hr hR
    · rw [hd]; exact leaves_mark hk hr hR
  rcases he with rfl | rfl <;> exact key
end Go.Abs

/- The evaluator over code with a range over a function. -/
namespace Go.Abs
open Go.RowKit
set_option linter.unusedVariables false
set_option linter.unusedSimpArgs false
/-- An iterator's function, with its table. -/
structure Gen (P : Program) where
  f : FuncId
  fn : Func
  gc : Code
  N : Nat
  np : NPT
  qc : Nat → Bool
  CK : Nat → KT
  hf : P.funcs[f]? = some fn
  hname : (fn.name == "runtime.NumGoroutine") = false
  hb : fn.body = some gc
  hN : fn.ntmps = N
  hres : fn.results = #[]
  hc : codeOk qc np N gc = true
  hCK : ∀ f args d m k, CK f args d m k → callK P qc f args d m k
def ltsN (N : Nat) : List Nat → Bool
  | [] => true
  | q :: r => match Nat.blt q N with
    | true => ltsN N r
    | false => false
theorem ltsN_ok {N : Nat} : ∀ {l : List Nat}, ltsN N l = true → ∀ q ∈ l, q < N
  | [], _, _, h => by cases h
  | x :: l, h, q, hq => by
    simp only [ltsN] at h
    split at h
    · rename_i e
      rcases List.mem_cons.1 hq with rfl | hq
      · exact Nat.le_of_ble_eq_true e
      · exact ltsN_ok h q hq
    · cases h
/-- What is left of the part's memory. -/
def endK (ns : List Id) (M : Mem) (Q : Exit → Mem → Prop) (e : Exit) (m' : Mem) : Prop := ∃ os', os'.length = ns.length ∧ (∀ (j : Nat) o, os'[j]? = some o → mget m'.o (.x j) = some o) ∧ xsOs ns.length os' = true ∧ Q e { M with o := sets ns (mapO (ofX ns) os') M.o }
def roundC (τ : List (Nat × TI)) (np : NPT) (CK : Nat → KT) (ps : Array Tmp) (assign body : Code) (tp : List (Nat × AV)) (QE : Exit → Mem → Prop) : YT := fun args m k => args.length = ps.size ∧
  awpC τ np CK assign (fun e t m => match e with
    | .normal => awpC τ np CK body (fun e t m => roundQ QE k e ⟨t, m⟩) t m
    | _ => False) (setPs ps.toList args tp) m
section
variable {P : Program} {τ : List (Nat × TI)} {N : Nat} {qc : Nat → Bool}
def rangeC (τ : List (Nat × TI)) (np : NPT) (CK : Nat → KT) (qc : Nat → Bool) (N : Nat) (G : Gen P) (gop : Operand) (ps : Array Tmp) (assign body : Code) (Q : Exit → Mem → Prop) : TK := fun t m =>
  ((plainC assign = true ∧ plainC body = true) ∧ (codeOk qc np N assign = true ∧ codeOk qc np N body = true) ∧ ltsN N ps.toList = true) ∧
  evK t gop fun x => ∃ caps, x = .c (.fn G.f caps) ∧ caps.length + 1 ≤ G.N ∧ ∃ ns, nodupI ns = true ∧ lsCs ns caps = true ∧ getsK ns m.o fun os => lsOs ns os = true ∧ xsOs ns.length (mapO (toX ns) os) = true ∧
    ∀ l, awpYC τ G.np G.CK ns.length G.N l (roundC τ np CK ps assign body (partT ns t) (endK ns m Q)) G.gc (Part.genQ (endK ns m Q)) (initT (yV l :: (renCs (toX ns) caps).map .c) 0) ⟨mX (mapO (toX ns) os), 0, []⟩
theorem rangeC_ok (hτ : TyOk P τ) {B : Base} {np : NPT} {CK : Nat → KT} (hCK : ∀ f args d m k, CK f args d m k → callK P qc f args d m k) (hm : P.follows .mixedOrders = true) (hN : B.N = N) {G : Gen P} {gop : Operand} {ps : Array Tmp} {assign body : Code} {Q : Exit → Mem → Prop} {t : List (Nat × AV)} {m : Mem} {a : Act} {w : World}
    (hR : RS B (tget t) m a w) (h : rangeC τ np CK qc N G gop ps assign body Q t m) : (Code.rangeFunc gop ps assign body).wpIn Fence.wide 0 P (RangeP B a w t Q) a w := by
  obtain ⟨⟨⟨p1, p2⟩, ⟨c1, c2⟩, p3⟩, h⟩ := h
  obtain ⟨x, h1, caps, rfl, hsz, ns, hn, hlc, h⟩ := evK_ok h
  obtain ⟨os, hl1, hg, hlo, hxo, h⟩ := getsK_ok h
  refine range_whole hτ (np := np) (CK := callK P qc) (fun _ _ _ _ _ h => h) G.hCK hm hR hN p1 p2 (ltsN_ok p3) h1 G.hf G.hname G.hb G.hN G.hres G.hc hsz hn hl1 hg hlo hxo hlc (fun args m k hy => ?_) h
  obtain ⟨y1, y2⟩ := hy
  refine ⟨y1, awp_mono (fun e σ hq => ?_) (awpC_ok hτ hCK c1 y2)⟩
  cases e <;> first
    | exact hq.elim
    | exact awpC_ok hτ hCK c2 hq
end
end Go.Abs
