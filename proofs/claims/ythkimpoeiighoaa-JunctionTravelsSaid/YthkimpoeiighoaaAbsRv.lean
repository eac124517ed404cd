/- The rule for a range over a function whose body replaces named objects. -/
import Derived.Test.YthkimpoeiighoaaAbsRu
namespace Go.Abs
open Go.RowKit
set_option linter.unusedVariables false
set_option linter.unusedSimpArgs false
def delsK : List Id → List (Id × MObj) → (List (Id × MObj) → Prop) → Prop
  | [], o, k => k o
  | i :: r, o, k => mdelK i o fun o' => delsK r o' k
theorem mdelK_ok' : ∀ {o : List (Id × MObj)} {i : Id} {k : List (Id × MObj) → Prop}, mdelK i o k → k (mdel o i)
  | [], _, _, h => h
  | (j, p) :: r, i, k, h => by
    simp only [mdelK] at h
    simp only [mdel]
    split at h
    · rename_i e; rw [if_pos (beqI_t e)]; exact mdelK_ok' h
    · rename_i e; rw [if_neg (beqI_f e)]; exact mdelK_ok' (k := fun r' => k ((j, p) :: r')) h
theorem delsK_ok : ∀ {ns : List Id} {o : List (Id × MObj)} {k : List (Id × MObj) → Prop}, delsK ns o k → k (dels ns o)
  | [], _, _, h => h
  | i :: r, o, k, h => delsK_ok (ns := r) (mdelK_ok' h)
def memNK (nk nd : List Id) (ss : List Nat) (os' : List MObj) (M : Mem) (k : Mem → Prop) : Prop := match M with
  | ⟨o, nx, us⟩ => delsK nd o fun o => setsK (nk ++ jsW ss nx) os' o fun o => k ⟨o, nx, ss ++ us⟩
theorem memNK_ok {nk nd : List Id} {ss : List Nat} {os' : List MObj} {M : Mem} {k : Mem → Prop} (h : memNK nk nd ss os' M k) : k (memN' nk nd ss os' M) := setsK_ok (k := fun o => k ⟨o, M.nx, ss ++ M.us⟩) (delsK_ok (k := fun o => setsK (nk ++ jsW ss M.nx) os' o fun o => k ⟨o, M.nx, ss ++ M.us⟩) h)
def bodyF (fn : Func) : Code := fn.body.getD .skip
/-- What is left of the part's memory: the kept names, and new ones; the others are given up. -/
def endN (nk nd : List Id) (M : Mem) (Q : Exit → Mem → Prop) (e : Exit) (m' : Mem) : Prop := ∃ (ids : List Id) (ss : List Nat), (ids.length = ss.length ∧ nodupI (xsN 0 (nk ++ nd).length ++ ids) = true ∧ nodupI ((nk ++ nd) ++ jsW ss M.nx) = true ∧ freshS M.us ss = true) ∧
  getsK (xsN 0 nk.length) m'.o fun ok => getsK ids m'.o fun on => lsOs (xsN 0 (nk ++ nd).length ++ ids) ok = true ∧ lsOs (xsN 0 (nk ++ nd).length ++ ids) on = true ∧
    forceOs (mapO (toX (xsN 0 (nk ++ nd).length ++ ids)) ok ++ mapO (toX (xsN 0 (nk ++ nd).length ++ ids)) on) fun os' => forceOs (mapO (ofX ((nk ++ nd) ++ jsW ss M.nx)) os') fun os' => memNK nk nd ss os' M (Q e)
theorem frame_congr {g h g' : G} {m m' : List (Id × MObj)} {w w' : World} (hb : ∀ i, keys m i → h.β i = g.β i) (hF : h.F = g.F) (f : Frame g m w g' m' w') : Frame h m w g' m' w' := by
  have ht : ∀ b, touches h m b ↔ touches g m b := fun b => ⟨fun ⟨i, o, h1, h2⟩ => ⟨i, o, h1, by rw [← hb i ⟨o, h1⟩]; exact h2⟩, fun ⟨i, o, h1, h2⟩ => ⟨i, o, h1, by rw [hb i ⟨o, h1⟩]; exact h2⟩⟩
  exact ⟨f.os, f.tape, f.output, f.size, fun b hb' ht' => f.block b hb' fun h => ht' ((ht b).2 h), fun b o h => by rw [hF, ht]; exact f.fnew b o h, fun i o b h1 h2 => by rw [ht]; exact f.own i o b h1 h2⟩
section
variable {P : Program} {B : Base} {N Ng : Nat} {qc qcg : Nat → Bool} {CK CKg : Nat → KT} {τ : List (Nat × TI)}
theorem range_wholeN (hτ : TyOk P τ) {np npg : NPT} (hCK : ∀ f args d m k, CK f args d m k → callK P qc f args d m k) (hCKg : ∀ f args d m k, CKg f args d m k → callK P qcg f args d m k) (hm : P.follows .mixedOrders = true)
    {gop : Operand} {ps : Array Tmp} {assign body : Code} {a : Act} {w : World} {t : List (Nat × AV)} {M : Mem} (hR : RS B (tget t) M a w) (hN : B.N = N) (hpa : plainC assign = true) (hpb : plainC body = true) (hps : ∀ q ∈ ps.toList, q < N)
    {f : FuncId} {caps : List Cell} (hgo : ev (tget t) gop = some (.c (.fn f caps))) {fnG : Func} {gc : Code} (hf : P.funcs[f]? = some fnG) (hname : (fnG.name == "runtime.NumGoroutine") = false) (hb : fnG.body = some gc) (hNg : fnG.ntmps = Ng) (hres : fnG.results = #[]) (hcg : codeOk qcg npg Ng gc = true) (hsz : caps.length + 1 ≤ Ng)
    {nk nd : List Id} {os : List MObj} (hn : nodupI (nk ++ nd) = true) (hl1 : os.length = (nk ++ nd).length) (hg : ∀ (j : Nat) i, (nk ++ nd)[j]? = some i → ∃ x, os[j]? = some x ∧ mget M.o i = some x) (hlo : lsOs (nk ++ nd) os = true) (hxo : xsOs (nk ++ nd).length (mapO (toX (nk ++ nd)) os) = true) (hlc : lsCs (nk ++ nd) caps = true) {Q : Exit → Mem → Prop}
    {Y : YT} (hYc : ∀ args m k, Y args m k → args.length = ps.size ∧ awp P qc np CK N assign (fun e σ => match e with | .normal => awp P qc np CK N body (roundQ (endN nk nd M Q) k) σ | _ => False) ⟨setPs ps.toList args (partT (nk ++ nd) t), m⟩)
    (h : ∀ l, awpYC τ npg CKg (nk ++ nd).length Ng l Y gc (Part.genQ (endN nk nd M Q)) (initT (yV l :: (renCs (toX (nk ++ nd)) caps).map .c) 0) ⟨mX (mapO (toX (nk ++ nd)) os), 0, []⟩) :
    (Code.rangeFunc gop ps assign body).wpIn Fence.wide 0 P (RangeP B a w t Q) a w := by
  obtain ⟨⟨gC, hs, hI⟩, hds, hz⟩ := hR
  have hlx : (mapO (toX (nk ++ nd)) os).length = (nk ++ nd).length := getD_len hl1
  obtain ⟨p, pw, pm, pg, hMI⟩ := mkPart hI hn hl1 hg hlo hxo
  have hK : ∀ i, p.g.K i → keys p.m i := fun i hi => by rw [pg] at hi; rw [pm]; exact hi.1
  have hKx : ∀ i, KX (nk ++ nd).length i → p.g.K i := fun i hi => by
    obtain ⟨o, ho⟩ : keys p.m i := by rw [pm, keys_mX, hlx]; exact hi
    exact (hMI.ok i o ho).1
  obtain ⟨us, hfv, hul, hur⟩ : ∃ us : List Value, a.eval gop = .func (.func f) #[] us.toArray ∧ us.length = caps.length ∧ ∀ (j : Nat) c u, caps[j]? = some c → us[j]? = some u → RepC gC w c u := by
    have hfr := ev_rep hs hgo
    generalize a.eval gop = v at hfr
    cases hfr with
    | c hf => cases hf with
      | pure hf => cases hf
      | fn us hl hr => exact ⟨us, rfl, hl, hr⟩
  obtain ⟨c1, c2⟩ := lsCs_ok hlc
  have hD : KX (nk ++ nd).length = keys (mX (mapO (toX (nk ++ nd)) os)) := by rw [← hlx]; exact funext fun i => propext keys_mX.symm
  have hur' : ∀ (j : Nat) c u, (renCs (toX (nk ++ nd)) caps)[j]? = some c → us[j]? = some u → RepC p.g p.w c u := fun j c u hj hu => by
    have hj0 := hj
    rw [renCs_get] at hj
    obtain ⟨c0, h0, rfl⟩ := Option.map_eq_some_iff.1 hj
    have e1 : renC (ofX (nk ++ nd)) (renC (toX (nk ++ nd)) c0) = c0 := by
      have := congrArg (fun l => l[j]?) c1
      simp only [renCs_get, h0, Option.map_some] at this
      exact Option.some.inj this
    rw [pg, pw]
    exact pull_link.pullC (hur j c0 u h0 hu) _ e1 (by rw [← hD]; exact inCs_get c2 hj0)
  have hs0 : Slots p.g p.w (tget (partT (nk ++ nd) t)) { tmps := a.tmps, defers := [] } := by rw [pg, pw]; exact part_slots hl1 hs
  have key := Part.range_in (p := p) (N := N) hτ (np := np) hCK hCKg hm (hz.trans hN) hpa hpb hps hf hname hb hNg hres hcg (caps := renCs (toX (nk ++ nd)) caps) hfv (by rw [renCs_len]; exact hul) hur' (by rw [renCs_len]; exact hsz) hs0 (part_inv hMI hK) hKx (QJ := endN nk nd M Q) hYc (by rw [pm]; exact h _)
  rw [pw] at key
  refine wpIn_mono key ?_
  rintro e a' w' ⟨q1, q2, q3, g', m', hI', hn', ids, ss, ⟨z1, z2, z3, z4⟩, hE⟩
  obtain ⟨ok, k1, k2, hE⟩ := getsK_ok hE
  obtain ⟨on, k3, k4, k5, k6, hE⟩ := getsK_ok hE
  have hE := memNK_ok (forceOs_ok (forceOs_ok hE))
  rw [xsN_len] at k1
  obtain ⟨gx, gF, o1, o2, o3, o4, o5⟩ := Part.part_new (p := p) (os := mapO (toX (nk ++ nd)) os) (N := N) (ok := ok) (on := on) (ids := ids) (nW := ((nk ++ nd) ++ jsW ss M.nx).length) pm hK (by rw [pw]; exact hI') (by rw [hlx]; exact z2) (by rw [hlx, k1]; simp) k3 (fun j o ho => by
      have hj : j < nk.length := by rw [← k1]; exact (List.getElem?_eq_some_iff.1 ho).1
      obtain ⟨x, e1, e2⟩ := k2 j _ (xsN_get hj)
      rw [ho] at e1
      cases e1
      rw [Nat.zero_add] at e2
      exact e2) (fun j o ho => by
      have hj : j < ids.length := by rw [← k3]; exact (List.getElem?_eq_some_iff.1 ho).1
      obtain ⟨x, e1, e2⟩ := k4 j _ (List.getElem?_eq_getElem hj)
      rw [ho] at e1
      cases e1
      exact ⟨_, List.getElem?_eq_getElem hj, e2⟩) (by rw [hlx]; exact k5) (by rw [hlx]; exact k6) (by rw [hlx, List.length_append, jsW_len, z1])
  rw [hlx] at o2 o3 o4 o5
  have hL := link_new (M := M) (ok := mapO (toX (xsN 0 (nk ++ nd).length ++ ids)) ok) (on := mapO (toX (xsN 0 (nk ++ nd).length ++ ids)) on) z3 z4 hl1 hg hlo (by rw [mapO_len]; exact k1) (by rw [mapO_len, k3, z1]) o5
  have ofs : ∀ i, keys (mX (mapO (toX (nk ++ nd)) os)) i → ofX ((nk ++ nd) ++ jsW ss M.nx) i = ofX (nk ++ nd) i := fun i hi => by
    rw [← hD] at hi
    obtain ⟨k, hk, rfl⟩ := hi
    rw [ofX_x (by rw [List.getElem?_append_left hk]; exact List.getElem?_eq_getElem hk), ofX_x (List.getElem?_eq_getElem hk)]
  rw [pg, pw] at o1
  rw [pg, pm, pw] at o4
  rw [pm] at o3
  obtain ⟨gC', e1, e2, e3⟩ := core_out hI hL (g' := gx) ⟨fun i hi => o1.K i ⟨hi.1, by rw [← ofs i hi.1]; exact hi.2⟩, fun i hi => by rw [o1.β i ⟨hi.1, by rw [← ofs i hi.1]; exact hi.2⟩]; show gC.β (ofX (nk ++ nd) i) = gC.β (ofX _ i); rw [ofs i hi.1], fun i hi => by rw [o1.sz i ⟨hi.1, by rw [← ofs i hi.1]; exact hi.2⟩]; show gC.sz (ofX (nk ++ nd) i) = gC.sz (ofX _ i); rw [ofs i hi.1], o1.F, o1.cell⟩ o2 o3
    (frame_congr (g := pull (ofX (nk ++ nd)) (keys (mX (mapO (toX (nk ++ nd)) os))) gC) (h := pull (ofX ((nk ++ nd) ++ jsW ss M.nx)) (keys (mX (mapO (toX (nk ++ nd)) os))) gC) (fun i hi => by show gC.β (ofX _ i) = gC.β (ofX (nk ++ nd) i); rw [ofs i hi]) rfl o4)
  have hF : ∀ o, ¬ gC'.F w.heap.size o := fun o hf => by rw [e3, gF] at hf; exact hn'.F _ o hf (.inl (by rw [pw]))
  refine ⟨q1, q2, q3, gC', _, ?_, e2, hF, fun i o hi hb => ?_, hE⟩
  · intro k x hx
    obtain ⟨v, h1, h2⟩ := slots_ext hs e1 k x hx
    exact ⟨v, by rw [q1]; exact h1, h2⟩
  · obtain ⟨c, T, z, hc⟩ := own_cells (e2.ok i o hi).2 hb
    rw [q3] at hc
    cases hc

def rangeN (τ : List (Nat × TI)) (np : NPT) (CK : Nat → KT) (qc : Nat → Bool) (N : Nat) (G : Gen P) (gop : Operand) (ps : Array Tmp) (assign body : Code) (Q : Exit → Mem → Prop) : TK := fun t m =>
  ((plainC assign = true ∧ plainC body = true) ∧ (codeOk qc np N assign = true ∧ codeOk qc np N body = true) ∧ ltsN N ps.toList = true) ∧
  evK t gop fun x => ∃ caps, x = .c (.fn G.f caps) ∧ caps.length + 1 ≤ G.N ∧ ∃ nk nd, nodupI (nk ++ nd) = true ∧ lsCs (nk ++ nd) caps = true ∧ getsK (nk ++ nd) m.o fun os => lsOs (nk ++ nd) os = true ∧ xsOs (nk ++ nd).length (mapO (toX (nk ++ nd)) os) = true ∧
    ∀ l, forceCs (renCs (toX (nk ++ nd)) caps) fun caps' => forceOs (mapO (toX (nk ++ nd)) os) fun os' => awpYC τ G.np G.CK (nk ++ nd).length G.N l (roundC τ np CK ps assign body (partT (nk ++ nd) t) (endN nk nd m Q)) G.gc (Part.genQ (endN nk nd m Q)) (initT (yV l :: caps'.map .c) 0) ⟨mX os', 0, []⟩
theorem rangeN_ok (hτ : TyOk P τ) {np : NPT} (hCK : ∀ f args d m k, CK f args d m k → callK P qc f args d m k) (hm : P.follows .mixedOrders = true) (hN : B.N = N) {G : Gen P} {gop : Operand} {ps : Array Tmp} {assign body : Code} {Q : Exit → Mem → Prop} {t : List (Nat × AV)} {m : Mem} {a : Act} {w : World}
    (hR : RS B (tget t) m a w) (h : rangeN τ np CK qc N G gop ps assign body Q t m) : (Code.rangeFunc gop ps assign body).wpIn Fence.wide 0 P (RangeP B a w t Q) a w := by
  obtain ⟨⟨⟨p1, p2⟩, ⟨c1, c2⟩, p3⟩, h⟩ := h
  obtain ⟨x, h1, caps, rfl, hsz, nk, nd, hn, hlc, h⟩ := evK_ok h
  obtain ⟨os, hl1, hg, hlo, hxo, h⟩ := getsK_ok h
  refine range_wholeN hτ (np := np) (CK := callK P qc) (fun _ _ _ _ _ h => h) G.hCK hm hR hN p1 p2 (ltsN_ok p3) h1 G.hf G.hname G.hb G.hN G.hres G.hc hsz hn hl1 hg hlo hxo hlc (fun args m k hy => ?_) fun l => forceOs_ok (k := fun os' => awpYC τ G.np G.CK (nk ++ nd).length G.N l (roundC τ np CK ps assign body (partT (nk ++ nd) t) (endN nk nd m Q)) G.gc (Part.genQ (endN nk nd m Q)) (initT (yV l :: (renCs (toX (nk ++ nd)) caps).map .c) 0) ⟨mX os', 0, []⟩) (forceCs_ok (k := fun caps' => forceOs (mapO (toX (nk ++ nd)) os) fun os' => awpYC τ G.np G.CK (nk ++ nd).length G.N l (roundC τ np CK ps assign body (partT (nk ++ nd) t) (endN nk nd m Q)) G.gc (Part.genQ (endN nk nd m Q)) (initT (yV l :: caps'.map .c) 0) ⟨mX os', 0, []⟩) (h l))
  obtain ⟨y1, y2⟩ := hy
  refine ⟨y1, awp_mono (fun e σ hq => ?_) (awpC_ok hτ hCK c1 y2)⟩
  cases e <;> first
    | exact hq.elim
    | exact awpC_ok hτ hCK c2 hq
/-- The statement at the top of a function. -/
def rcN (τ : List (Nat × TI)) (np : NPT) (CK : Nat → KT) (qc : Nat → Bool) (N : Nat) (G : Gen P) : Operand → Array Tmp → Code → Code → (Exit → TK) → TK := fun gop ps a b Q t m => bumpK m fun m => rangeN τ np CK qc N G gop ps a b (fun e m' => Q e t m') t m
theorem rcN_ok (hτ : TyOk P τ) {np : NPT} (hCK : ∀ f args d m k, CK f args d m k → callK P qc f args d m k) (hm : P.follows .mixedOrders = true) (G : Gen P) : RCOk P N (rcN τ np CK qc N G) := fun B hN gop ps x y Q t m a w hR h => by
  have hR := rsm_bump hR
  have h := bumpK_ok (k := fun m => rangeN τ np CK qc N G gop ps x y (fun e m' => Q e t m') t m) h
  obtain ⟨Ds, g, hs, hI, hd, hz, hn, hD⟩ := hR.ex
  have hO := hI.over
  have hR' : RS (reB B w B.N a.defers (· ∈ Ds)) (tget t) (bump m) a w := ⟨⟨g, hs, hI.back hO (Nat.le_refl _) (fun _ _ _ => rfl) (fun b o hf => .inr (.inr fun hb => (hD b hb).2.1 o hf)) (fun i o b hi hb => .inr fun hz => own_mark hI (hD b hz).1 i o hi hb)⟩, rfl, hz⟩
  refine wpIn_mono (rangeN_ok hτ hCK hm (B := reB B w B.N a.defers (· ∈ Ds)) hN hR' h) ?_
  rintro e a' w' ⟨q1, q2, q3, g', m', hs', hI', hF', hw', hQ⟩
  have hlt : ∀ D ∈ Ds, D < w.heap.size := fun D hm => lt_mark (hD D hm).1
  refine ⟨t, m', ⟨w.heap.size :: Ds, g', hs', hI'.out hO, by rw [q2, hd]; rfl, by rw [q1]; exact hz, List.nodup_cons.2 ⟨fun hm => Nat.lt_irrefl _ (hlt _ hm), hn⟩, fun D hm => ?_⟩, hQ⟩
  rcases List.mem_cons.1 hm with rfl | hm
  · exact ⟨q3, hF', hI.size⟩
  · obtain ⟨h1, h2, h3⟩ := hD D hm
    refine ⟨(hI'.block D (hlt D hm) fun hx => hx.1 hm).trans h1, fun o hf => ?_, h3⟩
    rcases hI'.fnew D o hf with h4 | h4 | h4
    · exact h2 o (hI.ext.F _ _ h4)
    · have h4 : w.heap.size ≤ D := h4
      have := hlt D hm
      omega
    · exact h4.1 hm
end
end Go.Abs
