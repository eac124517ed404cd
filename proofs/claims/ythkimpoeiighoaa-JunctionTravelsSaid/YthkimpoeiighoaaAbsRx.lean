/- Proved here: what functions of the given program come to, and the plain laws of it; no condition but those in the theorems. -/
import Derived.Test.YthkimpoeiighoaaAbsRv
/- Functions with ranges over functions whose contracts name a small memory. -/
namespace Go.Abs
open Go.RowKit
set_option linter.unusedVariables false
set_option linter.unusedSimpArgs false
section
variable {P : Program} {τ : List (Nat × TI)} {N : Nat} {qc : Nat → Bool}
theorem spec_ofT {np : NPT} {CK : Nat → KT} {RC : Operand → Array Tmp → Code → Code → (Exit → TK) → TK} {f : Nat} {fn : Func} {c : Code} (hm : P.follows .mixedOrders = true) (hf : P.funcs[f]? = some fn) (hname : (fn.name == "runtime.NumGoroutine") = false) (hb : fn.body = some c) (hn : fn.ntmps = N) (hτ : TyOk P τ) (hcode : codeOk qc np N c = true) {args : List AV} {r : AV} {m m' : List (Id × MObj)}
    (hx : ∀ i, keys m i → ∃ n, i = .x n) (hCK : ∀ f args d m k, CK f args d m k → callK P qc f args d m k) (hRC : RCOk P N RC) (hsz : args.length ≤ N) {Q : Exit → TK}
    (hQ : ∀ e t mm, Q e t mm → (e = .normal ∨ e = .ret) ∧ ∃ ns, RetS P ns fn ⟨t, mm⟩ (fun rf mf => ∃ ρ, LeafM ρ m m' r mf.o rf))
    (h : awpT P τ np CK RC c Q (initT args 0) ⟨m, 0, []⟩) : DoesM P f args m r m' := by
  subst hn
  refine ⟨callable hf hname hb, fun g w vals hK hM hl hr => ?_⟩
  let B : Base := { w0 := w, X := touches g m, g0 := g, N := fn.ntmps, gx := fun i hi => hx i (hK i hi) }
  have hI : Inv B g ⟨m, 0, []⟩ w := { ok := hM.ok, apart := hM.apart, fresh := fun s k _ hk => (by obtain ⟨n, hn⟩ := hx _ (hK _ hk); cases hn), flt := hM.flt, ext := .refl _ _, fnew := fun b o h => .inl h, own := fun i o b hi hb => .inr ⟨i, o, hi, hb⟩, os := rfl, tape := rfl, output := rfl, size := Nat.le_refl _, block := fun _ _ _ => rfl }
  have hR : RS B (tget (initT args 0)) ⟨m, 0, []⟩ { tmps := vals.toArray ++ Array.replicate (fn.ntmps - vals.toArray.size) undef, defers := [] } w := by
    refine ⟨⟨g, fun t x hx => ?_, hI⟩, rfl, by simp [B]; omega⟩
    obtain ⟨_, h2⟩ := initT_get args 0 t hx
    rw [Nat.sub_zero] at h2
    have ht : t < vals.length := by rw [hl]; exact (List.getElem?_eq_some_iff.1 h2).1
    refine ⟨vals[t], ?_, hr t x _ h2 (List.getElem?_eq_getElem ht)⟩
    rw [Array.getElem?_append, if_pos (by simpa using ht)]
    simp [ht]
  refine calls_of_T (B := B) hf hb (awpT_ok hτ hCK hm hRC rfl c hcode _ _ _ _ _ (rsm_of hR rfl) h) fun e t mm hq => ?_
  obtain ⟨he, ns, hret⟩ := hQ e t mm hq
  refine ⟨he, fun g1 a w' hs hI' => ?_⟩
  obtain ⟨v, rf, g2, mf, q1, q2, q3, q4, ρ, hL⟩ := resultsS_ok hs hI' hret
  let D : Id → Prop := fun i => keys m i ∨ keys m' i
  let g' := pull ρ D g2
  have hlink : Link ρ D g' g2 := pull_link
  have hext : Ext g w g2 w' := q3.ext
  have hext' : Ext g w g' w' := ⟨fun i hi => ⟨.inl (hK i hi), by rw [hL.same i (hK i hi)]; exact hext.K i hi⟩, fun i hi => by show g2.β (ρ i) = _; rw [hL.same i (hK i hi)]; exact hext.β i hi,
    fun i hi => by show g2.sz (ρ i) = _; rw [hL.same i (hK i hi)]; exact hext.sz i hi, hext.F, hext.cell⟩
  refine ⟨v, q1, v, g', rfl, hext', hlink.pullA q4 r hL.res hL.resIn, ⟨fun i o hi => ?_, fun i j oi oj b hi hj hij hbi hbj => ?_, q3.flt⟩, fun i hi => hi.1, ⟨q3.os, q3.tape, q3.output, q3.size, fun b hb hX => q3.block b hb hX, fun b o hF => q3.fnew b o hF, fun i o b hi hb => ?_⟩⟩
  · obtain ⟨h1, h2⟩ := hL.mem i o hi
    obtain ⟨h3, h4⟩ := q3.ok _ _ h1
    have hk : g'.K i := ⟨.inr ⟨o, hi⟩, h3⟩
    exact ⟨hk, hlink.pullO (.inr ⟨o, hi⟩) hk h4 h2⟩
  · exact q3.apart (ρ i) (ρ j) _ _ b (hL.mem i oi hi).1 (hL.mem j oj hj).1 (fun e => hij (hL.inj i j ⟨oi, hi⟩ ⟨oj, hj⟩ e)) hbi hbj
  · exact q3.own (ρ i) _ b (hL.mem i o hi).1 hb

theorem doesTG_of {np : NPT} {CK : Nat → KT} {RC : Operand → Array Tmp → Code → Code → (Exit → TK) → TK} {f : Nat} {fn : Func} {c : Code} {rs : Array ResultVar} (hm : P.follows .mixedOrders = true) (hf : P.funcs[f]? = some fn) (hname : (fn.name == "runtime.NumGoroutine") = false) (hb : fn.body = some c) (hn : fn.ntmps = N) (hrs : fn.results = rs) (hτ : TyOk P τ) (hcode : codeOk qc np N c = true)
    {args : List AV} {os : List MObj} {r : AV} {os' : List MObj} (hCK : ∀ f args d m k, CK f args d m k → callK P qc f args d m k) (hRC : RCOk P N RC) (hsz : args.length ≤ N)
    (wf : WfG args os r os')
    (h : initK args fun t => awpT P τ np CK RC c (fun e t mm => match e with
      | .normal => resK τ t mm rs.toList fun l => selAsK (xsN 0 os.length) mm l fun l mf => getsK (xsN 0 os.length) mf.o fun os2 => r = oneOf l ∧ os' = os2
      | .ret => resK τ t mm rs.toList fun l => selAsK (xsN 0 os.length) mm l fun l mf => getsK (xsN 0 os.length) mf.o fun os2 => r = oneOf l ∧ os' = os2
      | _ => False) t ⟨mX os, 0, []⟩) : DoesG P f args os r os' := by
  refine ⟨wf, spec_ofT hm hf hname hb hn hτ hcode (fun i hi => by obtain ⟨n, _, e⟩ := keys_mX.1 hi; exact ⟨n, e⟩) hCK hRC hsz (fun e t mm hq => ?_) (initK_go h)⟩
  have hD : KX os.length = fun i => keys (mX os) i ∨ keys (mX os') i := funext fun i => propext ⟨fun h => .inl (keys_mX.2 h), fun h => h.elim keys_mX.1 (fun h => by have := keys_mX.1 h; rwa [wf.len] at this)⟩
  have fin : (resK τ t mm rs.toList fun l => selAsK (xsN 0 os.length) mm l fun l mf => getsK (xsN 0 os.length) mf.o fun os2 => r = oneOf l ∧ os' = os2) → ∃ ns, RetS P ns fn ⟨t, mm⟩ (fun rf mf => ∃ ρ, LeafM ρ (mX os) (mX os') r mf.o rf) := fun hr => by
    subst hrs
    obtain ⟨l, h1, h2⟩ := resK_ok hτ hr
    obtain ⟨l', m', h3, h4⟩ := selAsK_ok h2
    obtain ⟨os2, g1, g2, e1, e2⟩ := getsK_ok h4
    subst e2
    refine ⟨_, l, l', m', h1, h3, id, ?_⟩
    refine ⟨by rw [e1]; exact renA_id _, by rw [← hD]; exact xsA_ok wf.r, fun i o hi => ?_, fun i j _ _ e => e, fun _ _ => rfl⟩
    obtain ⟨n, e3, e4⟩ := mget_nameX.1 hi
    have hnl : n < os.length := by rw [← wf.len]; exact (List.getElem?_eq_some_iff.1 e4).1
    obtain ⟨x, e5, e6⟩ := g2 n _ (xsN_get hnl)
    rw [e4] at e5
    cases e5
    rw [renO_id, e3]
    exact ⟨e6, by rw [← hD]; exact xsO_ok (xsOs_get wf.o' e4)⟩
  cases e with
  | normal => exact ⟨.inl rfl, fin hq⟩
  | ret => exact ⟨.inr rfl, fin hq⟩
  | _ => exact hq.elim

theorem doesTH_of {np : NPT} {CK : Nat → KT} {RC : Operand → Array Tmp → Code → Code → (Exit → TK) → TK} {f : Nat} {fn : Func} {c : Code} {rs : Array ResultVar} (hm : P.follows .mixedOrders = true) (hf : P.funcs[f]? = some fn) (hname : (fn.name == "runtime.NumGoroutine") = false) (hb : fn.body = some c) (hn : fn.ntmps = N) (hrs : fn.results = rs) (hτ : TyOk P τ) (hcode : codeOk qc np N c = true)
    {args : List AV} {os : List MObj} {r : AV} {os' : List MObj} (hCK : ∀ f args d m k, CK f args d m k → callK P qc f args d m k) (hRC : RCOk P N RC) (hsz : args.length ≤ N)
    (wf : WfH args os r os')
    (h : initK args fun t => awpT P τ np CK RC c (fun e t mm => match e with
      | .normal => resK τ t mm rs.toList fun l => resH os.length (fun r2 os2 => r = r2 ∧ os' = os2) l mm
      | .ret => resK τ t mm rs.toList fun l => resH os.length (fun r2 os2 => r = r2 ∧ os' = os2) l mm
      | _ => False) t ⟨mX os, 0, []⟩) : DoesH P f args os r os' := by
  refine ⟨wf, spec_ofT hm hf hname hb hn hτ hcode (fun i hi => by obtain ⟨n, _, e⟩ := keys_mX.1 hi; exact ⟨n, e⟩) hCK hRC hsz (fun e t mm hq => ?_) (initK_go h)⟩
  have fin : (resK τ t mm rs.toList fun l => resH os.length (fun r2 os2 => r = r2 ∧ os' = os2) l mm) → ∃ ns, RetS P ns fn ⟨t, mm⟩ (fun rf mf => ∃ ρ, LeafM ρ (mX os) (mX os') r mf.o rf) := fun hr => by
    subst hrs
    obtain ⟨l, h3, i1, i2, hnd, h4⟩ := resK_ok hτ hr
    obtain ⟨l', m', h5, hls, h6⟩ := selAsK_ok h4
    obtain ⟨os2, g1, g2, g3, g4, g5, rfl, rfl⟩ := getsK_ok h6
    have hnl : (xsN 0 os.length ++ [i1, i2]).length = os.length + 2 := by simp [xsN_len]
    have hone : ∀ {ns : List Id} {l : List AV}, lsAs ns l = true → lsA ns (oneOf l) = true := fun {ns l} h => by
      match l, h with
      | [], _ => rfl
      | [x], h =>
        simp only [lsAs] at h
        split at h
        · rename_i e; exact e
        · cases h
      | x :: y :: r, h => exact h
    obtain ⟨q1, q2⟩ := lsA_ok (hone hls)
    have hlo : (mapO (toX (xsN 0 os.length ++ [i1, i2])) os2).length = os.length + 2 := by rw [mapO_len, g1, hnl]
    have kx : ∀ i, keys (mX os) i ↔ KX os.length i := fun i => keys_mX
    have kx' : ∀ i, keys (mX (mapO (toX (xsN 0 os.length ++ [i1, i2])) os2)) i ↔ KX (os.length + 2) i := fun i => by rw [keys_mX, hlo]
    have hD : (fun i => keys (mX os) i ∨ keys (mX (mapO (toX (xsN 0 os.length ++ [i1, i2])) os2)) i) = KX (os.length + 2) := funext fun i => propext ⟨fun h => h.elim (fun h => by obtain ⟨k, hk, e⟩ := (kx i).1 h; exact ⟨k, by omega, e⟩) (kx' i).1, fun h => .inr ((kx' i).2 h)⟩
    have hof : ∀ {n : Nat}, n < os.length + 2 → (xsN 0 os.length ++ [i1, i2])[n]? = some (ofX (xsN 0 os.length ++ [i1, i2]) (.x n)) := fun {n} hn => by
      have hn' : n < (xsN 0 os.length ++ [i1, i2]).length := by omega
      rw [ofX_x (List.getElem?_eq_getElem hn')]; exact List.getElem?_eq_getElem hn'
    refine ⟨_, l, l', m', h3, h5, ofX (xsN 0 os.length ++ [i1, i2]), ?_⟩
    refine ⟨q1, by rw [hD, ← hnl]; exact q2, fun j o' hj => ?_, fun a b ha hb e => ?_, fun j hj => ?_⟩
    · obtain ⟨n, e1, e2⟩ := mget_nameX.1 hj
      rw [Nat.zero_add] at e1
      subst e1
      rw [mapO_get] at e2
      obtain ⟨x, e3, rfl⟩ := Option.map_eq_some_iff.1 e2
      have hn : n < os.length + 2 := by rw [← hnl, ← g1]; exact (List.getElem?_eq_some_iff.1 e3).1
      obtain ⟨y, e4, e5⟩ := g2 n _ (hof hn)
      rw [e3] at e4
      cases e4
      obtain ⟨w1, w2⟩ := lsO_ok (lsOs_get g3 e3)
      exact ⟨by rw [w1]; exact e5, by rw [hD, ← hnl]; exact w2⟩
    · obtain ⟨n, hn, rfl⟩ := (kx' a).1 ha
      obtain ⟨n', hn', rfl⟩ := (kx' b).1 hb
      have h3 := hof hn
      have h4 := hof hn'
      rw [← e] at h4
      rw [nodup_get hnd h3 h4]
    · obtain ⟨n, hn, rfl⟩ := (kx j).1 hj
      have := xsN_get (n := os.length) (i := 0) (k := n) hn
      rw [Nat.zero_add] at this
      exact ofX_x (by rw [List.getElem?_append_left (by rw [xsN_len]; exact hn)]; exact this)
  cases e with
  | normal => exact ⟨.inl rfl, fin hq⟩
  | ret => exact ⟨.inr rfl, fin hq⟩
  | _ => exact hq.elim
/-- Two contracts of one function. -/
def cOr (K1 K2 : KT) : KT := fun args d m k => K1 args d m k ∨ K2 args d m k
theorem cOr_ok {f : Nat} {K1 K2 : KT} (h1 : KOk P qc f K1) (h2 : KOk P qc f K2) : KOk P qc f (cOr K1 K2) := fun args d m k h => h.elim (h1 args d m k) (h2 args d m k)
end
end Go.Abs

/- A row is put into a slice and written through it. -/
namespace Go.Abs
open Go.RowKit
set_option linter.unusedVariables false
set_option linter.unusedSimpArgs false
section
variable {P : Program} {B : Base} {g : G} {m : Mem} {w : World}
theorem Inv.less (hI : Inv B g m w) {o' : List (Id × MObj)} (h : ∀ i o, mget o' i = some o → mget m.o i = some o) : Inv B g { m with o := o' } w where
  ok := fun i o hi => hI.ok i o (h i o hi)
  apart := fun i j oi oj b hi hj => hI.apart i j oi oj b (h i oi hi) (h j oj hj)
  fresh := fun s k hu => hI.fresh s k hu
  flt := hI.flt
  ext := hI.ext
  fnew := hI.fnew
  own := fun i o b hi => hI.own i o b (h i o hi)
  os := hI.os
  tape := hI.tape
  output := hI.output
  size := hI.size
  block := hI.block
theorem Inv.more (hI : Inv B g m w) {i : Id} {o : MObj} {b : Nat} (hk : g.K i) (ho : ObjOk g w i o) (hb : blockOf (g.β i) = some b) (hap : ∀ j oj, mget m.o j = some oj → j ≠ i → blockOf (g.β j) ≠ some b) (hown : B.w0.heap.size ≤ b ∨ B.X b) : Inv B g { m with o := mset m.o i o } w where
  ok := fun j oj hj => by
    rw [show ({ m with o := mset m.o i o } : Mem).o = mset m.o i o from rfl, mget_mset] at hj
    split at hj
    · rename_i e
      subst e
      cases hj
      exact ⟨hk, ho⟩
    · exact hI.ok j oj hj
  apart := fun j j' oj oj' b' hj hj' hne hbj => by
    rw [show ({ m with o := mset m.o i o } : Mem).o = mset m.o i o from rfl, mget_mset] at hj hj'
    split at hj
    · rename_i e
      subst e
      rw [hb] at hbj
      cases hbj
      rw [if_neg (fun e => hne e.symm)] at hj'
      exact hap j' oj' hj' (fun e => hne e.symm)
    · rename_i hji
      split at hj'
      · rename_i e
        subst e
        intro h
        rw [hb] at h
        cases h
        exact hap j oj hj hji hbj
      · exact hI.apart j j' oj oj' b' hj hj' hne hbj
  fresh := fun s k hu => hI.fresh s k hu
  flt := hI.flt
  ext := hI.ext
  fnew := hI.fnew
  own := fun j oj b' hj hbj => by
    rw [show ({ m with o := mset m.o i o } : Mem).o = mset m.o i o from rfl, mget_mset] at hj
    split at hj
    · rename_i e
      subst e
      rw [hb] at hbj
      cases hbj
      exact hown
    · exact hI.own j oj b' hj hbj
  os := hI.os
  tape := hI.tape
  output := hI.output
  size := hI.size
  block := hI.block
/-- The address of an element, in any world. -/
theorem run_at {t e : TypeId} (hd : P.underlying t = some (.slice e)) {i' : TypeInfo} (hi' : P.info? e = some i') (h1 : i'.size = 1) {b len cap k : Nat} (hk : k < len) (w : World) :
    (Instr.indexAt t (.slice (some ⟨b, 0, none⟩) len cap) (.int .i64 k)).run P w = .ok (.pointer (some ⟨b, k, none⟩)) w := by
  have h0 : (0 : Int) ≤ (k : Int) := by omega
  simp [Instr.indexAt, run_underlying hd, asIntOf, h0, hk, run_sizeOf hi', Addr.add_lit, h1]
/-- What is done, in the order of the program. -/
structure RowW (P : Program) (T1 T2 T4 : TypeId) (V17 Vp Vv : Value) (k i : Nat) (z x : Int) (w w' : World) : Prop where
  ex : ∃ wc Vq, (∀ W, (Instr.indexAt T2 V17 (.int .i64 k)).run P W = .ok Vp W) ∧ (Instr.storeAt T1 Vp Vv).run P w = .ok () wc ∧ (Instr.loadAt T1 Vp).run P wc = .ok Vv wc ∧ (∀ W, (Instr.indexAt T1 Vv (.int .i64 i)).run P W = .ok Vq W) ∧
    (Instr.loadAt T4 Vq).run P wc = .ok (.int .i64 z) wc ∧ (Instr.storeAt T4 Vq (.int .i64 x)).run P wc = .ok () w'
theorem row_write (hI : Inv B g m w) {io ir : Id} {e1 e2 : TypeId} {es1 es2 : List (List Cell)} {k i n : Nat} (hio : mget m.o io = some (.arr e1 1 es1 false)) (hir : mget m.o ir = some (.arr e2 1 es2 false)) (hne : io ≠ ir)
    {T1 T2 T4 : TypeId} {t1 t4 : TI} (h1 : tiOf P T1 = some t1) (h1s : t1.size = 1) (h1a : t1.agg = false) (h2d : P.underlying T2 = some (.slice T1)) (h1d : P.underlying T1 = some (.slice T4)) (h4 : tiOf P T4 = some t4) (h4s : t4.size = 1) (h4a : t4.agg = false)
    {V17 Vp Vv : Value} (hS : RepA g w (.c (.view io 0 n)) V17) (hP : RepA g w (.c (.aptr io k 0)) Vp) (hV : RepA g w (.c (.view ir 0 es2.length)) Vv) (hk : k < n) (hk2 : k < es1.length) {z x : Int} (hz : es2[i]? = some [.sc (.int .i64 z)]) :
    ∃ w' g', RowW P T1 T2 T4 V17 Vp Vv k i z x w w' ∧ Ext g w g' w' ∧ Inv B g' { m with o := mset (mset m.o ir (.arr e2 1 (es2.set i [.sc (.int .i64 x)]) true)) io (.arr e1 1 (es1.set k [.lst (es2.set i [.sc (.int .i64 x)])]) false) } w' := by
  obtain ⟨i1, d1, z1, hi1, hd1, hz1, e1'⟩ := tiOf_spec h1
  obtain ⟨i4, d4, z4, hi4, hd4, hz4, e4'⟩ := tiOf_spec h4
  have s1 : i1.size = 1 := by rw [e1'] at h1s; exact h1s
  have s4 : i4.size = 1 := by rw [e4'] at h4s; exact h4s
  have a1 : isAggD d1 = false := by rw [e1'] at h1a; exact h1a
  have hil := (List.getElem?_eq_some_iff.1 hz).1
  obtain ⟨hKo, hOo⟩ := hI.ok io _ hio
  obtain ⟨hKr, hOr⟩ := hI.ok ir _ hir
  have hOo0 := hOo
  cases hOo with
  | arr us hsz ho hs hr h1c hf =>
  cases hOr with
  | arr us2 hsz2 ho2 hs2 hr2 h1c2 hf2 =>
  rcases ho.2 with ⟨_, hnil⟩ | ⟨b1, cap1, cur1, hb1, _, hh1, hnc1, hcm1, hcs1, htk1⟩
  · omega
  rcases ho2.2 with ⟨_, hnil⟩ | ⟨b2, cap2, cur2, hb2, _, hh2, hnc2, hcm2, hcs2, htk2⟩
  · omega
  have hV17 : ∃ len cap, V17 = .slice (some ⟨b1, 0, none⟩) len cap ∧ n ≤ len := by
    cases hS with
    | c hS => cases hS with
      | pure h => cases h
      | view hk' hv hle ha hsp =>
        rw [hb1] at hv
        simp at hv
        obtain ⟨rfl, rfl, rfl⟩ := hv
        have := ha (.inr rfl)
        subst this
        exact ⟨n, cap1, by simp [Addr.add_lit], Nat.le_refl _⟩
  obtain ⟨len1, cp1, rfl, hnl⟩ := hV17
  have hVp : Vp = .pointer (some ⟨b1, k, none⟩) := by
    cases hP with
    | c hP => cases hP with
      | pure h => cases h
      | aptr hk' hv =>
        rw [hb1] at hv
        simp at hv
        obtain ⟨rfl, _⟩ := hv
        rw [hsz]
        simp
  subst hVp
  have hVv : Vv = .slice (some ⟨b2, 0, none⟩) es2.length cap2 := by
    cases hV with
    | c hV => cases hV with
      | pure h => cases h
      | view hk' hv hle ha hsp =>
        rw [hb2] at hv
        simp at hv
        obtain ⟨rfl, rfl, rfl⟩ := hv
        have := ha (.inr rfl)
        subst this
        simp [Addr.add_lit]
  subst hVv
  have hbb : b1 ≠ b2 := fun e => hI.apart io ir _ _ b1 hio hir hne (by rw [hb1]; rfl) (by rw [hb2, e]; rfl)
  -- the row goes into the slice
  have hcl1 : cur1.toList.length = cap1 := by simpa using hcs1
  have hrun0 := run_storeVar (P := P) (t := T1) hi1 (b := b1) (off := k) (T := e1) (cur := cur1.toList) (w := w) (by simpa using hh1) (v := .slice (some ⟨b2, 0, none⟩) es2.length cap2) (by rw [s1]; rfl) (by omega) (fun u hu => by simp [Value.cells] at hu; subst hu; rfl)
  have hcell : (Value.slice (some ⟨b2, 0, none⟩) es2.length cap2).cells.toList = [.slice (some ⟨b2, 0, none⟩) es2.length cap2] := rfl
  rw [hcell] at hrun0
  generalize hwc : w.setRow b1 (cur1.toList.take k ++ ([Value.slice (some ⟨b2, 0, none⟩) es2.length cap2] ++ cur1.toList.drop (k + [Value.slice (some ⟨b2, 0, none⟩) es2.length cap2].length))).toArray = wc at hrun0
  have hgr : w.grownBy wc (some b1) := by rw [← hwc]; exact setRow_grown ..
  have hhc : wc.heap[b1]? = some (.cells (cur1.toList.take k ++ ([Value.slice (some ⟨b2, 0, none⟩) es2.length cap2] ++ cur1.toList.drop (k + 1))).toArray e1 (0, 0)) := by rw [← hwc]; exact setRow_heap w b1 _ _ e1 _ hh1
  have hnF : ∀ o, ¬ g.F b1 o := fun o hF => by have := (hf b1 o (by rw [hb1]; rfl) hF).1; cases this
  have hown1 := hI.own io _ b1 hio (by rw [hb1]; rfl)
  have hm' : ∀ j o, mget (mdel m.o io) j = some o → mget m.o j = some o ∧ j ≠ io := fun j o h => by
    rw [mget_mdel] at h
    split at h
    · cases h
    · rename_i e; exact ⟨h, e⟩
  have hI1 := hI.less (o' := mdel m.o io) fun j o h => (hm' j o h).1
  obtain ⟨hE2, hI2⟩ := hI1.foreign hgr hown1 hnF fun j o hj => hI.apart io j _ o b1 hio (hm' j o hj).1 (Ne.symm (hm' j o hj).2) (by rw [hb1]; rfl)
  have hO := hI2.over
  have hI3 := hI2.back (W := wc) (N := B.N) (ds := []) (Z := fun b => b = b1) hO (Nat.le_refl _) (fun _ _ _ => rfl) (fun b o hF => .inr (.inr fun (e : b = b1) => hnF o (by rw [← e]; exact hF))) (fun j o b hj hb => .inr fun (e : b = b1) => hI.apart io j _ o b1 hio (hm' j o hj).1 (Ne.symm (hm' j o hj).2) (by rw [hb1]; rfl) (by rw [← e]; exact hb))
  have hir3 : mget (mdel m.o io) ir = some (.arr e2 1 es2 false) := by rw [mget_mdel, if_neg (Ne.symm hne)]; exact hir
  have hb2r : g.β ir = .slice (some ⟨b2, 0, none⟩) es2.length cap2 := hb2
  have hq : RepA g wc (.c (.aptr ir i 0)) (.pointer (some ⟨b2, i, none⟩)) := by
    have := RepC.aptr (g := g) (w := wc) (o := ir) (i := i) (k := 0) hKr hb2r
    rw [hsz2] at this
    simpa using RepA.c this
  obtain ⟨zv, hl1, hl2⟩ := loadF_ok (x := .c (.sc (.int .i64 z))) hI3 h4 hq (by simp [loadF, hir3, hz, cut, h4a])
  obtain ⟨rfl, _⟩ := isSc hl2
  obtain ⟨wd, g4, hs1, hE4, hI4⟩ := storeF_ok (x := .c (.sc (.int .i64 x))) (v := .int .i64 x) (m' := { m with o := mset (mdel m.o io) ir (.arr e2 1 (es2.set i [.sc (.int .i64 x)]) false) }) hI3 h4 hq (.c (.pure (.sc rfl))) (by
    simp [storeF, avCells, h4s, purL, pur, hir3, hz, wr, nrm])
  generalize hES : es2.set i [.sc (.int .i64 x)] = es2' at hI4 ⊢
  have hlen' : es2'.length = es2.length := by rw [← hES, List.length_set]
  have hV4 := (hV.ext hE2).ext hE4
  obtain ⟨g5, hE5, hI5, hP5⟩ := pur_ok (m' := { m with o := mset (mset (mdel m.o io) ir (.arr e2 1 es2' false)) ir (.arr e2 1 es2' true) }) (c' := .lst es2') hI4 (by cases hV4 with | c h => exact h) (by
    simp [pur, mget_mset, hlen', List.take_of_length_le])
  have hE : Ext g w g5 wd := hE2.trans (hE4.trans hE5)
  have hb1l : b1 < wc.heap.size := (Array.getElem?_eq_some_iff.1 hhc).1
  have hnX : ¬ (reB B wc B.N [] (fun b => b = b1)).X b1 := fun h => h.1 rfl
  have hhd : wd.heap[b1]? = some (.cells (cur1.toList.take k ++ ([Value.slice (some ⟨b2, 0, none⟩) es2.length cap2] ++ cur1.toList.drop (k + 1))).toArray e1 (0, 0)) := (hI4.block b1 hb1l hnX).trans hhc
  have hF5 : ∀ o, ¬ g5.F b1 o := fun o hF => by
    rcases hI5.fnew b1 o hF with h | h | h
    · exact hnF o (hI.ext.F _ _ h)
    · exact absurd hb1l (Nat.not_lt.2 h)
    · exact hnX h
  have hβ5 : g5.β io = .slice (some ⟨b1, 0, none⟩) es1.length cap1 := by rw [hE.β io hKo]; exact hb1
  have husl : us.length = es1.length * 1 := ho.1
  have hset : cur1.toList.take k ++ ([Value.slice (some ⟨b2, 0, none⟩) es2.length cap2] ++ cur1.toList.drop (k + 1)) = cur1.toList.set k (.slice (some ⟨b2, 0, none⟩) es2.length cap2) := by
    rw [List.set_eq_take_append_cons_drop, if_pos (by omega)]
    rfl
  have hobj : ObjOk g5 wd io (.arr e1 1 (es1.set k [.lst es2']) false) := by
    refine .arr (us.set k (.slice (some ⟨b2, 0, none⟩) es2.length cap2)) (by rw [hE.sz io hKo]; exact hsz) ⟨by simpa using husl, .inr ⟨b1, cap1, _, by rw [List.length_set]; exact hβ5, Nat.zero_le _, hhd, by rw [List.length_set]; exact hnc1, hcm1, ?_, ?_⟩⟩ (fun k' y hy => ?_) (fun k' y hy j c hj => ?_) (fun u hu => ?_) (fun b o hb hF => ?_)
    · rw [hset]; simpa using hcs1
    · rw [hset, List.length_set, ← htk1, List.take_set]
    · rcases set_get hy with ⟨_, rfl⟩ | ⟨_, hy⟩
      · rfl
      · exact hs k' y hy
    · rcases set_get hy with ⟨rfl, rfl⟩ | ⟨hne', hy⟩
      · cases j with
        | succ j => simp at hj
        | zero =>
          simp at hj
          subst hj
          exact ⟨_, by rw [Nat.mul_one, Nat.add_zero, List.getElem?_set_self (by omega)], hP5⟩
      · obtain ⟨u, hu, hc⟩ := hr k' y hy j c hj
        have hj0 : j = 0 := by
          have := hs k' y hy
          have := (List.getElem?_eq_some_iff.1 hj).1
          omega
        subst hj0
        exact ⟨u, by rw [List.getElem?_set_ne (by omega)]; exact hu, hc.ext hE.F hE.cell⟩
    · rcases List.mem_or_eq_of_mem_set hu with h | h
      · exact h1c u h
      · rw [h]; rfl
    · rw [hβ5] at hb
      simp [blockOf] at hb
      subst hb
      exact absurd hF (hF5 o)
  have hI6 := hI5.out hO
  have hI7 := hI6.more (hE.K io hKo) hobj (b := b1) (by rw [hβ5]; rfl) (fun j oj hj _ hb => by
    rcases hI5.own j oj b1 hj hb with h | h
    · exact absurd hb1l (Nat.not_lt.2 h)
    · exact hnX h) hown1
  refine ⟨wd, g5, ⟨wc, .pointer (some ⟨b2, i, none⟩), fun W => run_at h2d hi1 s1 (by omega) W, ?_, ?_, fun W => run_at h1d hi4 s4 hil W, hl1, hs1⟩, hE, ?_⟩
  · simpa [Instr.storeAt, Instr.sureAddr] using hrun0
  · have hc0 : wc.cell? ⟨b1, k, none⟩ = some (.slice (some ⟨b2, 0, none⟩) es2.length cap2) := by
      rw [cell_of_block hhc, hset, List.getElem?_set_self (by omega)]
    simp [Instr.loadAt, Instr.sureAddr, loadVar, run_isAgg hd1, a1, hc0]
  · exact hI7.less (o' := mset (mset m.o ir (.arr e2 1 es2' true)) io (.arr e1 1 (es1.set k [.lst es2']) false)) fun j o hj => by
      simp only [mget_mset, mget_mdel] at hj ⊢
      by_cases e : j = io
      · simpa [e] using hj
      · rw [if_neg e] at hj ⊢
        by_cases e2 : j = ir
        · simpa [e2] using hj
        · rw [if_neg e2] at hj
          rw [if_neg e2, if_neg e2, if_neg e]
          exact hj
end
end Go.Abs
