/- Proved here: what functions of the given program come to, and the plain laws of it; no condition but those in the theorems. -/
import Derived.Test.YtknjncmgohjpkaaAbsRv
import Derived.Test.YtknjncmgohjpkaaAbsP
import Derived.Deep.Fields
/- Functions with ranges over functions whose contracts name a small memory. -/
namespace Go.Abs
open Go.RowKit
set_option linter.unusedVariables false
set_option linter.unusedSimpArgs false
section
variable {P : Program} {τ : List (Nat × TI)} {N : Nat} {qc : Nat → Bool}
theorem spec_ofT {np : NPT} {CK : Nat → KT} {RC : Operand → Array Tmp → Code → Code → (Exit → TK) → TK} {f : Nat} {fn : Func} {c : Code} (hm : P.follows .mixedOrders = true) (hf : P.funcs[f]? = some fn) (hname : (fn.name == "runtime.NumGoroutine") = false) (hb : fn.body = some c) (hn : fn.ntmps = N) (hτ : TyOk P τ) (hcode : codeOk qc np N c = true) {args : List AV} {r : AV} {m m' : List (Id × MObj)}
    (hx : ∀ i, keys m i → ∃ n, i = .x n) (hCK : ∀ f args d m k, CK f args d m k → callK P qc f args d m k) (hRC : RCOk P N RC) (hsz : args.length ≤ N) {Q : Exit → TK}
    (hQ : ∀ e t mm, Q e t mm → (e = .normal ∨ e = .ret) ∧ ∃ ns, RetS P ns fn ⟨t, mm⟩ (fun rf mf => ∃ ρ, LeafM ρ m m' r mf.o rf))
    (h : awpT P τ np CK RC c Q (initT args 0) ⟨m, 0, []⟩) : DoesM P f args m r m' := by
  subst hn
  refine ⟨callable hf hname hb, fun g w vals hK hM hl hr => ?_⟩
  let B : Base := { w0 := w, X := touches g m, g0 := g, N := fn.ntmps, gx := fun i hi => hx i (hK i hi) }
  have hI : Inv B g ⟨m, 0, []⟩ w := { ok := hM.ok, apart := hM.apart, fresh := fun s k _ hk => (by obtain ⟨n, hn⟩ := hx _ (hK _ hk); cases hn), flt := hM.flt, ext := .refl _ _, fnew := fun b o h => .inl h, own := fun i o b hi hb => .inr ⟨i, o, hi, hb⟩, os := rfl, tape := rfl, output := rfl, size := Nat.le_refl _, block := fun _ _ _ => rfl }
  have hR : RS B (tget (initT args 0)) ⟨m, 0, []⟩ { tmps := vals.toArray ++ Array.replicate (fn.ntmps - vals.toArray.size) undef, defers := [] } w := by
    refine ⟨⟨g, fun t x hx => ?_, hI⟩, rfl, by simp [B]; omega⟩
    obtain ⟨_, h2⟩ := initT_get args 0 t hx
    rw [Nat.sub_zero] at h2
    have ht : t < vals.length := by rw [hl]; exact (List.getElem?_eq_some_iff.1 h2).1
    refine ⟨vals[t], ?_, hr t x _ h2 (List.getElem?_eq_getElem ht)⟩
    rw [Array.getElem?_append, if_pos (by simpa using ht)]
    simp [ht]
  refine calls_of_T (B := B) hf hb (awpT_ok hτ hCK hm hRC rfl c hcode _ _ _ _ _ (rsm_of hR rfl) h) fun e t mm hq => ?_
  obtain ⟨he, ns, hret⟩ := hQ e t mm hq
  refine ⟨he, fun g1 a w' hs hI' => ?_⟩
  obtain ⟨v, rf, g2, mf, q1, q2, q3, q4, ρ, hL⟩ := resultsS_ok hs hI' hret
  let D : Id → Prop := fun i => keys m i ∨ keys m' i
  let g' := pull ρ D g2
  have hlink : Link ρ D g' g2 := pull_link
  have hext : Ext g w g2 w' := q3.ext
  have hext' : Ext g w g' w' := ⟨fun i hi => ⟨.inl (hK i hi), by rw [hL.same i (hK i hi)]; exact hext.K i hi⟩, fun i hi => by show g2.β (ρ i) = _; rw [hL.same i (hK i hi)]; exact hext.β i hi,
    fun i hi => by show g2.sz (ρ i) = _; rw [hL.same i (hK i hi)]; exact hext.sz i hi, hext.F, hext.cell⟩
  refine ⟨v, q1, v, g', rfl, hext', hlink.pullA q4 r hL.res hL.resIn, ⟨fun i o hi => ?_, fun i j oi oj b hi hj hij hbi hbj => ?_, q3.flt⟩, fun i hi => hi.1, ⟨q3.os, q3.tape, q3.output, q3.size, fun b hb hX => q3.block b hb hX, fun b o hF => q3.fnew b o hF, fun i o b hi hb => ?_⟩⟩
  · obtain ⟨h1, h2⟩ := hL.mem i o hi
    obtain ⟨h3, h4⟩ := q3.ok _ _ h1
    have hk : g'.K i := ⟨.inr ⟨o, hi⟩, h3⟩
    exact ⟨hk, hlink.pullO (.inr ⟨o, hi⟩) hk h4 h2⟩
  · exact q3.apart (ρ i) (ρ j) _ _ b (hL.mem i oi hi).1 (hL.mem j oj hj).1 (fun e => hij (hL.inj i j ⟨oi, hi⟩ ⟨oj, hj⟩ e)) hbi hbj
  · exact q3.own (ρ i) _ b (hL.mem i o hi).1 hb

theorem doesTG_of {np : NPT} {CK : Nat → KT} {RC : Operand → Array Tmp → Code → Code → (Exit → TK) → TK} {f : Nat} {fn : Func} {c : Code} {rs : Array ResultVar} (hm : P.follows .mixedOrders = true) (hf : P.funcs[f]? = some fn) (hname : (fn.name == "runtime.NumGoroutine") = false) (hb : fn.body = some c) (hn : fn.ntmps = N) (hrs : fn.results = rs) (hτ : TyOk P τ) (hcode : codeOk qc np N c = true)
    {args : List AV} {os : List MObj} {r : AV} {os' : List MObj} (hCK : ∀ f args d m k, CK f args d m k → callK P qc f args d m k) (hRC : RCOk P N RC) (hsz : args.length ≤ N)
    (wf : WfG args os r os')
    (h : initK args fun t => awpT P τ np CK RC c (fun e t mm => match e with
      | .normal => resK τ t mm rs.toList fun l => selAsK (xsN 0 os.length) mm l fun l mf => getsK (xsN 0 os.length) mf.o fun os2 => r = oneOf l ∧ os' = os2
      | .ret => resK τ t mm rs.toList fun l => selAsK (xsN 0 os.length) mm l fun l mf => getsK (xsN 0 os.length) mf.o fun os2 => r = oneOf l ∧ os' = os2
      | _ => False) t ⟨mX os, 0, []⟩) : DoesG P f args os r os' := by
  refine ⟨wf, spec_ofT hm hf hname hb hn hτ hcode (fun i hi => by obtain ⟨n, _, e⟩ := keys_mX.1 hi; exact ⟨n, e⟩) hCK hRC hsz (fun e t mm hq => ?_) (initK_go h)⟩
  have hD : KX os.length = fun i => keys (mX os) i ∨ keys (mX os') i := funext fun i => propext ⟨fun h => .inl (keys_mX.2 h), fun h => h.elim keys_mX.1 (fun h => by have := keys_mX.1 h; rwa [wf.len] at this)⟩
  have fin : (resK τ t mm rs.toList fun l => selAsK (xsN 0 os.length) mm l fun l mf => getsK (xsN 0 os.length) mf.o fun os2 => r = oneOf l ∧ os' = os2) → ∃ ns, RetS P ns fn ⟨t, mm⟩ (fun rf mf => ∃ ρ, LeafM ρ (mX os) (mX os') r mf.o rf) := fun hr => by
    subst hrs
    obtain ⟨l, h1, h2⟩ := resK_ok hτ hr
    obtain ⟨l', m', h3, h4⟩ := selAsK_ok h2
    obtain ⟨os2, g1, g2, e1, e2⟩ := getsK_ok h4
    subst e2
    refine ⟨_, l, l', m', h1, h3, id, ?_⟩
    refine ⟨by rw [e1]; exact renA_id _, by rw [← hD]; exact xsA_ok wf.r, fun i o hi => ?_, fun i j _ _ e => e, fun _ _ => rfl⟩
    obtain ⟨n, e3, e4⟩ := mget_nameX.1 hi
    have hnl : n < os.length := by rw [← wf.len]; exact (List.getElem?_eq_some_iff.1 e4).1
    obtain ⟨x, e5, e6⟩ := g2 n _ (xsN_get hnl)
    rw [e4] at e5
    cases e5
    rw [renO_id, e3]
    exact ⟨e6, by rw [← hD]; exact xsO_ok (xsOs_get wf.o' e4)⟩
  cases e with
  | normal => exact ⟨.inl rfl, fin hq⟩
  | ret => exact ⟨.inr rfl, fin hq⟩
  | _ => exact hq.elim

theorem doesTH_of {np : NPT} {CK : Nat → KT} {RC : Operand → Array Tmp → Code → Code → (Exit → TK) → TK} {f : Nat} {fn : Func} {c : Code} {rs : Array ResultVar} (hm : P.follows .mixedOrders = true) (hf : P.funcs[f]? = some fn) (hname : (fn.name == "runtime.NumGoroutine") = false) (hb : fn.body = some c) (hn : fn.ntmps = N) (hrs : fn.results = rs) (hτ : TyOk P τ) (hcode : codeOk qc np N c = true)
    {args : List AV} {os : List MObj} {r : AV} {os' : List MObj} (hCK : ∀ f args d m k, CK f args d m k → callK P qc f args d m k) (hRC : RCOk P N RC) (hsz : args.length ≤ N)
    (wf : WfH args os r os')
    (h : initK args fun t => awpT P τ np CK RC c (fun e t mm => match e with
      | .normal => resK τ t mm rs.toList fun l => resH os.length (fun r2 os2 => r = r2 ∧ os' = os2) l mm
      | .ret => resK τ t mm rs.toList fun l => resH os.length (fun r2 os2 => r = r2 ∧ os' = os2) l mm
      | _ => False) t ⟨mX os, 0, []⟩) : DoesH P f args os r os' := by
  refine ⟨wf, spec_ofT hm hf hname hb hn hτ hcode (fun i hi => by obtain ⟨n, _, e⟩ := keys_mX.1 hi; exact ⟨n, e⟩) hCK hRC hsz (fun e t mm hq => ?_) (initK_go h)⟩
  have fin : (resK τ t mm rs.toList fun l => resH os.length (fun r2 os2 => r = r2 ∧ os' = os2) l mm) → ∃ ns, RetS P ns fn ⟨t, mm⟩ (fun rf mf => ∃ ρ, LeafM ρ (mX os) (mX os') r mf.o rf) := fun hr => by
    subst hrs
    obtain ⟨l, h3, i1, i2, hnd, h4⟩ := resK_ok hτ hr
    obtain ⟨l', m', h5, hls, h6⟩ := selAsK_ok h4
    obtain ⟨os2, g1, g2, g3, g4, g5, rfl, rfl⟩ := getsK_ok h6
    have hnl : (xsN 0 os.length ++ [i1, i2]).length = os.length + 2 := by simp [xsN_len]
    have hone : ∀ {ns : List Id} {l : List AV}, lsAs ns l = true → lsA ns (oneOf l) = true := fun {ns l} h => by
      match l, h with
      | [], _ => rfl
      | [x], h =>
        simp only [lsAs] at h
        split at h
        · rename_i e; exact e
        · cases h
      | x :: y :: r, h => exact h
    obtain ⟨q1, q2⟩ := lsA_ok (hone hls)
    have hlo : (mapO (toX (xsN 0 os.length ++ [i1, i2])) os2).length = os.length + 2 := by rw [mapO_len, g1, hnl]
    have kx : ∀ i, keys (mX os) i ↔ KX os.length i := fun i => keys_mX
    have kx' : ∀ i, keys (mX (mapO (toX (xsN 0 os.length ++ [i1, i2])) os2)) i ↔ KX (os.length + 2) i := fun i => by rw [keys_mX, hlo]
    have hD : (fun i => keys (mX os) i ∨ keys (mX (mapO (toX (xsN 0 os.length ++ [i1, i2])) os2)) i) = KX (os.length + 2) := funext fun i => propext ⟨fun h => h.elim (fun h => by obtain ⟨k, hk, e⟩ := (kx i).1 h; exact ⟨k, by omega, e⟩) (kx' i).1, fun h => .inr ((kx' i).2 h)⟩
    have hof : ∀ {n : Nat}, n < os.length + 2 → (xsN 0 os.length ++ [i1, i2])[n]? = some (ofX (xsN 0 os.length ++ [i1, i2]) (.x n)) := fun {n} hn => by
      have hn' : n < (xsN 0 os.length ++ [i1, i2]).length := by omega
      rw [ofX_x (List.getElem?_eq_getElem hn')]; exact List.getElem?_eq_getElem hn'
    refine ⟨_, l, l', m', h3, h5, ofX (xsN 0 os.length ++ [i1, i2]), ?_⟩
    refine ⟨q1, by rw [hD, ← hnl]; exact q2, fun j o' hj => ?_, fun a b ha hb e => ?_, fun j hj => ?_⟩
    · obtain ⟨n, e1, e2⟩ := mget_nameX.1 hj
      rw [Nat.zero_add] at e1
      subst e1
      rw [mapO_get] at e2
      obtain ⟨x, e3, rfl⟩ := Option.map_eq_some_iff.1 e2
      have hn : n < os.length + 2 := by rw [← hnl, ← g1]; exact (List.getElem?_eq_some_iff.1 e3).1
      obtain ⟨y, e4, e5⟩ := g2 n _ (hof hn)
      rw [e3] at e4
      cases e4
      obtain ⟨w1, w2⟩ := lsO_ok (lsOs_get g3 e3)
      exact ⟨by rw [w1]; exact e5, by rw [hD, ← hnl]; exact w2⟩
    · obtain ⟨n, hn, rfl⟩ := (kx' a).1 ha
      obtain ⟨n', hn', rfl⟩ := (kx' b).1 hb
      have h3 := hof hn
      have h4 := hof hn'
      rw [← e] at h4
      rw [nodup_get hnd h3 h4]
    · obtain ⟨n, hn, rfl⟩ := (kx j).1 hj
      have := xsN_get (n := os.length) (i := 0) (k := n) hn
      rw [Nat.zero_add] at this
      exact ofX_x (by rw [List.getElem?_append_left (by rw [xsN_len]; exact hn)]; exact this)
  cases e with
  | normal => exact ⟨.inl rfl, fin hq⟩
  | ret => exact ⟨.inr rfl, fin hq⟩
  | _ => exact hq.elim
/-- Two contracts of one function. -/
def cOr (K1 K2 : KT) : KT := fun args d m k => K1 args d m k ∨ K2 args d m k
theorem cOr_ok {f : Nat} {K1 K2 : KT} (h1 : KOk P qc f K1) (h2 : KOk P qc f K2) : KOk P qc f (cOr K1 K2) := fun args d m k h => h.elim (h1 args d m k) (h2 args d m k)
end
end Go.Abs

/- Arguments that come in: slices of numbers, truth values or flat structs, and structs of such. -/
namespace Go.Abs
open Go.RowKit Go.ChangeShapes Go.WideShapes Go.Deep

/-- What an element's cells are: a number of a kind, or a truth value. -/
def flatKs (P : Program) : Nat → List Field → Option (List (Option IntKind))
  | _, [] => some []
  | i, f :: r => if f.offset = i ∧ P.cellsOf f.type = 1 then (match P.underlying f.type with
    | some (.int k) => (flatKs P (i + 1) r).map (some k :: ·)
    | some .bool => (flatKs P (i + 1) r).map (none :: ·)
    | _ => none) else none
def elKs (P : Program) (e : TypeId) : Option (List (Option IntKind)) := match P.underlying e with
  | some (.int k) => some [some k]
  | some .bool => some [none]
  | some (.struct fs) => flatKs P 0 fs.toList
  | _ => none
def ksOk : List (Option IntKind) → List Cell → Prop
  | [], [] => True
  | some k :: ks, .sc (.int k' _) :: r => k' = k ∧ ksOk ks r
  | none :: ks, .sc (.bool _) :: r => ksOk ks r
  | _, _ => False
def allSc : List Value → Prop := fun l => ∀ u ∈ l, scalar u = true

section
variable {H : Type} {enc : TypeId × Value → H} {P : Program} {w : World} {base : Nat} {spare : Nat → Bool} {held : Bool}

theorem flatKs_ok : ∀ (l : List Field) (i n : Nat) (cs : List Value) (ks : List (Option IntKind)), flatKs P i l = some ks → cs.length = i + l.length →
    (∀ (j : Nat) f, l[j]? = some f → ∃ y, DataW.trod enc P w base spare held n f.type ((cs.drop f.offset).take (P.cellsOf f.type)) = some y) →
    ksOk ks ((cs.drop i).map .sc) ∧ allSc (cs.drop i)
  | [], i, n, cs, ks, h, hl, _ => by
    simp [flatKs] at h
    subst h
    rw [List.drop_eq_nil_of_le (by simp at hl; omega)]
    exact ⟨trivial, fun u hu => by simp at hu⟩
  | f :: r, i, n, cs, ks, h, hl, ht => by
    simp only [flatKs] at h
    split at h
    case isFalse => cases h
    rename_i hf
    obtain ⟨y, hy⟩ := ht 0 f rfl
    rw [hf.1, hf.2] at hy
    have hi : i < cs.length := by simp at hl; omega
    rw [List.drop_eq_getElem_cons hi] at hy ⊢
    have hy : DataW.trod enc P w base spare held n f.type [cs[i]] = some y := hy
    have ih := fun ks2 h2 => flatKs_ok r (i + 1) n cs ks2 h2 (by simp at hl; omega) fun j f' hj => ht (j + 1) f' (by simpa using hj)
    split at h
    · rename_i k hd
      obtain ⟨ks2, h2, rfl⟩ := Option.map_eq_some_iff.1 h
      obtain ⟨i1, i2⟩ := ih ks2 h2
      obtain ⟨m, hm, _⟩ := DataW.trod_int hd hy
      simp only [List.cons.injEq, and_true] at hm
      rw [hm]
      exact ⟨⟨rfl, i1⟩, fun u hu => by
        rcases List.mem_cons.1 hu with rfl | hu
        · rfl
        · exact i2 u hu⟩
    · rename_i hd
      obtain ⟨ks2, h2, rfl⟩ := Option.map_eq_some_iff.1 h
      obtain ⟨i1, i2⟩ := ih ks2 h2
      obtain ⟨b, hb, _⟩ := DataW.trod_bool hd hy
      simp only [List.cons.injEq, and_true] at hb
      rw [hb]
      exact ⟨i1, fun u hu => by
        rcases List.mem_cons.1 hu with rfl | hu
        · rfl
        · exact i2 u hu⟩
    · cases h

theorem elKs_ok {e : TypeId} {ks : List (Option IntKind)} (hk : elKs P e = some ks) (hC : P.cellsOf e = ks.length) {n : Nat} {cs : List Value} {y : DataW H × List MemPlace} (h : DataW.trod enc P w base spare held n e cs = some y) :
    ksOk ks (cs.map .sc) ∧ allSc cs := by
  unfold elKs at hk
  split at hk
  · rename_i k hd
    simp at hk; subst hk
    obtain ⟨m, rfl, _⟩ := DataW.trod_int hd h
    exact ⟨⟨rfl, trivial⟩, fun u hu => by simp at hu; subst hu; rfl⟩
  · rename_i hd
    simp at hk; subst hk
    obtain ⟨b, rfl, _⟩ := DataW.trod_bool hd h
    exact ⟨trivial, fun u hu => by simp at hu; subst hu; rfl⟩
  · rename_i fs hd
    obtain ⟨xs, m, _, _, hlen, hxl, hf⟩ := DataW.trod_struct hd h
    have hkl : ∀ (l : List Field) (i : Nat) (ks : List (Option IntKind)), flatKs P i l = some ks → ks.length = l.length := by
      intro l
      induction l with
      | nil => intro i ks h; simp [flatKs] at h; subst h; rfl
      | cons f r ih =>
        intro i ks h
        simp only [flatKs] at h
        split at h
        · split at h
          · obtain ⟨k2, h2, rfl⟩ := Option.map_eq_some_iff.1 h; simp [ih _ _ h2]
          · obtain ⟨k2, h2, rfl⟩ := Option.map_eq_some_iff.1 h; simp [ih _ _ h2]
          · cases h
        · cases h
    have := hkl _ _ _ hk
    have q := flatKs_ok fs.toList 0 m cs ks hk (by rw [hlen, hC, this]; simp) (fun j f hj => by
      have hj' : fs[j]? = some f := by simpa using hj
      have hjl : j < xs.length := by rw [hxl]; exact (Array.getElem?_eq_some_iff.1 hj').1
      exact ⟨xs[j], by rw [hf j f hj']; exact List.getElem?_eq_getElem hjl⟩)
    simpa using q
  · cases hk

/-- A slice that came in, of elements without pointers. -/
theorem flat_row {t e : TypeId} {ks : List (Option IntKind)} (ht : P.underlying t = some (.slice e)) (hk : elKs P e = some ks) (hC : P.cellsOf e = ks.length) {fuel : Nat} {v : Value} {x : DataW H × List MemPlace}
    (hspot : ∀ a len cap, v = .slice (some a) len cap → a.spot = none) (h : DataW.trod enc P w base spare held fuel t [v] = some x) :
    ∃ es, RepP (FIn w) w (.lst es) v ∧ es.length ≤ maxLen ∧ ∀ y ∈ es, ksOk ks y := by
  rcases open_slice ht h with ⟨h0, _⟩ | ⟨a, len, cap, m, n, D, Pl, hcs, hb, hl, hm, hmm, hx, hi⟩
  · simp only [List.cons.injEq, and_true] at h0
    subst h0
    exact ⟨[], .nil, Nat.zero_le _, fun y hy => by simp at hy⟩
  · simp only [List.cons.injEq, and_true] at hcs
    subst hcs
    have hs := hspot a len cap rfl
    have hlm : len ≤ m := by rw [hmm]; split <;> omega
    have hE : ∀ i, ∃ cs' : List Value, i < len → (cs'.length = ks.length ∧ (∀ j, j < ks.length → w.cell? (a.add (i * ks.length + j)) = cs'[j]?) ∧ ksOk ks (cs'.map .sc) ∧ allSc cs') := fun i => by
      by_cases hi' : i < len
      · obtain ⟨cs', h1, h2⟩ := hi i (by omega)
        rw [hC] at h1
        obtain ⟨_, hcl, hat⟩ := World.cells?_some h1
        obtain ⟨q1, q2⟩ := elKs_ok hk hC h2
        exact ⟨cs', fun _ => ⟨hcl, fun j hj => by rw [← add_add]; exact hat j hj, q1, q2⟩⟩
      · exact ⟨[], fun h => absurd h hi'⟩
    obtain ⟨E, hE⟩ := Classical.axiomOfChoice hE
    have hget : ∀ (i : Nat) z, ((List.range len).map fun i => (E i).map Cell.sc)[i]? = some z → i < len ∧ z = (E i).map Cell.sc := fun i z hz => by
      rw [List.getElem?_map] at hz
      obtain ⟨i', h1, rfl⟩ := Option.map_eq_some_iff.1 hz
      obtain ⟨h2, h3⟩ := List.getElem?_eq_some_iff.1 h1
      simp at h2 h3
      subst h3
      exact ⟨h2, rfl⟩
    have hax : a = ⟨a.block, a.off, none⟩ := by cases a; simp only at hs; subst hs; rfl
    refine ⟨(List.range len).map fun i => (E i).map Cell.sc, ?_, by simp; omega, fun y hy => ?_⟩
    · have key := RepP.lst (F := FIn w) (w := w) (es := (List.range len).map fun i => (E i).map Cell.sc) (b := a.block) (off := a.off) (cap := cap) (sz := ks.length) (fun i j => (E i).getD j (.bool false))
        (fun i z hz => by
          obtain ⟨h1, rfl⟩ := hget i z hz
          rw [List.length_map]; exact (hE i h1).1)
        (fun i z hz j c hj => by
          obtain ⟨h1, rfl⟩ := hget i z hz
          obtain ⟨e1, e2, _, _⟩ := hE i h1
          rw [List.getElem?_map] at hj
          obtain ⟨u, hu, rfl⟩ := Option.map_eq_some_iff.1 hj
          have hjl : j < ks.length := by rw [← e1]; exact (List.getElem?_eq_some_iff.1 hu).1
          have hc := e2 j hjl
          rw [addr_add hs, hu] at hc
          rw [List.getD_eq_getElem?_getD, hu, Nat.add_assoc]
          exact ⟨cell_lt (a := ⟨a.block, a.off + (i * ks.length + j), none⟩) hc, hc⟩)
        (fun i z hz j c hj => by
          obtain ⟨h1, rfl⟩ := hget i z hz
          rw [List.getElem?_map] at hj
          obtain ⟨u, hu, rfl⟩ := Option.map_eq_some_iff.1 hj
          rw [List.getD_eq_getElem?_getD, hu]
          exact .sc ((hE i h1).2.2.2 u (List.mem_of_getElem? hu))) (by simp; exact hl) hm
      rw [show ((List.range len).map fun i => (E i).map Cell.sc).length = len by simp] at key
      rw [hax]
      exact key
    · obtain ⟨i, hi', rfl⟩ := List.mem_map.1 hy
      exact (hE i (by simpa using hi')).2.2.1
end
theorem cell_spot {P : Program} {w : World} {r : Reach} {b : Nat} {u : TypeId} {a : Addr} {len cap : Nat} (h : Cell.okWide P w r b u (.slice (some a) len cap)) : a.spot = none := by
  unfold Cell.okWide at h
  split at h
  all_goals first
    | (rename_i hh; cases hh; done)
    | (rename_i hh _; cases hh; done)
    | skip
  unfold Cell.ok at h
  split at h
  all_goals first
    | exact h.elim
    | (rename_i hh; cases hh; done)
    | (rename_i hh _; cases hh; done)
    | skip
  · rename_i hh
    simp only [Value.slice.injEq, Option.some.injEq] at hh
    obtain ⟨rfl, rfl, rfl⟩ := hh
    exact h.2.2.2.1
theorem struct_spots {P : Program} {w : World} {r : Reach} {b : Nat} {t : TypeId} {fs : Array Field} (ht : P.underlying t = some (.struct fs)) {v : Value} (h : Value.okWide P w r b t v) :
    ∃ us : List Value, v = .agg us.toArray ∧ us.length = P.cellsOf t ∧ ∀ u ∈ us, ∀ a len cap, u = .slice (some a) len cap → a.spot = none := by
  simp only [Value.okWide, ht] at h
  obtain ⟨cs, rfl, h2, ts, _, _, h5⟩ := h
  refine ⟨cs.toList, rfl, by simpa using h2, fun u hu a len cap e => ?_⟩
  obtain ⟨i, hi, rfl⟩ := List.getElem_of_mem hu
  obtain ⟨x, _, h6⟩ := h5 i cs.toList[i] (by simp at hi; simp [hi])
  rw [e] at h6
  exact cell_spot h6
/-- A struct of one-cell fields that came in: each field reads by itself. -/
theorem struct_arg {H : Type} {enc : TypeId × Value → H} {P : Program} {w : World} {base : Nat} {spare : Nat → Bool} {held : Bool} {r : Reach} {b : Nat} {t : TypeId} {fs : Array Field} (ht : P.underlying t = some (.struct fs)) (hone : oneCellFields P fs = true) (hC : P.cellsOf t = fs.size)
    {v : Value} {d : DataW H} {p : List MemPlace} (hv : Value.okWide P w r b t v) (h : DataW.Trod enc P w base spare held t v d p) :
    ∃ us : List Value, v = .agg us.toArray ∧ us.length = fs.size ∧ ∀ (j : Nat) f, fs[j]? = some f → ∃ u y n, us[j]? = some u ∧ DataW.trod enc P w base spare held n f.type [u] = some y ∧ ∀ a len cap, u = .slice (some a) len cap → a.spot = none := by
  obtain ⟨us, rfl, hl, hsp⟩ := struct_spots ht hv
  refine ⟨us, rfl, hl.trans hC, fun j f hj => ?_⟩
  obtain ⟨fuel, hf⟩ := h
  obtain ⟨xs, n, _, hx, _, hlen, hg⟩ := DataW.trod_struct ht hf
  obtain ⟨o0, k0⟩ := hone_of hone j f hj
  have hjl : j < fs.size := (Array.getElem?_eq_some_iff.1 hj).1
  have hju : j < us.length := by omega
  have q := hg j f hj
  rw [o0, k0] at q
  have e1 : ((Value.agg us.toArray).cells.toList.drop j).take 1 = [us[j]] := by
    show (us.drop j).take 1 = _
    rw [List.drop_eq_getElem_cons hju]
    rfl
  rw [e1] at q
  exact ⟨us[j], xs[j]'(by omega), n, List.getElem?_eq_getElem hju, by rw [q]; exact List.getElem?_eq_getElem (by omega), hsp _ (List.getElem_mem hju)⟩
/-- Elements of one form are a list's. -/
theorem all_form {α : Type} {f : α → List Cell} {p : List Cell → Prop} (hf : ∀ y, p y → ∃ a, y = f a) : ∀ {es : List (List Cell)}, (∀ y ∈ es, p y) → ∃ l : List α, es = l.map f
  | [], _ => ⟨[], rfl⟩
  | y :: r, h => by
    obtain ⟨a, rfl⟩ := hf y (h y (by simp))
    obtain ⟨l, rfl⟩ := all_form (es := r) hf (fun z hz => h z (List.mem_cons_of_mem _ hz))
    exact ⟨a :: l, rfl⟩
end Go.Abs
