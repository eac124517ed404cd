/- Proved here: what functions of the given program come to, and the plain laws of it; no condition but those in the theorems. -/
import Derived.Test.YtfhnicamjcfddaaGreatDoorAbsBA
import Derived.Test.YtfhnicamjcfddaaGreatDoorAbsDg
import Derived.Test.YtfhnicamjcfddaaGreatDoorAbsP
import Derived.Deep.Fields
/- Loops run out: an evaluator that unrolls loops, for calls at given values. -/
namespace Go.Abs
set_option linter.unusedVariables false
open Go.RowKit
section
variable {P : Program} {qc : Nat → Bool} {np : NPT} {N : Nat} {τ : List (Nat × TI)}
def unrQ (R : Exit → TK) (b : TK) : Exit → TK := fun e => match e with
  | .normal => b
  | e => R e
/-- The evaluator, each loop at most 'n' rounds. -/
def awpU (n : Nat) (τ : List (Nat × TI)) (np : NPT) (CK : Nat → KT) : Code → (Exit → TK) → TK
  | .skip, Q => Q .normal
  | .label _, Q => Q .normal
  | .region id ops draw, Q => (match draw with
    | true => drawC τ CK ops (npF np id) (Q .normal)
    | false => runC τ CK ops false (Q .normal) ops.toList [])
  | .seq a b, Q => awpU n τ np CK a (seqQ (awpU n τ np CK b Q) Q)
  | .cond c a b, Q => condK c (awpU n τ np CK a Q) (awpU n τ np CK b Q)
  | .block id c, Q => awpU n τ np CK c (blockQ id Q)
  | .loop c, Q => fun t m => ∃ t' m', Shift ⟨t', m'⟩ ⟨t, m⟩ ∧ (Nat.rec (motive := fun _ => TK) (fun _ _ => False) (fun _ ih => awpU n τ np CK c (unrQ Q ih)) n) t' m'
  | .exit id, Q => Q (.exit id)
  | .ret, Q => Q .ret
  | .scope c, Q => awpU n τ np CK c (scopeQ Q)
  | _, _ => fun _ _ => False
theorem awpU_ok {n : Nat} (hτ : TyOk P τ) {qc : Nat → Bool} {np : NPT} {CK : Nat → KT} (hCK : ∀ f args d m k, CK f args d m k → callK P qc f args d m k) {N : Nat} : ∀ {c : Code} (_ : codeOk qc np N c = true) {Q : Exit → List (Nat × AV) → Mem → Prop} {t : List (Nat × AV)} {m : Mem}, awpU n τ np CK c Q t m → awp P qc np (callK P qc) N c (fun e σ => Q e σ.t σ.m) ⟨t, m⟩ := by
  intro c
  induction c with
  | skip => intro _ Q t m h; exact h
  | label l => intro _ Q t m h; exact h
  | exit id => intro _ Q t m h; exact h
  | ret => intro _ Q t m h; exact h
  | region id ops draw => intro hc Q t m h; exact awpC_ok hτ hCK (c := .region id ops draw) hc h
  | seq x y ihx ihy =>
    intro hc Q t m h
    simp only [codeOk, Bool.and_eq_true] at hc
    show awp P qc np (callK P qc) N x _ _
    refine awp_mono (fun e σ h => ?_) (ihx hc.1 h)
    cases e with
    | normal => exact ihy hc.2 h
    | _ => exact h
  | cond c a b iha ihb =>
    intro hc Q t m h
    simp only [codeOk, Bool.and_eq_true] at hc
    unfold awpU condK at h
    unfold awp
    obtain ⟨x, h1, h2⟩ := evK_ok h
    split at h2
    · simp only [h1]
      exact ⟨fun e => iha hc.1 (h2.yes e), fun e => ihb hc.2 (h2.no e)⟩
    · exact h2.elim
  | block id c ih =>
    intro hc Q t m h
    show awp P qc np (callK P qc) N c _ _
    refine awp_mono (fun e σ h => ?_) (ih hc h)
    cases e with
    | exit i =>
      simp only [blockQ] at h ⊢
      cases hi : Nat.beq i id with
      | true => rw [hi] at h; rw [if_pos (natBeq hi)]; exact h
      | false => rw [hi] at h; rw [if_neg (natBeqF hi)]; exact h
    | _ => exact h
  | loop c ih =>
    intro hc Q t m h
    let U : Nat → TK := fun k => Nat.rec (fun _ _ => False) (fun _ ih => awpU n τ np CK c (unrQ Q ih)) k
    obtain ⟨t', m', hsh, h⟩ := h
    have h : U n t' m' := h
    refine ⟨Nat × St, fun x => x.2, fun x => U x.1 x.2.t x.2.m, fun x => x.1, (n, ⟨t', m'⟩), h, hsh, fun x hx => ?_⟩
    obtain ⟨k, σ⟩ := x
    cases k with
    | zero => exact hx.elim
    | succ k =>
      have hx : awpU n τ np CK c (unrQ Q (U k)) σ.t σ.m := hx
      refine awp_mono (fun e σ' h => ?_) (ih hc hx)
      cases e with
      | normal => exact ⟨(k, σ'), h, Shift.refl _, Nat.lt_succ_self k⟩
      | _ => exact h
  | rangeFunc f p a b _ _ => intro _ Q t m h; exact h.elim
  | scope c ih =>
    intro hc Q t m h
    show awp P qc np (callK P qc) N c _ _
    refine awp_mono (fun e σ h => ?_) (ih hc h)
    cases e with
    | goto l => exact h
    | _ => exact h
  | goto l => intro _ Q t m h; exact h.elim
  | refuse s => intro _ Q t m h; exact h.elim

theorem doesU_ex {n : Nat} {f : Nat} {fn : Func} {c : Code} {rs : Array ResultVar} {CK : Nat → KT} (hm : P.follows .mixedOrders = true) (hf : P.funcs[f]? = some fn) (hname : (fn.name == "runtime.NumGoroutine") = false) (hb : fn.body = some c) {N : Nat} (hn : fn.ntmps = N) (hrs : fn.results = rs) (hτ : TyOk P τ)
    (hcode : codeOk qc np N c = true) {args : List AV} {k : AV → Prop} (hCK : ∀ f args d m k, CK f args d m k → callK P qc f args d m k) (hsz : args.length ≤ N)
    (h : initK args fun t => awpU n τ np CK c (fun e t m => match e with
      | .normal => resK τ t m rs.toList fun l => purAsK m l fun l _ => k (oneOf l)
      | .ret => resK τ t m rs.toList fun l => purAsK m l fun l _ => k (oneOf l)
      | _ => False) t ⟨[], 0, []⟩) : ∃ r, Does P f args r ∧ k r := by
  obtain ⟨ef, σf, h1, h2⟩ := awp_det (awpU_ok hτ hCK hcode (initK_go h))
  have hef : (ef = .normal ∨ ef = .ret) ∧ resK τ σf.t σf.m rs.toList fun l => purAsK σf.m l fun l _ => k (oneOf l) := by
    cases ef with
    | normal => exact ⟨.inl rfl, h1⟩
    | ret => exact ⟨.inr rfl, h1⟩
    | _ => exact h1.elim
  obtain ⟨l, h3, h4⟩ := resK_ok hτ hef.2
  obtain ⟨l', m', h5, h6⟩ := purAsK_ok h4
  have hh : awp P qc np (callK P qc) N c (fun e σ => (match e with | .normal => True | .ret => True | _ => False) ∧ RetIs P fn σ (oneOf l')) ⟨initT args 0, ⟨[], 0, []⟩⟩ := by
    refine awp_mono ?_ h2
    rintro e σ ⟨rfl, rfl⟩
    refine ⟨?_, l, l', m', by rw [hrs]; exact h3, h5, rfl⟩
    rcases hef.1 with rfl | rfl <;> trivial
  exact ⟨oneOf l', spec_of (qc := qc) (np := np) (CK := callK P qc) hm hf hname hb hn (fun _ _ _ _ _ h => h) hsz hh, h6⟩

theorem doesBU_ex {n : Nat} {f : Nat} {fn : Func} {c : Code} {rs : Array ResultVar} {CK : Nat → KT} (hm : P.follows .mixedOrders = true) (hf : P.funcs[f]? = some fn) (hname : (fn.name == "runtime.NumGoroutine") = false) (hb : fn.body = some c) {N : Nat} (hn : fn.ntmps = N) (hrs : fn.results = rs) (hτ : TyOk P τ)
    (hcode : codeOk qc np N c = true) {args : List AV} {cs : List Cell} {k : AV → List Cell → Prop} (hCK : ∀ f args d m k, CK f args d m k → callK P qc f args d m k) (hsz : args.length + 1 ≤ N)
    (hno : noCs cs = true) (hna : noAs args = true)
    (h : initK (.c (.ptr (.x 0) 0) :: args) fun t => awpU n τ np CK c (fun e t mm => match e with
      | .normal => resK τ t mm rs.toList fun l => outAsK false mm l fun l mf => mgetK (.x 0) (fun o => match o with
        | .blk cs' => noA (oneOf l) = true ∧ noCs cs' = true ∧ k (oneOf l) cs'
        | _ => False) mf.o
      | .ret => resK τ t mm rs.toList fun l => outAsK false mm l fun l mf => mgetK (.x 0) (fun o => match o with
        | .blk cs' => noA (oneOf l) = true ∧ noCs cs' = true ∧ k (oneOf l) cs'
        | _ => False) mf.o
      | _ => False) t ⟨m1 cs, 0, []⟩) : ∃ r cs', DoesB P f cs args r cs' ∧ k r cs' := by
  obtain ⟨ef, σf, h1, h2⟩ := awp_det (awpU_ok hτ hCK hcode (initK_go h))
  have hef : (ef = .normal ∨ ef = .ret) ∧ resK τ σf.t σf.m rs.toList fun l => outAsK false σf.m l fun l mf => mgetK (.x 0) (fun o => match o with
        | .blk cs' => noA (oneOf l) = true ∧ noCs cs' = true ∧ k (oneOf l) cs'
        | _ => False) mf.o := by
    cases ef with
    | normal => exact ⟨.inl rfl, h1⟩
    | ret => exact ⟨.inr rfl, h1⟩
    | _ => exact h1.elim
  obtain ⟨l, h3, h4⟩ := resK_ok hτ hef.2
  obtain ⟨l', m', h5, h6⟩ := outAsK_ok h4
  obtain ⟨o, h7, h8⟩ := mgetK_ok h6
  split at h8
  · rename_i cs'
    obtain ⟨n1, n2, hk⟩ := h8
    have hh : awp P qc np (callK P qc) N c (fun e σ => (match e with | .normal => True | .ret => True | _ => False) ∧ RetM P false fn σ (fun rf mf => ∃ ρ, LeafM ρ (m1 cs) (m1 cs') (oneOf l') mf.o rf)) ⟨initT (.c (.ptr (.x 0) 0) :: args) 0, ⟨m1 cs, 0, []⟩⟩ := by
      refine awp_mono ?_ h2
      rintro e σ ⟨rfl, rfl⟩
      refine ⟨?_, l, l', m', by rw [hrs]; exact h3, h5, id, ?_⟩
      · rcases hef.1 with rfl | rfl <;> trivial
      · refine ⟨noA_ren n1, noA_in n1, fun i o' hi => ?_, fun i j _ _ e => e, fun _ _ => rfl⟩
        have hi0 := keys_m1.1 ⟨o', hi⟩
        subst hi0
        simp [m1, mget] at hi
        subst hi
        exact ⟨by rw [id, h7]; simp only [renO, noCs_ren n2], noCs_in n2⟩
    exact ⟨oneOf l', cs', ⟨⟨hno, hna, n1, n2⟩, spec_ofM (qc := qc) (np := np) (CK := callK P qc) (own := false) hm hf hname hb hn (fun i hi => ⟨0, keys_m1.1 hi⟩) (fun _ _ _ _ _ h => h) (by simpa using hsz) hh⟩, hk⟩
  · exact h8.elim

theorem doesGU_ex {n : Nat} {qc : Nat → Bool} {np : NPT} {f : Nat} {fn : Func} {c : Code} {rs : Array ResultVar} {CK : Nat → KT} (hm : P.follows .mixedOrders = true) (hf : P.funcs[f]? = some fn) (hname : (fn.name == "runtime.NumGoroutine") = false) (hb : fn.body = some c) {N : Nat} (hn : fn.ntmps = N) (hrs : fn.results = rs) (hτ : TyOk P τ)
    (hcode : codeOk qc np N c = true) {args : List AV} {os : List MObj} {k : AV → List MObj → Prop} (hCK : ∀ f args d m k, CK f args d m k → callK P qc f args d m k) (hsz : args.length ≤ N)
    (ha : xsAs os.length args = true) (ho : xsOs os.length os = true)
    (h : initK args fun t => awpU n τ np CK c (fun e t mm => match e with
      | .normal => resK τ t mm rs.toList fun l => outAsK false mm l fun l mf => getsK (xsN 0 os.length) mf.o fun os' => xsA os.length (oneOf l) = true ∧ xsOs os.length os' = true ∧ k (oneOf l) os'
      | .ret => resK τ t mm rs.toList fun l => outAsK false mm l fun l mf => getsK (xsN 0 os.length) mf.o fun os' => xsA os.length (oneOf l) = true ∧ xsOs os.length os' = true ∧ k (oneOf l) os'
      | _ => False) t ⟨mX os, 0, []⟩) : ∃ r os', DoesG P f args os r os' ∧ k r os' := by
  obtain ⟨ef, σf, h1, h2⟩ := awp_det (awpU_ok hτ hCK hcode (initK_go h))
  have hef : (ef = .normal ∨ ef = .ret) ∧ resK τ σf.t σf.m rs.toList fun l => outAsK false σf.m l fun l mf => getsK (xsN 0 os.length) mf.o fun os' => xsA os.length (oneOf l) = true ∧ xsOs os.length os' = true ∧ k (oneOf l) os' := by
    cases ef with
    | normal => exact ⟨.inl rfl, h1⟩
    | ret => exact ⟨.inr rfl, h1⟩
    | _ => exact h1.elim
  obtain ⟨l, h3, h4⟩ := resK_ok hτ hef.2
  obtain ⟨l', m', h5, h6⟩ := outAsK_ok h4
  obtain ⟨os', g1, g2, g3, g4, hk⟩ := getsK_ok h6
  rw [xsN_len] at g1
  have hD : KX os.length = fun i => keys (mX os) i ∨ keys (mX os') i := funext fun i => propext ⟨fun h => .inl (keys_mX.2 h), fun h => h.elim keys_mX.1 (fun h => by have := keys_mX.1 h; rwa [g1] at this)⟩
  have hh : awp P qc np (callK P qc) N c (fun e σ => (match e with | .normal => True | .ret => True | _ => False) ∧ RetM P false fn σ (fun rf mf => ∃ ρ, LeafM ρ (mX os) (mX os') (oneOf l') mf.o rf)) ⟨initT args 0, ⟨mX os, 0, []⟩⟩ := by
    refine awp_mono ?_ h2
    rintro e σ ⟨rfl, rfl⟩
    refine ⟨?_, l, l', m', by rw [hrs]; exact h3, h5, id, ?_⟩
    · rcases hef.1 with rfl | rfl <;> trivial
    · refine ⟨renA_id _, by rw [← hD]; exact xsA_ok g3, fun i o hi => ?_, fun i j _ _ e => e, fun _ _ => rfl⟩
      obtain ⟨n, e1, e2⟩ := mget_nameX.1 hi
      have hnl : n < os.length := by rw [← g1]; exact (List.getElem?_eq_some_iff.1 e2).1
      obtain ⟨x, e3, e4⟩ := g2 n _ (xsN_get hnl)
      rw [e2] at e3
      cases e3
      rw [renO_id, e1]
      exact ⟨e4, by rw [← hD]; exact xsO_ok (xsOs_get g4 e2)⟩
  exact ⟨oneOf l', os', ⟨⟨ha, ho, g3, g4, g1⟩, spec_ofM (qc := qc) (np := np) (CK := callK P qc) (own := false) hm hf hname hb hn (fun i hi => by obtain ⟨n, _, e⟩ := keys_mX.1 hi; exact ⟨n, e⟩) (fun _ _ _ _ _ h => h) hsz hh⟩, hk⟩

end
end Go.Abs

/- Arguments that come in: slices of numbers, truth values or flat structs, and structs of such. -/
namespace Go.Abs
open Go.RowKit Go.ChangeShapes Go.WideShapes Go.Deep

/-- What an element's cells are: a number of a kind, or a truth value. -/
def flatKs (P : Program) : Nat → List Field → Option (List (Option IntKind))
  | _, [] => some []
  | i, f :: r => if f.offset = i ∧ P.cellsOf f.type = 1 then (match P.underlying f.type with
    | some (.int k) => (flatKs P (i + 1) r).map (some k :: ·)
    | some .bool => (flatKs P (i + 1) r).map (none :: ·)
    | _ => none) else none
def elKs (P : Program) (e : TypeId) : Option (List (Option IntKind)) := match P.underlying e with
  | some (.int k) => some [some k]
  | some .bool => some [none]
  | some (.struct fs) => flatKs P 0 fs.toList
  | _ => none
def ksOk : List (Option IntKind) → List Cell → Prop
  | [], [] => True
  | some k :: ks, .sc (.int k' _) :: r => k' = k ∧ ksOk ks r
  | none :: ks, .sc (.bool _) :: r => ksOk ks r
  | _, _ => False
def allSc : List Value → Prop := fun l => ∀ u ∈ l, scalar u = true

section
variable {H : Type} {enc : TypeId × Value → H} {P : Program} {w : World} {base : Nat} {spare : Nat → Bool} {held : Bool}

theorem flatKs_ok : ∀ (l : List Field) (i n : Nat) (cs : List Value) (ks : List (Option IntKind)), flatKs P i l = some ks → cs.length = i + l.length →
    (∀ (j : Nat) f, l[j]? = some f → ∃ y, DataW.trod enc P w base spare held n f.type ((cs.drop f.offset).take (P.cellsOf f.type)) = some y) →
    ksOk ks ((cs.drop i).map .sc) ∧ allSc (cs.drop i)
  | [], i, n, cs, ks, h, hl, _ => by
    simp [flatKs] at h
    subst h
    rw [List.drop_eq_nil_of_le (by simp at hl; omega)]
    exact ⟨trivial, fun u hu => by simp at hu⟩
  | f :: r, i, n, cs, ks, h, hl, ht => by
    simp only [flatKs] at h
    split at h
    case isFalse => cases h
    rename_i hf
    obtain ⟨y, hy⟩ := ht 0 f rfl
    rw [hf.1, hf.2] at hy
    have hi : i < cs.length := by simp at hl; omega
    rw [List.drop_eq_getElem_cons hi] at hy ⊢
    have hy : DataW.trod enc P w base spare held n f.type [cs[i]] = some y := hy
    have ih := fun ks2 h2 => flatKs_ok r (i + 1) n cs ks2 h2 (by simp at hl; omega) fun j f' hj => ht (j + 1) f' (by simpa using hj)
    split at h
    · rename_i k hd
      obtain ⟨ks2, h2, rfl⟩ := Option.map_eq_some_iff.1 h
      obtain ⟨i1, i2⟩ := ih ks2 h2
      obtain ⟨m, hm, _⟩ := DataW.trod_int hd hy
      simp only [List.cons.injEq, and_true] at hm
      rw [hm]
      exact ⟨⟨rfl, i1⟩, fun u hu => by
        rcases List.mem_cons.1 hu with rfl | hu
        · rfl
        · exact i2 u hu⟩
    · rename_i hd
      obtain ⟨ks2, h2, rfl⟩ := Option.map_eq_some_iff.1 h
      obtain ⟨i1, i2⟩ := ih ks2 h2
      obtain ⟨b, hb, _⟩ := DataW.trod_bool hd hy
      simp only [List.cons.injEq, and_true] at hb
      rw [hb]
      exact ⟨i1, fun u hu => by
        rcases List.mem_cons.1 hu with rfl | hu
        · rfl
        · exact i2 u hu⟩
    · cases h

theorem elKs_ok {e : TypeId} {ks : List (Option IntKind)} (hk : elKs P e = some ks) (hC : P.cellsOf e = ks.length) {n : Nat} {cs : List Value} {y : DataW H × List MemPlace} (h : DataW.trod enc P w base spare held n e cs = some y) :
    ksOk ks (cs.map .sc) ∧ allSc cs := by
  unfold elKs at hk
  split at hk
  · rename_i k hd
    simp at hk; subst hk
    obtain ⟨m, rfl, _⟩ := DataW.trod_int hd h
    exact ⟨⟨rfl, trivial⟩, fun u hu => by simp at hu; subst hu; rfl⟩
  · rename_i hd
    simp at hk; subst hk
    obtain ⟨b, rfl, _⟩ := DataW.trod_bool hd h
    exact ⟨trivial, fun u hu => by simp at hu; subst hu; rfl⟩
  · rename_i fs hd
    obtain ⟨xs, m, _, _, hlen, hxl, hf⟩ := DataW.trod_struct hd h
    have hkl : ∀ (l : List Field) (i : Nat) (ks : List (Option IntKind)), flatKs P i l = some ks → ks.length = l.length := by
      intro l
      induction l with
      | nil => intro i ks h; simp [flatKs] at h; subst h; rfl
      | cons f r ih =>
        intro i ks h
        simp only [flatKs] at h
        split at h
        · split at h
          · obtain ⟨k2, h2, rfl⟩ := Option.map_eq_some_iff.1 h; simp [ih _ _ h2]
          · obtain ⟨k2, h2, rfl⟩ := Option.map_eq_some_iff.1 h; simp [ih _ _ h2]
          · cases h
        · cases h
    have := hkl _ _ _ hk
    have q := flatKs_ok fs.toList 0 m cs ks hk (by rw [hlen, hC, this]; simp) (fun j f hj => by
      have hj' : fs[j]? = some f := by simpa using hj
      have hjl : j < xs.length := by rw [hxl]; exact (Array.getElem?_eq_some_iff.1 hj').1
      exact ⟨xs[j], by rw [hf j f hj']; exact List.getElem?_eq_getElem hjl⟩)
    simpa using q
  · cases hk

/-- A slice that came in, of elements without pointers. -/
theorem flat_row {t e : TypeId} {ks : List (Option IntKind)} (ht : P.underlying t = some (.slice e)) (hk : elKs P e = some ks) (hC : P.cellsOf e = ks.length) {fuel : Nat} {v : Value} {x : DataW H × List MemPlace}
    (hspot : ∀ a len cap, v = .slice (some a) len cap → a.spot = none) (h : DataW.trod enc P w base spare held fuel t [v] = some x) :
    ∃ es, RepP (FIn w) w (.lst es) v ∧ es.length ≤ maxLen ∧ ∀ y ∈ es, ksOk ks y := by
  rcases open_slice ht h with ⟨h0, _⟩ | ⟨a, len, cap, m, n, D, Pl, hcs, hb, hl, hm, hmm, hx, hi⟩
  · simp only [List.cons.injEq, and_true] at h0
    subst h0
    exact ⟨[], .nil, Nat.zero_le _, fun y hy => by simp at hy⟩
  · simp only [List.cons.injEq, and_true] at hcs
    subst hcs
    have hs := hspot a len cap rfl
    have hlm : len ≤ m := by rw [hmm]; split <;> omega
    have hE : ∀ i, ∃ cs' : List Value, i < len → (cs'.length = ks.length ∧ (∀ j, j < ks.length → w.cell? (a.add (i * ks.length + j)) = cs'[j]?) ∧ ksOk ks (cs'.map .sc) ∧ allSc cs') := fun i => by
      by_cases hi' : i < len
      · obtain ⟨cs', h1, h2⟩ := hi i (by omega)
        rw [hC] at h1
        obtain ⟨_, hcl, hat⟩ := World.cells?_some h1
        obtain ⟨q1, q2⟩ := elKs_ok hk hC h2
        exact ⟨cs', fun _ => ⟨hcl, fun j hj => by rw [← add_add]; exact hat j hj, q1, q2⟩⟩
      · exact ⟨[], fun h => absurd h hi'⟩
    obtain ⟨E, hE⟩ := Classical.axiomOfChoice hE
    have hget : ∀ (i : Nat) z, ((List.range len).map fun i => (E i).map Cell.sc)[i]? = some z → i < len ∧ z = (E i).map Cell.sc := fun i z hz => by
      rw [List.getElem?_map] at hz
      obtain ⟨i', h1, rfl⟩ := Option.map_eq_some_iff.1 hz
      obtain ⟨h2, h3⟩ := List.getElem?_eq_some_iff.1 h1
      simp at h2 h3
      subst h3
      exact ⟨h2, rfl⟩
    have hax : a = ⟨a.block, a.off, none⟩ := by cases a; simp only at hs; subst hs; rfl
    refine ⟨(List.range len).map fun i => (E i).map Cell.sc, ?_, by simp; omega, fun y hy => ?_⟩
    · have key := RepP.lst (F := FIn w) (w := w) (es := (List.range len).map fun i => (E i).map Cell.sc) (b := a.block) (off := a.off) (cap := cap) (sz := ks.length) (fun i j => (E i).getD j (.bool false))
        (fun i z hz => by
          obtain ⟨h1, rfl⟩ := hget i z hz
          rw [List.length_map]; exact (hE i h1).1)
        (fun i z hz j c hj => by
          obtain ⟨h1, rfl⟩ := hget i z hz
          obtain ⟨e1, e2, _, _⟩ := hE i h1
          rw [List.getElem?_map] at hj
          obtain ⟨u, hu, rfl⟩ := Option.map_eq_some_iff.1 hj
          have hjl : j < ks.length := by rw [← e1]; exact (List.getElem?_eq_some_iff.1 hu).1
          have hc := e2 j hjl
          rw [addr_add hs, hu] at hc
          rw [List.getD_eq_getElem?_getD, hu, Nat.add_assoc]
          exact ⟨cell_lt (a := ⟨a.block, a.off + (i * ks.length + j), none⟩) hc, hc⟩)
        (fun i z hz j c hj => by
          obtain ⟨h1, rfl⟩ := hget i z hz
          rw [List.getElem?_map] at hj
          obtain ⟨u, hu, rfl⟩ := Option.map_eq_some_iff.1 hj
          rw [List.getD_eq_getElem?_getD, hu]
          exact .sc ((hE i h1).2.2.2 u (List.mem_of_getElem? hu))) (by simp; exact hl) hm
      rw [show ((List.range len).map fun i => (E i).map Cell.sc).length = len by simp] at key
      rw [hax]
      exact key
    · obtain ⟨i, hi', rfl⟩ := List.mem_map.1 hy
      exact (hE i (by simpa using hi')).2.2.1
end
theorem cell_spot {P : Program} {w : World} {r : Reach} {b : Nat} {u : TypeId} {a : Addr} {len cap : Nat} (h : Cell.okWide P w r b u (.slice (some a) len cap)) : a.spot = none := by
  unfold Cell.okWide at h
  split at h
  all_goals first
    | (rename_i hh; cases hh; done)
    | (rename_i hh _; cases hh; done)
    | skip
  unfold Cell.ok at h
  split at h
  all_goals first
    | exact h.elim
    | (rename_i hh; cases hh; done)
    | (rename_i hh _; cases hh; done)
    | skip
  · rename_i hh
    simp only [Value.slice.injEq, Option.some.injEq] at hh
    obtain ⟨rfl, rfl, rfl⟩ := hh
    exact h.2.2.2.1
theorem struct_spots {P : Program} {w : World} {r : Reach} {b : Nat} {t : TypeId} {fs : Array Field} (ht : P.underlying t = some (.struct fs)) {v : Value} (h : Value.okWide P w r b t v) :
    ∃ us : List Value, v = .agg us.toArray ∧ us.length = P.cellsOf t ∧ ∀ u ∈ us, ∀ a len cap, u = .slice (some a) len cap → a.spot = none := by
  simp only [Value.okWide, ht] at h
  obtain ⟨cs, rfl, h2, ts, _, _, h5⟩ := h
  refine ⟨cs.toList, rfl, by simpa using h2, fun u hu a len cap e => ?_⟩
  obtain ⟨i, hi, rfl⟩ := List.getElem_of_mem hu
  obtain ⟨x, _, h6⟩ := h5 i cs.toList[i] (by simp at hi; simp [hi])
  rw [e] at h6
  exact cell_spot h6
/-- A struct of one-cell fields that came in: each field reads by itself. -/
theorem struct_arg {H : Type} {enc : TypeId × Value → H} {P : Program} {w : World} {base : Nat} {spare : Nat → Bool} {held : Bool} {r : Reach} {b : Nat} {t : TypeId} {fs : Array Field} (ht : P.underlying t = some (.struct fs)) (hone : oneCellFields P fs = true) (hC : P.cellsOf t = fs.size)
    {v : Value} {d : DataW H} {p : List MemPlace} (hv : Value.okWide P w r b t v) (h : DataW.Trod enc P w base spare held t v d p) :
    ∃ us : List Value, v = .agg us.toArray ∧ us.length = fs.size ∧ ∀ (j : Nat) f, fs[j]? = some f → ∃ u y n, us[j]? = some u ∧ DataW.trod enc P w base spare held n f.type [u] = some y ∧ ∀ a len cap, u = .slice (some a) len cap → a.spot = none := by
  obtain ⟨us, rfl, hl, hsp⟩ := struct_spots ht hv
  refine ⟨us, rfl, hl.trans hC, fun j f hj => ?_⟩
  obtain ⟨fuel, hf⟩ := h
  obtain ⟨xs, n, _, hx, _, hlen, hg⟩ := DataW.trod_struct ht hf
  obtain ⟨o0, k0⟩ := hone_of hone j f hj
  have hjl : j < fs.size := (Array.getElem?_eq_some_iff.1 hj).1
  have hju : j < us.length := by omega
  have q := hg j f hj
  rw [o0, k0] at q
  have e1 : ((Value.agg us.toArray).cells.toList.drop j).take 1 = [us[j]] := by
    show (us.drop j).take 1 = _
    rw [List.drop_eq_getElem_cons hju]
    rfl
  rw [e1] at q
  exact ⟨us[j], xs[j]'(by omega), n, List.getElem?_eq_getElem hju, by rw [q]; exact List.getElem?_eq_getElem (by omega), hsp _ (List.getElem_mem hju)⟩
/-- Elements of one form are a list's. -/
theorem all_form {α : Type} {f : α → List Cell} {p : List Cell → Prop} (hf : ∀ y, p y → ∃ a, y = f a) : ∀ {es : List (List Cell)}, (∀ y ∈ es, p y) → ∃ l : List α, es = l.map f
  | [], _ => ⟨[], rfl⟩
  | y :: r, h => by
    obtain ⟨a, rfl⟩ := hf y (h y (by simp))
    obtain ⟨l, rfl⟩ := all_form (es := r) hf (fun z hz => h z (List.mem_cons_of_mem _ hz))
    exact ⟨a :: l, rfl⟩
end Go.Abs
