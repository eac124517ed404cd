/- A function that is given listed names and hands back two new objects that may name them: a closure with its boxes. -/
import Derived.Test.YthkimpoeiighoaaAbsRs
namespace Go.Abs
open Go.RowKit
set_option linter.unusedVariables false
set_option linter.unusedSimpArgs false
section
variable {D : Id → Prop} {ρ ρ' : Id → Id}
mutual
theorem renC_congr (h : ∀ i, D i → ρ i = ρ' i) : ∀ {c : Cell}, inC D c → renC ρ c = renC ρ' c
  | .sc _, _ => rfl
  | .lst _, _ => rfl
  | .full _, _ => rfl
  | .view _ _ _, hc => by simp only [renC, h _ hc]
  | .ptr _ _, hc => by simp only [renC, h _ hc]
  | .aptr _ _ _, hc => by simp only [renC, h _ hc]
  | .pel _, _ => rfl
  | .fn _ caps, hc => by simp only [renC, renCs_congr h (l := caps) hc]
theorem renCs_congr (h : ∀ i, D i → ρ i = ρ' i) : ∀ {l : List Cell}, inCs D l → renCs ρ l = renCs ρ' l
  | [], _ => rfl
  | c :: r, hc => by simp only [renCs, renC_congr h hc.1, renCs_congr h hc.2]
end
mutual
theorem renA_congr (h : ∀ i, D i → ρ i = ρ' i) : ∀ {x : AV}, inA D x → renA ρ x = renA ρ' x
  | .c _, hc => by simp only [renA, renC_congr h hc]
  | .agg _, hc => by simp only [renA, renCs_congr h hc]
  | .tup l, hc => by simp only [renA, renAs_congr h (l := l) hc]
theorem renAs_congr (h : ∀ i, D i → ρ i = ρ' i) : ∀ {l : List AV}, inAs D l → renAs ρ l = renAs ρ' l
  | [], _ => rfl
  | c :: r, hc => by simp only [renAs, renA_congr h hc.1, renAs_congr h hc.2]
end
theorem renO_congr (h : ∀ i, D i → ρ i = ρ' i) {o : MObj} (hc : inO D o) : renO ρ o = renO ρ' o := by
  cases o with
  | blk cs => simp only [renO, renCs_congr h (l := cs) hc]
  | arr _ _ _ _ => rfl
end
section
variable {P : Program} {τ : List (Nat × TI)}
/-! Renamed objects and values, told out. -/
def forceId : Id → (Id → Prop) → Prop
  | .x n, k => k (.x n)
  | .l s n, k => k (.l s n)
theorem forceId_ok : ∀ {i : Id} {k : Id → Prop}, forceId i k → k i
  | .x _, _, h => h
  | .l _ _, _, h => h
mutual
def forceC : Cell → (Cell → Prop) → Prop
  | .view o lo n, k => forceId o fun o => k (.view o lo n)
  | .ptr i off, k => forceId i fun i => k (.ptr i off)
  | .aptr o i n, k => forceId o fun o => k (.aptr o i n)
  | .fn f caps, k => forceCs caps fun caps => k (.fn f caps)
  | .sc v, k => k (.sc v)
  | .lst es, k => k (.lst es)
  | .full es, k => k (.full es)
  | .pel cs, k => k (.pel cs)
def forceCs : List Cell → (List Cell → Prop) → Prop
  | [], k => k []
  | c :: r, k => forceC c fun c => forceCs r fun r => k (c :: r)
end
mutual
theorem forceC_ok : ∀ {c : Cell} {k : Cell → Prop}, forceC c k → k c
  | .view o lo n, k, h => forceId_ok (k := fun o => k (.view o lo n)) h
  | .ptr i off, k, h => forceId_ok (k := fun i => k (.ptr i off)) h
  | .aptr o i n, k, h => forceId_ok (k := fun o => k (.aptr o i n)) h
  | .fn f caps, k, h => forceCs_ok (l := caps) (k := fun caps => k (.fn f caps)) h
  | .sc _, _, h => h
  | .lst _, _, h => h
  | .full _, _, h => h
  | .pel _, _, h => h
theorem forceCs_ok : ∀ {l : List Cell} {k : List Cell → Prop}, forceCs l k → k l
  | [], _, h => h
  | c :: r, k, h => forceCs_ok (l := r) (k := fun r => k (c :: r)) (forceC_ok (c := c) (k := fun c => forceCs r fun r => k (c :: r)) h)
end
def forceO : MObj → (MObj → Prop) → Prop
  | .blk cs, k => forceCs cs fun cs => k (.blk cs)
  | .arr e sz es fr, k => k (.arr e sz es fr)
theorem forceO_ok : ∀ {o : MObj} {k : MObj → Prop}, forceO o k → k o
  | .blk cs, k, h => forceCs_ok (k := fun cs => k (.blk cs)) h
  | .arr _ _ _ _, _, h => h
def forceOs : List MObj → (List MObj → Prop) → Prop
  | [], k => k []
  | o :: r, k => forceO o fun o => forceOs r fun r => k (o :: r)
theorem forceOs_ok : ∀ {l : List MObj} {k : List MObj → Prop}, forceOs l k → k l
  | [], _, h => h
  | o :: r, k, h => forceOs_ok (l := r) (k := fun r => k (o :: r)) (forceO_ok (o := o) (k := fun o => forceOs r fun r => k (o :: r)) h)
mutual
def forceV : AV → (AV → Prop) → Prop
  | .c c, k => forceC c fun c => k (.c c)
  | .agg cs, k => forceCs cs fun cs => k (.agg cs)
  | .tup l, k => forceVs l fun l => k (.tup l)
def forceVs : List AV → (List AV → Prop) → Prop
  | [], k => k []
  | x :: r, k => forceV x fun x => forceVs r fun r => k (x :: r)
end
mutual
theorem forceV_ok : ∀ {x : AV} {k : AV → Prop}, forceV x k → k x
  | .c c, k, h => forceC_ok (c := c) (k := fun c => k (.c c)) h
  | .agg cs, k, h => forceCs_ok (l := cs) (k := fun cs => k (.agg cs)) h
  | .tup l, k, h => forceVs_ok (l := l) (k := fun l => k (.tup l)) h
theorem forceVs_ok : ∀ {l : List AV} {k : List AV → Prop}, forceVs l k → k l
  | [], _, h => h
  | x :: r, k, h => forceVs_ok (l := r) (k := fun r => k (x :: r)) (forceV_ok (x := x) (k := fun x => forceVs r fun r => k (x :: r)) h)
end
structure WfH (args : List AV) (os : List MObj) (r : AV) (os' : List MObj) : Prop where
  r : xsA (os.length + 2) r = true
  o' : xsOs (os.length + 2) os' = true
  len : os'.length = os.length + 2
def DoesH (P : Program) (f : Nat) (args : List AV) (os : List MObj) (r : AV) (os' : List MObj) : Prop := WfH args os r os' ∧ DoesM P f args (mX os) r (mX os')
def FunH (P : Program) (f : Nat) (R : RG) : Prop := ∀ args os k, R args os k → ∃ r os', DoesH P f args os r os' ∧ k r os'
def nsH (ns : List Id) (d nx : Nat) : List Id := ns ++ [.l d nx, .l (nxt d) nx]
def useK (d : Nat) (m : Mem) (o : List (Id × MObj)) (k : Mem → Prop) : Prop := match m with
  | ⟨_, nx, us⟩ => k ⟨o, nx, d :: us⟩
def cH (R : RG) : KT := fun args d m k => match d with
  | none => False
  | some d => nxK m fun nx => ∃ ns : List Id, nodupI (nsH ns d nx) = true ∧ selAsK ns m args fun args' m1 => lsAs ns args' = true ∧ getsK ns m1.o fun os => lsOs ns os = true ∧
    R (renAs (toX ns) args') (mapO (toX ns) os) fun r os' => forceOs (mapO (ofX (nsH ns d nx)) os') fun os' => setsK (nsH ns d nx) os' m1.o fun o' => useK d m1 o' fun m' => forceV (renA (ofX (nsH ns d nx)) r) fun r => k r m' ⟨[], nsH ns d nx ++ idsAs args, true⟩

theorem nodup_left : ∀ {a b : List Id}, nodupI (a ++ b) = true → nodupI a = true
  | [], _, _ => rfl
  | i :: r, b, h => by
    simp only [List.cons_append, nodupI] at h ⊢
    split at h
    · cases h
    · rename_i e
      cases e2 : inI i r with
      | true => rw [inI_append.2 (.inl e2)] at e; cases e
      | false => exact nodup_left h
theorem fm_use {R W : List Id} {d : Nat} {m1 M M1 : Mem} (u : UpdW W m1 M M1) : fm { M1 with us := d :: M1.us } = updF ⟨R, W, true⟩ (some d) (fm { m1 with us := d :: m1.us }) (fm M) :=
  fm_ext (fun i => u.o i) u.nx (fun s => by
    simp only [fm, updF, memU, isD, u.us, Bool.true_and]
    cases Nat.beq s d <;> simp)

theorem cH_ok {f : Nat} {qc : Nat → Bool} {R : RG} (h : FunH P f R) (hq : qc f = false) : KOk P qc f (cH R) := fun args d m k hk => by
  unfold cH at hk
  split at hk
  · exact hk.elim
  rename_i d
  have hk : ∃ ns : List Id, nodupI (nsH ns d m.nx) = true ∧ selAsK ns m args fun args' m1 => lsAs ns args' = true ∧ getsK ns m1.o fun os => lsOs ns os = true ∧
    R (renAs (toX ns) args') (mapO (toX ns) os) fun r os' => forceOs (mapO (ofX (nsH ns d m.nx)) os') fun os' => setsK (nsH ns d m.nx) os' m1.o fun o' => useK d m1 o' fun m' => forceV (renA (ofX (nsH ns d m.nx)) r) fun r => k r m' ⟨[], nsH ns d m.nx ++ idsAs args, true⟩ := by cases m; exact hk
  obtain ⟨ns, hnd, hk⟩ := hk
  obtain ⟨args', m2, h1, hla, hk⟩ := selAsK_ok hk
  obtain ⟨os, hl1, hg, hlo, hk⟩ := getsK_ok hk
  obtain ⟨r, os', ⟨wf, hd⟩, hk⟩ := h _ _ _ hk
  have hk := setsK_ok (forceOs_ok hk)
  unfold useK at hk
  have hk := forceV_ok hk
  have hn := nodup_left hnd
  have hlx : (mapO (toX ns) os).length = ns.length := getD_len hl1
  have hnl : (nsH ns d m.nx).length = ns.length + 2 := by simp [nsH]
  have hl' : os'.length = (nsH ns d m.nx).length := by rw [wf.len, hlx, hnl]
  have hlm : (mapO (ofX (nsH ns d m.nx)) os').length = (nsH ns d m.nx).length := by rw [mapO_len, hl']
  have hl := selAs_loc h1
  have hu := updW_sets (ns := nsH ns d m.nx) (l := mapO (ofX (nsH ns d m.nx)) os') hlm hl.self
  have hnx0 : m2.nx = m.nx := hl.self.nx
  obtain ⟨mo, mn, mu⟩ := m2
  simp only at hnx0
  subst hnx0
  refine ⟨_, { o := sets (nsH ns d m.nx) (mapO (ofX (nsH ns d m.nx)) os') mo, nx := m.nx, us := d :: mu }, _, ⟨fm_use hu, fun M hM hf => ?_⟩, (fun e => by rw [hq] at e; cases e), hk⟩
  obtain ⟨M2, g1, g2⟩ := hl.all M fun j hj => hM.1 j (.inr (inI_append.2 (.inr hj)))
  have hnx : M2.nx = m.nx := g2.nx.trans hM.2
  have hg2 : ∀ (j : Nat) i, ns[j]? = some i → ∃ x, os[j]? = some x ∧ mget M2.o i = some x := fun j i hj => by
    obtain ⟨x, e1, e2⟩ := hg j i hj
    refine ⟨x, e1, ?_⟩
    rw [g2.o i, ← e2]
    by_cases e : inI i (idsAs args) = true
    · rw [if_pos e]
    · rw [if_neg e, hl.self.o i, if_neg e]; exact hM.1 i (.inr (inI_append.2 (.inl (by unfold nsH; exact inI_append.2 (.inl (inI_get hj))))))
  have hus : memU d M2.us = false := by rw [g2.us]; exact hf
  refine ⟨{ M2 with o := sets (nsH ns d m.nx) (mapO (ofX (nsH ns d m.nx)) os') M2.o, us := d :: M2.us }, ?_, fm_use (updW_sets hlm g2)⟩
  refine callSem_sel g1 ?_
  obtain ⟨ha1, ha2⟩ := lsAs_ok hla
  have sub : ∀ {k : Nat} {i : Id}, ns[k]? = some i → (nsH ns d m.nx)[k]? = some i := fun {k i} e => by
    unfold nsH
    rw [List.getElem?_append_left (List.getElem?_eq_some_iff.1 e).1]; exact e
  have ofs : ∀ {i : Id}, KX ns.length i → ofX (nsH ns d m.nx) i = ofX ns i := fun {i} ⟨k, hk, e⟩ => by
    subst e
    rw [ofX_x (sub (List.getElem?_eq_getElem hk)), ofX_x (List.getElem?_eq_getElem hk)]
  have kx : ∀ i, keys (mX (mapO (toX ns) os)) i ↔ KX ns.length i := fun i => by rw [keys_mX, hlx]
  have kx' : ∀ i, keys (mX os') i ↔ KX (ns.length + 2) i := fun i => by rw [keys_mX, hl', hnl]
  have inK : KX ns.length = keys (mX (mapO (toX ns) os)) := funext fun i => propext (kx i).symm
  have hof : ∀ i, KX (ns.length + 2) i → ∃ n, i = .x n ∧ n < ns.length + 2 ∧ (nsH ns d m.nx)[n]? = some (ofX (nsH ns d m.nx) i) := fun i ⟨n, hn, e⟩ => by
    subst e
    have hn' : n < (nsH ns d m.nx).length := by omega
    exact ⟨n, rfl, hn, by rw [ofX_x (List.getElem?_eq_getElem hn')]; exact List.getElem?_eq_getElem hn'⟩
  have kx2 : ∀ i, KX ns.length i → KX (ns.length + 2) i := fun i ⟨k, hk, e⟩ => ⟨k, by omega, e⟩
  have hD : (fun i => keys (mX (mapO (toX ns) os)) i ∨ keys (mX os') i) = KX (ns.length + 2) := funext fun i => propext ⟨fun h => h.elim (fun h => kx2 i ((kx i).1 h)) (kx' i).1, fun h => .inr ((kx' i).2 h)⟩
  have ren_args : renAs (ofX (nsH ns d m.nx)) (renAs (toX ns) args') = args' := by
    have := renAs_congr (l := renAs (toX ns) args') (D := KX ns.length) (ρ := ofX (nsH ns d m.nx)) (ρ' := ofX ns) (fun i hi => ofs hi) ha2
    rw [this, ha1]
  have hc := callM (ρ := ofX (nsH ns d m.nx)) (M := M2) (M' := { M2 with o := sets (nsH ns d m.nx) (mapO (ofX (nsH ns d m.nx)) os') M2.o, us := d :: M2.us }) hd ⟨fun i o hi => ?_, fun j o hj => ?_, fun i a b => ?_, fun a b ha hb e => ?_, fun s k hh => ?_⟩ (by rw [← inK]; exact ha2) (by rw [hD]; have := xsA_ok wf.r; rwa [hlx] at this)
  · rw [ren_args] at hc
    exact hc
  · obtain ⟨n, e1, e2⟩ := mget_nameX.1 hi
    rw [mapO_get] at e2
    obtain ⟨x, e3, rfl⟩ := Option.map_eq_some_iff.1 e2
    have hnl : n < ns.length := by rw [← hl1]; exact (List.getElem?_eq_some_iff.1 e3).1
    obtain ⟨y, e4, e5⟩ := hg2 n ns[n] (List.getElem?_eq_getElem hnl)
    rw [e3] at e4
    cases e4
    obtain ⟨q1, q2⟩ := lsO_ok (lsOs_get hlo e3)
    refine ⟨?_, by rw [← inK]; exact q2⟩
    rw [renO_congr (D := KX ns.length) (ρ' := ofX ns) (fun i hi => ofs hi) q2, q1, e1, Nat.zero_add, ofX_x (sub (List.getElem?_eq_getElem hnl))]
    exact e5
  · obtain ⟨s1, s2⟩ := mget_sets (ns := nsH ns d m.nx) (l := mapO (ofX (nsH ns d m.nx)) os') (o := M2.o) (j := j) hlm hnd
    cases e : inI j (nsH ns d m.nx) with
    | true =>
      obtain ⟨n, hp⟩ := posI_in (n := 0) e
      obtain ⟨_, hp⟩ := posI_spec hp
      rw [Nat.sub_zero] at hp
      have hj' := s1 n hp
      rw [show mget (sets (nsH ns d m.nx) (mapO (ofX (nsH ns d m.nx)) os') M2.o) j = some o from hj, mapO_get] at hj'
      obtain ⟨x, e3, e4⟩ := Option.map_eq_some_iff.1 hj'.symm
      exact .inl ⟨.x n, x, mget_nameX.2 ⟨n, by congr 1; omega, e3⟩, ofX_x hp, e4.symm, by rw [hD]; have := xsO_ok (xsOs_get wf.o' e3); rwa [hlx] at this⟩
    | false =>
      refine .inr ⟨by rw [← s2 e]; exact hj, fun i hi e' => ?_⟩
      obtain ⟨n, _, _, h3⟩ := hof i (kx2 i ((kx i).1 hi))
      rw [e'] at h3
      rw [inI_get h3] at e
      cases e
  · obtain ⟨n, rfl, h2, h3⟩ := hof i ((kx' i).1 a)
    have hge : ns.length ≤ n := Nat.le_of_not_lt fun hlt => b ((kx _).2 ⟨n, hlt, rfl⟩)
    have hn2 : n = ns.length ∨ n = ns.length + 1 := by omega
    rcases hn2 with rfl | rfl
    · refine ⟨d, m.nx, ?_, by rw [← hnx]; exact not_used hus, .inr ⟨hnx.symm, usd_self hus⟩⟩
      rw [show (nsH ns d m.nx)[ns.length]? = some (.l d m.nx) by simp [nsH]] at h3
      exact (Option.some.inj h3).symm
    · refine ⟨nxt d, m.nx, ?_, by rw [← hnx]; exact not_used' hus, .inr ⟨hnx.symm, usd_next hus⟩⟩
      rw [show (nsH ns d m.nx)[ns.length + 1]? = some (.l (nxt d) m.nx) by simp [nsH]] at h3
      exact (Option.some.inj h3).symm
  · have ha' : KX (ns.length + 2) a := ha.elim (fun h => kx2 a ((kx a).1 h)) (kx' a).1
    have hb' : KX (ns.length + 2) b := hb.elim (fun h => kx2 b ((kx b).1 h)) (kx' b).1
    obtain ⟨n, rfl, _, h3⟩ := hof a ha'
    obtain ⟨n', rfl, _, h4⟩ := hof b hb'
    rw [← e] at h4
    rw [nodup_get hnd h3 h4]
  · rcases hh with h | ⟨h, h'⟩
    · exact .inl h
    · exact .inr ⟨h, usd_cons h'⟩

/-- Results that name two new objects. -/
def resH (n : Nat) (k : AV → List MObj → Prop) (l : List AV) (m : Mem) : Prop := ∃ i1 i2, nodupI (xsN 0 n ++ [i1, i2]) = true ∧ selAsK (xsN 0 n ++ [i1, i2]) m l fun l mf => lsAs (xsN 0 n ++ [i1, i2]) l = true ∧ getsK (xsN 0 n ++ [i1, i2]) mf.o fun os' => lsOs (xsN 0 n ++ [i1, i2]) os' = true ∧
  xsA (n + 2) (renA (toX (xsN 0 n ++ [i1, i2])) (oneOf l)) = true ∧ xsOs (n + 2) (mapO (toX (xsN 0 n ++ [i1, i2])) os') = true ∧ k (renA (toX (xsN 0 n ++ [i1, i2])) (oneOf l)) (mapO (toX (xsN 0 n ++ [i1, i2])) os')
theorem doesH_ex {qc : Nat → Bool} {np : NPT} {f : Nat} {fn : Func} {c : Code} {rs : Array ResultVar} {CK : Nat → KT} (hm : P.follows .mixedOrders = true) (hf : P.funcs[f]? = some fn) (hname : (fn.name == "runtime.NumGoroutine") = false) (hb : fn.body = some c) {N : Nat} (hn : fn.ntmps = N) (hrs : fn.results = rs) (hτ : TyOk P τ)
    (hcode : codeOk qc np N c = true) {args : List AV} {os : List MObj} {k : AV → List MObj → Prop} (hCK : ∀ f args d m k, CK f args d m k → callK P qc f args d m k) (hsz : args.length ≤ N)
    (h : initK args fun t => awpC τ np CK c (fun e t mm => match e with
      | .normal => resK τ t mm rs.toList fun l => resH os.length k l mm
      | .ret => resK τ t mm rs.toList fun l => resH os.length k l mm
      | _ => False) t ⟨mX os, 0, []⟩) : ∃ r os', DoesH P f args os r os' ∧ k r os' := by
  obtain ⟨ef, σf, h1, h2⟩ := awp_det (awpC_ok hτ hCK hcode (initK_go h))
  have hef : (ef = .normal ∨ ef = .ret) ∧ resK τ σf.t σf.m rs.toList fun l => resH os.length k l σf.m := by
    cases ef with
    | normal => exact ⟨.inl rfl, h1⟩
    | ret => exact ⟨.inr rfl, h1⟩
    | _ => exact h1.elim
  obtain ⟨l, h3, i1, i2, hnd, h4⟩ := resK_ok hτ hef.2
  obtain ⟨l', m', h5, hls, h6⟩ := selAsK_ok h4
  obtain ⟨os', g1, g2, g3, g4, g5, hk⟩ := getsK_ok h6
  have hnl : (xsN 0 os.length ++ [i1, i2]).length = os.length + 2 := by simp [xsN_len]
  have hone : ∀ {ns : List Id} {l : List AV}, lsAs ns l = true → lsA ns (oneOf l) = true := fun {ns l} h => by
    match l, h with
    | [], _ => rfl
    | [x], h =>
      simp only [lsAs] at h
      split at h
      · rename_i e; exact e
      · cases h
    | x :: y :: r, h => exact h
  obtain ⟨q1, q2⟩ := lsA_ok (hone hls)
  have hlo : (mapO (toX (xsN 0 os.length ++ [i1, i2])) os').length = os.length + 2 := by rw [mapO_len, g1, hnl]
  have kx : ∀ i, keys (mX os) i ↔ KX os.length i := fun i => keys_mX
  have kx' : ∀ i, keys (mX (mapO (toX (xsN 0 os.length ++ [i1, i2])) os')) i ↔ KX (os.length + 2) i := fun i => by rw [keys_mX, hlo]
  have hD : (fun i => keys (mX os) i ∨ keys (mX (mapO (toX (xsN 0 os.length ++ [i1, i2])) os')) i) = KX (os.length + 2) := funext fun i => propext ⟨fun h => h.elim (fun h => by obtain ⟨k, hk, e⟩ := (kx i).1 h; exact ⟨k, by omega, e⟩) (kx' i).1, fun h => .inr ((kx' i).2 h)⟩
  have hof : ∀ {n : Nat}, n < os.length + 2 → (xsN 0 os.length ++ [i1, i2])[n]? = some (ofX (xsN 0 os.length ++ [i1, i2]) (.x n)) := fun {n} hn => by
    have hn' : n < (xsN 0 os.length ++ [i1, i2]).length := by omega
    rw [ofX_x (List.getElem?_eq_getElem hn')]; exact List.getElem?_eq_getElem hn'
  have hh : awp P qc np (callK P qc) N c (fun e σ => (match e with | .normal => True | .ret => True | _ => False) ∧ RetS P (xsN 0 os.length ++ [i1, i2]) fn σ (fun rf mf => ∃ ρ, LeafM ρ (mX os) (mX (mapO (toX (xsN 0 os.length ++ [i1, i2])) os')) (renA (toX (xsN 0 os.length ++ [i1, i2])) (oneOf l')) mf.o rf)) ⟨initT args 0, ⟨mX os, 0, []⟩⟩ := by
    refine awp_mono ?_ h2
    rintro e σ ⟨rfl, rfl⟩
    refine ⟨?_, l, l', m', by rw [hrs]; exact h3, h5, ofX (xsN 0 os.length ++ [i1, i2]), ?_⟩
    · rcases hef.1 with rfl | rfl <;> trivial
    · refine ⟨q1, by rw [hD, ← hnl]; exact q2, fun j o' hj => ?_, fun a b ha hb e => ?_, fun j hj => ?_⟩
      · obtain ⟨n, e1, e2⟩ := mget_nameX.1 hj
        rw [Nat.zero_add] at e1
        subst e1
        rw [mapO_get] at e2
        obtain ⟨x, e3, rfl⟩ := Option.map_eq_some_iff.1 e2
        have hn : n < os.length + 2 := by rw [← hnl, ← g1]; exact (List.getElem?_eq_some_iff.1 e3).1
        obtain ⟨y, e4, e5⟩ := g2 n _ (hof hn)
        rw [e3] at e4
        cases e4
        obtain ⟨w1, w2⟩ := lsO_ok (lsOs_get g3 e3)
        exact ⟨by rw [w1]; exact e5, by rw [hD, ← hnl]; exact w2⟩
      · obtain ⟨n, hn, rfl⟩ := (kx' a).1 ha
        obtain ⟨n', hn', rfl⟩ := (kx' b).1 hb
        have h3 := hof hn
        have h4 := hof hn'
        rw [← e] at h4
        rw [nodup_get hnd h3 h4]
      · obtain ⟨n, hn, rfl⟩ := (kx j).1 hj
        have := xsN_get (n := os.length) (i := 0) (k := n) hn
        rw [Nat.zero_add] at this
        exact ofX_x (by rw [List.getElem?_append_left (by rw [xsN_len]; exact hn)]; exact this)
  exact ⟨_, _, ⟨⟨g4, g5, by rw [mapO_len, g1, hnl]⟩, spec_ofS (qc := qc) (np := np) (CK := callK P qc) hm hf hname hb hn (fun i hi => by obtain ⟨n, _, e⟩ := keys_mX.1 hi; exact ⟨n, e⟩) (fun _ _ _ _ _ h => h) hsz hh⟩, hk⟩
end
end Go.Abs
