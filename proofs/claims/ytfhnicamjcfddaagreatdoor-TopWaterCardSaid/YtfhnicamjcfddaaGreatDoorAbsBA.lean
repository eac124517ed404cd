/- Proved here: what functions of the given program come to, and the plain laws of it; no condition but those in the theorems. -/
import Derived.Test.YtfhnicamjcfddaaGreatDoorAbsS
/- A slice of one's own becomes data ahead of a loop. -/
namespace Go.Abs
open Go.RowKit
set_option linter.unusedVariables false
theorem Shift.purT {b : St} {t : Nat} {c c' : Cell} {m' : Mem} (ht : tget b.t t = some (.c c)) (hp : pur b.m c = some (c', m')) : Shift ⟨tset b.t t (.c c'), m'⟩ b := fun B act w hR => by
  obtain ⟨⟨g, hs, hI⟩, hd, hz⟩ := hR
  obtain ⟨v, h1, h2⟩ := hs t _ ht
  cases h2 with
  | c h2 =>
    obtain ⟨g', he, hI', hP⟩ := pur_ok hI h2 hp
    refine ⟨⟨g', fun k x hx => ?_, hI'⟩, hd, hz⟩
    simp only [tget_tset] at hx
    split at hx
    · rename_i hk
      simp at hx
      subst hx
      rw [hk]
      exact ⟨v, h1, .c (.pure hP)⟩
    · obtain ⟨u, q1, q2⟩ := hs k x hx
      exact ⟨u, q1, q2.ext he⟩
theorem Shift.purV {b : St} {t : Nat} {i : Id} {e sz n : Nat} {es : List (List Cell)} {f : Bool} (ht : tget b.t t = some (.c (.view i 0 n))) (hm : mget b.m.o i = some (.arr e sz es f)) (hn : n = es.length) :
    Shift ⟨tset b.t t (.c (.lst es)), { b.m with o := mset b.m.o i (.arr e sz es true) }⟩ b := Shift.purT ht (by simp [pur, hm, hn])
end Go.Abs

/- A function that changes one block and hands back two new arrays. -/
namespace Go.Abs
open Go.RowKit
set_option linter.unusedVariables false
set_option linter.unusedSimpArgs false
section
variable {P : Program} {τ : List (Nat × TI)}

def add2 (d : Nat) (m : Mem) (o1 o2 : MObj) : Mem := { o := (m.o ++ [(.l d m.nx, o1)]) ++ [(.l (nxt d) m.nx, o2)], nx := m.nx, us := d :: m.us }
def add2K (d : Nat) (m : Mem) (o1 o2 : MObj) (k : Id → Id → Mem → Prop) : Prop := match m with
  | ⟨o, nx, us⟩ => snocK (.l d nx) o1 o fun o' => snocK (.l (nxt d) nx) o2 o' fun o' => k (.l d nx) (.l (nxt d) nx) ⟨o', nx, d :: us⟩
theorem add2K_ok {d : Nat} {m : Mem} {o1 o2 : MObj} {k : Id → Id → Mem → Prop} (h : add2K d m o1 o2 k) : k (.l d m.nx) (.l (nxt d) m.nx) (add2 d m o1 o2) :=
  snocK_ok (k := fun o' => k (.l d m.nx) (.l (nxt d) m.nx) { o := o', nx := m.nx, us := d :: m.us }) (snocK_ok (k := fun o' => snocK (.l (nxt d) m.nx) o2 o' fun o' => k (.l d m.nx) (.l (nxt d) m.nx) { o := o', nx := m.nx, us := d :: m.us }) h)

theorem fm_add2 {R W : List Id} {d : Nat} {m m1 M M1 : Mem} {o1 o2 : MObj} (hs : UpdW W m1 m m1) (u : UpdW W m1 M M1) (hn : M.nx = m.nx) (he : mget M.o (.l d m.nx) = mget m.o (.l d m.nx)) (he2 : mget M.o (.l (nxt d) m.nx) = mget m.o (.l (nxt d) m.nx)) :
    fm (add2 d M1 o1 o2) = updF ⟨R, .l d m.nx :: .l (nxt d) m.nx :: W, true⟩ (some d) (fm (add2 d m1 o1 o2)) (fm M) := by
  have hn1 : M1.nx = m.nx := u.nx.trans hn
  have hn2 : m1.nx = m.nx := hs.nx
  refine fm_ext (fun i => ?_) (by simp [fm, updF, add2, u.nx]) (fun s => ?_)
  · have same : mget M1.o i = mget m1.o i → mget (add2 d M1 o1 o2).o i = mget (add2 d m1 o1 o2).o i := fun e => by
      simp only [add2, mget_snoc, hn1, hn2, e]
    simp only [fm, updF]
    by_cases e1 : i = .l d m.nx
    · rw [if_pos (inI_cons.2 (.inl e1))]
      refine same ?_
      rw [u.o i, hs.o i, e1, he]
      split <;> rfl
    by_cases e2 : i = .l (nxt d) m.nx
    · rw [if_pos (inI_cons.2 (.inr (inI_cons.2 (.inl e2))))]
      refine same ?_
      rw [u.o i, hs.o i, e2, he2]
      split <;> rfl
    by_cases e3 : inI i W = true
    · rw [if_pos (inI_cons.2 (.inr (inI_cons.2 (.inr e3))))]
      refine same ?_
      rw [u.o i, if_pos e3]
    · rw [if_neg (fun h => (inI_cons.1 h).elim e1 fun h => (inI_cons.1 h).elim e2 e3)]
      simp only [add2, mget_snoc, hn1, if_neg e1, if_neg e2]
      rw [u.o i, if_neg e3]
      cases mget M.o i <;> rfl
  · simp only [fm, updF, add2, memU, isD, u.us, Bool.true_and]
    cases Nat.beq s d <;> simp

abbrev m3o (cs : List Cell) (o1 o2 : MObj) : List (Id × MObj) := [(.x 0, .blk cs), (.x 1, o1), (.x 2, o2)]
theorem mget_m3o {cs : List Cell} {o1 o2 o : MObj} {i : Id} : mget (m3o cs o1 o2) i = some o ↔ (i = .x 0 ∧ o = .blk cs) ∨ (i = .x 1 ∧ o = o1) ∨ (i = .x 2 ∧ o = o2) := by
  simp only [m3o, mget]
  split
  · rename_i e; subst e; simp [eq_comm]
  · rename_i e0
    split
    · rename_i e; subst e; simp [eq_comm]
    · rename_i e1
      split
      · rename_i e; subst e; simp [eq_comm]
      · rename_i e2
        have h0 : i ≠ .x 0 := fun e => e0 (by rw [e])
        have h1 : i ≠ .x 1 := fun e => e1 (by rw [e])
        have h2 : i ≠ .x 2 := fun e => e2 (by rw [e])
        simp [h0, h1, h2]
theorem keys_m3o {cs : List Cell} {o1 o2 : MObj} {i : Id} : keys (m3o cs o1 o2) i ↔ i = .x 0 ∨ i = .x 1 ∨ i = .x 2 := by
  constructor
  · rintro ⟨o, h⟩
    rcases mget_m3o.1 h with ⟨h, _⟩ | ⟨h, _⟩ | ⟨h, _⟩
    · exact .inl h
    · exact .inr (.inl h)
    · exact .inr (.inr h)
  · rintro (h | h | h)
    · exact ⟨_, mget_m3o.2 (.inl ⟨h, rfl⟩)⟩
    · exact ⟨_, mget_m3o.2 (.inr (.inl ⟨h, rfl⟩))⟩
    · exact ⟨_, mget_m3o.2 (.inr (.inr ⟨h, rfl⟩))⟩
theorem KX3 {i : Id} : KX 3 i ↔ i = .x 0 ∨ i = .x 1 ∨ i = .x 2 := by
  constructor
  · rintro ⟨k, hk, rfl⟩
    rcases k with _ | _ | _ | k
    · exact .inl rfl
    · exact .inr (.inl rfl)
    · exact .inr (.inr rfl)
    · omega
  · rintro (rfl | rfl | rfl)
    · exact ⟨0, by omega, rfl⟩
    · exact ⟨1, by omega, rfl⟩
    · exact ⟨2, by omega, rfl⟩
theorem D3 {cs cs' : List Cell} {o1 o2 : MObj} : (fun i => keys (m1 cs) i ∨ keys (m3o cs' o1 o2) i) = KX 3 := funext fun i => propext ⟨fun h => KX3.2 (h.elim (fun h => .inl (keys_m1.1 h)) keys_m3o.1), fun h => .inr (keys_m3o.2 (KX3.1 h))⟩

def DoesBA (P : Program) (f : Nat) (cs : List Cell) (args : List AV) (r : AV) (cs' : List Cell) (o1 o2 : MObj) : Prop :=
  (noCs cs = true ∧ noAs args = true ∧ xsA 3 r = true ∧ noCs cs' = true ∧ noO o1 = true ∧ noO o2 = true) ∧ DoesM P f (.c (.ptr (.x 0) 0) :: args) (m1 cs) r (m3o cs' o1 o2)
abbrev RBA := List Cell → List AV → (AV → List Cell → MObj → MObj → Prop) → Prop
def FunBA (P : Program) (f : Nat) (R : RBA) : Prop := ∀ cs args k, R cs args k → ∃ r cs' o1 o2, DoesBA P f cs args r cs' o1 o2 ∧ k r cs' o1 o2
def cBA (R : RBA) : KT := fun args d m k => match d with
  | none => False
  | some d => match args with
    | .c (.ptr i 0) :: rest => outAsK false m rest fun rest' m1 => mgetK i (fun o => match o with
      | .blk cs => R cs rest' fun r cs' o1 o2 => msetK i (.blk cs') m1.o fun o' => setOK m1 o' fun m2 => add2K d m2 o1 o2 fun i1 i2 m' => k (renA (ofX [i, i1, i2]) r) m' ⟨[], i1 :: i2 :: i :: idsAs rest, true⟩
      | _ => False) m1.o
    | _ => False

theorem cBA_ok {f : Nat} {qc : Nat → Bool} {R : RBA} (h : FunBA P f R) (hq : qc f = false) : KOk P qc f (cBA R) := fun args d m k hk => by
  unfold cBA at hk
  split at hk
  · exact hk.elim
  rename_i d
  split at hk
  rotate_left
  · exact hk.elim
  rename_i i rest
  obtain ⟨rest', m2, h1, h2⟩ := outAsK_ok hk
  obtain ⟨o, h3, h4⟩ := mgetK_ok h2
  split at h4
  rotate_left
  · exact h4.elim
  rename_i cs
  obtain ⟨r, cs', o1, o2, ⟨hno, hd⟩, h5⟩ := h _ _ _ h4
  have h6 := add2K_ok (setOK_ok (msetK_ok h5))
  have hl := outAs_loc h1
  have hn0 : m2.nx = m.nx := hl.self.nx
  have hu := updW_then (i := i) (o := .blk cs') hl.self
  obtain ⟨mo, mn, mu⟩ := m2
  simp only at hn0
  subst hn0
  refine ⟨_, add2 d { o := mset mo i (.blk cs'), nx := m.nx, us := mu } o1 o2, _, ⟨fm_add2 hu hu rfl rfl rfl, fun M hM hf => ?_⟩, (fun e => by rw [hq] at e; cases e), h6⟩
  obtain ⟨M2, g1, g2⟩ := hl.all M fun j hj => hM.1 j (.inr (inI_cons.2 (.inr (inI_cons.2 (.inr (inI_cons.2 (.inr hj)))))))
  have hM2 : M2.nx = m.nx := g2.nx.trans hM.2
  have h3' : mget M2.o i = some (.blk cs) := by
    rw [g2.o i, ← h3]
    by_cases e : inI i (idsAs rest) = true
    · rw [if_pos e]
    · rw [if_neg e, hl.self.o i, if_neg e]; exact hM.1 i (.inr (inI_cons.2 (.inr (inI_cons.2 (.inr (inI_cons.2 (.inl rfl)))))))
  refine ⟨add2 d { M2 with o := mset M2.o i (.blk cs') } o1 o2, ?_, fm_add2 hu (updW_then g2) hM.2 (hM.1 _ (.inr (inI_cons.2 (.inl rfl)))) (hM.1 _ (.inr (inI_cons.2 (.inr (inI_cons.2 (.inl rfl))))))⟩
  refine callSem_out (own := false) (args' := .c (.ptr i 0) :: rest') (m1 := M2) (by simp only [outAs, outA, g1]) ?_
  have hus : memU d M2.us = false := by rw [g2.us]; exact hf
  have hnt : nxt d ≠ d := by unfold nxt; omega
  have key : i ≠ .l d m.nx → i ≠ .l (nxt d) m.nx → ∀ M' : Mem, (∀ j, mget M'.o j = if j = .l d m.nx then some o1 else if j = .l (nxt d) m.nx then some o2 else if j = i then some (.blk cs') else mget M2.o j) → (∀ s k, Used M2 s k → Used M' s k) → Used M' d m.nx → Used M' (nxt d) m.nx →
      CallSem P f (.c (.ptr i 0) :: rest') M2 (renA (ofX [i, .l d m.nx, .l (nxt d) m.nx]) r) M' := fun n1 n2 M' hM' hN hU hU' => by
    have hc := callM (ρ := ofX [i, .l d m.nx, .l (nxt d) m.nx]) (M := M2) (M' := M') hd ⟨fun j o hj => ?_, fun j o hj => ?_, fun j h1 h2 => ?_, fun a b ha hb e => ?_, hN⟩ ⟨keys_m1.2 rfl, noAs_in hno.2.1⟩ (by rw [D3]; exact xsA_ok hno.2.2.1)
    · simp only [renAs, renA, renC, noAs_ren hno.2.1] at hc
      exact hc
    · have hj0 := keys_m1.1 ⟨o, hj⟩
      subst hj0
      simp [m1, mget] at hj
      subst hj
      exact ⟨by rw [show ofX [i, .l d m.nx, .l (nxt d) m.nx] (.x 0) = i from rfl, h3']; simp only [renO, noCs_ren hno.1], noCs_in hno.1⟩
    · rw [hM'] at hj
      split at hj
      · rename_i e
        simp at hj
        subst hj
        exact .inl ⟨.x 1, o1, mget_m3o.2 (.inr (.inl ⟨rfl, rfl⟩)), e.symm, (noO_ren hno.2.2.2.2.1).symm, noO_in hno.2.2.2.2.1⟩
      · split at hj
        · rename_i e
          simp at hj
          subst hj
          exact .inl ⟨.x 2, o2, mget_m3o.2 (.inr (.inr ⟨rfl, rfl⟩)), e.symm, (noO_ren hno.2.2.2.2.2).symm, noO_in hno.2.2.2.2.2⟩
        · split at hj
          · rename_i e
            simp at hj
            subst hj
            exact .inl ⟨.x 0, .blk cs', mget_m3o.2 (.inl ⟨rfl, rfl⟩), e.symm, by simp only [renO, noCs_ren hno.2.2.2.1], noCs_in hno.2.2.2.1⟩
          · rename_i e
            exact .inr ⟨hj, fun q hq e' => e (by rw [keys_m1.1 hq] at e'; exact e'.symm)⟩
    · rcases keys_m3o.1 h1 with rfl | rfl | rfl
      · exact absurd (keys_m1.2 rfl) h2
      · exact ⟨d, m.nx, rfl, by rw [← hM2]; exact not_used hus, hU⟩
      · exact ⟨nxt d, m.nx, rfl, by rw [← hM2]; exact not_used' hus, hU'⟩
    · have ha' : KX 3 a := by rw [← D3 (cs := cs) (cs' := cs') (o1 := o1) (o2 := o2)]; exact ha
      have hb' : KX 3 b := by rw [← D3 (cs := cs) (cs' := cs') (o1 := o1) (o2 := o2)]; exact hb
      rcases KX3.1 ha' with rfl | rfl | rfl <;> rcases KX3.1 hb' with rfl | rfl | rfl
      · rfl
      · exact absurd e n1
      · exact absurd e n2
      · exact absurd (Eq.symm e) n1
      · rfl
      · exact absurd (by have e : Id.l d m.nx = Id.l (nxt d) m.nx := e; injection e with e _; exact e.symm) hnt
      · exact absurd (Eq.symm e) n2
      · exact absurd (by have e : Id.l (nxt d) m.nx = Id.l d m.nx := e; injection e) hnt
      · rfl
  refine ⟨hd.1, fun B g w vals hI => ?_⟩
  have f1 : ¬ g.K (.l d m.nx) := hI.fresh d m.nx (by rw [← hM2]; exact not_used hus)
  have f2 : ¬ g.K (.l (nxt d) m.nx) := hI.fresh (nxt d) m.nx (by rw [← hM2]; exact not_used' hus)
  have none_of : ∀ {j : Id}, ¬ g.K j → mget M2.o j = none := fun {j} hj => by
    cases e : mget M2.o j with
    | none => rfl
    | some o => exact absurd (hI.ok _ _ e).1 hj
  have n1 : i ≠ .l d m.nx := fun e => f1 (by rw [← e]; exact (hI.ok _ _ h3').1)
  have n2 : i ≠ .l (nxt d) m.nx := fun e => f2 (by rw [← e]; exact (hI.ok _ _ h3').1)
  refine (key n1 n2 (add2 d { M2 with o := mset M2.o i (.blk cs') } o1 o2) (fun j => ?_) (fun s k hh => ?_) (.inr ⟨by simp [add2, hM2], by simp only [add2]; exact usd_self hus⟩) (.inr ⟨by simp [add2, hM2], by simp only [add2]; exact usd_next hus⟩)).2 B g w vals hI
  · simp only [add2, mget_snoc, mget_mset, hM2]
    by_cases e : j = .l d m.nx
    · subst e
      rw [if_neg (Ne.symm n1), none_of f1]
      simp
    · by_cases e2 : j = .l (nxt d) m.nx
      · subst e2
        rw [if_neg (Ne.symm n2), none_of f2]
        simp [e]
      · simp only [if_neg e, if_neg e2]
        by_cases e3 : j = i
        · simp only [if_pos e3]
        · simp only [if_neg e3]
          cases mget M2.o j <;> rfl
  · rcases hh with h | ⟨h, h'⟩
    · exact .inl h
    · exact .inr ⟨h, usd_cons h'⟩

/-- Results that are views of two arrays. -/
def resBA (k : AV → List Cell → MObj → MObj → Prop) (l : List AV) (m : Mem) : Prop := ∃ i1 i2, nodupI [.x 0, i1, i2] = true ∧ selAsK [.x 0, i1, i2] m l fun l mf => lsAs [.x 0, i1, i2] l = true ∧ mgetK (.x 0) (fun o => match o with
  | .blk cs' => mgetK i1 (fun o1 => mgetK i2 (fun o2 => noO o1 = true ∧ noO o2 = true ∧ noCs cs' = true ∧ xsA 3 (renA (toX [.x 0, i1, i2]) (oneOf l)) = true ∧ k (renA (toX [.x 0, i1, i2]) (oneOf l)) cs' o1 o2) mf.o) mf.o
  | _ => False) mf.o
theorem doesBA_ex {qc : Nat → Bool} {np : NPT} {f : Nat} {fn : Func} {c : Code} {rs : Array ResultVar} {CK : Nat → KT} (hm : P.follows .mixedOrders = true) (hf : P.funcs[f]? = some fn) (hname : (fn.name == "runtime.NumGoroutine") = false) (hb : fn.body = some c) {N : Nat} (hn : fn.ntmps = N) (hrs : fn.results = rs) (hτ : TyOk P τ)
    (hcode : codeOk qc np N c = true) {args : List AV} {cs : List Cell} {k : AV → List Cell → MObj → MObj → Prop} (hCK : ∀ f args d m k, CK f args d m k → callK P qc f args d m k) (hsz : args.length + 1 ≤ N)
    (hno : noCs cs = true) (hna : noAs args = true)
    (h : initK (.c (.ptr (.x 0) 0) :: args) fun t => awpC τ np CK c (fun e t mm => match e with
      | .normal => resK τ t mm rs.toList fun l => resBA k l mm
      | .ret => resK τ t mm rs.toList fun l => resBA k l mm
      | _ => False) t ⟨m1 cs, 0, []⟩) : ∃ r cs' o1 o2, DoesBA P f cs args r cs' o1 o2 ∧ k r cs' o1 o2 := by
  obtain ⟨ef, σf, h1, h2⟩ := awp_det (awpC_ok hτ hCK hcode (initK_go h))
  have hef : (ef = .normal ∨ ef = .ret) ∧ resK τ σf.t σf.m rs.toList fun l => resBA k l σf.m := by
    cases ef with
    | normal => exact ⟨.inl rfl, h1⟩
    | ret => exact ⟨.inr rfl, h1⟩
    | _ => exact h1.elim
  obtain ⟨l, h3, i1, i2, hnd, h4⟩ := resK_ok hτ hef.2
  obtain ⟨l', m', h5, hls, h6⟩ := selAsK_ok h4
  obtain ⟨o, g0, h7⟩ := mgetK_ok h6
  split at h7
  rotate_left
  · exact h7.elim
  rename_i cs'
  obtain ⟨o1, g1, h8⟩ := mgetK_ok h7
  obtain ⟨o2, g2, n1, n2, n3, n4, hk⟩ := mgetK_ok h8
  have hone : ∀ {l : List AV}, lsAs [.x 0, i1, i2] l = true → lsA [.x 0, i1, i2] (oneOf l) = true := fun {l} h => by
    match l, h with
    | [], _ => rfl
    | [x], h =>
      simp only [lsAs] at h
      split at h
      · rename_i e; exact e
      · cases h
    | x :: y :: r, h => exact h
  obtain ⟨q1, q2⟩ := lsA_ok (hone hls)
  have hh : awp P qc np (callK P qc) N c (fun e σ => (match e with | .normal => True | .ret => True | _ => False) ∧ RetS P [.x 0, i1, i2] fn σ (fun rf mf => ∃ ρ, LeafM ρ (m1 cs) (m3o cs' o1 o2) (renA (toX [.x 0, i1, i2]) (oneOf l')) mf.o rf)) ⟨initT (.c (.ptr (.x 0) 0) :: args) 0, ⟨m1 cs, 0, []⟩⟩ := by
    refine awp_mono ?_ h2
    rintro e σ ⟨rfl, rfl⟩
    refine ⟨?_, l, l', m', by rw [hrs]; exact h3, h5, ofX [.x 0, i1, i2], ?_⟩
    · rcases hef.1 with rfl | rfl <;> trivial
    · refine ⟨q1, by rw [D3]; exact q2, fun j o' hj => ?_, fun a b ha hb e => ?_, fun j hj => by rw [keys_m1.1 hj]; rfl⟩
      · rcases mget_m3o.1 hj with ⟨rfl, rfl⟩ | ⟨rfl, rfl⟩ | ⟨rfl, rfl⟩
        · exact ⟨by rw [show ofX [.x 0, i1, i2] (.x 0) = .x 0 from rfl, g0]; simp only [renO, noCs_ren n3], noCs_in n3⟩
        · exact ⟨by rw [noO_ren n1]; exact g1, noO_in n1⟩
        · exact ⟨by rw [noO_ren n2]; exact g2, noO_in n2⟩
      · obtain ⟨na, hna'⟩ : ∃ n, a = .x n ∧ [Id.x 0, i1, i2][n]? = some (ofX [.x 0, i1, i2] a) := by
          rcases keys_m3o.1 ha with rfl | rfl | rfl
          · exact ⟨0, rfl, rfl⟩
          · exact ⟨1, rfl, rfl⟩
          · exact ⟨2, rfl, rfl⟩
        obtain ⟨nb, hnb'⟩ : ∃ n, b = .x n ∧ [Id.x 0, i1, i2][n]? = some (ofX [.x 0, i1, i2] b) := by
          rcases keys_m3o.1 hb with rfl | rfl | rfl
          · exact ⟨0, rfl, rfl⟩
          · exact ⟨1, rfl, rfl⟩
          · exact ⟨2, rfl, rfl⟩
        rw [← e] at hnb'
        rw [hna'.1, hnb'.1, nodup_get hnd hna'.2 hnb'.2]
  exact ⟨_, cs', o1, o2, ⟨⟨hno, hna, n4, n3, n1, n2⟩, spec_ofS (qc := qc) (np := np) (CK := callK P qc) hm hf hname hb hn (fun i hi => ⟨0, keys_m1.1 hi⟩) (fun _ _ _ _ _ h => h) (by simpa using hsz) hh⟩, hk⟩
end
end Go.Abs
