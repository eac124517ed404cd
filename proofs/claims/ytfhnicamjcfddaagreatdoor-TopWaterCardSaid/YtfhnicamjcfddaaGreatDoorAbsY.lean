/- Contracts with a small memory, in the strict evaluator: one block that is handed in and changed; one new block that is handed back. -/
import Derived.Test.YtfhnicamjcfddaaGreatDoorAbsX
namespace Go.Abs
set_option linter.unusedSimpArgs false
open Go.RowKit

/-! ### Data without names -/

def noC : Cell → Bool
  | .sc _ => true
  | .lst _ => true
  | .full _ => true
  | _ => false
def noCs : List Cell → Bool
  | [] => true
  | c :: r => match noC c with
    | true => noCs r
    | false => false
def noA : AV → Bool
  | .c x => noC x
  | .agg cs => noCs cs
  | .tup l => go l
where go : List AV → Bool
  | [] => true
  | .c x :: r => (match noC x with
    | true => go r
    | false => false)
  | .agg cs :: r => (match noCs cs with
    | true => go r
    | false => false)
  | .tup _ :: _ => false

theorem noC_ren {ρ : Id → Id} {c : Cell} (h : noC c = true) : renC ρ c = c := by cases c <;> first | rfl | cases h
theorem noC_in {D : Id → Prop} {c : Cell} (h : noC c = true) : inC D c := by cases c <;> first | trivial | cases h
theorem noCs_ren {ρ : Id → Id} : ∀ {l : List Cell}, noCs l = true → renCs ρ l = l
  | [], _ => rfl
  | c :: r, h => by
    unfold noCs at h
    split at h
    · rename_i h1; simp only [renCs, noC_ren h1, noCs_ren h]
    · cases h
theorem noCs_in {D : Id → Prop} : ∀ {l : List Cell}, noCs l = true → inCs D l
  | [], _ => trivial
  | c :: r, h => by
    unfold noCs at h
    split at h
    · rename_i h1; exact ⟨noC_in h1, noCs_in h⟩
    · cases h
theorem noA_go {ρ : Id → Id} {D : Id → Prop} : ∀ {l : List AV}, noA.go l = true → renAs ρ l = l ∧ inAs D l
  | [], _ => ⟨rfl, trivial⟩
  | .c x :: r, h => by
    unfold noA.go at h
    split at h
    · rename_i h1
      obtain ⟨h2, h3⟩ := noA_go (ρ := ρ) (D := D) h
      exact ⟨by simp only [renAs, renA, noC_ren h1, h2], noC_in h1, h3⟩
    · cases h
  | .agg cs :: r, h => by
    unfold noA.go at h
    split at h
    · rename_i h1
      obtain ⟨h2, h3⟩ := noA_go (ρ := ρ) (D := D) h
      exact ⟨by simp only [renAs, renA, noCs_ren h1, h2], noCs_in h1, h3⟩
    · cases h
  | .tup _ :: _, h => by simp [noA.go] at h
theorem noA_ren {ρ : Id → Id} {x : AV} (h : noA x = true) : renA ρ x = x := by
  cases x with
  | c x => simp only [renA, noC_ren (ρ := ρ) h]
  | agg cs => simp only [renA, noCs_ren (ρ := ρ) h]
  | tup l => simp only [renA, (noA_go (ρ := ρ) (D := fun _ => True) h).1]
theorem noA_in {D : Id → Prop} {x : AV} (h : noA x = true) : inA D x := by
  cases x with
  | c x => exact noC_in h
  | agg cs => exact noCs_in h
  | tup l => exact (noA_go (ρ := id) (D := D) h).2
def noAs : List AV → Bool
  | [] => true
  | x :: r => match noA x with
    | true => noAs r
    | false => false
theorem noAs_ren {ρ : Id → Id} : ∀ {l : List AV}, noAs l = true → renAs ρ l = l
  | [], _ => rfl
  | c :: r, h => by
    unfold noAs at h
    split at h
    · rename_i h1; simp only [renAs, noA_ren h1, noAs_ren h]
    · cases h
theorem noAs_in {D : Id → Prop} : ∀ {l : List AV}, noAs l = true → inAs D l
  | [], _ => trivial
  | c :: r, h => by
    unfold noAs at h
    split at h
    · rename_i h1; exact ⟨noA_in h1, noAs_in h⟩
    · cases h

/-! ### Handing on -/

def outAK (own : Bool) (m : Mem) (x : AV) (k : AV → Mem → Prop) : Prop :=
  match x with
  | .c (.ptr i off) => k (.c (.ptr i off)) m
  | x => match own with
    | true => k x m
    | false => purA1K m x k
theorem outAK_ok {own : Bool} {m : Mem} {x : AV} {k : AV → Mem → Prop} (h : outAK own m x k) : ∃ y m', outA own m x = some (y, m') ∧ k y m' := by
  unfold outAK at h
  unfold outA
  split at h
  · exact ⟨_, _, rfl, h⟩
  · rename_i hne
    split
    · rename_i i off; exact absurd rfl (hne i off)
    · cases own with
      | true => exact ⟨_, _, rfl, h⟩
      | false =>
        obtain ⟨y, m', h1, h2⟩ := purA1K_ok h
        exact ⟨y, m', h1, h2⟩
def outAsK (own : Bool) (m : Mem) : List AV → (List AV → Mem → Prop) → Prop
  | [], k => k [] m
  | x :: r, k => outAK own m x fun y m1 => outAsK own m1 r fun l m2 => k (y :: l) m2
theorem outAsK_ok {own : Bool} : ∀ {l : List AV} {m : Mem} {k : List AV → Mem → Prop}, outAsK own m l k → ∃ l' m', outAs own m l = some (l', m') ∧ k l' m'
  | [], m, k, h => ⟨[], m, rfl, h⟩
  | x :: r, m, k, h => by
    obtain ⟨y, m1, h1, h2⟩ := outAK_ok h
    obtain ⟨l, m2, h3, h4⟩ := outAsK_ok h2
    exact ⟨_, _, by simp only [outAs, h1, h3], h4⟩

section
variable {P : Program} {τ : List (Nat × TI)}

theorem doesM_of {own : Bool} {f : Nat} {fn : Func} {c : Code} {rs : Array ResultVar} {qc : Nat → Bool} {np : NPT} {CK : Nat → KT} (hm : P.follows .mixedOrders = true) (hf : P.funcs[f]? = some fn) (hname : (fn.name == "runtime.NumGoroutine") = false) (hb : fn.body = some c) {N : Nat} (hn : fn.ntmps = N) (hrs : fn.results = rs) (hτ : TyOk P τ)
    (hcode : codeOk qc np N c = true) {args : List AV} {r : AV} {m m' : List (Id × MObj)} (hx : ∀ i, keys m i → ∃ n, i = .x n) (hCK : ∀ f args d m k, CK f args d m k → callK P qc f args d m k) (hsz : args.length ≤ N)
    (h : initK args fun t => awpC τ np CK c (fun e t mm => match e with
      | .normal => resK τ t mm rs.toList fun l => outAsK own mm l fun l mf => ∃ ρ, LeafM ρ m m' r mf.o (oneOf l)
      | .ret => resK τ t mm rs.toList fun l => outAsK own mm l fun l mf => ∃ ρ, LeafM ρ m m' r mf.o (oneOf l)
      | _ => False) t ⟨m, 0, []⟩) : DoesM P f args m r m' := by
  refine spec_ofM (qc := qc) (np := np) (CK := callK P qc) (own := own) hm hf hname hb hn hx (fun _ _ _ _ _ h => h) hsz ?_
  refine awp_mono (fun e σ h => ?_) (awpC_ok hτ hCK hcode (initK_go h))
  subst hrs
  cases e with
  | normal =>
    obtain ⟨l, h1, h2⟩ := resK_ok hτ h
    obtain ⟨l', m', h3, h4⟩ := outAsK_ok h2
    exact ⟨trivial, l, l', m', h1, h3, h4⟩
  | ret =>
    obtain ⟨l, h1, h2⟩ := resK_ok hτ h
    obtain ⟨l', m', h3, h4⟩ := outAsK_ok h2
    exact ⟨trivial, l, l', m', h1, h3, h4⟩
  | _ => exact h.elim

/-! ### One block in and out -/

abbrev m1 (cs : List Cell) : List (Id × MObj) := [(.x 0, .blk cs)]
theorem keys_m1 {cs : List Cell} {i : Id} : keys (m1 cs) i ↔ i = .x 0 := by
  constructor
  · rintro ⟨o, h⟩
    simp only [m1, mget] at h
    split at h
    · assumption
    · cases h
  · rintro rfl; exact ⟨.blk cs, by simp [m1, mget]⟩

/-- One block in and out, data otherwise. -/
def DoesB (P : Program) (f : Nat) (cs : List Cell) (args : List AV) (r : AV) (cs' : List Cell) : Prop :=
  (noCs cs = true ∧ noAs args = true ∧ noA r = true ∧ noCs cs' = true) ∧ DoesM P f (.c (.ptr (.x 0) 0) :: args) (m1 cs) r (m1 cs')

theorem doesB_of {f : Nat} {fn : Func} {c : Code} {rs : Array ResultVar} {qc : Nat → Bool} {np : NPT} {CK : Nat → KT} (hm : P.follows .mixedOrders = true) (hf : P.funcs[f]? = some fn) (hname : (fn.name == "runtime.NumGoroutine") = false) (hb : fn.body = some c) {N : Nat} (hn : fn.ntmps = N) (hrs : fn.results = rs) (hτ : TyOk P τ)
    (hcode : codeOk qc np N c = true) {args : List AV} {r : AV} {cs cs' : List Cell} (hCK : ∀ f args d m k, CK f args d m k → callK P qc f args d m k) (hsz : args.length + 1 ≤ N)
    (hno : noCs cs = true ∧ noAs args = true ∧ noA r = true ∧ noCs cs' = true)
    (h : initK (.c (.ptr (.x 0) 0) :: args) fun t => awpC τ np CK c (fun e t mm => match e with
      | .normal => resK τ t mm rs.toList fun l => outAsK false mm l fun l mf => mgetK (.x 0) (fun o => r = oneOf l ∧ MObj.blk cs' = o) mf.o
      | .ret => resK τ t mm rs.toList fun l => outAsK false mm l fun l mf => mgetK (.x 0) (fun o => r = oneOf l ∧ MObj.blk cs' = o) mf.o
      | _ => False) t ⟨m1 cs, 0, []⟩) : DoesB P f cs args r cs' := by
  refine ⟨hno, ?_⟩
  have leaf : ∀ (l : List AV) (mf : Mem), mgetK (.x 0) (fun o => r = oneOf l ∧ MObj.blk cs' = o) mf.o → ∃ ρ, LeafM ρ (m1 cs) (m1 cs') r mf.o (oneOf l) := fun l mf hg => by
    obtain ⟨o, h1, h2, h3⟩ := mgetK_ok hg
    refine ⟨id, by rw [noA_ren hno.2.2.1]; exact h2, noA_in hno.2.2.1, fun i o' hi => ?_, fun i j _ _ e => e, fun _ _ => rfl⟩
    have hi0 := keys_m1.1 ⟨o', hi⟩
    subst hi0
    simp [m1, mget] at hi
    subst hi
    exact ⟨by rw [id, h1, ← h3]; simp only [renO, noCs_ren hno.2.2.2], noCs_in hno.2.2.2⟩
  refine spec_ofM (qc := qc) (np := np) (CK := callK P qc) (own := false) hm hf hname hb hn (fun i hi => ⟨0, keys_m1.1 hi⟩) (fun _ _ _ _ _ h => h) (by simpa using hsz) ?_
  refine awp_mono (fun e σ h => ?_) (awpC_ok hτ hCK hcode (initK_go h))
  subst hrs
  cases e with
  | normal =>
    obtain ⟨l, h1, h2⟩ := resK_ok hτ h
    obtain ⟨l', m', h3, h4⟩ := outAsK_ok h2
    exact ⟨trivial, l, l', m', h1, h3, leaf _ _ h4⟩
  | ret =>
    obtain ⟨l, h1, h2⟩ := resK_ok hτ h
    obtain ⟨l', m', h3, h4⟩ := outAsK_ok h2
    exact ⟨trivial, l, l', m', h1, h3, leaf _ _ h4⟩
  | _ => exact h.elim

/-- Arguments handed on are the arguments. -/
theorem callSem_out {own : Bool} {f : Nat} {args args' : List AV} {m m1 m2 : Mem} {r : AV} (hp : outAs own m args = some (args', m1)) (h : CallSem P f args' m1 r m2) : CallSem P f args m r m2 := by
  refine ⟨h.1, fun B g w vals hI hl hrep => ?_⟩
  obtain ⟨hl', g1, e1, i1, p1⟩ := outAs_ok hI hl hrep hp
  refine (h.2 B g1 w vals i1 (by omega) p1).mono fun e w' ⟨v, g', he, h1, h2, h3⟩ => ⟨v, g', he, e1.trans h1, h2, h3⟩

theorem outA_loc {own : Bool} {m m' : Mem} {x y : AV} (h : outA own m x = some (y, m')) : Loc (idsA x) m m' y (outA own · x) := by
  by_cases hp : ∃ i off, x = .c (.ptr i off)
  · obtain ⟨i, off, rfl⟩ := hp
    simp [outA] at h
    obtain ⟨rfl, rfl⟩ := h
    exact (Loc.refl fun _ => rfl).mono (fun i hi => by cases hi)
  · have hu : ∀ M, outA own M x = if own = true then some (x, M) else purA1 M x := fun M => by
      unfold outA
      split
      · rename_i i off; exact absurd ⟨i, off, rfl⟩ hp
      · cases own <;> rfl
    rw [hu] at h
    cases own with
    | true =>
      simp at h
      obtain ⟨rfl, rfl⟩ := h
      exact (Loc.refl fun M => by rw [hu]; rfl).mono (fun i hi => by cases hi)
    | false => exact (purA1_loc (m := m) h).map fun M M1 g => by rw [hu]; exact g
theorem outAs_loc {own : Bool} : ∀ {l l' : List AV} {m m' : Mem}, outAs own m l = some (l', m') → Loc (idsAs l) m m' l' (outAs own · l)
  | [], _, m, m', h => by simp [outAs] at h; obtain ⟨rfl, rfl⟩ := h; exact .refl fun _ => rfl
  | x :: r, l', m, m', h => by
    unfold outAs at h
    split at h
    · rename_i e1
      split at h
      · rename_i e2
        simp at h
        obtain ⟨rfl, rfl⟩ := h
        exact (outA_loc e1).bind (outAs_loc e2) fun M M1 M2 h1 h2 => by simp only [outAs, h1, h2]
      · cases h
    · cases h

/-- What a function comes to that changes one block. -/
abbrev RB := List Cell → List AV → (AV → List Cell → Prop) → Prop
def FunB (P : Program) (f : Nat) (R : RB) : Prop := ∀ cs args k, R cs args k → ∃ r cs', DoesB P f cs args r cs' ∧ k r cs'
def cB (R : RB) : KT := fun args _ m k => match args with
  | .c (.ptr i 0) :: rest => outAsK false m rest fun rest' m1 => mgetK i (fun o => match o with
    | .blk cs => R cs rest' fun r cs' => msetK i (.blk cs') m1.o fun o' => setOK m1 o' fun m' => k r m' ⟨[], i :: idsAs rest, false⟩
    | _ => False) m1.o
  | _ => False

theorem updW_then {W : List Id} {i : Id} {o : MObj} {m2 M M2 : Mem} (u : UpdW W m2 M M2) : UpdW (i :: W) { m2 with o := mset m2.o i o } M { M2 with o := mset M2.o i o } := by
  refine ⟨fun j => ?_, u.nx, u.us⟩
  simp only [mget_mset]
  by_cases e : j = i
  · rw [if_pos e, if_pos (inI_cons.2 (.inl e)), if_pos e]
  · rw [if_neg e, u.o j]
    by_cases e2 : inI j W = true
    · rw [if_pos e2, if_pos (inI_cons.2 (.inr e2)), if_neg e]
    · rw [if_neg e2, if_neg (fun h => (inI_cons.1 h).elim e e2)]

theorem cB_ok {f : Nat} {qc : Nat → Bool} {R : RB} (h : FunB P f R) (hq : qc f = false) : KOk P qc f (cB R) := fun args d m k hk => by
  unfold cB at hk
  split at hk
  · rename_i i rest
    obtain ⟨rest', m2, h1, h2⟩ := outAsK_ok hk
    obtain ⟨o, h3, h4⟩ := mgetK_ok h2
    split at h4
    · rename_i cs
      obtain ⟨r, cs', ⟨hno, hd⟩, h5⟩ := h _ _ _ h4
      have h6 := setOK_ok (msetK_ok h5)
      have hl := outAs_loc h1
      have hu := updW_then (i := i) (o := .blk cs') hl.self
      refine ⟨r, { o := mset m2.o i (.blk cs'), nx := m2.nx, us := m2.us }, _, ⟨fm_updW hu, fun M hM _ => ?_⟩, (fun e => by rw [hq] at e; cases e), h6⟩
      obtain ⟨M2, g1, g2⟩ := hl.all M fun j hj => hM.1 j (.inr (inI_cons.2 (.inr hj)))
      have h3' : mget M2.o i = some (.blk cs) := by
        rw [g2.o i, ← h3]
        by_cases e : inI i (idsAs rest) = true
        · rw [if_pos e]
        · rw [if_neg e, hl.self.o i, if_neg e]; exact hM.1 i (.inr (inI_cons.2 (.inl rfl)))
      refine ⟨{ o := mset M2.o i (.blk cs'), nx := M2.nx, us := M2.us }, ?_, fm_updW (updW_then g2)⟩
      refine callSem_out (own := false) (args' := .c (.ptr i 0) :: rest') (m1 := M2) (by simp only [outAs, outA, g1]) ?_
      have hc := callM (ρ := fun _ => i) (M := M2) (M' := { o := mset M2.o i (.blk cs'), nx := M2.nx, us := M2.us }) hd ⟨fun j o hj => ?_, fun j o hj => ?_, fun j h1 h2 => ?_, fun a b ha hb _ => ?_, fun _ _ h => h⟩ ⟨keys_m1.2 rfl, noAs_in hno.2.1⟩ (noA_in hno.2.2.1)
      · simp only [renAs, renA, renC, noAs_ren hno.2.1, noA_ren hno.2.2.1] at hc
        exact hc
      · have hj0 := keys_m1.1 ⟨o, hj⟩
        subst hj0
        simp [m1, mget] at hj
        subst hj
        exact ⟨by rw [h3']; simp only [renO, noCs_ren hno.1], noCs_in hno.1⟩
      · simp only [mget_mset] at hj
        split at hj
        · rename_i e
          simp at hj
          subst hj
          exact .inl ⟨.x 0, .blk cs', by simp [m1, mget], e.symm, by simp only [renO, noCs_ren hno.2.2.2], noCs_in hno.2.2.2⟩
        · rename_i e
          exact .inr ⟨hj, fun _ _ e' => e e'.symm⟩
      · exact absurd (keys_m1.2 (keys_m1.1 h1)) h2
      · have ea : a = .x 0 := by rcases ha with ha | ha <;> exact keys_m1.1 ha
        have eb : b = .x 0 := by rcases hb with hb | hb <;> exact keys_m1.1 hb
        rw [ea, eb]
    · exact h4.elim
  · exact hk.elim

/-! ### A new block handed back -/

def DoesN (P : Program) (f : Nat) (args : List AV) (cs : List Cell) : Prop := (noAs args = true ∧ noCs cs = true) ∧ DoesM P f args [] (.c (.ptr (.x 0) 0)) (m1 cs)

theorem doesN_of {f : Nat} {fn : Func} {c : Code} {rs : Array ResultVar} {qc : Nat → Bool} {np : NPT} {CK : Nat → KT} (hm : P.follows .mixedOrders = true) (hf : P.funcs[f]? = some fn) (hname : (fn.name == "runtime.NumGoroutine") = false) (hb : fn.body = some c) {N : Nat} (hn : fn.ntmps = N) (hrs : fn.results = rs) (hτ : TyOk P τ)
    (hcode : codeOk qc np N c = true) {args : List AV} {cs : List Cell} (hCK : ∀ f args d m k, CK f args d m k → callK P qc f args d m k) (hsz : args.length ≤ N)
    (hno : noAs args = true ∧ noCs cs = true)
    (h : initK args fun t => awpC τ np CK c (fun e t mm => match e with
      | .normal => resK τ t mm rs.toList fun l => outAsK false mm l fun l mf => (match l with
        | [.c (.ptr i 0)] => mgetK i (fun o => MObj.blk cs = o) mf.o
        | _ => False)
      | .ret => resK τ t mm rs.toList fun l => outAsK false mm l fun l mf => (match l with
        | [.c (.ptr i 0)] => mgetK i (fun o => MObj.blk cs = o) mf.o
        | _ => False)
      | _ => False) t ⟨[], 0, []⟩) : DoesN P f args cs := by
  refine ⟨hno, ?_⟩
  have leaf : ∀ (l : List AV) (mf : Mem), (match l with
        | [.c (.ptr i 0)] => mgetK i (fun o => MObj.blk cs = o) mf.o
        | _ => False) → ∃ ρ, LeafM ρ [] (m1 cs) (.c (.ptr (.x 0) 0)) mf.o (oneOf l) := fun l mf hg => by
    split at hg
    · rename_i i
      obtain ⟨o, h1, h2⟩ := mgetK_ok hg
      refine ⟨fun _ => i, rfl, .inr (keys_m1.2 rfl), fun j o' hj => ?_, fun a b ha hb _ => by rw [keys_m1.1 ha, keys_m1.1 hb], fun j ⟨o, hj⟩ => by cases hj⟩
      have hj0 := keys_m1.1 ⟨o', hj⟩
      subst hj0
      simp [m1, mget] at hj
      subst hj
      exact ⟨by rw [h1, ← h2]; simp only [renO, noCs_ren hno.2], noCs_in hno.2⟩
    · exact hg.elim
  refine spec_ofM (qc := qc) (np := np) (CK := callK P qc) (own := false) hm hf hname hb hn (fun i ⟨o, hi⟩ => by cases hi) (fun _ _ _ _ _ h => h) hsz ?_
  refine awp_mono (fun e σ h => ?_) (awpC_ok hτ hCK hcode (initK_go h))
  subst hrs
  cases e with
  | normal =>
    obtain ⟨l, h1, h2⟩ := resK_ok hτ h
    obtain ⟨l', m', h3, h4⟩ := outAsK_ok h2
    exact ⟨trivial, l, l', m', h1, h3, leaf _ _ h4⟩
  | ret =>
    obtain ⟨l, h1, h2⟩ := resK_ok hτ h
    obtain ⟨l', m', h3, h4⟩ := outAsK_ok h2
    exact ⟨trivial, l, l', m', h1, h3, leaf _ _ h4⟩
  | _ => exact h.elim

abbrev RN := List AV → (List Cell → Prop) → Prop
def FunN (P : Program) (f : Nat) (R : RN) : Prop := ∀ args k, R args k → ∃ cs, DoesN P f args cs ∧ k cs
def cN (R : RN) : KT := fun args d m k => match d with
  | none => False
  | some d => outAsK false m args fun args' m1 => R args' fun cs => addK d m1 (.blk cs) fun i m' => k (.c (.ptr i 0)) m' ⟨[], i :: idsAs args, true⟩

theorem fm_add {R W : List Id} {d : Nat} {m m1 M M1 : Mem} {obj : MObj} (hs : UpdW W m1 m m1) (u : UpdW W m1 M M1) (hn : M.nx = m.nx) (he : mget M.o (.l d m.nx) = mget m.o (.l d m.nx)) :
    fm (addObj d M1 obj) = updF ⟨R, .l d m.nx :: W, true⟩ (some d) (fm (addObj d m1 obj)) (fm M) := by
  have hid : newId d M1 = .l d m.nx := by simp [newId, u.nx, hn]
  have hid1 : newId d m1 = .l d m.nx := by simp [newId, hs.nx]
  refine fm_ext (fun i => ?_) (by simp [fm, updF, addObj, u.nx]) (fun s => ?_)
  · simp only [fm, updF, addObj, mget_snoc, hid, hid1]
    by_cases e : i = .l d m.nx
    · rw [if_pos (inI_cons.2 (.inl e)), u.o i, hs.o i, e]
      by_cases e2 : inI (.l d m.nx) W = true
      · rw [if_pos e2]
      · rw [if_neg e2, if_neg e2, he]
    · simp only [if_neg e]
      by_cases e2 : inI i W = true
      · rw [if_pos (inI_cons.2 (.inr e2)), u.o i, if_pos e2]
      · rw [if_neg (fun h => (inI_cons.1 h).elim e e2), u.o i, if_neg e2]
        cases mget M.o i <;> rfl
  · simp only [fm, updF, addObj, memU, isD, u.us, Bool.true_and]
    cases Nat.beq s d <;> simp

theorem cN_ok {f : Nat} {qc : Nat → Bool} {R : RN} (h : FunN P f R) (hq : qc f = false) : KOk P qc f (cN R) := fun args d m k hk => by
  unfold cN at hk
  split at hk
  · exact hk.elim
  rename_i d
  obtain ⟨args', m2, h1, h2⟩ := outAsK_ok hk
  obtain ⟨cs, ⟨hno, hd⟩, h3⟩ := h _ _ h2
  have h4 := addK_ok h3
  have hl := outAs_loc h1
  have hn0 : m2.nx = m.nx := hl.self.nx
  rw [show newId d m2 = .l d m.nx by simp [newId, hn0]] at h4
  refine ⟨_, addObj d m2 (.blk cs), _, ⟨fm_add hl.self hl.self rfl rfl, fun M hM hf => ?_⟩, (fun e => by rw [hq] at e; cases e), h4⟩
  obtain ⟨M2, g1, g2⟩ := hl.all M fun j hj => hM.1 j (.inr (inI_cons.2 (.inr hj)))
  have hM2 : M2.nx = m.nx := g2.nx.trans hM.2
  refine ⟨addObj d M2 (.blk cs), ?_, fm_add hl.self g2 hM.2 (hM.1 _ (.inr (inI_cons.2 (.inl rfl))))⟩
  refine callSem_out (own := false) g1 ?_
  have hus : memU d M2.us = false := by rw [g2.us]; exact hf
  have hU : Used (addObj d M2 (.blk cs)) d m.nx := .inr ⟨by simp [addObj, hM2], by simp only [addObj]; exact usd_self hus⟩
  have hN : ∀ s k, Used M2 s k → Used (addObj d M2 (.blk cs)) s k := fun s k hh => by
    rcases hh with h | ⟨h, h'⟩
    · exact .inl h
    · refine .inr ⟨h, ?_⟩
      simp only [addObj]
      exact usd_cons h'
  have key : ∀ M' : Mem, (∀ j, mget M'.o j = if j = .l d m.nx then some (.blk cs) else mget M2.o j) → (∀ s k, Used M2 s k → Used M' s k) → Used M' d m.nx → CallSem P f args' M2 (.c (.ptr (.l d m.nx) 0)) M' := fun M' hM' hN hU => by
    have hc := callM (ρ := fun _ => .l d m.nx) (M := M2) (M' := M') hd ⟨fun j o hj => (by cases hj), fun j o hj => ?_, fun j h1 h2 => ⟨d, m.nx, rfl, by rw [← hM2]; exact not_used hus, hU⟩, fun a b ha hb _ => ?_, hN⟩ (noAs_in hno.1) (.inr (keys_m1.2 rfl))
    · simp only [noAs_ren hno.1, renA, renC] at hc
      exact hc
    · rw [hM'] at hj
      split at hj
      · rename_i e
        simp at hj
        subst hj
        exact .inl ⟨.x 0, .blk cs, by simp [m1, mget], e.symm, by simp only [renO, noCs_ren hno.2], noCs_in hno.2⟩
      · rename_i e
        exact .inr ⟨hj, fun _ ⟨o, hi⟩ => by cases hi⟩
    · rcases ha with ⟨o, ha⟩ | ha
      · cases ha
      · rcases hb with ⟨o, hb⟩ | hb
        · cases hb
        · rw [keys_m1.1 ha, keys_m1.1 hb]
  -- a name that is in the memory is in use: the new one is not
  refine ⟨hd.1, fun B g w vals hI => ?_⟩
  have hnone : mget M2.o (.l d m.nx) = none := by
    cases e : mget M2.o (.l d m.nx) with
    | none => rfl
    | some o => exact absurd (hI.ok _ _ e).1 (hI.fresh d m.nx (by rw [← hM2]; exact not_used hus))
  refine (key (addObj d M2 (.blk cs)) (fun j => ?_) hN hU).2 B g w vals hI
  have hid : newId d M2 = .l d m.nx := by simp [newId, hM2]
  simp only [addObj, mget_snoc, hid]
  by_cases e : j = .l d m.nx
  · rw [e, hnone]
  · rw [if_neg e, if_neg e]
    cases mget M2.o j <;> rfl

end
end Go.Abs
