/- The evaluator comes to one result: so what holds of whatever it comes to holds of one. -/
import Derived.Test.YtfhnicamjcfddaaGreatDoorAbsY
namespace Go.Abs
set_option linter.unusedVariables false
theorem wrap_in {z : Int} (h1 : -9223372036854775808 ≤ z) (h2 : z ≤ 9223372036854775807) : IntKind.i64.wrap z = z := Go.IntWalk.i64_in z ⟨h1, h2⟩
set_option linter.unusedSimpArgs false
open Go.RowKit

section
variable {P : Program} {qc : Nat → Bool} {np : NPT} {N : Nat} {τ : List (Nat × TI)}

theorem stepK_det {o : Oper} {σ : St} {k : St → Lab → Prop} (h : stepK P (callK P qc) N o σ k) : ∃ σ' ℓ', k σ' ℓ' ∧ stepK P (callK P qc) N o σ (fun σ ℓ => σ = σ' ∧ ℓ = ℓ') := by
  unfold stepK at h ⊢
  split at h
  · rename_i ho
    split at h
    · rename_i hd
      split at h
      · rename_i h1 h2 h3
        split at h
        · rename_i h4
          exact ⟨_, _, h, by simp only [hd, h1, h2, h3, h4, and_self]⟩
        · exact h.elim
      · exact h.elim
    · exact h.elim
  · split at h
    · obtain ⟨h0, r, m', ℓ, h1, h2, h3⟩ := h
      exact ⟨_, _, h3, h0, r, m', ℓ, h1, h2, rfl, rfl⟩
    · exact h.elim
  · rename_i ho
    split at h
    · rename_i hd
      split at h
      · rename_i h1 h2 h3
        split at h
        · rename_i h4
          exact ⟨_, _, h, by simp only [hd, h1, h2, h3, h4, and_self]⟩
        · exact h.elim
      · exact h.elim
    · exact h.elim
  · rename_i op ha hb hc
    split at h
    · rename_i d hd
      split at h
      · exact ⟨_, _, h, rfl, rfl⟩
      · exact h.elim
    · exact h.elim

theorem evalOps_det {ops : Array Oper} {dr : Bool} : ∀ (l : List Oper) {n : Nat} {ls : List (Nat × Lab)} {σ : St} {k : List (Nat × Lab) → St → Prop}, evalOps P (callK P qc) N ops dr n l ls σ k → ∃ ls' σ', k ls' σ' ∧ evalOps P (callK P qc) N ops dr n l ls σ (fun l s => l = ls' ∧ s = σ')
  | [], n, ls, σ, k, h => ⟨ls, σ, h, rfl, rfl⟩
  | o :: l, n, ls, σ, k, h => by
    unfold evalOps at h ⊢
    have go : ∀ {σ : St}, (memO o.dst σ.m.us = false ∧ stepK P (callK P qc) N o σ fun σ' ℓ => evalOps P (callK P qc) N ops dr (n + 1) l (recL n ℓ ls) σ' k) → ∃ ls' σ', k ls' σ' ∧ (memO o.dst σ.m.us = false ∧ stepK P (callK P qc) N o σ fun σ'' ℓ => evalOps P (callK P qc) N ops dr (n + 1) l (recL n ℓ ls) σ'' (fun l s => l = ls' ∧ s = σ')) := fun h => by
      obtain ⟨σ1, ℓ, h1, h2⟩ := stepK_det h.2
      obtain ⟨ls2, σ2, h3, h4⟩ := evalOps_det l h1
      exact ⟨ls2, σ2, h3, h.1, stepK_mono (fun σ ℓ' e => by rw [e.1, e.2]; exact h4) h2⟩
    generalize hσ : (⟨σ.t, bumpIf dr σ.m⟩ : St) = σb at h ⊢
    unfold guardK at h ⊢
    split at h
    · obtain ⟨ls', σ', h1, h2⟩ := go h
      exact ⟨ls', σ', h1, h2⟩
    · rename_i j want hg
      split at h
      · rename_i d hd
        split at h
        · rename_i b hb
          simp only [hd, hb]
          by_cases hbw : b = want
          · obtain ⟨ls', σ', h1, h2⟩ := go (h.1 hbw)
            exact ⟨ls', σ', h1, fun _ => h2, fun e => by rw [hbw] at e; cases want <;> simp at e⟩
          · have hbn : b = !want := by cases b <;> cases want <;> simp_all
            obtain ⟨ls', σ', h1, h2⟩ := evalOps_det l (h.2 hbn).2
            exact ⟨ls', σ', h1, fun e => absurd e hbw, fun _ => ⟨(h.2 hbn).1, h2⟩⟩
        · rename_i hb
          simp only [hd, hb]
          obtain ⟨ls', σ', h1, h2⟩ := evalOps_det l h.2
          exact ⟨ls', σ', h1, h.1, h2⟩
        · exact h.elim
      · exact h.elim

theorem awp_loop_det {c : Code} {σf : St} {ef : Exit} {σ σ1 : St} (hround : awp P qc np (callK P qc) N c (fun e s => match e with | .normal => s = σ1 | e => False) σ) {σ2 : St} (hs : Shift σ2 σ1)
    (h : awp P qc np (callK P qc) N (.loop c) (fun e s => e = ef ∧ s = σf) σ2) : awp P qc np (callK P qc) N (.loop c) (fun e s => e = ef ∧ s = σf) σ := by
  obtain ⟨X, I, inv, μ, x0, h0, hs0, hr⟩ := h
  refine ⟨Option X, fun x => match x with | none => σ | some x => I x, fun x => match x with | none => True | some x => inv x, fun x => match x with | none => μ x0 + 1 | some x => μ x, none, trivial, Shift.refl _, fun x hx => ?_⟩
  cases x with
  | none =>
    refine awp_mono (fun e s h => ?_) hround
    cases e with
    | normal =>
      simp only at h
      subst h
      exact ⟨some x0, h0, hs0.trans hs, Nat.lt_succ_self _⟩
    | _ => exact h.elim
  | some x =>
    refine awp_mono (fun e s h => ?_) (hr x hx)
    cases e with
    | normal =>
      obtain ⟨x', h1, h2, h3⟩ := h
      exact ⟨some x', h1, h2, h3⟩
    | _ => exact h

theorem awp_det : ∀ {c : Code} {Q : Exit → St → Prop} {σ : St}, awp P qc np (callK P qc) N c Q σ → ∃ ef σf, Q ef σf ∧ awp P qc np (callK P qc) N c (fun e s => e = ef ∧ s = σf) σ := by
  intro c
  induction c with
  | skip => intro Q σ h; exact ⟨_, _, h, rfl, rfl⟩
  | label l => intro Q σ h; exact ⟨_, _, h, rfl, rfl⟩
  | exit id => intro Q σ h; exact ⟨_, _, h, rfl, rfl⟩
  | ret => intro Q σ h; exact ⟨_, _, h, rfl, rfl⟩
  | region id ops draw =>
    intro Q σ h
    cases draw with
    | true =>
      obtain ⟨ls, σ', h1, h2⟩ := evalOps_det _ h.2
      exact ⟨.normal, σ', h1.2, h.1, evalOps_mono _ (fun l s e => ⟨by rw [e.1]; exact h1.1, rfl, e.2⟩) h2⟩
    | false =>
      obtain ⟨ls, σ', h1, h2⟩ := evalOps_det _ h
      exact ⟨.normal, σ', h1, evalOps_mono _ (fun l s e => ⟨rfl, e.2⟩) h2⟩
  | seq x y ihx ihy =>
    intro Q σ h
    obtain ⟨e1, σ1, h1, h2⟩ := ihx h
    cases e1 with
    | normal =>
      obtain ⟨e2, σ2, h3, h4⟩ := ihy h1
      refine ⟨e2, σ2, h3, ?_⟩
      show awp P qc np (callK P qc) N x _ σ
      exact awp_mono (fun e s ⟨he, hs⟩ => by subst he; subst hs; exact h4) h2
    | _ =>
      refine ⟨_, σ1, h1, ?_⟩
      show awp P qc np (callK P qc) N x _ σ
      exact awp_mono (fun e s ⟨he, hs⟩ => by subst he; subst hs; exact ⟨rfl, rfl⟩) h2
  | cond c t e iht ihe =>
    intro Q σ h
    unfold awp at h ⊢
    split at h
    · rename_i b hb
      cases b with
      | true =>
        obtain ⟨e2, σ2, h3, h4⟩ := iht (h.1 rfl)
        exact ⟨e2, σ2, h3, by simp only [hb]; exact ⟨fun _ => h4, fun e => by cases e⟩⟩
      | false =>
        obtain ⟨e2, σ2, h3, h4⟩ := ihe (h.2 rfl)
        exact ⟨e2, σ2, h3, by simp only [hb]; exact ⟨(fun e => by cases e), fun _ => h4⟩⟩
    · exact h.elim
  | block id c ih =>
    intro Q σ h
    obtain ⟨e1, σ1, h1, h2⟩ := ih h
    cases e1 with
    | exit i =>
      simp only at h1
      by_cases hi : i = id
      · rw [if_pos hi] at h1
        refine ⟨.normal, σ1, h1, ?_⟩
        show awp P qc np (callK P qc) N c _ σ
        exact awp_mono (fun e s ⟨he, hs⟩ => by subst he; subst hs; simp only [if_pos hi]; exact ⟨trivial, trivial⟩) h2
      · rw [if_neg hi] at h1
        refine ⟨.exit i, σ1, h1, ?_⟩
        show awp P qc np (callK P qc) N c _ σ
        exact awp_mono (fun e s ⟨he, hs⟩ => by subst he; subst hs; simp only [if_neg hi]; exact ⟨trivial, trivial⟩) h2
    | _ =>
      refine ⟨_, σ1, h1, ?_⟩
      show awp P qc np (callK P qc) N c _ σ
      exact awp_mono (fun e s ⟨he, hs⟩ => by subst he; subst hs; exact ⟨rfl, rfl⟩) h2
  | loop c ih =>
    intro Q σ h
    obtain ⟨X, I, inv, μ, x0, h0, hs, hround⟩ := h
    have key : ∀ (n : Nat) (x : X), μ x = n → inv x → ∃ ef σf, Q ef σf ∧ awp P qc np (callK P qc) N (.loop c) (fun e s => e = ef ∧ s = σf) (I x) := by
      intro n
      induction n using Nat.strongRecOn with
      | ind n ihn =>
        intro x hn hx
        obtain ⟨e1, σ1, h1, h2⟩ := ih (hround x hx)
        cases e1 with
        | normal =>
          obtain ⟨x', h3, h4, h5⟩ := h1
          obtain ⟨ef, σf, h6, h7⟩ := ihn (μ x') (by omega) x' rfl h3
          exact ⟨ef, σf, h6, awp_loop_det (σ1 := σ1) (awp_mono (fun e s ⟨he, hs⟩ => by subst he; exact hs) h2) h4 h7⟩
        | _ =>
          refine ⟨_, σ1, h1, Unit, fun _ => I x, fun _ => True, fun _ => 0, (), trivial, Shift.refl _, fun _ _ => awp_mono (fun e s ⟨he, hs⟩ => ?_) h2⟩
          subst he
          exact ⟨rfl, hs⟩
    obtain ⟨ef, σf, h6, X', I', inv', μ', x0', h0', hs', hr'⟩ := key _ x0 rfl h0
    exact ⟨ef, σf, h6, X', I', inv', μ', x0', h0', hs'.trans hs, hr'⟩
  | rangeFunc f p a b _ _ => intro Q σ h; exact h.elim
  | scope c ih =>
    intro Q σ h
    obtain ⟨e1, σ1, h1, h2⟩ := ih h
    refine ⟨e1, σ1, ?_, ?_⟩
    · cases e1 with
      | goto l => exact h1.elim
      | _ => exact h1
    · show awp P qc np (callK P qc) N c _ σ
      refine awp_mono (fun e s ⟨he, hs⟩ => ?_) h2
      subst he; subst hs
      cases e with
      | goto l => exact h1.elim
      | _ => exact ⟨rfl, rfl⟩
  | goto l => intro Q σ h; exact h.elim
  | refuse s => intro Q σ h; exact h.elim

/-! ### Functions: some result of which what is asked holds -/

theorem does_ex {f : Nat} {fn : Func} {c : Code} {rs : Array ResultVar} {CK : Nat → KT} (hm : P.follows .mixedOrders = true) (hf : P.funcs[f]? = some fn) (hname : (fn.name == "runtime.NumGoroutine") = false) (hb : fn.body = some c) {N : Nat} (hn : fn.ntmps = N) (hrs : fn.results = rs) (hτ : TyOk P τ)
    (hcode : codeOk qc np N c = true) {args : List AV} {k : AV → Prop} (hCK : ∀ f args d m k, CK f args d m k → callK P qc f args d m k) (hsz : args.length ≤ N)
    (h : initK args fun t => awpC τ np CK c (fun e t m => match e with
      | .normal => resK τ t m rs.toList fun l => purAsK m l fun l _ => k (oneOf l)
      | .ret => resK τ t m rs.toList fun l => purAsK m l fun l _ => k (oneOf l)
      | _ => False) t ⟨[], 0, []⟩) : ∃ r, Does P f args r ∧ k r := by
  obtain ⟨ef, σf, h1, h2⟩ := awp_det (awpC_ok hτ hCK hcode (initK_go h))
  have hef : (ef = .normal ∨ ef = .ret) ∧ resK τ σf.t σf.m rs.toList fun l => purAsK σf.m l fun l _ => k (oneOf l) := by
    cases ef with
    | normal => exact ⟨.inl rfl, h1⟩
    | ret => exact ⟨.inr rfl, h1⟩
    | _ => exact h1.elim
  obtain ⟨l, h3, h4⟩ := resK_ok hτ hef.2
  obtain ⟨l', m', h5, h6⟩ := purAsK_ok h4
  have hh : awp P qc np (callK P qc) N c (fun e σ => (match e with | .normal => True | .ret => True | _ => False) ∧ RetIs P fn σ (oneOf l')) ⟨initT args 0, ⟨[], 0, []⟩⟩ := by
    refine awp_mono ?_ h2
    rintro e σ ⟨rfl, rfl⟩
    refine ⟨?_, l, l', m', by rw [hrs]; exact h3, h5, rfl⟩
    rcases hef.1 with rfl | rfl <;> trivial
  exact ⟨oneOf l', spec_of (qc := qc) (np := np) (CK := callK P qc) hm hf hname hb hn (fun _ _ _ _ _ h => h) hsz hh, h6⟩

theorem doesB_ex {f : Nat} {fn : Func} {c : Code} {rs : Array ResultVar} {CK : Nat → KT} (hm : P.follows .mixedOrders = true) (hf : P.funcs[f]? = some fn) (hname : (fn.name == "runtime.NumGoroutine") = false) (hb : fn.body = some c) {N : Nat} (hn : fn.ntmps = N) (hrs : fn.results = rs) (hτ : TyOk P τ)
    (hcode : codeOk qc np N c = true) {args : List AV} {cs : List Cell} {k : AV → List Cell → Prop} (hCK : ∀ f args d m k, CK f args d m k → callK P qc f args d m k) (hsz : args.length + 1 ≤ N)
    (hno : noCs cs = true) (hna : noAs args = true)
    (h : initK (.c (.ptr (.x 0) 0) :: args) fun t => awpC τ np CK c (fun e t mm => match e with
      | .normal => resK τ t mm rs.toList fun l => outAsK false mm l fun l mf => mgetK (.x 0) (fun o => match o with
        | .blk cs' => noA (oneOf l) = true ∧ noCs cs' = true ∧ k (oneOf l) cs'
        | _ => False) mf.o
      | .ret => resK τ t mm rs.toList fun l => outAsK false mm l fun l mf => mgetK (.x 0) (fun o => match o with
        | .blk cs' => noA (oneOf l) = true ∧ noCs cs' = true ∧ k (oneOf l) cs'
        | _ => False) mf.o
      | _ => False) t ⟨m1 cs, 0, []⟩) : ∃ r cs', DoesB P f cs args r cs' ∧ k r cs' := by
  obtain ⟨ef, σf, h1, h2⟩ := awp_det (awpC_ok hτ hCK hcode (initK_go h))
  have hef : (ef = .normal ∨ ef = .ret) ∧ resK τ σf.t σf.m rs.toList fun l => outAsK false σf.m l fun l mf => mgetK (.x 0) (fun o => match o with
        | .blk cs' => noA (oneOf l) = true ∧ noCs cs' = true ∧ k (oneOf l) cs'
        | _ => False) mf.o := by
    cases ef with
    | normal => exact ⟨.inl rfl, h1⟩
    | ret => exact ⟨.inr rfl, h1⟩
    | _ => exact h1.elim
  obtain ⟨l, h3, h4⟩ := resK_ok hτ hef.2
  obtain ⟨l', m', h5, h6⟩ := outAsK_ok h4
  obtain ⟨o, h7, h8⟩ := mgetK_ok h6
  split at h8
  · rename_i cs'
    obtain ⟨n1, n2, hk⟩ := h8
    have hh : awp P qc np (callK P qc) N c (fun e σ => (match e with | .normal => True | .ret => True | _ => False) ∧ RetM P false fn σ (fun rf mf => ∃ ρ, LeafM ρ (m1 cs) (m1 cs') (oneOf l') mf.o rf)) ⟨initT (.c (.ptr (.x 0) 0) :: args) 0, ⟨m1 cs, 0, []⟩⟩ := by
      refine awp_mono ?_ h2
      rintro e σ ⟨rfl, rfl⟩
      refine ⟨?_, l, l', m', by rw [hrs]; exact h3, h5, id, ?_⟩
      · rcases hef.1 with rfl | rfl <;> trivial
      · refine ⟨noA_ren n1, noA_in n1, fun i o' hi => ?_, fun i j _ _ e => e, fun _ _ => rfl⟩
        have hi0 := keys_m1.1 ⟨o', hi⟩
        subst hi0
        simp [m1, mget] at hi
        subst hi
        exact ⟨by rw [id, h7]; simp only [renO, noCs_ren n2], noCs_in n2⟩
    exact ⟨oneOf l', cs', ⟨⟨hno, hna, n1, n2⟩, spec_ofM (qc := qc) (np := np) (CK := callK P qc) (own := false) hm hf hname hb hn (fun i hi => ⟨0, keys_m1.1 hi⟩) (fun _ _ _ _ _ h => h) (by simpa using hsz) hh⟩, hk⟩
  · exact h8.elim

end
end Go.Abs
