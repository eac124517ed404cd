/- The evaluator over code, and what it proves of a function. -/
import Derived.Test.YtfhnicamjcfddaaGreatDoorAbsN
import Derived.Deep.LoopGhost
import Derived.Scope
namespace Go.Abs
open Go.RowKit

/-! ### The evaluator, going on with what it comes to -/

def guardK (ops : Array Oper) (o : Oper) (σ : St) (kT kF : St → Prop) : Prop :=
  match o.guard with
  | none => kT σ
  | some (j, want) => match (ops[j]?).bind (·.dst) with
    | some d => match tget σ.t d with
      | some (.c (.sc (.bool b))) => (b = want → kT ⟨tset σ.t d (.c (.sc (.bool want))), σ.m⟩) ∧ (b = !want → kF ⟨tset σ.t d (.c (.sc (.bool (!want)))), σ.m⟩)
      | some (.tup []) => kF σ
      | _ => False
    | none => False

def putO (d : Option Nat) (x : AV) (t : List (Nat × AV)) : List (Nat × AV) :=
  match d with
  | none => t
  | some d => tset t d x

def delO (d : Option Nat) (t : List (Nat × AV)) : List (Nat × AV) :=
  match d with
  | none => t
  | some d => tset t d (.tup [])

def okO (d : Option Nat) (N : Nat) : Bool :=
  match d with
  | none => true
  | some d => decide (d < N)

/-- A call: some result that is right of it, and on with that. -/
def callK (P : Program) (qc : Nat → Bool) (f : Nat) (args : List AV) (d : Option Nat) (m : Mem) (k : AV → Mem → Lab → Prop) : Prop :=
  ∃ r m' ℓ, CallL P f args d m r m' ℓ ∧ (qc f = true → ℓ.W = []) ∧ k r m' ℓ

/-- What the evaluator does at a call. -/
abbrev KT := List AV → Option Nat → Mem → (AV → Mem → Lab → Prop) → Prop

def stepK (P : Program) (CK : Nat → KT) (N : Nat) (o : Oper) (σ : St) (k : St → Lab → Prop) : Prop :=
  match o.op with
  | .store t p v =>
    match o.dst with
    | none => match tiOf P t, ev (tget σ.t) p, ev (tget σ.t) v with
      | some ti, some pa, some va => match storeF ti σ.m pa va with
        | some m' => k ⟨σ.t, m'⟩ ⟨[], labStore pa va, false⟩
        | none => False
      | _, _, _ => False
    | some _ => False
  | .call { callee := .value f, args, .. } =>
    match ev (tget σ.t) f, evs (tget σ.t) args.toList with
    | some (.c (.fn fid caps)), some l => okO o.dst N = true ∧ CK fid (l ++ caps.map .c) o.dst σ.m fun r m' ℓ => k ⟨putO o.dst r σ.t, m'⟩ ℓ
    | _, _ => False
  | .mapUpdate t p q v =>
    match o.dst with
    | none => match ev (tget σ.t) p, ev (tget σ.t) q, ev (tget σ.t) v with
      | some pa, some qa, some va => match updF' P t σ.m pa qa va with
        | some m' => k ⟨σ.t, m'⟩ ⟨[], labUpd pa, false⟩
        | none => False
      | _, _, _ => False
    | some _ => False
  | op =>
    match o.dst with
    | some d => match decide (d < N), opF P op d (tget σ.t) σ.m with
      | true, some (x, m') => k ⟨tset σ.t d x, m'⟩ (labOp op d σ.m.nx (tget σ.t))
      | _, _ => False
    | none => False

theorem okO_lt {d : Option Nat} {N : Nat} (h : okO d N = true) : ∀ k, d = some k → k < N := fun k hk => by
  subst hk; simpa [okO] using h

def isNo : Lab → Bool
  | ⟨[], [], false⟩ => true
  | _ => false
theorem isNo_eq {ℓ : Lab} (h : isNo ℓ = true) : ℓ = noLab := by
  unfold isNo at h
  split at h
  · rfl
  · cases h
def recL (i : Nat) (ℓ : Lab) (ls : List (Nat × Lab)) : List (Nat × Lab) := match isNo ℓ with
  | true => ls
  | false => (i, ℓ) :: ls
def labAt : List (Nat × Lab) → Nat → Lab
  | [], _ => noLab
  | (j, ℓ) :: r, i => match Nat.beq i j with
    | true => ℓ
    | false => labAt r i
def npOk (ls : List (Nat × Lab)) : List (Nat × Nat) → Bool
  | [] => true
  | (i, j) :: r => match disjL (labAt ls i) (labAt ls j) with
    | true => npOk ls r
    | false => false
theorem npOk_spec {ls : List (Nat × Lab)} : ∀ {np : List (Nat × Nat)}, npOk ls np = true → ∀ i j, memP i j np = true → disjL (labAt ls i) (labAt ls j) = true
  | [], _, i, j, h => by cases h
  | (a, b) :: r, h, i, j, hm => by
    simp only [npOk] at h
    split at h
    · rename_i e
      simp only [memP] at hm
      split at hm
      · rename_i e1 e2; rw [natBeq e1, natBeq e2]; exact e
      · exact npOk_spec h i j hm
    · cases h

def bumpIf (dr : Bool) (m : Mem) : Mem := match dr with
  | true => m
  | false => bump m
def evalOps (P : Program) (CK : Nat → KT) (N : Nat) (ops : Array Oper) (dr : Bool) : Nat → List Oper → List (Nat × Lab) → St → (List (Nat × Lab) → St → Prop) → Prop
  | _, [], ls, σ, k => k ls σ
  | i, o :: l, ls, σ, k => guardK ops o ⟨σ.t, bumpIf dr σ.m⟩ (fun σ => memO o.dst σ.m.us = false ∧ stepK P CK N o σ fun σ' ℓ => evalOps P CK N ops dr (i + 1) l (recL i ℓ ls) σ' k)
      (fun σ => okO o.dst N = true ∧ evalOps P CK N ops dr (i + 1) l ls ⟨delO o.dst σ.t, σ.m⟩ k)

section
variable {P : Program} {qc : Nat → Bool} {CK : Nat → KT} {N : Nat} {ops : Array Oper} {B : Base}

theorem tget_putO {d : Option Nat} {x : AV} {t : List (Nat × AV)} : tget (putO d x t) = put d (some x) (tget t) := by
  cases d with
  | none => rfl
  | some d => funext k; simp [putO, put, tget_tset]
theorem tget_delO {d : Option Nat} {t : List (Nat × AV)} : tget (delO d t) = put d (some (.tup [])) (tget t) := by
  cases d with
  | none => rfl
  | some d => funext k; simp [delO, put, tget_tset]

theorem labOp_c0 {o : Oper} (hc : clsOf qc o = 0) {d nx : Nat} {L : Nat → Option AV} : labOp o.op d nx L = noLab := by
  obtain ⟨dst, op, ty, pos, af, gd⟩ := o
  cases op <;> simp only [clsOf] at hc <;> try first | rfl | (exact absurd hc (by decide))
  rename_i c
  obtain ⟨callee, args, ats⟩ := c
  cases callee <;> try rfl
  rename_i b
  cases b <;> try (exact absurd (show (2 : Nat) = 0 from hc) (by decide))
  all_goals
    simp only [labOp]
    split <;> rfl
theorem labOp_c1 {o : Oper} (hc : clsOf qc o ≤ 1) {d nx : Nat} {L : Nat → Option AV} : (labOp o.op d nx L).W = [] := by
  by_cases h0 : clsOf qc o = 0
  · rw [labOp_c0 h0]; rfl
  · obtain ⟨dst, op, ty, pos, af, gd⟩ := o
    cases op <;> try first | rfl | (exact absurd (show (2 : Nat) ≤ 1 from hc) (by decide))
    rename_i c
    obtain ⟨callee, args, ats⟩ := c
    cases callee <;> try rfl
    rename_i b
    cases b <;> first
      | (exact absurd (show (2 : Nat) ≤ 1 from hc) (by decide))
      | (simp only [labOp]; split <;> rfl)

theorem stepK_yields (hCK : ∀ f args d m k, CK f args d m k → callK P qc f args d m k) {o : Oper} {σ : St} {k : St → Lab → Prop} (h : stepK P CK N o σ k) :
    ∃ u m' t' ℓ, u.map (·.1) = o.dst ∧ fm m' = updF ℓ o.dst (fm m') (fm σ.m) ∧ StepL P N o (tget σ.t) (fm σ.m) u (fm m') ℓ ∧ tget t' = appl u (tget σ.t) ∧ (clsOf qc o = 0 → ℓ = noLab) ∧ (clsOf qc o ≤ 1 → ℓ.W = []) ∧ k ⟨t', m'⟩ ℓ := by
  unfold stepK at h
  split at h
  · rename_i t p v ho
    split at h
    · rename_i hd
      split at h
      · rename_i ti pa va h1 h2 h3
        split at h
        · rename_i m' hm
          obtain ⟨e1, e2⟩ := stepL_store (P := P) (N := N) ho hd h1 h2 h3 hm
          refine ⟨none, m', σ.t, _, by rw [hd]; rfl, by rw [hd]; exact e1, e2, rfl, fun hc => ?_, fun hc => ?_, h⟩ <;>
          · exfalso
            unfold clsOf at hc
            rw [ho] at hc
            simp at hc
        · exact h.elim
      · exact h.elim
    · exact h.elim
  · rename_i f args ats ho
    split at h
    · rename_i fid caps l h1 h2
      obtain ⟨hok, h⟩ := h
      obtain ⟨r, m', ℓ, hc, hq, hk⟩ := hCK _ _ _ _ _ h
      obtain ⟨e1, e2⟩ := stepL_call (P := P) (N := N) ho h1 h2 hc (okO_lt hok)
      refine ⟨o.dst.map (·, r), m', putO o.dst r σ.t, ℓ, ?_, e1, e2, ?_, fun hc => ?_, fun hc => ?_, hk⟩
      · cases o.dst <;> rfl
      · rw [tget_putO, appl_put]
        cases o.dst <;> rfl
      · exfalso
        unfold clsOf at hc
        rw [ho] at hc
        cases f <;> simp only at hc <;> first | (exact absurd hc (by decide)) | (split at hc <;> exact absurd hc (by decide))
      · unfold clsOf at hc
        rw [ho] at hc
        cases f <;> simp only at hc <;> try (exact absurd hc (by decide))
        simp [ev] at h1
        split at hc
        · rename_i e; exact hq (by rw [← h1.1]; exact e)
        · exact absurd hc (by decide)
    · exact h.elim
  · rename_i t p q v ho
    split at h
    · rename_i hd
      split at h
      · rename_i pa qa va h1 h2 h3
        split at h
        · rename_i m' hm
          obtain ⟨e1, e2⟩ := stepL_upd (P := P) (N := N) ho hd h1 h2 h3 hm
          refine ⟨none, m', σ.t, _, by rw [hd]; rfl, by rw [hd]; exact e1, e2, rfl, fun hc => ?_, fun hc => ?_, h⟩ <;>
          · exfalso
            unfold clsOf at hc
            rw [ho] at hc
            simp at hc
        · exact h.elim
      · exact h.elim
    · exact h.elim
  · rename_i op h1 h2 h3
    split at h
    · rename_i d hd
      split at h
      · rename_i x m' hlt hop
        obtain ⟨e1, e2⟩ := stepL_op (P := P) (N := N) hd (by simpa using hlt) h1 h2 h3 hop
        exact ⟨some (d, x), m', tset σ.t d x, _, by rw [hd]; rfl, by rw [hd]; exact e1, e2, by funext k; simp [appl, tget_tset], fun hc => labOp_c0 hc, fun hc => labOp_c1 hc, h⟩
      · exact h.elim
    · exact h.elim

/-- What is told of the labels so far. -/
structure LsOk (qc : Nat → Bool) (ops : Array Oper) (n : Nat) (ls : List (Nat × Lab)) : Prop where
  out : ∀ j, n ≤ j → labAt ls j = noLab
  c0 : ∀ j o, ops[j]? = some o → clsOf qc o = 0 → labAt ls j = noLab
  c1 : ∀ j o, ops[j]? = some o → clsOf qc o ≤ 1 → (labAt ls j).W = []
theorem labAt_rec {n : Nat} {ls : List (Nat × Lab)} (h : labAt ls n = noLab) (ℓ : Lab) (j : Nat) : labAt (recL n ℓ ls) j = if j = n then ℓ else labAt ls j := by
  unfold recL
  split
  · rename_i e
    split
    · rename_i hj; rw [hj, h, isNo_eq e]
    · rfl
  · simp only [labAt]
    cases hb : Nat.beq j n with
    | true => rw [if_pos (natBeq hb)]
    | false => rw [if_neg (natBeqF hb)]
theorem LsOk.next {n : Nat} {ls : List (Nat × Lab)} (h : LsOk qc ops n ls) {o : Oper} (ho : ops[n]? = some o) {ℓ : Lab} (h0 : clsOf qc o = 0 → ℓ = noLab) (h1 : clsOf qc o ≤ 1 → ℓ.W = []) : LsOk qc ops (n + 1) (recL n ℓ ls) := by
  have hn := h.out n (Nat.le_refl _)
  refine ⟨fun j hj => ?_, fun j o' ho' hc => ?_, fun j o' ho' hc => ?_⟩
  · rw [labAt_rec hn, if_neg (by omega)]; exact h.out j (by omega)
  · rw [labAt_rec hn]
    split
    · rename_i hj; subst hj; rw [ho] at ho'; simp at ho'; subst ho'; exact h0 hc
    · exact h.c0 j o' ho' hc
  · rw [labAt_rec hn]
    split
    · rename_i hj; subst hj; rw [ho] at ho'; simp at ho'; subst ho'; exact h1 hc
    · exact h.c1 j o' ho' hc

theorem guardK_cases {o : Oper} {σ : St} {kT kF : St → Prop} (h : guardK ops o σ kT kF) :
    (guardF ops o (tget σ.t) = some true ∧ ∃ t, tget t = tget σ.t ∧ kT ⟨t, σ.m⟩) ∨ (guardF ops o (tget σ.t) = some false ∧ ∃ t, tget t = tget σ.t ∧ kF ⟨t, σ.m⟩) := by
  unfold guardK at h
  cases hg : o.guard with
  | none =>
    rw [hg] at h
    exact .inl ⟨by simp [guardF, hg], σ.t, rfl, h⟩
  | some gw =>
    obtain ⟨j, want⟩ := gw
    rw [hg] at h
    simp only at h
    cases hd : (ops[j]?).bind (·.dst) with
    | none => rw [hd] at h; exact h.elim
    | some d =>
      rw [hd] at h
      simp only at h
      split at h
      · rename_i b hb
        have same : ∀ w : Bool, b = w → tget (tset σ.t d (.c (.sc (.bool w)))) = tget σ.t := fun w hw => by
          funext k
          rw [tget_tset]
          split
          · rename_i hk; rw [hk, hb, hw]
          · rfl
        by_cases hbw : b = want
        · exact .inl ⟨by simp [guardF, hg, hd, hb, hbw], _, same want hbw, h.1 hbw⟩
        · have hbn : b = !want := by cases b <;> cases want <;> simp_all
          exact .inr ⟨by simp [guardF, hg, hd, hb, hbn], _, same _ hbn, h.2 hbn⟩
      · rename_i hb
        exact .inr ⟨by simp [guardF, hg, hd, hb], σ.t, rfl, h⟩
      · exact h.elim

theorem memO_F {d : Option Nat} {us : List Nat} (h : memO d us = false) : ∀ k, d = some k → memU k us = false := fun k hk => by
  subst hk; exact h

theorem evalOps_listS (hCK : ∀ f args d m k, CK f args d m k → callK P qc f args d m k) : ∀ (l : List Oper) (n : Nat) (ls : List (Nat × Lab)) (σ : St) (k : List (Nat × Lab) → St → Prop), (∀ j, l[j]? = ops[n + j]?) → LsOk qc ops n ls → evalOps P CK N ops true n l ls σ k →
    ∃ ls', (∀ j, j < n → labAt ls' j = labAt ls j) ∧ LsOk qc ops (n + l.length) ls' ∧ listS P N ops (labAt ls') (fun φ F => ∃ σ', φ = tget σ'.t ∧ F = fm σ'.m ∧ k ls' σ') n l (tget σ.t) (fm σ.m)
  | [], n, ls, σ, k, _, hls, h => ⟨ls, fun _ _ => rfl, hls, σ, rfl, rfl, h⟩
  | o :: l, n, ls, σ, k, hl, hls, h => by
    have h0 : ops[n]? = some o := by simpa using (hl 0).symm
    have hl' : ∀ j, l[j]? = ops[n + 1 + j]? := fun j => by have := hl (j + 1); simpa [Nat.add_assoc, Nat.add_comm 1 j] using this
    unfold evalOps at h
    rcases guardK_cases h with ⟨hg, t, ht, hm, hs⟩ | ⟨hg, t, ht, hm, hs⟩
    · obtain ⟨u, m', t', ℓ, r1, r2, r3, r4, r5, r6, r7⟩ := stepK_yields hCK hs
      obtain ⟨ls', q1, q2, q3⟩ := evalOps_listS hCK l (n + 1) _ _ k hl' (hls.next h0 r5 r6) r7
      have hln : labAt ls' n = ℓ := by rw [q1 n (by omega), labAt_rec (hls.out n (Nat.le_refl _)), if_pos rfl]
      refine ⟨ls', fun j hj => ?_, by rw [List.length_cons, show n + (l.length + 1) = n + 1 + l.length by omega]; exact q2, tget t', fm m', .inl ⟨⟨hg, ?_⟩, by rw [hln]; exact r2, u, r1, ?_, ?_⟩, q3⟩
      · rw [q1 j (by omega), labAt_rec (hls.out n (Nat.le_refl _)), if_neg (by omega)]
      · exact memO_F hm
      · rw [hln]
        simp only at r3
        rw [ht] at r3
        exact r3
      · simp only at r4
        rw [r4, ht]
    · obtain ⟨ls', q1, q2, q3⟩ := evalOps_listS hCK l (n + 1) ls _ k hl' ⟨fun j hj => hls.out j (by omega), hls.c0, hls.c1⟩ hs
      refine ⟨ls', fun j hj => q1 j (by omega), by rw [List.length_cons, show n + (l.length + 1) = n + 1 + l.length by omega]; exact q2, delF o.dst (tget σ.t), fm σ.m, .inr ⟨hg, ⟨okO_lt hm, rfl⟩, rfl⟩, ?_⟩
      simp only at q3
      rw [tget_delO, ht, ← delF_put] at q3
      exact q3

theorem evalOps_wp (hCK : ∀ f args d m k, CK f args d m k → callK P qc f args d m k) (hN : B.N = N) {Q : Exit → Act → World → Prop} : ∀ (l : List Oper) (n : Nat) (ls : List (Nat × Lab)) (σ : St) (k : List (Nat × Lab) → St → Prop) (a : Act) (w : World),
    (∀ ls σ a w, RS B (tget σ.t) σ.m a w → k ls σ → Q .normal a w) → RS B (tget σ.t) σ.m a w → evalOps P CK N ops false n l ls σ k → wpList P ops Q l a w
  | [], n, ls, σ, k, a, w, hQ, hR, h => hQ _ _ _ _ hR h
  | o :: l, n, ls, σ, k, a, w, hQ, hR, h => by
    unfold evalOps at h
    unfold wpList
    have hRb : RS B (tget σ.t) (bump σ.m) a w := hR.bump
    rcases guardK_cases h with ⟨hg, t, ht, hm, hs⟩ | ⟨hg, t, ht, hm, hs⟩
    · obtain ⟨u, m', t', ℓ, r1, r2, r3, r4, r5, r6, r7⟩ := stepK_yields hCK hs
      simp only at r2 r3 r4
      rw [ht] at r3
      rw [guard_wanted hRb hg]
      simp only [if_true]
      obtain ⟨M', g1, g2⟩ := r3 (tget σ.t) (bump σ.m) (fun _ _ => rfl) ⟨fun _ _ => rfl, rfl⟩ hm
      refine .inl (stepR_wp hN hRb g1 fun a' w' hR' => evalOps_wp hCK hN l (n + 1) _ _ k a' w' hQ ?_ r7)
      have e : fm M' = fm m' := g2.trans r2.symm
      simp only
      rw [r4, ht]
      exact hR'.fm e
    · rw [guard_wanted hRb hg]
      simp only [Bool.false_eq_true, if_false]
      refine evalOps_wp hCK hN l (n + 1) _ _ k _ _ hQ ?_ hs
      simp only
      rw [tget_delO, ht, ← delF_put]
      exact skip_put hN hRb ⟨okO_lt hm, rfl⟩

/-! ### Code -/

/-- Every state that is right of b is right of a. -/
def Shift (a b : St) : Prop := ∀ (B : Base) (act : Act) (w : World), RS B (tget b.t) b.m act w → RS B (tget a.t) a.m act w

abbrev NPT := List (Nat × List (Nat × Nat))
def npF : NPT → Nat → List (Nat × Nat)
  | [], _ => []
  | (j, l) :: r, i => match Nat.beq i j with
    | true => l
    | false => npF r i

def awp (P : Program) (qc : Nat → Bool) (np : NPT) (CK : Nat → KT) (N : Nat) : Code → (Exit → St → Prop) → St → Prop
  | .skip, Q, σ => Q .normal σ
  | .label _, Q, σ => Q .normal σ
  | .region id ops draw, Q, σ => match draw with
    | true => lexS qc (npF np id) ops = true ∧ evalOps P CK N ops true 0 ops.toList [] ⟨σ.t, bump σ.m⟩ fun ls σ => npOk ls (npF np id) = true ∧ Q .normal σ
    | false => evalOps P CK N ops false 0 ops.toList [] σ fun _ σ => Q .normal σ
  | .seq a b, Q, σ => awp P qc np CK N a (fun e σ' => match e with | .normal => awp P qc np CK N b Q σ' | e => Q e σ') σ
  | .cond c t e, Q, σ => match ev (tget σ.t) c with
    | some (.c (.sc (.bool b))) => (b = true → awp P qc np CK N t Q σ) ∧ (b = false → awp P qc np CK N e Q σ)
    | _ => False
  | .block id c, Q, σ => awp P qc np CK N c (fun e σ' => match e with | .exit i => if i = id then Q .normal σ' else Q (.exit i) σ' | e => Q e σ') σ
  | .loop c, Q, σ => ∃ (X : Type) (I : X → St) (inv : X → Prop) (μ : X → Nat) (x0 : X), inv x0 ∧ Shift (I x0) σ ∧
      ∀ x, inv x → awp P qc np CK N c (fun e σ' => match e with | .normal => ∃ x', inv x' ∧ Shift (I x') σ' ∧ μ x' < μ x | e => Q e σ') (I x)
  | .exit id, Q, σ => Q (.exit id) σ
  | .ret, Q, σ => Q .ret σ
  | .scope c, Q, σ => awp P qc np CK N c (fun e σ' => match e with | .goto _ => False | e => Q e σ') σ
  | _, _, _ => False

def conc (B : Base) (Q : Exit → St → Prop) : Exit → Act → World → Prop := fun e a w => ∃ σ : St, RS B (tget σ.t) σ.m a w ∧ Q e σ

theorem awp_ok {np : NPT} (hCK : ∀ f args d m k, CK f args d m k → callK P qc f args d m k) (hm : P.follows .mixedOrders = true) (hN : B.N = N) : ∀ (c : Code) (Q : Exit → St → Prop) (σ : St) (a : Act) (w : World), RS B (tget σ.t) σ.m a w → awp P qc np CK N c Q σ → c.wp P (conc B Q) a w := by
  intro c
  induction c with
  | skip => intro Q σ a w hR h; exact wp_skip ⟨σ, hR, h⟩
  | label l => intro Q σ a w hR h; exact wp_label ⟨σ, hR, h⟩
  | exit id => intro Q σ a w hR h; exact wp_exit ⟨σ, hR, h⟩
  | ret => intro Q σ a w hR h; exact wp_ret ⟨σ, hR, h⟩
  | region id ops draw =>
    intro Q σ a w hR h
    cases draw with
    | false => exact wp_region_list (evalOps_wp hCK hN _ _ _ _ _ a w (fun ls σ' a w hR' hk => ⟨σ', hR', hk⟩) hR h)
    | true =>
      obtain ⟨h1, h2⟩ := h
      obtain ⟨ls, q1, q2, q3⟩ := evalOps_listS hCK ops.toList 0 [] _ _ (by simp) ⟨fun _ _ => rfl, fun _ _ _ _ => rfl, fun _ _ _ _ => rfl⟩ h2
      -- what is told at the end holds of the labels
      by_cases hn : npOk ls (npF np id) = true
      · refine regionD_ok (lab := labAt ls) hm hN h1 ⟨q2.c0, q2.c1, npOk_spec hn⟩ (fun φ m a w hR' hk => ?_) hR.bump q3
        obtain ⟨σ', e1, e2, _, hk⟩ := hk
        subst e1
        exact ⟨σ', hR'.fm e2, hk⟩
      · exfalso
        have key : ∀ (l : List Oper) (k : Nat) (φ : Nat → Option AV) (F : FM), listS P N ops (labAt ls) (fun φ F => ∃ σ' : St, φ = tget σ'.t ∧ F = fm σ'.m ∧ npOk ls (npF np id) = true ∧ Q .normal σ') k l φ F → False := by
          intro l
          induction l with
          | nil => intro k φ F h; obtain ⟨_, _, _, h, _⟩ := h; exact hn h
          | cons o l ih => intro k φ F h; obtain ⟨_, _, _, h⟩ := h; exact ih _ _ _ h
        exact key _ _ _ _ q3
  | seq x y ihx ihy =>
    intro Q σ a w hR h
    refine wp_seq (wp_mono (ihx _ σ a w hR h) fun e a w hq => ?_)
    obtain ⟨σ', hR', hq⟩ := hq
    cases e with
    | normal => exact ihy Q σ' a w hR' hq
    | _ => exact ⟨σ', hR', hq⟩
  | cond c t e iht ihe =>
    intro Q σ a w hR h
    unfold awp at h
    split at h
    · rename_i b hb
      obtain ⟨g, hs, hI⟩ := hR.ex
      have hv := isBool (ev_rep hI.laid hs hb)
      exact wp_cond_split hv (fun ht => iht Q σ a w hR (h.1 ht)) (fun hf => ihe Q σ a w hR (h.2 hf))
    · exact h.elim
  | block id c ih =>
    intro Q σ a w hR h
    refine wp_block (wp_mono (ih _ σ a w hR h) fun e a w hq => ?_)
    obtain ⟨σ', hR', hq⟩ := hq
    cases e with
    | exit i =>
      simp only at hq
      simp only [Exit.inBlock]
      split
      · rename_i hi; rw [if_pos hi] at hq; exact ⟨σ', hR', hq⟩
      · rename_i hi; rw [if_neg hi] at hq; exact ⟨σ', hR', hq⟩
    | _ => exact ⟨σ', hR', hq⟩
  | loop c ih =>
    intro Q σ a w hR h
    obtain ⟨X, I, inv, μ, x0, h0, hs, hround⟩ := h
    refine wp_loop_ghost (fun n a w => ∃ x, inv x ∧ RS B (tget (I x).t) (I x).m a w ∧ μ x = n) (μ x0) ⟨x0, h0, hs B a w hR, rfl⟩ ?_
    intro n a w ⟨x, hx, hRx, hn⟩
    refine wp_mono (ih _ (I x) a w hRx (hround x hx)) fun e a' w' hq => ?_
    obtain ⟨σ', hR', hq⟩ := hq
    cases e with
    | normal =>
      obtain ⟨x', hx', hsh, hlt⟩ := hq
      exact ⟨μ x', by omega, x', hx', hsh B a' w' hR', rfl⟩
    | _ => exact ⟨σ', hR', hq⟩
  | rangeFunc f p a b _ _ => intro Q σ a w hR h; exact h.elim
  | scope c ih =>
    intro Q σ a w hR h
    refine wp_scope_straight (wp_mono (ih _ σ a w hR h) fun e a w hq => ?_)
    obtain ⟨σ', hR', hq⟩ := hq
    cases e with
    | goto l => exact hq.elim
    | _ => exact ⟨σ', hR', hq⟩
  | goto l => intro Q σ a w hR h; exact h.elim
  | refuse s => intro Q σ a w hR h; exact h.elim

/-! ### Shifts -/

def SubT : List (Nat × AV) → List (Nat × AV) → Prop
  | [], _ => True
  | (t, x) :: r, b => tget b t = some x ∧ SubT r b
def SubO : List (Id × MObj) → List (Id × MObj) → Prop
  | [], _ => True
  | (i, o) :: r, b => mget b i = some o ∧ SubO r b

theorem SubT.get : ∀ {a b : List (Nat × AV)}, SubT a b → ∀ {t : Nat} {x : AV}, tget a t = some x → tget b t = some x
  | [], _, _, _, _, h => by cases h
  | (s, y) :: r, b, h, t, x, hx => by
    simp only [tget] at hx
    split at hx
    · rename_i hts; simp at hx; subst hx; rw [hts]; exact h.1
    · exact SubT.get h.2 hx
theorem SubO.get : ∀ {a b : List (Id × MObj)}, SubO a b → ∀ {t : Id} {x : MObj}, mget a t = some x → mget b t = some x
  | [], _, _, _, _, h => by cases h
  | (s, y) :: r, b, h, t, x, hx => by
    simp only [mget] at hx
    split at hx
    · rename_i hts; simp at hx; subst hx; rw [hts]; exact h.1
    · exact SubO.get h.2 hx

theorem Inv.sub {g : G} {m m' : Mem} {w : World} (h : Inv B g m w) (hs : ∀ i o, mget m'.o i = some o → mget m.o i = some o) (hn : ∀ s k, Used m s k → Used m' s k) : Inv B g m' w :=
  { ok := fun i o hi => h.ok i o (hs i o hi), apart := fun i j oi oj b hi hj => h.apart i j oi oj b (hs i oi hi) (hs j oj hj), fresh := fun s k hk => h.fresh s k (fun hU => hk (hn s k hU)), flt := h.flt, ext := h.ext, fnew := h.fnew,
    own := fun i o b hi => h.own i o b (hs i o hi), os := h.os, tape := h.tape, output := h.output, size := h.size, block := h.block }

theorem Shift.refl (a : St) : Shift a a := fun _ _ _ h => h
theorem Shift.trans {a b c : St} (h : Shift a b) (k : Shift b c) : Shift a c := fun B act w hR => h B act w (k B act w hR)
theorem Shift.sub {a b : St} (h1 : SubT a.t b.t) (h2 : SubO a.m.o b.m.o) (h3 : ∀ s k, Used b.m s k → Used a.m s k) : Shift a b := fun B act w hR => by
  obtain ⟨⟨g, hs, hI⟩, hd, hz⟩ := hR
  exact ⟨⟨g, fun t x hx => hs t x (h1.get hx), hI.sub (fun i o => h2.get) h3⟩, hd, hz⟩

/-- A nil slice is an array of one's own, of no elements. -/
theorem Shift.nilArr {b : St} {t : Nat} (ht : tget b.t t = some (.c (.sc (.slice none 0 0)))) (s e sz : Nat) (hlow : lowS s = true := by rfl) :
    Shift ⟨tset b.t t (.c (.view (.l s (bump b.m).nx) 0 0)), bump (addObj s (bump b.m) (.arr e sz [] false))⟩ b := Shift.trans (fun B act w hR => hR.bump) (b := ⟨_, addObj s (bump b.m) (.arr e sz [] false)⟩) fun B act w hR => by
  obtain ⟨⟨g, hs, hI⟩, hd, hz⟩ := hR.bump
  have := inv_add (w' := w) hI s (m1 := bump b.m) (fun _ _ h => h) ⟨rfl, rfl⟩ (by rw [bump_us]; simp only [memU, hlow]) (row := none) (grownBy_refl w none) (fun b h => by cases h) (V := .slice none 0 0) (s := sz) (obj := .arr e sz [] false) (fun b hb => by simp [blockOf] at hb)
    (fun he => .arr [] (if_pos rfl) (by
      have hβ : (addId g (newId s (bump b.m)) (.slice none 0 0) sz).β (newId s (bump b.m)) = .slice none 0 0 := if_pos rfl
      rw [hβ]; exact World.ownsRow_nil w 0 e sz) (fun k x h => by simp at h) (fun k x h => by simp at h) (fun u h => by simp at h) (fun bb o hb => by
      have hβ : (addId g (newId s (bump b.m)) (.slice none 0 0) sz).β (newId s (bump b.m)) = .slice none 0 0 := if_pos rfl
      rw [hβ] at hb; simp [blockOf] at hb))
  refine ⟨⟨_, fun k x hx => ?_, this.2⟩, hd, hz⟩
  simp only [tget_tset] at hx
  split at hx
  · rename_i hk
    simp at hx
    subst hx
    obtain ⟨v, h1, h2⟩ := hs t _ ht
    obtain ⟨rfl, _⟩ := isSc h2
    rw [hk]
    have hβ : (addId g (newId s (bump b.m)) (.slice none 0 0) sz).β (newId s (bump b.m)) = .slice none 0 0 := if_pos rfl
    exact ⟨_, h1, .c (owns_view (World.ownsRow_nil w 0 e sz) (.inl rfl) hβ)⟩
  · obtain ⟨v, h1, h2⟩ := hs k x hx
    exact ⟨v, h1, h2.ext this.1⟩

/-- A nil slice is a list of no elements. -/
theorem Shift.nilLst {b : St} {t : Nat} (ht : tget b.t t = some (.c (.sc (.slice none 0 0)))) : Shift ⟨tset b.t t (.c (.lst [])), b.m⟩ b := fun B act w hR => by
  obtain ⟨⟨g, hs, hI⟩, hd, hz⟩ := hR
  refine ⟨⟨g, fun k x hx => ?_, hI⟩, hd, hz⟩
  simp only [tget_tset] at hx
  split at hx
  · rename_i hk
    simp at hx
    subst hx
    obtain ⟨v, h1, h2⟩ := hs t _ ht
    obtain ⟨rfl, _⟩ := isSc h2
    rw [hk]
    exact ⟨_, h1, .c (.pure .nil)⟩
  · exact hs k x hx

/-! ### What is proved of a function that is given data and hands back data -/

def g0 (F : Nat → Nat → Prop) : G := { K := fun _ => False, β := fun _ => undef, sz := fun _ => 0, F := F }

def Does (P : Program) (f : Nat) (args : List AV) (r : AV) : Prop :=
  (∀ vals w, (callFunc f vals).run P w = .ok (.enter f vals) w) ∧
  ∀ (F : Nat → Nat → Prop) (w : World) (vals : List Value), (∀ b o, F b o → b < w.heap.size) → Laid F w → vals.length = args.length → (∀ (j : Nat) a v, args[j]? = some a → vals[j]? = some v → RepA (g0 F) w a v) →
    Calls P f vals.toArray w fun e w' => ∃ v F', e = .returned v ∧ (∀ b o, F b o → F' b o) ∧ (∀ b o, F' b o → F b o ∨ w.heap.size ≤ b) ∧ (∀ b o, F' b o → b < w'.heap.size) ∧ RepA (g0 F') w' r v ∧ Below w.heap.size w w'

def purA1 (m : Mem) : AV → Option (AV × Mem)
  | .c (.fn f caps) => match purL m caps with
    | some (l, m') => some (.c (.fn f l), m')
    | none => none
  | .c x => match pur m x with
    | some (y, m') => some (.c y, m')
    | none => none
  | .agg cs => match purL m cs with
    | some (l, m') => some (.agg l, m')
    | none => none
  | .tup _ => none

def purAs (m : Mem) : List AV → Option (List AV × Mem)
  | [] => some ([], m)
  | x :: r => match purA1 m x with
    | some (y, m1) => match purAs m1 r with
      | some (l, m2) => some (y :: l, m2)
      | none => none
    | none => none

theorem repA_pure {g : G} {w : World} {c : Cell} {v : Value} (h : RepP g.F w c v) : RepA (g0 g.F) w (.c c) v := .c (.pure h)

theorem purA1_ok {g : G} {m m' : Mem} {w : World} (hI : Inv B g m w) {x y : AV} {v : Value} (hr : RepA g w x v) (h : purA1 m x = some (y, m')) : ∃ g', Ext g w g' w ∧ Inv B g' m' w ∧ RepA (g0 g'.F) w y v := by
  unfold purA1 at h
  split at h
  · split at h
    · rename_i l m1 hp
      simp at h; obtain ⟨rfl, rfl⟩ := h
      cases hr with
      | c hr => cases hr with
        | pure hr => cases hr
        | fn us hl hc =>
          obtain ⟨hl', g', h1, h2, h3⟩ := purL_ok hI hl hc hp
          exact ⟨g', h1, h2, .c (.fn us (by omega) fun j c u hj hu => .pure (h3 j c u hj hu))⟩
    · cases h
  · split at h
    · rename_i c' m1 hp
      simp at h; obtain ⟨rfl, rfl⟩ := h
      cases hr with
      | c hr =>
        obtain ⟨g', h1, h2, h3⟩ := pur_ok hI hr hp
        exact ⟨g', h1, h2, .c (.pure h3)⟩
    · cases h
  · split at h
    · rename_i l m1 hp
      simp at h; obtain ⟨rfl, rfl⟩ := h
      cases hr with
      | agg us hl hc =>
        obtain ⟨hl', g', h1, h2, h3⟩ := purL_ok hI hl hc hp
        exact ⟨g', h1, h2, .agg us (by omega) fun j c u hj hu => .pure (h3 j c u hj hu)⟩
    · cases h
  · cases h

theorem g0_mono {g g' : G} {w w' : World} (he : Ext g w g' w') : Ext (g0 g.F) w (g0 g'.F) w' := ⟨fun _ h => h.elim, fun _ h => h.elim, fun _ h => h.elim, he.F, he.cell⟩

theorem purAs_ok : ∀ {l l' : List AV} {g : G} {m m' : Mem} {w : World} {vs : List Value} (_ : Inv B g m w) (_ : vs.length = l.length) (_ : ∀ (j : Nat) x v, l[j]? = some x → vs[j]? = some v → RepA g w x v) (_ : purAs m l = some (l', m')),
    l'.length = l.length ∧ ∃ g', Ext g w g' w ∧ Inv B g' m' w ∧ ∀ (j : Nat) x v, l'[j]? = some x → vs[j]? = some v → RepA (g0 g'.F) w x v := by
  intro l
  induction l with
  | nil =>
    intro l' g m m' w vs hI hl hr h
    simp [purAs] at h
    obtain ⟨rfl, rfl⟩ := h
    exact ⟨rfl, g, .refl g w, hI, fun j x v h => by simp at h⟩
  | cons x r ih =>
    intro l' g m m' w vs hI hl hr h
    unfold purAs at h
    split at h
    · rename_i y m1 hx
      split at h
      · rename_i l2 m2 hr2
        simp at h
        obtain ⟨rfl, rfl⟩ := h
        match vs, hl with
        | v :: vs, hl =>
          obtain ⟨g1, e1, i1, p1⟩ := purA1_ok hI (hr 0 x v rfl rfl) hx
          obtain ⟨hl', g2, e2, i2, p2⟩ := ih i1 (vs := vs) (by simpa using hl) (fun j x' v' h1 h2 => (hr (j + 1) x' v' (by simpa using h1) (by simpa using h2)).ext e1) hr2
          refine ⟨by simp [hl'], g2, e1.trans e2, i2, fun j x' v' h1 h2 => ?_⟩
          cases j with
          | zero => simp at h1 h2; subst h1; subst h2; exact p1.ext (g0_mono e2)
          | succ j => simp at h1 h2; exact p2 j x' v' h1 h2
      · cases h
    · cases h

def resF (P : Program) (σ : St) : List ResultVar → Option (List AV)
  | [] => some []
  | .tmp t :: r => match tget σ.t t, resF P σ r with
    | some x, some l => some (x :: l)
    | _, _ => none
  | .cell a T :: r => match tget σ.t a, tiOf P T, resF P σ r with
    | some p, some ti, some l => match loadF ti σ.m p with
      | some x => some (x :: l)
      | none => none
    | _, _, _ => none

def oneOf : List AV → AV
  | [x] => x
  | l => .tup l

/-- What the function hands back, as data. -/
def RetIs (P : Program) (fn : Func) (σ : St) (r : AV) : Prop := ∃ l l' m', resF P σ fn.results.toList = some l ∧ purAs σ.m l = some (l', m') ∧ r = oneOf l'

theorem resF_ok {g : G} {σ : St} {a : Act} {w : World} (hs : Slots g w (tget σ.t) a) (hI : Inv B g σ.m w) {f : ResultVar → Sem Value} (hf1 : ∀ t, f (.tmp t) = pure (a.tmps.getD t undef)) (hf2 : ∀ c t, f (.cell c t) = do loadVar t (← asAddr (a.tmps.getD c undef))) :
    ∀ {rs : List ResultVar} {l : List AV}, resF P σ rs = some l →
    ∃ vs : List Value, (rs.mapM f).run P w = .ok vs w ∧ vs.length = l.length ∧ ∀ (j : Nat) x v, l[j]? = some x → vs[j]? = some v → RepA g w x v
  | [], l, h => by
    simp [resF] at h
    subst h
    exact ⟨[], by simp, rfl, fun j x v h => by simp at h⟩
  | .tmp t :: rs, l, h => by
    unfold resF at h
    split at h
    · rename_i x l' hx hl
      simp at h
      subst h
      obtain ⟨v, h1, h2⟩ := hs t x hx
      obtain ⟨vs, r1, r2, r3⟩ := resF_ok hs hI hf1 hf2 hl
      refine ⟨v :: vs, ?_, by simp [r2], fun j y u hj hu => ?_⟩
      · rw [List.mapM_cons, hf1]
        simp only [Sem.run_bind, Sem.run_pure, Result.andThen_ok, r1]
        simp [h1]
      · cases j with
        | zero => simp at hj hu; subst hj; subst hu; exact h2
        | succ j => simp at hj hu; exact r3 j y u hj hu
    · cases h
  | .cell c T :: rs, l, h => by
    unfold resF at h
    split at h
    · rename_i p ti l' hp hti hl
      split at h
      · rename_i x hx
        simp at h
        subst h
        obtain ⟨v, h1, h2⟩ := hs c p hp
        obtain ⟨u, q1, q2⟩ := loadF_ok hI hti h2 hx
        obtain ⟨vs, r1, r2, r3⟩ := resF_ok hs hI hf1 hf2 hl
        have hv : ∃ ad, v = .pointer (some ad) := by
          unfold loadF at hx
          split at hx
          · cases h2 with
            | c h2 => cases h2 with
              | pure h2 => cases h2
              | ptr _ _ => exact ⟨_, rfl⟩
          · cases h2 with
            | c h2 => cases h2 with
              | pure h2 => cases h2
              | aptr _ _ => exact ⟨_, rfl⟩
          · cases h2 with
            | c h2 => cases h2 with
              | pure h2 => cases h2
              | pel _ _ _ => exact ⟨_, rfl⟩
          · cases hx
        obtain ⟨ad, rfl⟩ := hv
        have q1' : (loadVar T ad).run P w = .ok u w := by simpa [Instr.loadAt, Instr.sureAddr] using q1
        have hget : a.tmps.getD c undef = .pointer (some ad) := by simp [h1]
        refine ⟨u :: vs, ?_, by simp [r2], fun j y u' hj hu => ?_⟩
        · rw [List.mapM_cons, hf2]
          simp only [Sem.run_bind, hget, asAddr, Sem.run_pure, Result.andThen_ok, q1', r1]
        · cases j with
          | zero => simp at hj hu; subst hj; subst hu; exact q2
          | succ j => simp at hj hu; exact r3 j y u' hj hu
      · cases h
    · cases h

theorem results_ok {g : G} {σ : St} {a : Act} {w : World} (hs : Slots g w (tget σ.t) a) (hI : Inv B g σ.m w) {fn : Func} {r : AV} (h : RetIs P fn σ r) :
    ∃ v g' m', (results fn a.tmps).run P w = .ok v w ∧ Ext g w g' w ∧ Inv B g' m' w ∧ RepA (g0 g'.F) w r v := by
  obtain ⟨l, l', m', h1, h2, rfl⟩ := h
  obtain ⟨vs, r1, r2, r3⟩ := resF_ok hs hI (f := fun x => match x with | .tmp t => pure (a.tmps.getD t undef) | .cell c t => do loadVar t (← asAddr (a.tmps.getD c undef))) (fun _ => rfl) (fun _ _ => rfl) h1
  obtain ⟨hl, g', e1, i1, p1⟩ := purAs_ok hI r2 r3 h2
  have hrun : (results fn a.tmps).run P w = .ok (if h : vs.toArray.size = 1 then vs.toArray[0] else .tuple vs.toArray) w := by
    unfold results
    rw [Array.mapM_eq_mapM_toList]
    simp only [Sem.run_bind, Sem.run_map]
    erw [r1]
    rfl
  refine ⟨_, g', m', hrun, e1, i1, ?_⟩
  have hlv : vs.length = l'.length := by omega
  rcases l' with _ | ⟨x, _ | ⟨y, r⟩⟩
  · obtain rfl : vs = [] := List.eq_nil_of_length_eq_zero hlv
    exact .tup [] rfl (fun j x u h => by simp at h)
  · obtain ⟨v, rfl⟩ : ∃ v, vs = [v] := by
      match vs, hlv with
      | [v], _ => exact ⟨v, rfl⟩
    exact p1 0 x v rfl rfl
  · obtain ⟨v, u, vr, rfl⟩ : ∃ v u vr, vs = v :: u :: vr := by
      match vs, hlv with
      | v :: u :: vr, _ => exact ⟨v, u, vr, rfl⟩
    have : ¬ (v :: u :: vr).toArray.size = 1 := by simp
    rw [dif_neg this]
    exact .tup _ hlv p1

/-- The frame's slots as the function begins. -/
def initT : List AV → Nat → List (Nat × AV)
  | [], _ => []
  | x :: r, i => (i, x) :: initT r (i + 1)

theorem initT_get : ∀ (l : List AV) (i t : Nat) {x : AV}, tget (initT l i) t = some x → i ≤ t ∧ l[t - i]? = some x
  | [], _, _, _, h => by cases h
  | y :: r, i, t, x, h => by
    simp only [initT, tget] at h
    split at h
    · rename_i ht
      simp at h
      subst h
      exact ⟨by omega, by rw [ht, Nat.sub_self]; rfl⟩
    · obtain ⟨h1, h2⟩ := initT_get r (i + 1) t h
      exact ⟨by omega, by rw [show t - i = (t - (i + 1)) + 1 by omega]; simpa using h2⟩

theorem callable {f : Nat} {fn : Func} (hf : P.funcs[f]? = some fn) (hname : (fn.name == "runtime.NumGoroutine") = false) {c : Code} (hb : fn.body = some c) : ∀ vals w, (callFunc f vals).run P w = .ok (.enter f vals) w := fun vals w => by
  simp only [callFunc, Sem.run_bind, run_program, Result.andThen_ok, hf, hname, hb, Option.isNone_some]
  simp

/-- A FUNCTION IS RIGHT if its code is, in the evaluator. -/
theorem spec_of {f : Nat} {fn : Func} {c : Code} (hm : P.follows .mixedOrders = true) (hf : P.funcs[f]? = some fn) (hname : (fn.name == "runtime.NumGoroutine") = false) (hb : fn.body = some c) {N : Nat} (hn : fn.ntmps = N) {args : List AV} {r : AV} {np : NPT} (hCK : ∀ f args d m k, CK f args d m k → callK P qc f args d m k) (hsz : args.length ≤ N)
    (h : awp P qc np CK N c (fun e σ => (match e with | .normal => True | .ret => True | _ => False) ∧ RetIs P fn σ r) ⟨initT args 0, ⟨[], 0, []⟩⟩) : Does P f args r := by
  subst hn
  refine ⟨callable hf hname hb, fun F w vals hF hL hl hr => ?_⟩
  refine calls_of_wp hf hb ?_
  let B : Base := { w0 := w, X := fun _ => False, g0 := g0 F, N := fn.ntmps, gx := fun _ h => h.elim, gl := hL }
  have hI : Inv B (g0 F) ⟨[], 0, []⟩ w := { ok := fun i o h => (by cases h), apart := fun i j oi oj b h => (by cases h), fresh := fun _ _ _ h => h.elim, flt := hF, ext := .refl _ _, fnew := fun b o h => .inl h, own := fun i o b h => (by cases h), os := rfl, tape := rfl, output := rfl, size := Nat.le_refl _, block := fun _ _ _ => rfl }
  have hR : RS B (tget (initT args 0)) ⟨[], 0, []⟩ { tmps := vals.toArray ++ Array.replicate (fn.ntmps - vals.toArray.size) undef, defers := [] } w := by
    refine ⟨⟨g0 F, fun t x hx => ?_, hI⟩, rfl, by simp [B]; omega⟩
    obtain ⟨_, h2⟩ := initT_get args 0 t hx
    rw [Nat.sub_zero] at h2
    have ht : t < vals.length := by rw [hl]; exact (List.getElem?_eq_some_iff.1 h2).1
    refine ⟨vals[t], ?_, hr t x _ h2 (List.getElem?_eq_getElem ht)⟩
    rw [Array.getElem?_append, if_pos (by simpa using ht)]
    simp [ht]
  refine wp_mono (awp_ok hCK (B := B) (N := fn.ntmps) hm rfl c _ _ _ _ hR h) fun e a w' hq => ?_
  obtain ⟨σ, hR', he, hret⟩ := hq
  obtain ⟨⟨g, hs, hI'⟩, hd, _⟩ := hR'
  obtain ⟨v, g', m', q1, q2, q3, q4⟩ := results_ok hs hI' hret
  have fin : ∃ v', (results fn a.tmps).run P w' = .ok v' w' ∧ ∃ v F', (Ending.returned v') = .returned v ∧ (∀ b o, F b o → F' b o) ∧ (∀ b o, F' b o → F b o ∨ w.heap.size ≤ b) ∧ (∀ b o, F' b o → b < w'.heap.size) ∧ RepA (g0 F') w' r v ∧ Below w.heap.size w w' :=
    ⟨v, q1, v, g'.F, rfl, q3.ext.F, fun b o hF' => by rcases q3.fnew b o hF' with h | h | h; exact .inl h; exact .inr h; exact h.elim, q3.flt, q4, ⟨q3.os, q3.tape, q3.output, q3.size, fun k hk => q3.block k hk (fun h => h)⟩⟩
  cases e <;> first | exact he.elim | exact ⟨hd, fin⟩

/-! ### Calls -/

def scalC : Cell → Bool
  | .sc _ => true
  | _ => false
def scal1 : AV → Bool
  | .c x => scalC x
  | .agg cs => cs.all scalC
  | .tup _ => false
def scal : AV → Bool
  | .tup l => l.all scal1
  | x => scal1 x

theorem scalC_rep {g g' : G} {w w' : World} {c : Cell} {v : Value} (h : scalC c = true) (hr : RepC g w c v) : RepC g' w' c v := by
  cases c with
  | sc x => cases hr with
    | pure hr => cases hr with
      | sc hs => exact .pure (.sc hs)
  | _ => cases h
theorem scal1_rep {g g' : G} {w w' : World} {x : AV} {v : Value} (h : scal1 x = true) (hr : RepA g w x v) : RepA g' w' x v := by
  cases hr with
  | c hr => exact .c (scalC_rep h hr)
  | agg us hl hc => exact .agg us hl fun j c u h1 h2 => scalC_rep (List.all_eq_true.1 h c (List.mem_of_getElem? h1)) (hc j c u h1 h2)
  | tup _ _ _ => cases h
theorem scal_rep {g g' : G} {w w' : World} {x : AV} {v : Value} (h : scal x = true) (hr : RepA g w x v) : RepA g' w' x v := by
  cases hr with
  | c hr => exact scal1_rep h (.c hr)
  | agg us hl hc => exact scal1_rep h (.agg us hl hc)
  | tup us hl hc => exact .tup us hl fun j y u h1 h2 => scal1_rep (List.all_eq_true.1 h y (List.mem_of_getElem? h1)) (hc j y u h1 h2)

theorem below_grown {w w' : World} (h : Below w.heap.size w w') (row : Option Nat) : w.grownBy w' row := ⟨h.os, h.tape, h.output, h.size, fun k hk _ => h.block k hk⟩

/-- Data out: the small memory as it was. -/
theorem callSem_sc {f : Nat} {args args' : List AV} {r : AV} {m m1 : Mem} (h : Does P f args' r) (hp : purAs m args = some (args', m1)) (hr : scal r = true) : CallSem P f args m r m := by
  refine ⟨h.1, fun B g w vals hI hl hrep => ?_⟩
  obtain ⟨hl', g1, e1, i1, p1⟩ := purAs_ok hI hl hrep hp
  refine (h.2 g1.F w vals i1.flt i1.laid (by omega) p1).mono fun e w' ⟨v, F', he, h1, h2, h3, h4, h5⟩ => ?_
  obtain ⟨e2, i2⟩ := inv_quiet hI (below_grown h5 none)
  exact ⟨v, g, he, e2, scal_rep hr h4, i2⟩

theorem inv_moreF {g : G} {m : Mem} {w w' : World} (hI : Inv B g m w) (h5 : Below w.heap.size w w') {F' : Nat → Nat → Prop} (h1 : ∀ b o, g.F b o → F' b o) (h2 : ∀ b o, F' b o → g.F b o ∨ w.heap.size ≤ b) (h3 : ∀ b o, F' b o → b < w'.heap.size) :
    Ext g w { g with F := F' } w' ∧ Inv B { g with F := F' } m w' := by
  obtain ⟨e2, i2⟩ := inv_quiet hI (below_grown h5 none)
  have he : Ext g w { g with F := F' } w' := ⟨fun _ h => h, fun _ _ => rfl, fun _ _ => rfl, h1, e2.cell⟩
  refine ⟨he, { ok := fun i o hi => ?_, apart := i2.apart, fresh := i2.fresh, flt := h3, ext := hI.ext.trans he, fnew := fun b o hF => ?_, own := i2.own, os := i2.os, tape := i2.tape, output := i2.output, size := i2.size, block := i2.block }⟩
  · obtain ⟨hk, ho⟩ := hI.ok i o hi
    refine ⟨hk, ho.keep hk he fun b hb => ⟨h5.block b (ho.lt hb), fun o hF => ?_⟩⟩
    rcases h2 b o hF with h | h
    · exact h
    · have := ho.lt hb; omega
  · rcases h2 b o hF with h | h
    · exact hI.fnew b o h
    · exact .inr (.inl (Nat.le_trans hI.size h))

/-- Data with lists out: arrays that were handed over are written no more. -/
theorem callSem_pure {f : Nat} {args args' : List AV} {r : AV} {m m1 : Mem} (h : Does P f args' r) (hp : purAs m args = some (args', m1)) : CallSem P f args m r m1 := by
  refine ⟨h.1, fun B g w vals hI hl hrep => ?_⟩
  obtain ⟨hl', g1, e1, i1, p1⟩ := purAs_ok hI hl hrep hp
  refine (h.2 g1.F w vals i1.flt i1.laid (by omega) p1).mono fun e w' ⟨v, F', he, h1, h2, h3, h4, h5⟩ => ?_
  obtain ⟨e2, i2⟩ := inv_moreF i1 h5 h1 h2 h3
  have e3 : Ext (g0 F') w' { g1 with F := F' } w' := ⟨fun _ h => h.elim, fun _ h => h.elim, fun _ h => h.elim, fun _ _ h => h, fun _ _ _ => rfl⟩
  exact ⟨v, { g1 with F := F' }, he, e1.trans e2, h4.ext e3, i2⟩

theorem purA1_loc {m m' : Mem} {x y : AV} (h : purA1 m x = some (y, m')) : Loc (idsA x) m m' y (purA1 · x) := by
  unfold purA1 at h
  split at h
  · split at h
    · rename_i e; simp at h; obtain ⟨rfl, rfl⟩ := h; exact (purL_loc e).map fun M M1 g => by simp only [purA1, g]
    · cases h
  · rename_i x hne
    split at h
    · rename_i e
      simp at h
      obtain ⟨rfl, rfl⟩ := h
      have hx : idsA (.c x) = ids1 x := by
        cases x <;> first | rfl | (rename_i f caps; exact absurd rfl (hne f caps))
      rw [hx]
      exact (pur_loc e).map fun M M1 g => by
        unfold purA1
        split
        · rename_i f caps he; simp at he; exact absurd he (hne f caps)
        · rename_i he; simp at he; subst he; rw [g]
        · rename_i he; cases he
        · rename_i he; cases he
    · cases h
  · split at h
    · rename_i e; simp at h; obtain ⟨rfl, rfl⟩ := h; exact (purL_loc e).map fun M M1 g => by simp only [purA1, g]
    · cases h
  · cases h
theorem purAs_loc : ∀ {l l' : List AV} {m m' : Mem}, purAs m l = some (l', m') → Loc (idsAs l) m m' l' (purAs · l)
  | [], _, m, m', h => by simp [purAs] at h; obtain ⟨rfl, rfl⟩ := h; exact .refl fun _ => rfl
  | x :: r, l', m, m', h => by
    unfold purAs at h
    split at h
    · rename_i e1
      split at h
      · rename_i e2
        simp at h
        obtain ⟨rfl, rfl⟩ := h
        exact (purA1_loc e1).bind (purAs_loc e2) fun M M1 M2 h1 h2 => by simp only [purAs, h1, h2]
      · cases h
    · cases h
theorem fm_self {ℓ : Lab} (hW : ℓ.W = []) (hA : ℓ.A = false) {d : Option Nat} (m : Mem) : ∀ M, fm M = updF ℓ d (fm m) (fm M) := fun M => fm_ext (fun i => by simp [updF, hW, inI]) rfl (fun s => by simp [updF, hA])
theorem fm_updW {R W : List Id} {d : Option Nat} {m' M M' : Mem} (u : UpdW W m' M M') : fm M' = updF ⟨R, W, false⟩ d (fm m') (fm M) := fm_ext (fun i => u.o i) u.nx (fun s => by simp [fm, updF, u.us])

theorem callK_sc {f : Nat} {args args' : List AV} {r : AV} {d : Option Nat} {m : Mem} {k : AV → Mem → Lab → Prop} (h : Does P f args' r) (hp : ∃ m1, purAs m args = some (args', m1)) (hr : scal r = true) (hk : k r m ⟨idsAs args, [], false⟩) : callK P qc f args d m k := by
  obtain ⟨m1, hp⟩ := hp
  refine ⟨r, m, _, ⟨fm_self rfl rfl m m, fun M hM _ => ⟨M, ?_, fm_self rfl rfl m M⟩⟩, fun _ => rfl, hk⟩
  obtain ⟨M', e, _⟩ := (purAs_loc hp).all M fun i hi => hM.1 i (.inl hi)
  exact callSem_sc h e hr

theorem callK_pure {f : Nat} {args args' : List AV} {r : AV} {d : Option Nat} {m m1 : Mem} {k : AV → Mem → Lab → Prop} (h : Does P f args' r) (hp : purAs m args = some (args', m1)) (hq : qc f = false) (hk : k r m1 ⟨[], idsAs args, false⟩) : callK P qc f args d m k := by
  have hl := purAs_loc hp
  refine ⟨r, m1, _, ⟨fm_updW hl.self, fun M hM _ => ?_⟩, fun e => (by rw [hq] at e; cases e), hk⟩
  obtain ⟨M', e, u⟩ := hl.all M fun i hi => hM.1 i (.inr hi)
  exact ⟨M', callSem_pure h e, fm_updW u⟩

/-! ### Tables of what is known of callees -/

def KOk (P : Program) (qc : Nat → Bool) (f : Nat) (K : KT) : Prop := ∀ args d m k, K args d m k → callK P qc f args d m k

/-- What a function computes, where it is told. -/
def Fun (P : Program) (f : Nat) (F : List AV → Option AV) : Prop := ∀ args r, F args = some r → Does P f args r

/-! ### Data that is read back -/

def decL {α : Type} (d : List Cell → Option α) : List (List Cell) → Option (List α)
  | [] => some []
  | e :: r => match d e, decL d r with
    | some a, some l => some (a :: l)
    | _, _ => none
theorem decL_map {α : Type} {d : List Cell → Option α} {e : α → List Cell} (h : ∀ a, d (e a) = some a) (l : List α) : decL d (l.map e) = some l := by
  induction l with
  | nil => rfl
  | cons a r ih => simp [decL, h, ih]
theorem decL_eq {α : Type} {d : List Cell → Option α} {e : α → List Cell} (h : ∀ cs a, d cs = some a → cs = e a) : ∀ {es : List (List Cell)} {l : List α}, decL d es = some l → es = l.map e
  | [], l, hh => by simp [decL] at hh; subst hh; rfl
  | x :: r, l, hh => by
    unfold decL at hh
    split at hh
    · rename_i a l' h1 h2
      simp at hh
      subst hh
      rw [List.map_cons, ← h x a h1, ← decL_eq h h2]
    · cases hh

def ckOf (P : Program) (qc : Nat → Bool) : List (Nat × KT) → Nat → KT
  | [], f => callK P qc f
  | (g, K) :: r, f => if f = g then K else ckOf P qc r f

def KsOk (P : Program) (qc : Nat → Bool) : List (Nat × KT) → Prop
  | [] => True
  | (g, K) :: r => KOk P qc g K ∧ KsOk P qc r

theorem ckOf_ok : ∀ {l : List (Nat × KT)}, KsOk P qc l → ∀ f args d m k, ckOf P qc l f args d m k → callK P qc f args d m k
  | [], _, _, _, _, _, _, h => h
  | (g, K) :: r, ⟨h1, h2⟩, f, args, d, m, k, h => by
    simp only [ckOf] at h
    split at h
    · rename_i hf; subst hf; exact h1 _ _ _ _ h
    · exact ckOf_ok h2 f args d m k h

end
end Go.Abs
