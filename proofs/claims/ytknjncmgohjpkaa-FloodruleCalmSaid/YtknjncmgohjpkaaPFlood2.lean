/- Flood tables and rules that decks make. No program. -/
import Derived.Test.YtknjncmgohjpkaaPFlood
namespace Go.Proofs
open Go Go.Abs
set_option linter.unusedSimpArgs false
set_option linter.unusedVariables false
theorem rwE_snoc {x : Int} (hx : 0 ≤ x ∧ x ≤ 1073741824) : ∀ {l : Ls} {q : Option Int} {ab : Option Ls}, rwE q ab l = 0 → (∀ p, (match l.getLast? with | none => q | some p => some p) = some p → p ≤ x) → (∀ a y, ab = some a → a[l.length]? = some y → y ≤ x) → rwE q ab (l ++ [x]) = 0
  | [], q, ab, _, hq, ha => by
    show rwE q ab [x] = 0
    rw [rwE_cons, if_neg (by simp [inB]; omega), if_neg]
    · rfl
    · simp only [Bool.or_eq_true, not_or]
      constructor
      · cases q with
        | none => simp [qltF]
        | some p => have := hq p rfl; simp [qltF]; omega
      · match ab, ha with
        | none, _ => simp [abF]
        | some [], _ => simp [abF]
        | some (y :: r), ha => have := ha _ y rfl rfl; simp [abF]; omega
  | z :: l, q, ab, h, hq, ha => by
    rw [rwE_cons] at h
    rw [List.cons_append, rwE_cons]
    split at h
    · omega
    rename_i h1
    rw [if_neg h1]
    split at h
    · omega
    rename_i h2
    rw [if_neg h2]
    refine rwE_snoc hx h (fun p hp => hq p ?_) (fun a y e hy => ?_)
    · rw [List.getLast?_cons]
      cases hl : l.getLast? with
      | none => rw [hl] at hp; simpa using hp
      | some w => rw [hl] at hp; simpa using hp
    · cases ab with
      | none => cases e
      | some b =>
        simp at e
        subst e
        exact ha b y rfl (by rw [List.length_cons]; simpa using hy)
structure okRw (ab : Option Ls) (l : Ls) : Prop where
  e : rwE none ab l = 0
  b : ∀ (k : Nat) y, l[k]? = some y → 0 ≤ y ∧ y ≤ 8 * ((k : Int) + 1)
theorem okRw.nil (ab : Option Ls) : okRw ab [] := ⟨rfl, fun k y h => by simp at h⟩
theorem okRw.snoc {ab : Option Ls} {l : Ls} {x : Int} (h : okRw ab l) (hl : l.length ≤ 20) (hx : 0 ≤ x ∧ x ≤ 8 * ((l.length : Int) + 1)) (hq : ∀ q, l[l.length - 1]? = some q → q ≤ x) (ha : ∀ a y, ab = some a → a[l.length]? = some y → y ≤ x) : okRw ab (l ++ [x]) := by
  refine ⟨rwE_snoc (by omega) h.e (fun p hp => hq p ?_) ha, fun k y hy => ?_⟩
  · rw [← List.getLast?_eq_getElem?]
    cases hl : l.getLast? with
    | none => rw [hl] at hp; cases hp
    | some w => rw [hl] at hp; simpa using hp
  · rcases Nat.lt_or_ge k l.length with hk | hk
    · rw [List.getElem?_append_left hk] at hy
      exact h.b k y hy
    · rw [List.getElem?_append_right hk] at hy
      rcases Nat.eq_zero_or_pos (k - l.length) with e | e
      · rw [e] at hy
        simp at hy
        subst hy
        have : k = l.length := by omega
        subst this
        exact hx
      · rw [List.getElem?_eq_none (by simp; omega)] at hy
        cases hy
theorem rlE_snoc {n : Int} {r : Ls} : ∀ {l : List Ls} {ab : Option Ls}, rlE n ab l = 0 → rowE r (match l.getLast? with | none => ab | some a => some a) n = 0 → rlE n ab (l ++ [r]) = 0
  | [], ab, _, h => by
    show rlE n ab [r] = 0
    rw [rlE, if_neg (by simpa using h)]
    rfl
  | z :: l, ab, h, hr => by
    rw [rlE] at h
    rw [List.cons_append, rlE]
    split at h
    · rename_i e; exact absurd h e
    rename_i h1
    rw [if_neg h1]
    refine rlE_snoc h ?_
    rw [List.getLast?_cons] at hr
    cases hl : l.getLast? with
    | none => rw [hl] at hr; simpa using hr
    | some w => rw [hl] at hr; simpa using hr
structure okRs (n : Nat) (rs : List Ls) : Prop where
  e : rlE n none rs = 0
  b : ∀ r ∈ rs, ∀ (k : Nat) y, r[k]? = some y → 0 ≤ y ∧ y ≤ 8 * ((k : Int) + 1)
theorem okRs.nil (n : Nat) : okRs n [] := ⟨rfl, fun r h => by simp at h⟩
theorem okRs.snoc {n : Nat} {rs : List Ls} {l : Ls} (h : okRs n rs) (hl : okRw rs.getLast? l) (hn : l.length = n) : okRs n (rs ++ [l]) := by
  refine ⟨rlE_snoc h.e ?_, fun r hr => ?_⟩
  · have e : (match rs.getLast? with | none => none | some a => some a) = rs.getLast? := by cases rs.getLast? <;> rfl
    rw [e, rowE, if_neg (by omega)]
    exact hl.e
  · rcases List.mem_append.1 hr with hr | hr
    · exact h.b r hr
    · simp at hr; subst hr; exact hl.b
theorem axE_of {m : Int} : ∀ {l : Ls} {q : Option Int}, (∀ x ∈ l, 0 ≤ x ∧ x ≤ m) → (∀ x, q = some x → ∀ y ∈ l, x < y) → l.Pairwise (· < ·) → axE m q l = 0
  | [], _, _, _, _ => rfl
  | a :: l, q, h, hq, hp => by
    have h0 := h a (by simp)
    obtain ⟨p1, p2⟩ := List.pairwise_cons.1 hp
    rw [axE_cons, if_neg (by simp [inB]; omega), if_neg]
    · exact axE_of (fun x hx => h x (by simp [hx])) (fun x e y hy => by simp at e; subst e; exact p1 y hy) p2
    · cases q with
      | none => simp [qleF]
      | some x => have := hq x rfl a (by simp); simp [qleF]; omega
/-- A table that a deck makes. -/
structure mkT (t : Ft) : Prop where
  l : 1 ≤ t.lv.length ∧ t.lv.length ≤ 4
  i : 1 ≤ t.inf.length ∧ t.inf.length ≤ 4
  e : ckT t = 0
theorem mkT.of {lv inf : Ls} {rs : List Ls} {a b c d : Int} (h1 : mkX lv a b) (h2 : 0 ≤ a ∧ b ≤ 100000) (h3 : mkX inf c d) (h4 : 0 ≤ c ∧ d ≤ 100000) (h5 : 1 ≤ lv.length ∧ lv.length ≤ 4) (h6 : 1 ≤ inf.length ∧ inf.length ≤ 4) (h7 : okRs inf.length rs) (h8 : rs.length = lv.length) : mkT ⟨lv, inf, rs⟩ := by
  refine ⟨h5, h6, ?_⟩
  have e1 : axE 16777216 none lv = 0 := axE_of (fun x hx => by have := h1.r x hx; omega) (fun x e => by cases e) h1.p
  have e2 : axE 1073741824 none inf = 0 := axE_of (fun x hx => by have := h3.r x hx; omega) (fun x e => by cases e) h3.p
  unfold ckT
  dsimp only
  rw [if_neg (by simp [inB]; omega), if_neg (by simp [inB]; omega), if_neg (by simp [e1]), if_neg (by simp [e2]), if_neg (by simp [h8])]
  exact h7.e
theorem mkT.fin {t : Ft} (h : mkT t) : t.fin := by
  have k := ckT_ok' h.e
  exact ⟨by have := h.l; omega, by have := h.i; omega, by have := k.r; have := h.l; omega, fun r hr => by have := k.w r hr; have := h.i; omega⟩
def R_mkT : RB := fun cs args k => ∃ d : Dk, args = [] ∧ cs = dkC d ∧ d.ok ∧ ∀ (t : Ft) d', Dk.ok d' → mkT t → k (.agg (ftC t)) (dkC d')
/-- A rule that a deck makes for a reservoir. -/
structure mkF (f : Fr) (r : Rs) : Prop where
  t : mkT f.t
  b : 1 ≤ f.bg ∧ f.bg ≤ 1000000
  s : f.bg ≤ r.sur
  e : 0 ≤ f.en ∧ f.en < f.bg
  c : 1 ≤ f.cm ∧ f.cm ≤ 3
def R_mkF : RB := fun cs args k => ∃ (d : Dk) (r : Rs), args = [.agg (rsC r)] ∧ cs = dkC d ∧ d.ok ∧ (1 ≤ r.dead ∧ r.dead ≤ r.sur ∧ r.sur ≤ 1000000) ∧ ∀ (f : Fr) d', Dk.ok d' → mkF f r → k (.agg (frC f)) (dkC d')
end Go.Proofs
