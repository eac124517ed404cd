/- Proved here: what functions of the given program come to, and the plain laws of it; no condition but those in the theorems. -/
import Derived.Test.YtknjncmgohjpkaaH25
import Derived.Test.YtknjncmgohjpkaaC25
namespace Go.Proofs
open Go Go.Abs
set_option linter.unusedSimpArgs false
set_option linter.unusedVariables false
set_option maxRecDepth 4000
def sF : Fr := ⟨⟨[0], [0], [[9]]⟩, 200, 150, 2⟩
theorem sF_fin : sF.t.fin := ⟨by decide, by decide, by decide, fun r h => by simp [sF] at h; subst h; decide⟩
def sS : Nat → Fs := fun i => match i with | 0 => ⟨true, 0⟩ | 1 => ⟨true, 1⟩ | 2 => ⟨true, 0⟩ | _ => ⟨true, 1⟩
def R_few : RT := fun args k => ∃ l : Ls, args = [.c (.lst (eL l))] ∧ k (Bo (decide (l.length ≤ 500)))
theorem few_ok : FunR Try.prog 9 R_few := by
  intro args k h
  obtain ⟨l, rfl, hk⟩ := h
  have hm := eL_len l
  refine does_ex (qc := qc1) (np := []) (CK := ckK []) mixed Try.func9 rfl rfl Try.ntmps9 Try.results9 τ_ok (by kernel_rfl) (ckK_ok trivial) (by simp) ?_
  conv => whnf
  rw [show decide (l.length ≤ 500) = decide (((eL l).length : Int) ≤ 500) by rw [hm]; simp; omega] at hk
  exact hk
theorem sane_ok : FunR Try.prog 8 R_tt := by
  intro args k h
  obtain ⟨rfl, hk⟩ := h
  refine does_ex (qc := qc1) (np := []) (CK := ckK [(14, cSc R_nextF), (19, cSc R_relF), (21, cSc R_turnT)]) mixed Try.func8 rfl rfl Try.ntmps8 Try.results8 τ_ok (by kernel_rfl) (ckK_ok ⟨cSc_ok next_okF, cSc_ok relF_ok, cSc_ok turn_ok, trivial⟩) (by simp) ?_
  conv => whnf
  (repeat (refine ⟨by simp, ?_⟩; (conv => whnf)))
  refine ⟨sF, ⟨false, 0⟩, 200, rfl, by decide, ?_⟩
  rw [show nextF sF ⟨false, 0⟩ 200 = ⟨true, 0⟩ by decide]
  conv => whnf
  (repeat (refine ⟨by simp, ?_⟩; (conv => whnf)))
  refine ⟨sF, ⟨true, 0⟩, 200, 5, rfl, sF_fin, ?_⟩
  rw [show (relF sF ⟨true, 0⟩ 200 5).1 = 9 by decide, show (relF sF ⟨true, 0⟩ 200 5).2 = true by decide]
  conv => whnf
  refine ⟨Nat, fun i => ([(1, .c (.ptr (.l 1 4) 0)), (2, .c (.ptr (.l 2 5) 0)), (3, I 9), (4, Bo true), (27, .c (.view (.l 27 6) 0 3)), (28, I ((3 : Nat) : Int)), (29, I i)], ⟨[(.l 1 4, .blk (frC sF)), (.l 2 5, .blk (fsC (sS i))), (.l 27 6, .arr 3 1 [eI 149, eI 160, eI 149] false)], 20, []⟩),
    fun i => i ≤ 3, fun i => 3 - i, 0, Nat.zero_le _,
    Shift.trans (Shift.reset ⟨rfl, rfl, rfl, rfl, rfl, rfl, rfl, trivial⟩ ⟨rfl, rfl, rfl, trivial⟩ rfl rfl) (Shift.trans (Shift.purCell (i := .l 1 4) (cs := [.lst [eI 0], .lst [eI 0], .view (.l 15 3) 0 1, IC 200, IC 150, IC 2]) (j := 2) (c' := .lst [[.lst [eI 9]]]) rfl rfl rfl)
      (Shift.trans (Shift.purCell (i := .l 1 4) (cs := [.lst [eI 0], .view (.l 13 1) 0 1, .view (.l 15 3) 0 1, IC 200, IC 150, IC 2]) (j := 1) (c' := .lst [eI 0]) rfl rfl rfl)
        (Shift.purCell (i := .l 1 4) (cs := [.view (.l 12 0) 0 1, .view (.l 13 1) 0 1, .view (.l 15 3) 0 1, IC 200, IC 150, IC 2]) (j := 0) (c' := .lst [eI 0]) rfl rfl rfl))), fun i hi => ?_⟩
  dsimp only at hi ⊢
  obtain rfl | rfl | rfl | rfl : i = 0 ∨ i = 1 ∨ i = 2 ∨ i = 3 := by omega
  · conv => whnf
    refine fork_t ?_
    conv => whnf
    refine ⟨by omega, rfl, ?_⟩
    conv => whnf
    refine ⟨eI 149, rfl, ?_⟩
    conv => whnf
    refine ⟨sF, ⟨true, 0⟩, 149, rfl, by decide, ?_⟩
    rw [show nextF sF ⟨true, 0⟩ 149 = ⟨true, 1⟩ by decide]
    conv => whnf
    exact ⟨1, by omega, Shift.reset ⟨rfl, rfl, rfl, rfl, rfl, rfl, rfl, trivial⟩ ⟨rfl, rfl, rfl, trivial⟩ rfl rfl, by omega⟩
  · conv => whnf
    refine fork_t ?_
    conv => whnf
    refine ⟨by omega, rfl, ?_⟩
    conv => whnf
    refine ⟨eI 160, rfl, ?_⟩
    conv => whnf
    refine ⟨sF, ⟨true, 1⟩, 160, rfl, by decide, ?_⟩
    rw [show nextF sF ⟨true, 1⟩ 160 = ⟨true, 0⟩ by decide]
    conv => whnf
    exact ⟨2, by omega, Shift.reset ⟨rfl, rfl, rfl, rfl, rfl, rfl, rfl, trivial⟩ ⟨rfl, rfl, rfl, trivial⟩ rfl rfl, by omega⟩
  · conv => whnf
    refine fork_t ?_
    conv => whnf
    refine ⟨by omega, rfl, ?_⟩
    conv => whnf
    refine ⟨eI 149, rfl, ?_⟩
    conv => whnf
    refine ⟨sF, ⟨true, 0⟩, 149, rfl, by decide, ?_⟩
    rw [show nextF sF ⟨true, 0⟩ 149 = ⟨true, 1⟩ by decide]
    conv => whnf
    exact ⟨3, by omega, Shift.reset ⟨rfl, rfl, rfl, rfl, rfl, rfl, rfl, trivial⟩ ⟨rfl, rfl, rfl, trivial⟩ rfl rfl, by omega⟩
  · conv => whnf
    refine fork_f ?_
    conv => whnf
    refine ⟨sF, ⟨true, 1⟩, 149, rfl, by decide, ?_⟩
    rw [show nextF sF ⟨true, 1⟩ 149 = ⟨false, 0⟩ by decide]
    conv => whnf
    refine ⟨sF, 9, rfl, sF_fin, ?_⟩
    rw [show (turnT sF.t 9).1 = 0 by decide, show (turnT sF.t 9).2 = true by decide]
    conv => whnf
    refine ⟨sF, 10, rfl, sF_fin, ?_⟩
    rw [show (turnT sF.t 10).1 = 0 by decide, show (turnT sF.t 10).2 = false by decide]
    conv => whnf
    (repeat ((first | refine fork_t ?_ | refine fork_f ?_); (conv => whnf)))
    exact hk
end Go.Proofs

namespace Go.Proofs
open Go Go.Abs
set_option linter.unusedSimpArgs false
set_option linter.unusedVariables false
set_option maxRecDepth 4000
theorem axis_ok : FunB Try.prog 50 R_axis := by
  intro cs args k h
  obtain ⟨d, a, b, rfl, rfl, hd, ha, hb, hk⟩ := h
  refine doesB_ex (qc := qc1) (np := []) (CK := ckK [(23, cB R_next)]) mixed Try.func50 rfl rfl Try.ntmps50 Try.results50 τ_ok (by kernel_rfl) (ckK_ok ⟨cB_ok next_ok rfl, trivial⟩) (by simp) rfl rfl ?_
  conv => whnf
  refine ⟨d, rfl, hd, by omega, fun v d hd hv1 hv2 => ?_⟩
  have e1 : IntKind.i64.wrap (a + v) = a + v := wrap_in (by omega) (by omega)
  conv => whnf
  refine ⟨d, rfl, hd, by omega, fun k0 d hd hk1 hk2 => ?_⟩
  conv => whnf
  rw [e1]
  refine ⟨Ls × Dk × Int × Int, fun s => ([(0, .c (.ptr (.x 0) 0)), (2, I b), (7, .c (.view (.l 24 0) 0 s.1.length)), (8, I s.2.2.1), (9, I s.2.2.2)], ⟨[(.x 0, .blk (dkC s.2.1)), (.l 24 0, .arr 3 1 (eL s.1) false)], 1, []⟩),
    fun s => s.2.1.ok ∧ mkX s.1 a s.2.2.1 ∧ (-1 ≤ s.2.2.2 ∧ 1 ≤ s.1.length + s.2.2.2 + 1 ∧ s.1.length + s.2.2.2 ≤ 3) ∧ (a ≤ s.2.2.1 ∧ s.2.2.1 ≤ a + 1001 * (s.1.length + 1)), fun s => (s.2.2.2 + 1).toNat, ([], d, a + v, k0),
    ⟨hd, ⟨by simp, .nil⟩, by dsimp only; simp; omega, by dsimp only; simp; omega⟩,
    Shift.trans (Shift.rename [] ⟨rfl, rfl, rfl, rfl, rfl, trivial⟩ ⟨rfl, rfl, trivial⟩ rfl rfl rfl) (Shift.nilArr (t := 7) rfl 24 3 1), fun s hs => ?_⟩
  obtain ⟨l, d, x, kk⟩ := s
  obtain ⟨hd, hr, ⟨hk3, hk4, hk5⟩, hk6, hk7⟩ := hs
  dsimp only at hd hr hk3 hk4 hk5 hk6 hk7 ⊢
  have hm := eL_len l
  conv => whnf
  refine Fork.mk (fun h => ?_) (fun h => ?_)
  · have hkk : 0 ≤ kk := by simpa using h
    conv => whnf
    refine ⟨by simp, ?_⟩
    conv => whnf
    refine ⟨rfl, ?_⟩
    conv => whnf
    refine ⟨⟨rfl, rfl, rfl, hm.symm, by rw [hm]; simp; omega⟩, ?_⟩
    conv => whnf
    refine ⟨d, rfl, hd, by omega, fun w d hd hw1 hw2 => ?_⟩
    have e2 : IntKind.i64.wrap (1 + w) = 1 + w := wrap_in (by omega) (by omega)
    have e3 : IntKind.i64.wrap (x + (1 + w)) = x + (1 + w) := wrap_in (by omega) (by omega)
    conv => whnf
    rw [e2, e3, show IntKind.i64.wrap (kk - 1) = kk - 1 from wrap_in (by omega) (by omega)]
    refine ⟨(l ++ [x], d, x + (1 + w), kk - 1), ⟨hd, hr.snoc hk6 (by dsimp only; omega), by dsimp only; simp; omega, by dsimp only; omega, by dsimp only; rw [List.length_append]; show _ ≤ a + 1001 * (((l.length + 1 : Nat) : Int) + 1); omega⟩, Shift.rename [(.l 24 0, .l 24 2)] ⟨rfl, rfl, ?_, rfl, rfl, trivial⟩ ⟨rfl, ?_, trivial⟩ rfl rfl rfl, ?_⟩
    · dsimp only; rw [List.length_append, ← hm]; rfl
    · dsimp only; rw [← eL_snoc]; rfl
    · show (kk - 1 + 1).toNat < (kk + 1).toNat
      omega
  have hkk : kk = -1 := by simp at h; omega
  subst hkk
  conv => whnf
  refine ⟨by rw [hm]; omega, ?_⟩
  conv => whnf
  exact leaf_l _ rfl rfl (hk l d hd (by omega) (by omega) ⟨fun y hy => by have := hr.r y hy; omega, hr.p⟩)
end Go.Proofs

/- Flood tables and rules that decks make. No program. -/
namespace Go.Proofs
open Go Go.Abs
set_option linter.unusedSimpArgs false
set_option linter.unusedVariables false
theorem rwE_snoc {x : Int} (hx : 0 ≤ x ∧ x ≤ 1073741824) : ∀ {l : Ls} {q : Option Int} {ab : Option Ls}, rwE q ab l = 0 → (∀ p, (match l.getLast? with | none => q | some p => some p) = some p → p ≤ x) → (∀ a y, ab = some a → a[l.length]? = some y → y ≤ x) → rwE q ab (l ++ [x]) = 0
  | [], q, ab, _, hq, ha => by
    show rwE q ab [x] = 0
    rw [rwE_cons, if_neg (by simp [inB]; omega), if_neg]
    · rfl
    · simp only [Bool.or_eq_true, not_or]
      constructor
      · cases q with
        | none => simp [qltF]
        | some p => have := hq p rfl; simp [qltF]; omega
      · match ab, ha with
        | none, _ => simp [abF]
        | some [], _ => simp [abF]
        | some (y :: r), ha => have := ha _ y rfl rfl; simp [abF]; omega
  | z :: l, q, ab, h, hq, ha => by
    rw [rwE_cons] at h
    rw [List.cons_append, rwE_cons]
    split at h
    · omega
    rename_i h1
    rw [if_neg h1]
    split at h
    · omega
    rename_i h2
    rw [if_neg h2]
    refine rwE_snoc hx h (fun p hp => hq p ?_) (fun a y e hy => ?_)
    · rw [List.getLast?_cons]
      cases hl : l.getLast? with
      | none => rw [hl] at hp; simpa using hp
      | some w => rw [hl] at hp; simpa using hp
    · cases ab with
      | none => cases e
      | some b =>
        simp at e
        subst e
        exact ha b y rfl (by rw [List.length_cons]; simpa using hy)
structure okRw (ab : Option Ls) (l : Ls) : Prop where
  e : rwE none ab l = 0
  b : ∀ (k : Nat) y, l[k]? = some y → 0 ≤ y ∧ y ≤ 8 * ((k : Int) + 1)
theorem okRw.nil (ab : Option Ls) : okRw ab [] := ⟨rfl, fun k y h => by simp at h⟩
theorem okRw.snoc {ab : Option Ls} {l : Ls} {x : Int} (h : okRw ab l) (hl : l.length ≤ 20) (hx : 0 ≤ x ∧ x ≤ 8 * ((l.length : Int) + 1)) (hq : ∀ q, l[l.length - 1]? = some q → q ≤ x) (ha : ∀ a y, ab = some a → a[l.length]? = some y → y ≤ x) : okRw ab (l ++ [x]) := by
  refine ⟨rwE_snoc (by omega) h.e (fun p hp => hq p ?_) ha, fun k y hy => ?_⟩
  · rw [← List.getLast?_eq_getElem?]
    cases hl : l.getLast? with
    | none => rw [hl] at hp; cases hp
    | some w => rw [hl] at hp; simpa using hp
  · rcases Nat.lt_or_ge k l.length with hk | hk
    · rw [List.getElem?_append_left hk] at hy
      exact h.b k y hy
    · rw [List.getElem?_append_right hk] at hy
      rcases Nat.eq_zero_or_pos (k - l.length) with e | e
      · rw [e] at hy
        simp at hy
        subst hy
        have : k = l.length := by omega
        subst this
        exact hx
      · rw [List.getElem?_eq_none (by simp; omega)] at hy
        cases hy
theorem rlE_snoc {n : Int} {r : Ls} : ∀ {l : List Ls} {ab : Option Ls}, rlE n ab l = 0 → rowE r (match l.getLast? with | none => ab | some a => some a) n = 0 → rlE n ab (l ++ [r]) = 0
  | [], ab, _, h => by
    show rlE n ab [r] = 0
    rw [rlE, if_neg (by simpa using h)]
    rfl
  | z :: l, ab, h, hr => by
    rw [rlE] at h
    rw [List.cons_append, rlE]
    split at h
    · rename_i e; exact absurd h e
    rename_i h1
    rw [if_neg h1]
    refine rlE_snoc h ?_
    rw [List.getLast?_cons] at hr
    cases hl : l.getLast? with
    | none => rw [hl] at hr; simpa using hr
    | some w => rw [hl] at hr; simpa using hr
structure okRs (n : Nat) (rs : List Ls) : Prop where
  e : rlE n none rs = 0
  b : ∀ r ∈ rs, ∀ (k : Nat) y, r[k]? = some y → 0 ≤ y ∧ y ≤ 8 * ((k : Int) + 1)
theorem okRs.nil (n : Nat) : okRs n [] := ⟨rfl, fun r h => by simp at h⟩
theorem okRs.snoc {n : Nat} {rs : List Ls} {l : Ls} (h : okRs n rs) (hl : okRw rs.getLast? l) (hn : l.length = n) : okRs n (rs ++ [l]) := by
  refine ⟨rlE_snoc h.e ?_, fun r hr => ?_⟩
  · have e : (match rs.getLast? with | none => none | some a => some a) = rs.getLast? := by cases rs.getLast? <;> rfl
    rw [e, rowE, if_neg (by omega)]
    exact hl.e
  · rcases List.mem_append.1 hr with hr | hr
    · exact h.b r hr
    · simp at hr; subst hr; exact hl.b
theorem axE_of {m : Int} : ∀ {l : Ls} {q : Option Int}, (∀ x ∈ l, 0 ≤ x ∧ x ≤ m) → (∀ x, q = some x → ∀ y ∈ l, x < y) → l.Pairwise (· < ·) → axE m q l = 0
  | [], _, _, _, _ => rfl
  | a :: l, q, h, hq, hp => by
    have h0 := h a (by simp)
    obtain ⟨p1, p2⟩ := List.pairwise_cons.1 hp
    rw [axE_cons, if_neg (by simp [inB]; omega), if_neg]
    · exact axE_of (fun x hx => h x (by simp [hx])) (fun x e y hy => by simp at e; subst e; exact p1 y hy) p2
    · cases q with
      | none => simp [qleF]
      | some x => have := hq x rfl a (by simp); simp [qleF]; omega
/-- A table that a deck makes. -/
structure mkT (t : Ft) : Prop where
  l : 1 ≤ t.lv.length ∧ t.lv.length ≤ 4
  i : 1 ≤ t.inf.length ∧ t.inf.length ≤ 4
  e : ckT t = 0
theorem mkT.of {lv inf : Ls} {rs : List Ls} {a b c d : Int} (h1 : mkX lv a b) (h2 : 0 ≤ a ∧ b ≤ 100000) (h3 : mkX inf c d) (h4 : 0 ≤ c ∧ d ≤ 100000) (h5 : 1 ≤ lv.length ∧ lv.length ≤ 4) (h6 : 1 ≤ inf.length ∧ inf.length ≤ 4) (h7 : okRs inf.length rs) (h8 : rs.length = lv.length) : mkT ⟨lv, inf, rs⟩ := by
  refine ⟨h5, h6, ?_⟩
  have e1 : axE 16777216 none lv = 0 := axE_of (fun x hx => by have := h1.r x hx; omega) (fun x e => by cases e) h1.p
  have e2 : axE 1073741824 none inf = 0 := axE_of (fun x hx => by have := h3.r x hx; omega) (fun x e => by cases e) h3.p
  unfold ckT
  dsimp only
  rw [if_neg (by simp [inB]; omega), if_neg (by simp [inB]; omega), if_neg (by simp [e1]), if_neg (by simp [e2]), if_neg (by simp [h8])]
  exact h7.e
theorem mkT.fin {t : Ft} (h : mkT t) : t.fin := by
  have k := ckT_ok' h.e
  exact ⟨by have := h.l; omega, by have := h.i; omega, by have := k.r; have := h.l; omega, fun r hr => by have := k.w r hr; have := h.i; omega⟩
def R_mkT : RB := fun cs args k => ∃ d : Dk, args = [] ∧ cs = dkC d ∧ d.ok ∧ ∀ (t : Ft) d', Dk.ok d' → mkT t → k (.agg (ftC t)) (dkC d')
/-- A rule that a deck makes for a reservoir. -/
structure mkF (f : Fr) (r : Rs) : Prop where
  t : mkT f.t
  b : 1 ≤ f.bg ∧ f.bg ≤ 1000000
  s : f.bg ≤ r.sur
  e : 0 ≤ f.en ∧ f.en < f.bg
  c : 1 ≤ f.cm ∧ f.cm ≤ 3
def R_mkF : RB := fun cs args k => ∃ (d : Dk) (r : Rs), args = [.agg (rsC r)] ∧ cs = dkC d ∧ d.ok ∧ (1 ≤ r.dead ∧ r.dead ≤ r.sur ∧ r.sur ≤ 1000000) ∧ ∀ (f : Fr) d', Dk.ok d' → mkF f r → k (.agg (frC f)) (dkC d')
end Go.Proofs
