/- Rivers that decks make, and how much water there is. No program. -/
import Derived.Test.YthkimpoeiighoaaPRiver3
namespace Go.Proofs
open Go Go.Abs
set_option linter.unusedSimpArgs false
set_option linter.unusedVariables false
def smallL (l : Lk) : Prop := l.ws.length ≤ 5 ∧ (∀ w ∈ l.ws, 0 ≤ w ∧ w ≤ 4)
structure mkLs (N : Int) (ls : List Lk) (n : Int) : Prop where
  l : ∀ x ∈ ls, LkOk N x ∧ x.fr < n ∧ smallL x
  p : ls.Pairwise (fun a b => a.fr < b.fr)
theorem mkLs.nil (N n : Int) : mkLs N [] n := ⟨fun x h => by simp at h, .nil⟩
theorem mkLs.mono {N n m : Int} {ls : List Lk} (h : mkLs N ls n) (hm : n ≤ m) : mkLs N ls m := ⟨fun x hx => ⟨(h.l x hx).1, by have := (h.l x hx).2.1; omega, (h.l x hx).2.2⟩, h.p⟩
theorem mkLs.snoc {N n : Int} {ls : List Lk} {x : Lk} (h : mkLs N ls n) (hx : LkOk N x) (hs : smallL x) (hf : x.fr = n) : mkLs N (ls ++ [x]) (n + 1) := by
  refine ⟨fun y hy => ?_, List.pairwise_append.2 ⟨h.p, by simp, fun a ha b hb => ?_⟩⟩
  · rcases List.mem_append.1 hy with hy | hy
    · exact ⟨(h.l y hy).1, by have := (h.l y hy).2.1; omega, (h.l y hy).2.2⟩
    · simp at hy; subst hy; exact ⟨hx, by omega, hs⟩
  · simp at hb; subst hb; have := (h.l a ha).2.1; omega
structure mkRv (r : Rv) : Prop where
  ok : RvOk r
  n : 1 ≤ r.n ∧ r.n ≤ 6
  l : r.ls.length ≤ 6
  s : ∀ x ∈ r.ls, smallL x
theorem mkRv.of {N : Int} {ls : List Lk} {n : Int} (hN : 1 ≤ N ∧ N ≤ 6) (h : mkLs N ls n) : mkRv ⟨N, ls⟩ := by
  have hok : RvOk ⟨N, ls⟩ := ⟨by dsimp only; omega, fun x hx => (h.l x hx).1, h.p⟩
  refine ⟨hok, hN, ?_, fun x hx => (h.l x hx).2.2⟩
  have := pw_len (n := N) (a := 0) (l := ls) (fun x hx => ⟨(hok.l x hx).f, by have h1 := (hok.l x hx).o; have h2 := (hok.l x hx).t; dsimp only at h2; omega⟩) h.p (by omega)
  dsimp only
  omega
def R_river : RB := fun cs args k => ∃ d : Dk, args = [] ∧ cs = dkC d ∧ d.ok ∧ ∀ (r : Rv) d', Dk.ok d' → mkRv r → k (.agg (rvC r)) (dkC d')
structure mkWv (r : Rv) (w : List Ls) : Prop where
  ok : WvOk r w
  s : ∀ p ∈ w, p.sum ≤ 24000000
def R_waves : RB := fun cs args k => ∃ (d : Dk) (r : Rv), args = [.agg (rvC r)] ∧ cs = dkC d ∧ d.ok ∧ RvOk r ∧ ∀ (w : List Ls) d', Dk.ok d' → mkWv r w → k (.c (.lst (eV w))) (dkC d')
/-! How much water there is. -/
def sumI (l : Ls) : Int := l.sum
/-- v bounds what the links hold. -/
structure volOk (ls : List Lk) (ws : List Ls) (v : Ls) : Prop where
  l : v.length = ls.length
  b : ∀ (i : Nat) l p x, ls[i]? = some l → ws[i]? = some p → v[i]? = some x → 0 ≤ x ∧ p.sum ≤ l.den * x
/-- The sum of what stands at nodes from k on. -/
def tailS (a : Ls) (k : Nat) : Int := (a.drop k).sum
theorem nn_tail {a : Ls} (h : ∀ x ∈ a, 0 ≤ x) (k : Nat) : 0 ≤ tailS a k := (sum_nn fun x hx => h x (List.mem_of_mem_drop hx)).1
theorem tail_cons {a : Ls} {k : Nat} {v : Int} (h : a[k]? = some v) : tailS a k = v + tailS a (k + 1) := by
  unfold tailS
  rw [dropC h, List.sum_cons]
theorem tail_set {a : Ls} {t : Nat} {v : Int} (h : t < a.length) : ∀ k, tailS (a.set t (gN a t + v)) k = tailS a k + if k ≤ t then v else 0 := by
  have key : ∀ (n k : Nat), a.length - k = n → tailS (a.set t (gN a t + v)) k = tailS a k + if k ≤ t then v else 0 := by
    intro n
    induction n with
    | zero =>
      intro k hk
      have h1 : tailS (a.set t (gN a t + v)) k = 0 := by unfold tailS; rw [List.drop_eq_nil_of_le (by rw [List.length_set]; omega)]; rfl
      have h2 : tailS a k = 0 := by unfold tailS; rw [List.drop_eq_nil_of_le (by omega)]; rfl
      rw [h1, h2, if_neg (by omega)]; rfl
    | succ n ih =>
      intro k hk
      have hkl : k < a.length := by omega
      have c1 := gN_get hkl
      have c2 := gN_get (a := a.set t (gN a t + v)) (j := k) (by rw [List.length_set]; exact hkl)
      rw [tail_cons c1, tail_cons c2, ih (k + 1) (by omega), gN_set h]
      by_cases e : k = t
      · subst e
        rw [if_pos rfl, if_neg (by omega), if_pos (by omega)]; omega
      · rw [if_neg e]
        by_cases e2 : k ≤ t
        · rw [if_pos (by omega), if_pos e2]; omega
        · rw [if_neg (by omega), if_neg e2]; omega
  exact fun k => key _ k rfl
theorem gN_nn {a : Ls} (h : ∀ x ∈ a, 0 ≤ x) (j : Nat) : 0 ≤ gN a j := by
  by_cases hj : j < a.length
  · exact h _ (List.mem_of_getElem? (gN_get hj))
  · rw [gN, List.getD_eq_getElem?_getD, List.getElem?_eq_none (by omega)]; exact Int.le_refl _
theorem le_tail {a : Ls} (h : ∀ x ∈ a, 0 ≤ x) : ∀ {k j : Nat}, k ≤ j → gN a j ≤ tailS a k := by
  intro k j hkj
  by_cases hj : j < a.length
  · have := (sum_nn (l := a.drop k) fun x hx => h x (List.mem_of_mem_drop hx)).2 (gN a j) (by
      have := gN_get hj
      exact List.mem_of_getElem? (i := j - k) (by rw [List.getElem?_drop, show k + (j - k) = j by omega]; exact this))
    exact this
  · have : gN a j = 0 := by rw [gN, List.getD_eq_getElem?_getD, List.getElem?_eq_none (by omega)]; rfl
    rw [this]; exact nn_tail h k
theorem tail_mono {a : Ls} (h : ∀ x ∈ a, 0 ≤ x) {k j : Nat} (hkj : k ≤ j) : tailS a j ≤ tailS a k := by
  obtain ⟨d, rfl⟩ : ∃ d, j = k + d := ⟨j - k, by omega⟩
  clear hkj
  induction d with
  | zero => exact Int.le_refl _
  | succ d ih =>
    refine Int.le_trans ?_ ih
    by_cases hkl : k + d < a.length
    · rw [tail_cons (gN_get hkl)]
      have := gN_nn h (k + d)
      show tailS a (k + d + 1) ≤ _
      omega
    · have h2 : tailS a (k + (d + 1)) = 0 := by unfold tailS; rw [List.drop_eq_nil_of_le (by omega)]; rfl
      rw [h2]; exact nn_tail h _
/-- A step in which there is not too much water goes well; what there is bounds what is held and what arrives. -/
theorem lkGo_small {K : Int} (hK : K ≤ 1000000000) : ∀ {ls : List Lk} {ws : List Ls} {a v : Ls} {n : Int} (k : Nat), (∀ l ∈ ls, LkOk n l ∧ (k : Int) ≤ l.fr) → ls.Pairwise (fun a b => a.fr < b.fr) → (n = a.length) → ws.length = ls.length →
    (∀ (i : Nat) l p, ls[i]? = some l → ws[i]? = some p → fitsB l.ws.length p = true) → volOk ls ws v → (∀ x ∈ a, 0 ≤ x) → tailS a k + v.sum ≤ K →
    ∃ x v', lkGo ls ws a = some x ∧ volOk ls x.1 v' ∧ (∀ y ∈ x.2, 0 ≤ y) ∧ v'.sum ≤ K ∧ (∀ j, k ≤ j → gN x.2 j ≤ K) ∧ (∀ j, j < k → gN x.2 j = gN a j)
  | [], ws, a, v, n, k, _, _, _, _, _, hv, hnn, hs => by
    have hvn : v = [] := List.eq_nil_of_length_eq_zero hv.l
    subst hvn
    refine ⟨([], a), [], by cases ws <;> rfl, ⟨rfl, fun i l p x h => by simp at h⟩, hnn, ?_, fun j hj => ?_, fun _ _ => rfl⟩
    · have := nn_tail hnn k; simp at hs ⊢; omega
    · have := le_tail hnn hj; simp at hs; dsimp only; omega
  | l :: ls, [], a, v, n, k, _, _, _, hl, _, _, _, _ => by simp at hl
  | l :: ls, w :: ws, a, [], n, k, _, _, _, _, _, hv, _, _ => by have := hv.l; simp at this
  | l :: ls, w :: ws, a, x :: v, n, k, hl, hp, hn, hwl, hf, hv, hnn, hs => by
    obtain ⟨hlo, hkf⟩ := hl l (by simp)
    have hfit := hf 0 l w rfl rfl
    obtain ⟨hx0, hxs⟩ := hv.b 0 l w x rfl rfl rfl
    obtain ⟨f, hfr⟩ : ∃ f : Nat, l.fr = f := ⟨l.fr.toNat, by have := hlo.f; omega⟩
    obtain ⟨t, hto⟩ : ∃ t : Nat, l.to = t := ⟨l.to.toNat, by have := hlo.f; have := hlo.o; omega⟩
    have ho := hlo.o
    have ht := hlo.t
    have hft : f < t := by omega
    have hta : t < a.length := by omega
    have hkf' : k ≤ f := by omega
    have hgq : gA a l.fr = gN a f := by rw [hfr, gA_nat]
    have hgt : gA a l.to = gN a t := by rw [hto, gA_nat]
    have hq0 := gN_nn hnn f
    have hvn : 0 ≤ v.sum := (sum_nn fun y hy => by
      obtain ⟨i, hi⟩ := List.getElem?_of_mem hy
      have h1 := (List.getElem?_eq_some_iff.1 hi).1
      have hvl := hv.l
      simp at hvl hwl
      have c1 := List.getElem?_eq_getElem (show i < ls.length by omega)
      have c2 := List.getElem?_eq_getElem (show i < ws.length by omega)
      exact (hv.b (i + 1) _ _ y (by rw [List.getElem?_cons_succ]; exact c1) (by rw [List.getElem?_cons_succ]; exact c2) (by rw [List.getElem?_cons_succ]; exact hi)).1).1
    have htk := tail_mono hnn hkf'
    have htf := tail_cons (gN_get (show f < a.length by omega))
    have htf1 := nn_tail hnn (f + 1)
    rw [List.sum_cons] at hs
    obtain ⟨a1, a2, a3, a4, a5, a6, _⟩ := rk_facts hlo.r
    -- the step goes well
    have hdq : l.den * (x + gN a f) ≤ 240000 * 1000000000 := Int.mul_le_mul a5 (by omega) (by omega) (by omega)
    rw [Int.mul_add] at hdq
    have hqd : gN a f * l.den = l.den * gN a f := Int.mul_comm _ _
    have hok := (step_ok_of hlo.r hfit hq0 (by omega) (by omega)).1
    have hst : stG l w (gN a f) = true := by
      simp only [stG, inQ, Bool.and_eq_true, decide_eq_true_eq]
      exact ⟨⟨hq0, by omega⟩, stepB_iff.2 hok⟩
    have hsum := step_sum (q := gN a f) hlo.r hfit
    have hfit2 := step_fits hlo.r hfit hq0 (by omega) hok
    have hs0 := fits_sum hfit2
    have hout := out_in hlo.r hfit hst
    rw [lkGo_cons, hgq, hgt, if_pos hst]
    generalize outF l.ws l.den w (gN a f) = o at *
    generalize stepF l.ws l.den w (gN a f) = w' at *
    -- the link's new bound
    have hxn : 0 ≤ x + gN a f - o := by
      rcases Int.lt_or_le (x + gN a f - o) 0 with h | h
      · have h1 : l.den * (x + gN a f - o) ≤ l.den * (-1) := Int.mul_le_mul_of_nonneg_left (by omega) (by omega)
        rw [Int.mul_sub, Int.mul_add] at h1
        omega
      · exact h
    have hnn2 : ∀ y ∈ a.set t (gN a t + o), 0 ≤ y := fun y hy => by
      rcases List.mem_or_eq_of_mem_set hy with hy | rfl
      · exact hnn y hy
      · have := gN_nn hnn t; omega
    have hts := tail_set (v := o) hta (f + 1)
    rw [if_pos (by omega)] at hts
    have hvl := hv.l
    simp at hvl hwl
    have hl' : ∀ y ∈ ls, LkOk n y ∧ ((f + 1 : Nat) : Int) ≤ y.fr := fun y hy => ⟨(hl y (by simp [hy])).1, by have := (List.pairwise_cons.1 hp).1 y hy; omega⟩
    have hv' : volOk ls ws v := ⟨hvl, fun i l p y e1 e2 e3 => hv.b (i + 1) l p y (by simpa using e1) (by simpa using e2) (by simpa using e3)⟩
    obtain ⟨z, v', z1, z2, z3, z4, z5, z6⟩ := lkGo_small (K := K - (x + gN a f - o)) (by omega) (a := a.set t (gN a t + o)) (v := v) (f + 1) hl' (List.pairwise_cons.1 hp).2 (by rw [List.length_set]; exact hn) hwl (fun i l p e1 e2 => hf (i + 1) l p (by simpa using e1) (by simpa using e2)) hv' hnn2 (by omega)
    rw [show l.to.toNat = t by omega, z1]
    refine ⟨(w' :: z.1, z.2), (x + gN a f - o) :: v', rfl, ⟨by simp [z2.l], fun i b p y e1 e2 e3 => ?_⟩, z3, by rw [List.sum_cons]; omega, fun j hj => ?_, fun j hj => ?_⟩
    · cases i with
      | zero =>
        simp at e1 e2 e3
        subst e1; subst e2; subst e3
        refine ⟨hxn, ?_⟩
        rw [Int.mul_sub, Int.mul_add]
        omega
      | succ i => exact z2.b i b p y (by simpa using e1) (by simpa using e2) (by simpa using e3)
    · by_cases e : f + 1 ≤ j
      · have := z5 j e; dsimp only; omega
      · dsimp only
        rw [z6 j (by omega), gN_set hta, if_neg (by omega)]
        have := le_tail hnn hj
        omega
    · dsimp only
      rw [z6 j (by omega), gN_set hta, if_neg (by omega)]
theorem lkGo_low {k : Nat} : ∀ {ls : List Lk} {ws : List Ls} {a : Ls} {z : List Ls × Ls}, (∀ l ∈ ls, (k : Int) < l.to) → lkGo ls ws a = some z → z.2.length = a.length ∧ ∀ j, j ≤ k → gN z.2 j = gN a j
  | [], ws, a, z, _, h => by
    have h : some ([], a) = some z := by cases ws <;> exact h
    cases h
    exact ⟨rfl, fun _ _ => rfl⟩
  | l :: ls, [], a, z, _, h => by
    have h : some ([], a) = some z := h
    cases h
    exact ⟨rfl, fun _ _ => rfl⟩
  | l :: ls, w :: ws, a, z, hl, h => by
    rw [lkGo_cons] at h
    split at h
    rotate_left
    · cases h
    obtain ⟨y, h1, rfl⟩ := Option.map_eq_some_iff.1 h
    obtain ⟨i1, i2⟩ := lkGo_low (fun l hl' => hl l (by simp [hl'])) h1
    have ht := hl l (by simp)
    refine ⟨by rw [i1, List.length_set], fun j hj => ?_⟩
    rw [i2 j hj]
    by_cases e : l.to.toNat < a.length
    · rw [gN_set e, if_neg (by omega)]
    · rw [List.set_eq_of_length_le (by omega)]
theorem lkGo_head {n : Int} {l : Lk} {ls : List Lk} {w : Ls} {ws : List Ls} {a : Ls} {z : List Ls × Ls} (hl : LkOk n l) (hp : (l :: ls).Pairwise (fun a b => a.fr < b.fr)) (hls : ∀ x ∈ ls, LkOk n x) (h : lkGo (l :: ls) (w :: ws) a = some z) :
    ∃ y, stG l w (gA a l.fr) = true ∧ z.1 = stepF l.ws l.den w (gA a l.fr) :: y ∧ lkGo ls ws (a.set l.to.toNat (gA a l.to + outF l.ws l.den w (gA a l.fr))) = some (y, z.2) ∧ gA z.2 l.fr = gA a l.fr := by
  rw [lkGo_cons] at h
  split at h
  rotate_left
  · cases h
  rename_i hst
  obtain ⟨y, h1, rfl⟩ := Option.map_eq_some_iff.1 h
  refine ⟨y.1, hst, rfl, h1, ?_⟩
  have hf := hl.f
  have ho := hl.o
  obtain ⟨f, hfr⟩ : ∃ f : Nat, l.fr = f := ⟨l.fr.toNat, by omega⟩
  obtain ⟨_, i2⟩ := lkGo_low (k := f) (fun x hx => by have := (List.pairwise_cons.1 hp).1 x hx; have := (hls x hx).o; omega) h1
  have := i2 f (Nat.le_refl _)
  rw [hfr, gA_nat, gA_nat]
  dsimp only
  rw [this]
  by_cases e : l.to.toNat < a.length
  · rw [gN_set e, if_neg (by omega)]
  · rw [List.set_eq_of_length_le (by omega)]
end Go.Proofs
