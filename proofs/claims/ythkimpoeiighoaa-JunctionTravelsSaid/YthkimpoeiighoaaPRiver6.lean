/- Rivers: ways, and what is not on them. No program. -/
import Derived.Test.YthkimpoeiighoaaPRiver4
namespace Go.Proofs
open Go Go.Abs
set_option linter.unusedSimpArgs false
set_option linter.unusedVariables false
/-- The links on a node's way: n bounds how many. -/
def wayL (ls : List Lk) : Nat → Int → List Nat
  | 0, _ => []
  | m + 1, k => if lnk ls k < 0 then [] else (lnk ls k).toNat :: wayL ls m (match ls[(lnk ls k).toNat]? with | some l => l.to | none => k)
def toOf (ls : List Lk) (i : Nat) : Int := match ls[i]? with | some l => l.to | none => 0
theorem wayL_end {ls : List Lk} {k : Int} (h : lnk ls k < 0) : ∀ m, wayL ls m k = []
  | 0 => rfl
  | m + 1 => by rw [wayL, if_pos h]
theorem wayL_step {ls : List Lk} {k : Int} {i : Nat} {l : Lk} {m : Nat} (h : lnk ls k = i) (hl : ls[i]? = some l) : wayL ls (m + 1) k = i :: wayL ls m l.to := by
  rw [wayL, if_neg (by omega), h, Int.toNat_natCast, hl]
/-- As many links as there are nodes are enough. -/
theorem wayL_more {r : Rv} (hr : RvOk r) : ∀ (m : Nat) (k : Int), (r.n - k).toNat ≤ m → wayL r.ls (m + 1) k = wayL r.ls m k
  | 0, k, h => by
    rcases lnk_spec r.ls k with ⟨e, _⟩ | ⟨i, l, e1, e2, e3⟩
    · rw [wayL_end (by omega), wayL_end (by omega)]
    · have hl := hr.l l (List.mem_of_getElem? e1)
      have := hl.o
      have := hl.t
      omega
  | m + 1, k, h => by
    rcases lnk_spec r.ls k with ⟨e, _⟩ | ⟨i, l, e1, e2, e3⟩
    · rw [wayL_end (by omega), wayL_end (by omega)]
    · have hl := hr.l l (List.mem_of_getElem? e1)
      have h1 := hl.o
      have h2 := hl.t
      rw [wayL_step e3 e1, wayL_step e3 e1, wayL_more hr m l.to (by omega)]
def wayR (r : Rv) (k : Int) : List Nat := wayL r.ls 40 k
theorem wayR_end {r : Rv} {k : Int} (h : lnk r.ls k < 0) : wayR r k = [] := wayL_end h _
theorem wayR_step {r : Rv} (hr : RvOk r) {k : Int} (hk : 0 ≤ k) {i : Nat} {l : Lk} (h : lnk r.ls k = i) (hl : r.ls[i]? = some l) (hf : l.fr = k) : wayR r k = i :: wayR r l.to := by
  have hlo := hr.l l (List.mem_of_getElem? hl)
  have h1 := hlo.o
  have h2 := hlo.t
  have h3 := hr.n
  unfold wayR
  rw [← wayL_more hr 40 k (by omega), wayL_step h hl]
def pathR (r : Rv) (k : Int) : Ls := k :: (wayR r k).map (toOf r.ls)
def pthS (r : Rv) (k : Int) : Ls × Int := if rvE r ≠ 0 then ([], rvE r) else if inN r.n k = false then ([], 11) else (pathR r k, 0)
theorem path_end {r : Rv} {k : Int} (h : lnk r.ls k < 0) : pathR r k = [k] := by rw [pathR, wayR_end h]; rfl
theorem path_step {r : Rv} (hr : RvOk r) {k : Int} (hk : 0 ≤ k) {i : Nat} {l : Lk} (h : lnk r.ls k = i) (hl : r.ls[i]? = some l) (hf : l.fr = k) : pathR r k = k :: pathR r l.to := by
  rw [pathR, wayR_step hr hk h hl hf, List.map_cons, pathR]
  unfold toOf
  rw [hl]
theorem path_facts {r : Rv} (hr : RvOk r) : ∀ (m : Nat) (k : Int), (r.n - k).toNat ≤ m → 0 ≤ k ∧ k < r.n → (∀ x ∈ pathR r k, k ≤ x ∧ x < r.n) ∧ (∀ (i : Nat) l, r.ls[i]? = some l → l.fr ∈ pathR r k → l.to ∈ pathR r k) ∧ (wayR r k).length ≤ m
  | 0, k, h, hk => by omega
  | m + 1, k, h, hk => by
    rcases lnk_spec r.ls k with ⟨e, e0⟩ | ⟨i, l, e1, e2, e3⟩
    · rw [path_end (by omega), wayR_end (by omega)]
      refine ⟨fun x hx => by simp at hx; omega, fun i l hl hf => ?_, by simp⟩
      simp at hf
      exact absurd hf (e0 l (List.mem_of_getElem? hl))
    · have hlo := hr.l l (List.mem_of_getElem? e1)
      have h1 := hlo.o
      have h2 := hlo.t
      obtain ⟨i1, i2, i3⟩ := path_facts hr m l.to (by omega) (by omega)
      rw [path_step hr hk.1 e3 e1 e2, wayR_step hr hk.1 e3 e1 e2]
      refine ⟨fun x hx => ?_, fun j b hb hf => ?_, by rw [List.length_cons]; omega⟩
      · rcases List.mem_cons.1 hx with rfl | hx
        · omega
        · have := i1 x hx; omega
      · rcases List.mem_cons.1 hf with hf | hf
        · have : j = i := by
            rcases Nat.lt_trichotomy j i with e | e | e
            · have := pwK_lt hr.p e hb e1; omega
            · exact e
            · have := pwK_lt hr.p e e1 hb; omega
          subst this
          rw [e1] at hb; cases hb
          exact List.mem_cons_of_mem _ (by unfold pathR; exact List.mem_cons_self)
        · exact List.mem_cons_of_mem _ (i2 j b hb hf)
theorem path_len {r : Rv} (hr : RvOk r) {k : Int} (hk : 0 ≤ k ∧ k < r.n) : (wayR r k).length ≤ 40 := by
  have := (path_facts hr (r.n - k).toNat k (Nat.le_refl _) hk).2.2
  have := hr.n
  omega
theorem way_in {r : Rv} (hr : RvOk r) : ∀ (m : Nat) (k : Int), (r.n - k).toNat ≤ m → 0 ≤ k → ∀ i ∈ wayR r k, i < r.ls.length
  | 0, k, h, hk, i, hi => by
    rcases lnk_spec r.ls k with ⟨e, _⟩ | ⟨j, l, e1, e2, e3⟩
    · rw [wayR_end (by omega)] at hi; simp at hi
    · have := (hr.l l (List.mem_of_getElem? e1)).o; have := (hr.l l (List.mem_of_getElem? e1)).t; omega
  | m + 1, k, h, hk, i, hi => by
    rcases lnk_spec r.ls k with ⟨e, _⟩ | ⟨j, l, e1, e2, e3⟩
    · rw [wayR_end (by omega)] at hi; simp at hi
    · have h1 := (hr.l l (List.mem_of_getElem? e1)).o
      have h2 := (hr.l l (List.mem_of_getElem? e1)).t
      rw [wayR_step hr hk e3 e1 e2] at hi
      rcases List.mem_cons.1 hi with rfl | hi
      · exact (List.getElem?_eq_some_iff.1 e1).1
      · exact way_in hr m l.to (by omega) (by omega) i hi
/-! What happens at a node does not matter off its path. -/
structure offP (S : Int → Prop) (ls : List Lk) : Prop where
  c : ∀ (i : Nat) l, ls[i]? = some l → S l.fr → S l.to
theorem lkGo_off {S : Int → Prop} [DecidablePred S] {n : Int} : ∀ {ls : List Lk} {w w' : List Ls} {a a' : Ls} {x x' : List Ls × Ls}, (∀ l ∈ ls, LkOk n l ∧ (S l.fr → S l.to)) → a.length = a'.length → (n = a.length) → w.length = ls.length → w'.length = ls.length →
    (∀ j : Nat, ¬ S j → gN a j = gN a' j) → (∀ (i : Nat) l, ls[i]? = some l → ¬ S l.fr → w[i]? = w'[i]?) → lkGo ls w a = some x → lkGo ls w' a' = some x' →
    (∀ j : Nat, ¬ S j → gN x.2 j = gN x'.2 j) ∧ (∀ (i : Nat) l, ls[i]? = some l → ¬ S l.fr → x.1[i]? = x'.1[i]?)
  | [], w, w', a, a', x, x', _, _, _, _, _, ha, _, h1, h2 => by
    have h1 : some ([], a) = some x := by cases w <;> exact h1
    have h2 : some ([], a') = some x' := by cases w' <;> exact h2
    cases h1; cases h2
    exact ⟨ha, fun i l h => by simp at h⟩
  | l :: ls, [], _, _, _, _, _, _, _, _, h, _, _, _, _, _ => by simp at h
  | l :: ls, _ :: _, [], _, _, _, _, _, _, _, _, h, _, _, _, _ => by simp at h
  | l :: ls, p :: w, p' :: w', a, a', x, x', hl, hlen, hn, hw, hw', ha, hp, h1, h2 => by
    obtain ⟨hlo, hS⟩ := hl l (by simp)
    have hf := hlo.f
    have ho := hlo.o
    have ht := hlo.t
    obtain ⟨f, hfr⟩ : ∃ f : Nat, l.fr = f := ⟨l.fr.toNat, by omega⟩
    obtain ⟨t, hto⟩ : ∃ t : Nat, l.to = t := ⟨l.to.toNat, by omega⟩
    rw [lkGo_cons] at h1 h2
    split at h1
    rotate_left
    · cases h1
    split at h2
    rotate_left
    · cases h2
    obtain ⟨y, g1, rfl⟩ := Option.map_eq_some_iff.1 h1
    obtain ⟨y', g2, rfl⟩ := Option.map_eq_some_iff.1 h2
    clear h1 h2
    rw [hfr, hto, gA_nat, gA_nat, Int.toNat_natCast] at g1 g2
    have hpS : ¬ S l.fr → gN a f = gN a' f ∧ p = p' := fun h => ⟨ha f (by rw [← hfr]; exact h), by have := hp 0 l rfl h; simpa using this⟩
    obtain ⟨i1, i2⟩ := lkGo_off (S := S) (n := n) (fun b hb => hl b (by simp [hb])) (by rw [List.length_set, List.length_set]; exact hlen) (by rw [List.length_set]; exact hn) (by simpa using hw) (by simpa using hw') (fun j hj => by
      rw [gN_set (by omega), gN_set (by omega)]
      by_cases e : j = t
      · subst e
        rw [if_pos rfl, if_pos rfl]
        have hnf : ¬ S l.fr := fun h => hj (by rw [← hto]; exact hS h)
        obtain ⟨e1, e2⟩ := hpS hnf
        rw [ha _ hj, e1, e2]
      · rw [if_neg e, if_neg e]; exact ha j hj) (fun i b hb hbS => by have := hp (i + 1) b (by simpa using hb) hbS; simpa using this) g1 g2
    refine ⟨i1, fun i b hb hbS => ?_⟩
    cases i with
    | zero =>
      simp at hb
      subst hb
      obtain ⟨e1, e2⟩ := hpS hbS
      simp only [List.getElem?_cons_zero]
      rw [hfr, gA_nat, gA_nat, e1, e2]
    | succ i =>
      simp only [List.getElem?_cons_succ]
      exact i2 i b (by simpa using hb) hbS
theorem run_off {S : Int → Prop} [DecidablePred S] {r : Rv} (hr : RvOk r) (hS : ∀ l ∈ r.ls, S l.fr → S l.to) : ∀ {ls ls' : List Ls} {w w' : List Ls} {x x' : List Ls × List Ls}, ls.length = ls'.length → WvOk r w → WvOk r w' →
    (∀ (t : Nat) l l', ls[t]? = some l → ls'[t]? = some l' → ∀ j : Nat, ¬ S j → gN l j = gN l' j) → (∀ (i : Nat) l, r.ls[i]? = some l → ¬ S l.fr → w[i]? = w'[i]?) → runX r w ls = .ok x → runX r w' ls' = .ok x' →
    ∀ (t : Nat) o o', x.2[t]? = some o → x'.2[t]? = some o' → ∀ j : Nat, ¬ S j → gN o j = gN o' j
  | [], ls', w, w', x, x', hl, _, _, _, _, h1, _, t, o, o', ho, _ => by
    simp [runX] at h1
    subst h1
    simp at ho
  | l :: ls, [], _, _, _, _, h, _, _, _, _, _, _, _, _, _, _, _ => by simp at h
  | l :: ls, l' :: ls', w, w', x, x', hl, hw, hw', hloc, hww, h1, h2, t, o, o', ho, ho' => by
    intro j hj
    cases p1 : passX r w l with
    | error e => rw [runX_err p1] at h1; cases h1
    | ok y =>
    cases p2 : passX r w' l' with
    | error e => rw [runX_err p2] at h2; cases h2
    | ok y' =>
    rw [runX_ok p1] at h1
    rw [runX_ok p2] at h2
    obtain ⟨f1, f2, f3, _, f5⟩ := passX_fit hr hw p1
    obtain ⟨g1, g2, g3, _, g5⟩ := passX_fit hr hw' p2
    obtain ⟨q1, q2⟩ := lkGo_off (S := S) (n := r.n) (fun b hb => ⟨hr.l b hb, hS b hb⟩) (by omega) f3.symm hw.l hw'.l (hloc 0 l l' rfl rfl) hww f5 g5
    cases e1 : runX r y.1 ls with
    | error e => rw [e1] at h1; cases h1
    | ok z =>
    cases e2 : runX r y'.1 ls' with
    | error e => rw [e2] at h2; cases h2
    | ok z' =>
    rw [e1] at h1
    rw [e2] at h2
    simp [preX] at h1 h2
    subst h1; subst h2
    cases t with
    | zero =>
      simp at ho ho'
      subst ho; subst ho'
      exact q1 j hj
    | succ t =>
      exact run_off hr hS (by simpa using hl) f1 g1 (fun t a b ha hb => hloc (t + 1) a b (by simpa using ha) (by simpa using hb)) q2 e1 e2 t o o' (by simpa using ho) (by simpa using ho') j hj
/-- A run in which there is not too much water goes well. -/
theorem run_small {r : Rv} (hr : RvOk r) : ∀ {ls w : List Ls} {v : Ls} {K c : Int}, WvOk r w → volOk r.ls w v → (∀ l ∈ ls, (l.length : Int) = r.n ∧ (∀ q ∈ l, 0 ≤ q) ∧ l.sum ≤ c) → 0 ≤ c → v.sum + c * ls.length ≤ K → K ≤ 1000000000 → 0 ≤ v.sum →
    ∃ x, runX r w ls = .ok x ∧ x.2.length = ls.length
  | [], w, v, K, c, _, _, _, _, _, _, _ => ⟨(w, []), rfl, rfl⟩
  | l :: ls, w, v, K, c, hw, hv, hl, hc, hK, hK2, hv0 => by
    obtain ⟨h1, h2, h3⟩ := hl l (by simp)
    rw [List.length_cons, Int.natCast_add, Int.mul_add] at hK
    have hcl : 0 ≤ c * (ls.length : Int) := Int.mul_nonneg hc (by omega)
    have hq : ∀ q ∈ l, 0 ≤ q ∧ q ≤ 1073741824 := fun q hq => ⟨h2 q hq, by have := (sum_nn h2).2 q hq; omega⟩
    obtain ⟨x, v', z1, z2, z3, z4, z5, z6⟩ := lkGo_small (K := v.sum + l.sum) (by omega) (n := r.n) 0 (fun l hl => ⟨hr.l l hl, (hr.l l hl).f⟩) hr.p h1.symm hw.l hw.f hv h2 (by show (l.drop 0).sum + v.sum ≤ _; rw [List.drop_zero]; omega)
    have hp := passX_ok h1 (List.all_eq_true.2 fun q hq' => by have := hq q hq'; simp [inQ]; omega) z1
    obtain ⟨f1, _⟩ := passX_fit hr hw hp
    have hv'0 : 0 ≤ v'.sum := (sum_nn fun y hy => by
      obtain ⟨i, hi⟩ := List.getElem?_of_mem hy
      have hil := (List.getElem?_eq_some_iff.1 hi).1
      have e1 := z2.l
      have e2 := f1.l
      exact (z2.b i _ _ y (List.getElem?_eq_getElem (by omega)) (List.getElem?_eq_getElem (show i < x.1.length by omega)) hi).1).1
    obtain ⟨y, y1, y2⟩ := run_small hr (ls := ls) (K := K) f1 z2 (fun l hl' => hl l (by simp [hl'])) hc (by omega) hK2 hv'0
    exact ⟨(y.1, x.2 :: y.2), by rw [runX_ok hp, y1]; rfl, by simp [y2]⟩
end Go.Proofs
