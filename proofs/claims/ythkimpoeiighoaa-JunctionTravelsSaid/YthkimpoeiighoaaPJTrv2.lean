/- Proved here: what functions of the given program come to, and the plain laws of it; no condition but those in the theorems. -/
import Derived.Test.YthkimpoeiighoaaPJ0
/- Water that enters a river travels. No program. -/
namespace Go.Proofs
open Go Go.Abs
set_option linter.unusedSimpArgs false
set_option linter.unusedVariables false
/-- No water of node n at node f at step s. -/
def deadJ (r : Rv) (n : Int) (s : Int) (f : Int) : Prop := ∀ z, lagR r n f = some z → s < z.1 ∨ z.2 < s
structure winJ (r : Rv) (n : Int) (s : Int) (l : Lk) (w : Ls) : Prop where
  z : ∀ j : Nat, (∀ z, lagR r n l.fr = some z → s + j < z.1 + pos l.ws ∨ z.2 + ((l.ws.length : Int) - 1) < s + j) → fP w j = 0
  d : l.den ∣ w.sum
theorem tab_nil0 {g : Nat → Int} (h : ∀ k, g k = 0) : ∀ n, (tab n g).sum = 0
  | 0 => rfl
  | n + 1 => by rw [sum_succ, tab_nil0 h n, h n]; rfl
theorem winJ_step {r : Rv} (hr : RvOk r) {n s : Int} (hn : 0 ≤ n ∧ n < r.n) {l : Lk} (hl : l ∈ r.ls) {w : Ls} {q : Int} (hf : fitsB l.ws.length w = true) (h : winJ r n s l w) (hq : deadJ r n s l.fr → q = 0) :
    winJ r n (s + 1) l (stepF l.ws l.den w q) ∧ (deadJ r n s l.to → outF l.ws l.den w q = 0) := by
  have hk := hr.l l hl
  obtain ⟨h1', _, hws, hd, _⟩ := rk_facts hk.r
  obtain ⟨pj, px, q1, q2, q3, q4, q5, q6⟩ := pos_ok hk.r
  have hwl := (fits_facts hf).1
  have hzero : ∀ j : Nat, j < pj → fP l.ws j = 0 := fun j hj => by
    rw [fP_at (show j < l.ws.length by omega)]
    exact q6 j _ hj (List.getElem?_eq_getElem _)
  have hg : ∀ j : Nat, (∀ z, lagR r n l.fr = some z → s + j < z.1 + pos l.ws ∨ z.2 + ((l.ws.length : Int) - 1) < s + j) → gP l.ws w q j = 0 := fun j hj => by
    unfold gP
    rw [h.z j hj]
    by_cases hdd : deadJ r n s l.fr
    · rw [hq hdd]; simp
    · have : fP l.ws j = 0 := by
        cases e : lagR r n l.fr with
        | none => exact absurd (fun z h => by rw [e] at h; cases h) hdd
        | some z =>
          have g2 : ¬ (s < z.1 ∨ z.2 < s) := fun h => hdd fun z' h' => by rw [e] at h'; cases h'; exact h
          rcases hj z e with g1 | g1
          · rw [q3] at g1; exact hzero j (by omega)
          · exact fP_out (by omega)
      rw [this]; simp
  refine ⟨⟨fun j hj => ?_, ?_⟩, fun hdd => ?_⟩
  · rw [fP_step h1' hwl]
    unfold hP
    rw [hg (j + 1) fun z e => by have := hj z e; omega]
    split
    · rename_i e0
      subst e0
      have hdv : l.den ∣ gP l.ws w q 0 := by
        cases e : lagR r n l.fr with
        | none => rw [hg 0 fun z e' => by rw [e] at e'; cases e']; exact Int.dvd_zero _
        | some z =>
          rcases hj z e with g1 | g1
          · rw [hg 0 fun z' e' => by rw [e] at e'; cases e'; omega]; exact Int.dvd_zero _
          · have hs := g_sum (q := q) hk.r hf
            rw [sum_shift, tab_nil0 (fun k => hg (k + 1) fun z' e' => by rw [e] at e'; cases e'; omega), Int.add_zero] at hs
            rw [hs]
            exact Int.dvd_add h.d (Int.dvd_mul_left ..)
      rw [Int.emod_eq_zero_of_dvd hdv]
      rfl
    · rfl
  · rw [step_sum hk.r hf]
    exact Int.dvd_sub (Int.dvd_add h.d (Int.dvd_mul_left ..)) (Int.dvd_mul_right ..)
  · unfold outF
    rw [hg 0 fun z e => by
      have := hdd _ (lag_next hr hl _ n z (Nat.le_refl _) hn.1 hn.2 e)
      dsimp only at this
      omega]
    simp
theorem winJ_go {r : Rv} (hr : RvOk r) {n s : Int} (hn : 0 ≤ n ∧ n < r.n) : ∀ {ls : List Lk} {ws : List Ls} {a : Ls} {x : List Ls × Ls}, (∀ l ∈ ls, l ∈ r.ls) → r.n = a.length → ws.length = ls.length → (∀ (i : Nat) l p, ls[i]? = some l → ws[i]? = some p → fitsB l.ws.length p = true ∧ winJ r n s l p) →
    (∀ f : Int, 0 ≤ f → deadJ r n s f → gA a f = 0) → lkGo ls ws a = some x → (∀ (i : Nat) l p, ls[i]? = some l → x.1[i]? = some p → winJ r n (s + 1) l p) ∧ ∀ f : Int, 0 ≤ f → deadJ r n s f → gA x.2 f = 0
  | [], ws, a, x, _, _, _, _, hA, h => by
    have h : some ([], a) = some x := by cases ws <;> exact h
    cases h
    exact ⟨fun i l p h => by simp at h, hA⟩
  | l :: ls, [], a, x, _, _, h, _, _, _ => by simp at h
  | l :: ls, w :: ws, a, x, hin, hna, hwl, hw, hA, h => by
    have hl := hin l (by simp)
    have hk := hr.l l hl
    have k1 := hk.f
    have k2 := hk.o
    have k3 := hk.t
    rw [lkGo_cons] at h
    split at h
    case isFalse => cases h
    obtain ⟨X1, hX1, rfl⟩ := Option.map_eq_some_iff.1 h
    obtain ⟨hf0, hw0⟩ := hw 0 l w rfl rfl
    obtain ⟨s1, s2⟩ := winJ_step hr hn hl hf0 hw0 (hA l.fr k1)
    generalize outF l.ws l.den w (gA a l.fr) = o at s2 hX1
    have ga : ∀ j, gA (a.set l.to.toNat (gA a l.to + o)) j = if j = l.to then gA a l.to + o else gA a j := fun j => gA_set1 (by omega) (by omega)
    obtain ⟨i1, i2⟩ := winJ_go hr hn (fun z hz => hin z (by simp [hz])) (by rw [List.length_set]; exact hna) (by simpa using hwl) (fun j z y e1 e2 => hw (j + 1) z y (by simpa using e1) (by simpa using e2)) (fun f hf hd => by
      rw [ga]
      split
      · rename_i e
        subst e
        rw [hA _ hf hd, s2 hd]
        rfl
      · exact hA f hf hd) hX1
    refine ⟨fun j z y e1 e2 => ?_, i2⟩
    cases j with
    | zero =>
      simp at e1 e2
      subst e1; subst e2
      exact s1
    | succ j => exact i1 j z y (by simpa using e1) (by simpa using e2)
/-! Sums. -/
def hldJ (E : Int → Int) (t : Int) : List Lk → List Ls → Int
  | l :: r, w :: ws => (if l.fr < t then E l.fr * (w.sum / l.den) else 0) + hldJ E t r ws
  | _, _ => 0
theorem hldJ_off {E : Int → Int} {t : Int} : ∀ {ls : List Lk} {ws : List Ls}, (∀ l ∈ ls, t ≤ l.fr) → hldJ E t ls ws = 0
  | [], ws, _ => by unfold hldJ; rfl
  | l :: ls, [], _ => by unfold hldJ; rfl
  | l :: ls, w :: ws, h => by rw [hldJ, if_neg (by have := h l (by simp); omega), hldJ_off fun l hl => h l (by simp [hl])]; rfl
theorem hldJ_zero {E : Int → Int} {t : Int} : ∀ {ls : List Lk} {ws : List Ls}, (∀ (i : Nat) l p, ls[i]? = some l → ws[i]? = some p → l.fr < t → E l.fr = 0 ∨ p.sum = 0) → hldJ E t ls ws = 0
  | [], ws, _ => by unfold hldJ; rfl
  | l :: ls, [], _ => by unfold hldJ; rfl
  | l :: ls, w :: ws, h => by
    rw [hldJ, hldJ_zero fun i l p e1 e2 => h (i + 1) l p (by simpa using e1) (by simpa using e2)]
    split
    · rename_i hl
      rcases h 0 l w rfl rfl hl with e | e <;> simp [e]
    · rfl
theorem vT_high {E : Int → Int} {a : Ls} {t : Nat} {v : Int} : ∀ {m k : Nat}, k + m ≤ t → vT E (a.set t v) k m = vT E a k m
  | 0, k, _ => rfl
  | m + 1, k, h => by
    have e : gN (a.set t v) k = gN a k := by unfold gN; rw [List.getD_eq_getElem?_getD, List.getD_eq_getElem?_getD, List.getElem?_set_ne (by omega)]
    rw [vT, vT, e, vT_high (by omega)]
theorem hldJ_go {E : Int → Int} {t : Nat} {n : Int} : ∀ {ls : List Lk} {ws : List Ls} {a : Ls} {x : List Ls × Ls} (k m : Nat), k + m = t + 1 → k ≤ t → n = a.length → (t : Int) < n → E t = 1 → (∀ j : Int, t < j → j < n → E j = 0) →
    (∀ l ∈ ls, LkOk n l ∧ (k : Int) ≤ l.fr ∧ (l.fr < t → E l.fr = E l.to)) → ls.Pairwise (fun a b => a.fr < b.fr) → ws.length = ls.length → (∀ (i : Nat) l p, ls[i]? = some l → ws[i]? = some p → fitsB l.ws.length p = true) →
    (∀ j : Nat, k ≤ j → j < t → (∀ l ∈ ls, l.fr ≠ j) → E j = 0) → lkGo ls ws a = some x → vT E a k m + hldJ E t ls ws = gN x.2 t + hldJ E t ls x.1
  | [], ws, a, x, k, m, hkm, hkt, ha, htn, hE1, hE2, hl, hp, hw, hf, hE, hx => by
    have hx : some ([], a) = some x := by cases ws <;> exact hx
    cases hx
    rw [hldJ_off (fun l h => by simp at h), hldJ_off (fun l h => by simp at h), vT_last (z := t) (fun j h1 h2 => by
      by_cases e : j = t
      · subst e; rw [if_pos rfl]; exact hE1
      · rw [if_neg e]; exact hE j h1 (by omega) fun l hl => by simp at hl) hkt (by omega)]
  | l :: ls, [], a, x, k, m, _, _, _, _, _, _, _, _, hw, _, _, _ => by simp at hw
  | l :: ls, w :: ws, a, x, k, m, hkm, hkt, ha, htn, hE1, hE2, hl, hp, hw, hf, hE, hx => by
    obtain ⟨hk, hkf, hEl⟩ := hl l (by simp)
    have k2 := hk.o
    have k3 := hk.t
    obtain ⟨hp1, hp2⟩ := List.pairwise_cons.1 hp
    by_cases hlt : l.fr < t
    · obtain ⟨f, hfe⟩ := Int.eq_ofNat_of_zero_le hk.f
      obtain ⟨t', hte⟩ := Int.eq_ofNat_of_zero_le (show 0 ≤ l.to by omega)
      rw [lkGo_cons] at hx
      split at hx
      case isFalse => cases hx
      obtain ⟨x1, hx1, rfl⟩ := Option.map_eq_some_iff.1 hx
      have hq : gA a l.fr = gN a f := by rw [hfe]; exact gA_nat ..
      have hgt : gA a l.to = gN a t' := by rw [hte]; exact gA_nat ..
      rw [hq] at hx1 ⊢
      rw [hgt, hte, Int.toNat_natCast] at hx1
      have hr := hk.r
      have hfw := hf 0 l w rfl rfl
      have hss := step_sum (q := gN a f) hr hfw
      obtain ⟨_, _, _, hd, _⟩ := rk_facts hr
      generalize outF l.ws l.den w (gN a f) = o at hx1 hss
      have hD : (stepF l.ws l.den w (gN a f)).sum / l.den = w.sum / l.den + (gN a f - o) := by
        have e : (stepF l.ws l.den w (gN a f)).sum = w.sum + l.den * (gN a f - o) := by
          rw [hss, Int.mul_sub, Int.mul_comm l.den (gN a f)]
          omega
        rw [e, Int.add_mul_ediv_left _ _ (by omega)]
      have ih := hldJ_go (E := E) (t := t) (n := n) (f + 1) (t - f) (by omega) (by omega) (by rw [List.length_set]; exact ha) htn hE1 hE2 (fun y hy => by
          obtain ⟨g1, g2, g3⟩ := hl y (by simp [hy])
          have := hp1 y hy
          exact ⟨g1, by omega, g3⟩) hp2 (by simpa using hw) (fun i y p e1 e2 => hf (i + 1) y p (by simpa using e1) (by simpa using e2)) (fun j h1 h2 h3 => hE j (by omega) h2 fun y hy => by
            rcases List.mem_cons.1 hy with rfl | hy
            · omega
            · exact h3 y hy) hx1
      have hset : vT E (a.set t' (gN a t' + o)) (f + 1) (t - f) = vT E a (f + 1) (t - f) + E l.fr * o := by
        rw [hEl hlt]
        by_cases h : t' ≤ t
        · rw [vT_set (by omega) (by omega) (by omega), hte]
        · rw [vT_high (by omega), hE2 l.to (by omega) k3]; simp
      rw [hset] at ih
      have hsk : vT E a k m = vT E a f (t - f + 1) := by
        have hm : m = (f - k) + (t - f + 1) := by omega
        rw [hm, vT_skip fun j h1 h2 => hE j h1 (by omega) fun y hy => by
            rcases List.mem_cons.1 hy with rfl | hy
            · omega
            · have := hp1 y hy; omega, show k + (f - k) = f by omega]
      rw [hsk, vT, hldJ, hldJ, if_pos hlt, if_pos hlt, hD, Int.mul_add, Int.mul_sub]
      have e1 : E l.fr = E (f : Int) := by rw [hfe]
      rw [e1] at ih ⊢
      dsimp only
      omega
    · have hall : ∀ y ∈ l :: ls, (t : Int) ≤ y.fr := fun y hy => by
        rcases List.mem_cons.1 hy with rfl | hy
        · omega
        · have := hp1 y hy; omega
      rw [hldJ_off hall, hldJ_off hall, (lkGo_low (k := t) (fun y hy => by have := hall y hy; have := (hl y hy).1.o; omega) hx).2 t (Nat.le_refl _), vT_last (z := t) (fun j h1 h2 => by
        by_cases e : j = t
        · subst e; rw [if_pos rfl]; exact hE1
        · rw [if_neg e]; exact hE j h1 (by omega) fun y hy => by have := hall y hy; omega) hkt (by omega)]
end Go.Proofs

/- Water that enters a river travels: the run. No program. -/
namespace Go.Proofs
open Go Go.Abs
set_option linter.unusedSimpArgs false
set_option linter.unusedVariables false
theorem runX_in {r : Rv} {w : List Ls} {l : Ls} {ls : List Ls} {x : List Ls × List Ls} (h : runX r w (l :: ls) = .ok x) : ∃ y z, passX r w l = .ok y ∧ runX r y.1 ls = .ok z ∧ x = (z.1, y.2 :: z.2) := by
  cases p : passX r w l with
  | error e => rw [runX_err p] at h; cases h
  | ok y =>
    rw [runX_ok p] at h
    cases e : runX r y.1 ls with
    | error e' => rw [e] at h; cases h
    | ok z =>
      rw [e] at h
      cases h
      exact ⟨y, z, rfl, e, rfl⟩
theorem winJ_run {r : Rv} (hr : RvOk r) {n : Int} (hn : 0 ≤ n ∧ n < r.n) : ∀ {ls : List Ls} {w : List Ls} {x : List Ls × List Ls} {s : Nat}, WvOk r w → (∀ (i : Nat) l p, r.ls[i]? = some l → w[i]? = some p → winJ r n s l p) →
    (∀ (i : Nat) a, ls[i]? = some a → ∀ f : Int, 0 ≤ f → deadJ r n (s + i) f → gA a f = 0) → runX r w ls = .ok x →
    WvOk r x.1 ∧ (∀ (i : Nat) l p, r.ls[i]? = some l → x.1[i]? = some p → winJ r n (s + ls.length) l p) ∧ x.2.length = ls.length ∧ ∀ (i : Nat) a, x.2[i]? = some a → (a.length : Int) = r.n ∧ ∀ f : Int, 0 ≤ f → deadJ r n (s + i) f → gA a f = 0
  | [], w, x, s, hw, hW, hA, h => by
    simp [runX] at h
    subst h
    exact ⟨hw, by simpa using hW, rfl, fun i a h => by simp at h⟩
  | l :: ls, w, x, s, hw, hW, hA, h => by
    obtain ⟨y, z, p, e, rfl⟩ := runX_in h
    obtain ⟨f1, f2, f3, _, f5⟩ := passX_fit hr hw p
    obtain ⟨g1, g2⟩ := winJ_go hr hn (s := s) (fun _ h => h) f3.symm hw.l (fun i l p e1 e2 => ⟨hw.f i l p e1 e2, hW i l p e1 e2⟩) (by simpa using hA 0 l rfl) f5
    have hcast : ((s + 1 : Nat) : Int) = (s : Int) + 1 := by omega
    obtain ⟨i0, i1, i2, i3⟩ := winJ_run hr hn (s := s + 1) f1 (fun i l p e1 e2 => by rw [hcast]; exact g1 i l p e1 e2) (fun i a ha f hf hd => hA (i + 1) a (by simpa using ha) f hf (by
      rw [show (s : Int) + ((i + 1 : Nat) : Int) = ((s + 1 : Nat) : Int) + i by omega]; exact hd)) e
    refine ⟨i0, fun i b p e1 e2 => ?_, by simp [i2], fun i a ha => ?_⟩
    · have := i1 i b p e1 e2
      rw [List.length_cons, show (s : Int) + ((ls.length + 1 : Nat) : Int) = ((s + 1 : Nat) : Int) + ls.length by omega]
      exact this
    · cases i with
      | zero =>
        simp at ha
        subst ha
        exact ⟨by omega, by simpa using g2⟩
      | succ i =>
        have := i3 i a (by simpa using ha)
        rw [show (s : Int) + ((i + 1 : Nat) : Int) = ((s + 1 : Nat) : Int) + i by omega]
        exact this
theorem lnk_mem {r : Rv} (hr : RvOk r) {l : Lk} (hl : l ∈ r.ls) : ∃ i : Nat, lnk r.ls l.fr = i ∧ r.ls[i]? = some l := by
  obtain ⟨il, hil⟩ := List.getElem?_of_mem hl
  rcases lnk_spec r.ls l.fr with ⟨_, h⟩ | ⟨j, a, g1, g2, g3⟩
  · exact absurd rfl (h l hl)
  · refine ⟨j, g3, ?_⟩
    have : j = il := by
      rcases Nat.lt_trichotomy j il with e | e | e
      · have := pwK_lt hr.p e g1 hil; omega
      · exact e
      · have := pwK_lt hr.p e hil g1; omega
    subst this
    exact hil
def leadJ (r : Rv) (t f : Int) : Int := if (lagR r f t).isSome then 1 else 0
theorem leadJ_link {r : Rv} (hr : RvOk r) {t : Int} {l : Lk} (hl : l ∈ r.ls) (hlt : l.fr < t) : leadJ r t l.fr = leadJ r t l.to := by
  obtain ⟨i, h1, h2⟩ := lnk_mem hr hl
  unfold leadJ
  rw [lagR_step hr (hr.l l hl).f (by omega) h1 h2 rfl, Option.isSome_map]
theorem sum_run {r : Rv} (hr : RvOk r) {t : Nat} (ht : (t : Int) < r.n) : ∀ {ls : List Ls} {w : List Ls} {x : List Ls × List Ls}, WvOk r w → runX r w ls = .ok x →
    (ls.map fun a => vT (leadJ r t) a 0 (t + 1)).sum + hldJ (leadJ r t) t r.ls w = (x.2.map fun a => gN a t).sum + hldJ (leadJ r t) t r.ls x.1
  | [], w, x, hw, h => by
    simp [runX] at h
    subst h
    rfl
  | l :: ls, w, x, hw, h => by
    obtain ⟨y, z, p, e, rfl⟩ := runX_in h
    obtain ⟨f1, f2, f3, _, f5⟩ := passX_fit hr hw p
    have key := hldJ_go (E := leadJ r t) (t := t) (n := r.n) 0 (t + 1) (by omega) (Nat.zero_le _) f3.symm ht (by unfold leadJ; rw [lagR_eq]; rfl) (fun j h1 h2 => by unfold leadJ; rw [lagR_past hr _ j (Nat.le_refl _) (by omega) h1 h2]; rfl)
      (fun l hl => ⟨hr.l l hl, by have := (hr.l l hl).f; omega, leadJ_link hr hl⟩) hr.p hw.l hw.f (fun j _ h2 h3 => by
        unfold leadJ
        rw [lagR_end (by
          rcases lnk_at r.ls (j : Int) with h | ⟨i, a, g1, g2, g3⟩
          · exact h
          · exact absurd g3 (h3 a (List.mem_of_getElem? g2))) (by omega)]
        rfl) f5
    have ih := sum_run hr ht f1 e
    simp only [List.map_cons, List.sum_cons]
    omega
theorem lag_add {r : Rv} (hr : RvOk r) {n t : Int} (hn : 0 ≤ n ∧ n < r.n) : ∀ (m : Nat) (f : Int) (z1 z2 : Int × Int), (r.n - f).toNat ≤ m → 0 ≤ f → f < r.n → lagR r n f = some z1 → lagR r f t = some z2 → lagR r n t = some (z1.1 + z2.1, z1.2 + z2.2) ∧ 0 ≤ z2.2 := by
  intro m
  induction m with
  | zero => intro f z1 z2 h0 h1 h2; omega
  | succ m ih =>
    intro f z1 z2 h0 h1 h2 h3 h4
    by_cases e : f = t
    · subst e
      rw [lagR_eq] at h4
      cases h4
      exact ⟨by simpa using h3, Int.le_refl _⟩
    · rcases lnk_at r.ls f with h | ⟨i, l, g1, g2, g3⟩
      · rw [lagR_end h e] at h4; cases h4
      · have hl := List.mem_of_getElem? g2
        have hk := hr.l l hl
        have k2 := hk.o
        have k3 := hk.t
        have k4 := (rk_facts hk.r).1
        rw [lagR_step hr h1 e g1 g2 g3] at h4
        obtain ⟨z', hz', rfl⟩ := Option.map_eq_some_iff.1 h4
        obtain ⟨i1, i2⟩ := ih l.to _ z' (by omega) (by omega) k3 (lag_next hr hl _ n z1 (Nat.le_refl _) hn.1 hn.2 (by rw [g3]; exact h3)) hz'
        refine ⟨?_, by dsimp only; omega⟩
        rw [i1]
        simp only [Option.some.injEq, Prod.mk.injEq]
        omega
theorem lag_path {r : Rv} (hr : RvOk r) {t : Int} : ∀ (m : Nat) (f : Int), (r.n - f).toNat ≤ m → 0 ≤ f → f < r.n → t ∈ pathR r f → ∃ z, lagR r f t = some z ∧ 0 ≤ z.2 := by
  intro m
  induction m with
  | zero => intro f h0 h1 h2; omega
  | succ m ih =>
    intro f h0 h1 h2 h3
    by_cases e : f = t
    · subst e
      exact ⟨_, lagR_eq r f, Int.le_refl _⟩
    · rcases lnk_at r.ls f with h | ⟨i, l, g1, g2, g3⟩
      · rw [path_end h] at h3
        simp at h3
        exact absurd h3.symm e
      · have hk := hr.l l (List.mem_of_getElem? g2)
        have k2 := hk.o
        have k3 := hk.t
        have k4 := (rk_facts hk.r).1
        rw [path_step hr h1 g1 g2 g3] at h3
        rcases List.mem_cons.1 h3 with h3 | h3
        · exact absurd h3.symm e
        · obtain ⟨z, hz, hz2⟩ := ih l.to (by omega) (by omega) k3 h3
          exact ⟨_, by rw [lagR_step hr h1 e g1 g2 g3, hz]; rfl, by dsimp only; omega⟩
/-- A link is empty once the water has left it. -/
theorem winJ_end {r : Rv} (hr : RvOk r) {n t s : Int} (hn : 0 ≤ n ∧ n < r.n) {z : Int × Int} (hz : lagR r n t = some z) (hs : z.2 < s) {l : Lk} (hl : l ∈ r.ls) (hlt : l.fr < t) {w : Ls} (hf : fitsB l.ws.length w = true) (h : winJ r n s l w) : leadJ r t l.fr = 0 ∨ w.sum = 0 := by
  cases e2 : lagR r l.fr t with
  | none => left; unfold leadJ; rw [e2]; rfl
  | some z2 =>
    right
    have hk := hr.l l hl
    have k2 := hk.o
    have k3 := hk.t
    obtain ⟨i, h1, h2⟩ := lnk_mem hr hl
    have hall : ∀ j, fP w j = 0 := fun j => h.z j fun z1 e1 => by
      obtain ⟨g1, g2⟩ := lag_add hr hn _ l.fr z1 z2 (Nat.le_refl _) hk.f (by omega) e1 e2
      rw [hz] at g1
      cases g1
      rw [lagR_step hr hk.f (by omega) h1 h2 rfl] at e2
      obtain ⟨z', hz', rfl⟩ := Option.map_eq_some_iff.1 e2
      obtain ⟨_, g3⟩ := lag_add hr hn _ l.to _ z' (Nat.le_refl _) (by have := hk.f; omega) k3 (lag_next hr hl _ n z1 (Nat.le_refl _) hn.1 hn.2 e1) hz'
      right
      dsimp only at hs ⊢
      omega
    rw [← sum_pad (fits_facts hf).1, tab_nil0 hall]
/-- The rows of the law: q enters at node n, and nothing else. -/
def rowsJ (N n : Nat) (q : Int) (m : Nat) : List Ls := (List.replicate N 0).set n q :: List.replicate m (List.replicate N 0)
theorem gN_rep (N j : Nat) : gN (List.replicate N 0) j = 0 := by
  unfold gN
  rw [List.getD_eq_getElem?_getD, List.getElem?_replicate]
  split <;> rfl
theorem vT_rep {E : Int → Int} {N : Nat} : ∀ {m k : Nat}, vT E (List.replicate N 0) k m = 0
  | 0, k => rfl
  | m + 1, k => by rw [vT, vT_rep, gN_rep]; simp
theorem trv_law {r : Rv} (hr : RvOk r) {n t : Nat} (hn : (n : Int) < r.n) (ht : (t : Int) < r.n) {z : Int × Int} (hz : lagR r n t = some z) (hz2 : 0 ≤ z.2) {q : Int} {m : Nat} (hm : z.2 ≤ m) {x : List Ls × List Ls}
    (h : runX r (List.replicate r.ls.length []) (rowsJ r.n.toNat n q m) = .ok x) : x.2.length = m + 1 ∧ (∀ (i : Nat) a, x.2[i]? = some a → (a.length : Int) = r.n ∧ ((i : Int) < z.1 ∨ z.2 < i → gN a t = 0)) ∧ (x.2.map fun a => gN a t).sum = q := by
  have hn' : (0 : Int) ≤ n ∧ (n : Int) < r.n := ⟨by omega, hn⟩
  have hw : WvOk r (List.replicate r.ls.length []) := ⟨by simp, fun i l p e1 e2 => by rw [List.eq_of_mem_replicate (List.mem_of_getElem? e2)]; exact fits_nil _⟩
  have hle : n < r.n.toNat := by omega
  have hgA : ∀ f : Int, 0 ≤ f → f ≠ n → gA ((List.replicate r.n.toNat 0).set n q) f = 0 := fun f hf hne => by
    obtain ⟨g, rfl⟩ := Int.eq_ofNat_of_zero_le hf
    rw [gA_nat]
    have e : gN ((List.replicate r.n.toNat 0).set n q) g = gN (List.replicate r.n.toNat 0) g := by unfold gN; rw [List.getD_eq_getElem?_getD, List.getD_eq_getElem?_getD, List.getElem?_set_ne (by omega)]
    rw [e, gN_rep]
  obtain ⟨w1, w2, w3, w4⟩ := winJ_run hr hn' (s := 0) hw (fun i l p e1 e2 => by
    rw [List.eq_of_mem_replicate (List.mem_of_getElem? e2)]
    exact ⟨fun j _ => fP_out (Nat.zero_le _), Int.dvd_zero _⟩) (fun i a ha f hf hd => by
    cases i with
    | zero =>
      simp [rowsJ] at ha
      subst ha
      refine hgA f hf fun e => ?_
      subst e
      have := hd _ (lagR_eq r n)
      dsimp only at this
      omega
    | succ i =>
      simp [rowsJ] at ha
      rw [List.eq_of_mem_replicate (List.mem_of_getElem? (i := i) (l := List.replicate m (List.replicate r.n.toNat 0)) ha)]
      obtain ⟨g, rfl⟩ := Int.eq_ofNat_of_zero_le hf
      rw [gA_nat, gN_rep]) h
  have hlen : (rowsJ r.n.toNat n q m).length = m + 1 := by simp [rowsJ]
  refine ⟨by rw [w3, hlen], fun i a ha => ?_, ?_⟩
  · obtain ⟨g1, g2⟩ := w4 i a ha
    refine ⟨g1, fun hd => ?_⟩
    have := g2 t (by omega) fun z' e' => by rw [hz] at e'; cases e'; omega
    rw [gA_nat] at this
    exact this
  · have key := sum_run hr ht hw h
    rw [hldJ_zero (ws := x.1) fun i l p e1 e2 hlt => winJ_end hr hn' hz (s := ((m + 1 : Nat) : Int)) (by omega) (List.mem_of_getElem? e1) hlt (w1.f i l p e1 e2) (by
        have := w2 i l p e1 e2
        rw [hlen] at this
        simpa using this), hldJ_zero (ws := List.replicate r.ls.length []) fun i l p e1 e2 hlt => by right; rw [List.eq_of_mem_replicate (List.mem_of_getElem? e2)]; rfl] at key
    rw [rowsJ, List.map_cons, List.map_replicate, vT_rep, List.sum_cons] at key
    have hz0 : ∀ m : Nat, (List.replicate m (0 : Int)).sum = 0 := fun m => by induction m with
      | zero => rfl
      | succ m ih => rw [List.replicate_succ, List.sum_cons, ih]; rfl
    have hE : leadJ r t (n : Int) = 1 := by unfold leadJ; rw [hz]; rfl
    have hnt : n ≤ t := by
      rcases Nat.lt_or_ge t n with e | e
      · rw [lagR_past hr _ (n : Int) (Nat.le_refl _) (by omega) (by omega) hn] at hz; cases hz
      · exact e
    have hv := vT_set (E := leadJ r t) (a := List.replicate r.n.toNat 0) (t := n) (v := q) (by rw [List.length_replicate]; exact hle) (m := t + 1) (k := 0) (Nat.zero_le _) (by omega)
    rw [gN_rep, Int.zero_add, vT_rep, hE] at hv
    rw [hv, hz0] at key
    omega
end Go.Proofs
