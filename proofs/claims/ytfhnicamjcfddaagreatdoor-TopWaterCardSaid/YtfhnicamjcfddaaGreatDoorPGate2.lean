/- How gates are set: what holds of it. No program. -/
import Derived.Test.YtfhnicamjcfddaaGreatDoorPGate
namespace Go.Proofs
open Go Go.Abs
set_option linter.unusedSimpArgs false
set_option linter.unusedVariables false
/-- The sum before a gate is set. -/
def sAt (w lv : Int) : Int → List Gt → List Gs → Nat → Int
  | s, _, _, 0 => s
  | s, g :: gs, z :: zs, i + 1 => sAt w lv (sNx w lv s g z) gs zs i
  | s, _, _, _ => s
theorem sAt_0 (w lv s : Int) (gs : List Gt) (ss : List Gs) : sAt w lv s gs ss 0 = s := by
  cases gs <;> cases ss <;> rfl
structure SetF (w lv s : Int) (gs : List Gt) (ss : List Gs) : Prop where
  len : (setL w lv s gs ss).1.length = gs.length
  bad : badS gs (setL w lv s gs ss).1 = false
  tot : totL gs (opsL (setL w lv s gs ss).1) lv = (setL w lv s gs ss).2 - s + totL gs (losL gs ss) lv
  lo : s ≤ (setL w lv s gs ss).2
  hi : (setL w lv s gs ss).2 ≤ s + totL gs (hisL gs ss) lv - totL gs (losL gs ss) lv
  en : w ≤ (setL w lv s gs ss).2 ∨ (setL w lv s gs ss).2 = s + totL gs (hisL gs ss) lv - totL gs (losL gs ss) lv
  fin : (setL w lv s gs ss).2 = sAt w lv s gs ss gs.length
theorem nx_in {w lv s : Int} {g : Gt} {z : Gs} (hg : ckG g = 0) (hz : okS g z = true) :
    s ≤ sNx w lv s g z ∧ sNx w lv s g z ≤ s + gfl (atG g lv) (rch g z).2 - gfl (atG g lv) (rch g z).1 ∧ (w ≤ sNx w lv s g z ∨ sNx w lv s g z = s + gfl (atG g lv) (rch g z).2 - gfl (atG g lv) (rch g z).1) := by
  have hr := rch_in hg hz
  have hc := atG_ok hg lv
  have h1 := opO_in (c := atG g lv) (w := w) (s := s) hr.1.2
  have h2 := gfl_mono hc h1.1
  have h3 := gfl_mono hc h1.2
  refine ⟨by unfold sNx; omega, by unfold sNx; omega, ?_⟩
  by_cases h : s < w
  · rcases (opO_is (c := atG g lv) hr.1.2 h).2.2 with e | e
    · right; unfold sNx; rw [e]; omega
    · left; unfold sNx; omega
  · left; unfold sNx; omega
theorem setF {w lv : Int} : ∀ {gs : List Gt} {ss : List Gs} {s : Int}, gs.length = ss.length → (∀ g ∈ gs, ckG g = 0) → badS gs ss = false → SetF w lv s gs ss
  | [], [], s, _, _, _ => ⟨rfl, rfl, by simp [setL, totL, opsL], by simp [setL], by simp [setL, totL, losL, hisL], .inr (by simp [setL, totL, losL, hisL]), rfl⟩
  | [], _ :: _, _, h, _, _ => by simp at h
  | _ :: _, [], _, h, _, _ => by simp at h
  | g :: gs, z :: zs, s, hl, hg, hb => by
    have hb0 := hb
    rw [badS] at hb
    split at hb
    · cases hb
    rename_i hz
    have hz : okS g z = true := by simpa using hz
    have hgg := hg g (by simp)
    have F := setF (w := w) (lv := lv) (s := sNx w lv s g z) (show gs.length = zs.length by simpa using hl) (fun g' h => hg g' (by simp [h])) hb
    have hr := rch_in hgg hz
    have hc := atG_ok hgg lv
    have h1 := opO_in (c := atG g lv) (w := w) (s := s) hr.1.2
    obtain ⟨n1, n2, n3⟩ := nx_in (w := w) (lv := lv) (s := s) hgg hz
    have f3 := F.tot
    have f4 := F.lo
    have f5 := F.hi
    have f6 := F.en
    have f7 := F.fin
    have ho : okS g ⟨opO (atG g lv) w s (rch g z).1 (rch g z).2, z.jm⟩ = true := by simp [okS, inB]; omega
    have e1 : totL (g :: gs) (losL (g :: gs) (z :: zs)) lv = gfl (atG g lv) (rch g z).1 + totL gs (losL gs zs) lv := rfl
    have e2 : totL (g :: gs) (hisL (g :: gs) (z :: zs)) lv = gfl (atG g lv) (rch g z).2 + totL gs (hisL gs zs) lv := rfl
    have e3 : totL (g :: gs) (opsL (setL w lv s (g :: gs) (z :: zs)).1) lv = gfl (atG g lv) (opO (atG g lv) w s (rch g z).1 (rch g z).2) + totL gs (opsL (setL w lv (sNx w lv s g z) gs zs).1) lv := rfl
    have e4 : (setL w lv s (g :: gs) (z :: zs)).2 = (setL w lv (sNx w lv s g z) gs zs).2 := rfl
    have e5 : sNx w lv s g z = s - gfl (atG g lv) (rch g z).1 + gfl (atG g lv) (opO (atG g lv) w s (rch g z).1 (rch g z).2) := rfl
    refine ⟨by rw [setL_cons]; simp [F.len], by rw [setL_cons, badS, if_neg (by simp [ho])]; exact F.bad, ?_, ?_, ?_, ?_, by rw [e4, f7]; rfl⟩
    · rw [e3, e4, e1, f3]; omega
    · rw [e4]; omega
    · rw [e4, e1, e2]; omega
    · rw [e4, e1, e2]
      rcases f6 with f6 | f6
      · exact .inl f6
      · rcases n3 with n3 | n3
        · exact .inl (by omega)
        · exact .inr (by omega)
theorem set_at {w lv : Int} : ∀ {gs : List Gt} {ss : List Gs} {s : Int} {i : Nat} {g : Gt} {z : Gs}, gs[i]? = some g → ss[i]? = some z →
    (setL w lv s gs ss).1[i]? = some ⟨opO (atG g lv) w (sAt w lv s gs ss i) (rch g z).1 (rch g z).2, z.jm⟩ ∧ sAt w lv s gs ss (i + 1) = sNx w lv (sAt w lv s gs ss i) g z
  | [], _, _, _, _, _, h, _ => by simp at h
  | _ :: _, [], _, _, _, _, _, h => by simp at h
  | a :: gs, b :: ss, s, 0, g, z, h1, h2 => by
    simp at h1 h2
    subst h1; subst h2
    exact ⟨rfl, sAt_0 ..⟩
  | a :: gs, b :: ss, s, i + 1, g, z, h1, h2 => by
    obtain ⟨q1, q2⟩ := set_at (w := w) (lv := lv) (s := sNx w lv s a b) (gs := gs) (ss := ss) (i := i) (by simpa using h1) (by simpa using h2)
    exact ⟨by rw [setL_cons, List.getElem?_cons_succ]; exact q1, q2⟩
/-- A gate that is not opened leaves the sum. -/
theorem nx_same {w lv s : Int} {g : Gt} {z : Gs} (h : opO (atG g lv) w s (rch g z).1 (rch g z).2 = (rch g z).1) : sNx w lv s g z = s := by
  unfold sNx; rw [h]; omega
theorem nx_moved {w lv s : Int} {g : Gt} {z : Gs} (hg : ckG g = 0) (hz : okS g z = true) (h : (rch g z).1 < opO (atG g lv) w s (rch g z).1 (rch g z).2) :
    s < w ∧ gfl (atG g lv) (opO (atG g lv) w s (rch g z).1 (rch g z).2 - 1) < w - (s - gfl (atG g lv) (rch g z).1) ∧ (opO (atG g lv) w s (rch g z).1 (rch g z).2 < (rch g z).2 → w ≤ sNx w lv s g z) := by
  have hr := rch_in hg hz
  by_cases hs : s < w
  · obtain ⟨a, b, c⟩ := opO_is (c := atG g lv) hr.1.2 hs
    refine ⟨hs, b _ (by omega) (by omega), fun hlt => ?_⟩
    rcases c with c | c
    · omega
    · unfold sNx; omega
  · rw [opO, if_neg hs] at h; omega
theorem totL_set {lv : Int} : ∀ {gs : List Gt} {os : Ls} {i : Nat} {g : Gt} {o o' : Int}, gs[i]? = some g → os[i]? = some o → totL gs (os.set i o') lv = totL gs os lv - gfl (atG g lv) o + gfl (atG g lv) o'
  | [], _, _, _, _, _, h, _ => by simp at h
  | _ :: _, [], _, _, _, _, _, h => by simp at h
  | a :: gs, b :: os, 0, g, o, o', h1, h2 => by
    simp at h1 h2
    subst h1; subst h2
    simp only [List.set_cons_zero, totL]; omega
  | a :: gs, b :: os, i + 1, g, o, o', h1, h2 => by
    have := totL_set (lv := lv) (gs := gs) (os := os) (i := i) (o' := o') (by simpa using h1) (by simpa using h2)
    simp only [List.set_cons_succ, totL, this]; omega
theorem badS_set : ∀ {gs : List Gt} {ss : List Gs} {i : Nat} {g : Gt} {z : Gs}, badS gs ss = false → gs[i]? = some g → okS g z = true → badS gs (ss.set i z) = false
  | [], _, _, _, _, _, h, _ => by simp at h
  | _ :: _, [], _, _, _, _, _, _ => rfl
  | a :: gs, b :: ss, 0, g, z, h, h1, h2 => by
    simp at h1
    subst h1
    rw [badS] at h
    split at h
    · cases h
    rw [List.set_cons_zero, badS, if_neg (by simp [h2])]; exact h
  | a :: gs, b :: ss, i + 1, g, z, h, h1, h2 => by
    rw [badS] at h
    split at h
    · cases h
    rename_i e
    rw [List.set_cons_succ, badS, if_neg e]
    exact badS_set h (by simpa using h1) h2
theorem los_his : ∀ {gs : List Gt} {ss : List Gs}, (∀ (i : Nat) g z, gs[i]? = some g → ss[i]? = some z → (rch g z).1 = (rch g z).2) → losL gs ss = hisL gs ss
  | [], _, _ => rfl
  | _ :: _, [], _ => rfl
  | a :: gs, b :: ss, h => by
    rw [losL, hisL, h 0 a b rfl rfl, los_his fun i g z h1 h2 => h (i + 1) g z (by simpa using h1) (by simpa using h2)]
/-- The last gate that was opened, among the first ones. -/
structure lastI (w lv T : Int) (gs : List Gt) (ss : List Gs) (i : Nat) (o : Option Nat) : Prop where
  m : ∀ m, o = some m → m < i ∧ ∃ g z, gs[m]? = some g ∧ ss[m]? = some z ∧ (rch g z).1 < opO (atG g lv) w (sAt w lv T gs ss m) (rch g z).1 (rch g z).2
  r : ∀ j, j < i → (∀ m, o = some m → m < j) → ∀ g z, gs[j]? = some g → ss[j]? = some z → opO (atG g lv) w (sAt w lv T gs ss j) (rch g z).1 (rch g z).2 = (rch g z).1
theorem sAt_run {w lv T : Int} {gs : List Gt} {ss : List Gs} {a : Nat} : ∀ {n : Nat}, a + n ≤ gs.length → gs.length = ss.length → (∀ j, a ≤ j → j < a + n → ∀ g z, gs[j]? = some g → ss[j]? = some z → opO (atG g lv) w (sAt w lv T gs ss j) (rch g z).1 (rch g z).2 = (rch g z).1) → sAt w lv T gs ss (a + n) = sAt w lv T gs ss a
  | 0, _, _, _ => rfl
  | n + 1, h1, h2, h3 => by
    have ih := sAt_run (w := w) (lv := lv) (T := T) (gs := gs) (ss := ss) (a := a) (n := n) (by omega) h2 fun j a1 a2 => h3 j a1 (by omega)
    have c1 := List.getElem?_eq_getElem (show a + n < gs.length by omega)
    have c2 := List.getElem?_eq_getElem (show a + n < ss.length by omega)
    have := (set_at (w := w) (lv := lv) (s := T) c1 c2).2
    rw [show a + (n + 1) = a + n + 1 by omega, this, nx_same (h3 (a + n) (by omega) (by omega) _ _ c1 c2), ih]
theorem lastI.sum {w lv T : Int} {gs : List Gt} {ss : List Gs} {i : Nat} {o : Option Nat} (h : lastI w lv T gs ss i o) (hi : i ≤ gs.length) (hl : gs.length = ss.length) : sAt w lv T gs ss i = match o with | none => T | some m => sAt w lv T gs ss (m + 1) := by
  cases o with
  | none =>
    have := sAt_run (w := w) (lv := lv) (T := T) (gs := gs) (ss := ss) (a := 0) (n := i) (by omega) hl fun j _ hj g z => h.r j (by omega) (fun m e => by cases e) g z
    rw [Nat.zero_add, sAt_0] at this
    exact this
  | some m =>
    have hm := (h.m m rfl).1
    have := sAt_run (w := w) (lv := lv) (T := T) (gs := gs) (ss := ss) (a := m + 1) (n := i - (m + 1)) (by omega) hl fun j a1 a2 g z => h.r j (by omega) (fun m' e => by cases e; omega) g z
    rwa [show m + 1 + (i - (m + 1)) = i by omega] at this
/-- One more gate: opened, then the one before was opened whole. -/
theorem lastI.step {w lv T : Int} {gs : List Gt} {ss : List Gs} {i : Nat} {o : Option Nat} {g : Gt} {z : Gs} (h : lastI w lv T gs ss i o) (hl : gs.length = ss.length) (hA : ∀ g ∈ gs, ckG g = 0) (hb : badS gs ss = false) (h1 : gs[i]? = some g) (h2 : ss[i]? = some z)
    (hm : (rch g z).1 < opO (atG g lv) w (sAt w lv T gs ss i) (rch g z).1 (rch g z).2) :
    lastI w lv T gs ss (i + 1) (some i) ∧ ∀ m, o = some m → ∃ g' z', gs[m]? = some g' ∧ ss[m]? = some z' ∧ opO (atG g' lv) w (sAt w lv T gs ss m) (rch g' z').1 (rch g' z').2 = (rch g' z').2 := by
  have hi := (List.getElem?_eq_some_iff.1 h1).1
  refine ⟨⟨fun m e => by cases e; exact ⟨by omega, g, z, h1, h2, hm⟩, fun j hj hj' g z => by have := hj' i rfl; omega⟩, fun m e => ?_⟩
  subst e
  obtain ⟨q1, g', z', q2, q3, q4⟩ := h.m m rfl
  have hs := h.sum (by omega) hl
  dsimp only at hs
  have hg' := hA g' (List.mem_of_getElem? q2)
  have hz' := badS_at hb q2 q3
  have hr := rch_in hg' hz'
  have hin := opO_in (c := atG g' lv) (w := w) (s := sAt w lv T gs ss m) hr.1.2
  refine ⟨g', z', q2, q3, Classical.byContradiction fun e => ?_⟩
  have := (nx_moved hg' hz' q4).2.2 (by omega)
  rw [← (set_at (w := w) (lv := lv) (s := T) q2 q3).2, ← hs] at this
  have := (nx_moved (hA g (List.mem_of_getElem? h1)) (badS_at hb h1 h2) hm).1
  omega
theorem lastI.skip {w lv T : Int} {gs : List Gt} {ss : List Gs} {i : Nat} {o : Option Nat} {g : Gt} {z : Gs} (h : lastI w lv T gs ss i o) (h1 : gs[i]? = some g) (h2 : ss[i]? = some z)
    (hm : opO (atG g lv) w (sAt w lv T gs ss i) (rch g z).1 (rch g z).2 = (rch g z).1) : lastI w lv T gs ss (i + 1) o :=
  ⟨fun m e => by obtain ⟨a, b⟩ := h.m m e; exact ⟨by omega, b⟩, fun j hj hj' g' z' e1 e2 => by
    by_cases e : j = i
    · subst e; rw [h1] at e1; rw [h2] at e2; cases e1; cases e2; exact hm
    · exact h.r j (by omega) hj' g' z' e1 e2⟩
/-- No gate was opened: it is enough, or no gate could be opened. -/
theorem lastI.none {w lv T : Int} {gs : List Gt} {ss : List Gs} (h : lastI w lv T gs ss gs.length none) (hl : gs.length = ss.length) (hA : ∀ g ∈ gs, ckG g = 0) (hb : badS gs ss = false) (hT : T < w) : losL gs ss = hisL gs ss := by
  refine los_his fun i g z h1 h2 => ?_
  have hi := (List.getElem?_eq_some_iff.1 h1).1
  have hr := rch_in (hA g (List.mem_of_getElem? h1)) (badS_at hb h1 h2)
  have e := h.r i hi (fun m e => by cases e) g z h1 h2
  have hs : sAt w lv T gs ss i = T := by
    have := sAt_run (w := w) (lv := lv) (T := T) (gs := gs) (ss := ss) (a := 0) (n := i) (by omega) hl fun j _ hj g z => h.r j (by omega) (fun m e => by cases e) g z
    rw [Nat.zero_add, sAt_0] at this
    exact this
  obtain ⟨_, _, c⟩ := opO_is (c := atG g lv) (w := w) (s := sAt w lv T gs ss i) hr.1.2 (by omega)
  rcases c with c | c
  · omega
  · rw [e] at c; omega
theorem ckGs_of : ∀ {gs : List Gt}, (∀ g ∈ gs, ckG g = 0) → ckGs gs = 0
  | [], _ => rfl
  | a :: gs, h => by rw [ckGs, if_neg (by simp [h a (by simp)])]; exact ckGs_of fun g hg => h g (by simp [hg])
theorem askG_of {gs : List Gt} {ss : List Gs} {lv : Int} (h1 : gs.length ≤ 8) (h2 : gs.length = ss.length) (h3 : badS gs ss = false) (h4 : ∀ g ∈ gs, ckG g = 0) (h5 : 0 ≤ lv ∧ lv ≤ 16777216) : askG gs ss lv = 0 := by
  rw [askG, if_neg (by omega), if_neg (by omega), if_neg (by simp [h3]), if_neg (by simp [ckGs_of h4]), if_neg (by simp [inB]; omega)]
def lstV (o : Option Nat) : Int := match o with | none => -1 | some m => (m : Int)
theorem opsL_set (l : List Gs) (i : Nat) (z : Gs) : opsL (l.set i z) = (opsL l).set i z.op := List.map_set ..
def R_oddG : RB := fun cs args k => ∃ (d : Dk) (g : Gt), args = [.agg (gtC g)] ∧ cs = dkC d ∧ d.ok ∧ g.fin ∧ (1 ≤ g.rt.length ∧ g.rt.length ≤ 100) ∧ ∀ (g' : Gt) d', Dk.ok d' → g'.fin → k (.agg (gtC g')) (dkC d')
theorem fin_set {l : List Rt} {mo mv mo' mv' : Int} {i : Nat} {r : Rt} (h : Gt.fin ⟨l, mo, mv⟩) (hr : r.2.length ≤ 9223372036854775807) : Gt.fin ⟨l.set i r, mo', mv'⟩ :=
  ⟨by rw [show (⟨l.set i r, mo', mv'⟩ : Gt).rt = l.set i r from rfl, List.length_set]; exact h.n, fun x hx => by
    rcases List.mem_or_eq_of_mem_set hx with hx | rfl
    · exact h.c x hx
    · exact hr⟩
theorem rt_set (l : List Rt) (i : Nat) (r : Rt) : (l.map rtC).set i (rtC r) = (l.set i r).map rtC := (List.map_set ..).symm
/-- The end of a gate with an array of its own. -/
theorem leafG {k : AV → List Cell → Prop} {l : List Rt} {n : Nat} {mo mv : Int} {cs : List Cell} (h : n = l.length) (hc : noCs cs = true) (hk : k (.agg (gtC ⟨l, mo, mv⟩)) cs) :
    noA (.agg [.lst (List.take n (List.drop 0 (l.map rtC))), IC mo, IC mv]) = true ∧ noCs cs = true ∧ k (.agg [.lst (List.take n (List.drop 0 (l.map rtC))), IC mo, IC mv]) cs := by
  subst h
  rw [List.drop_zero, List.take_of_length_le (by rw [List.length_map]; exact Nat.le_refl _)]
  exact ⟨rfl, hc, hk⟩
theorem tri (a b c : Int) {v : Int} (h0 : 0 ≤ v) (h : v < 3 ∨ v = 0) : ∃ x, ([eI a, eI b, eI c] : List (List Cell))[0 + v.toNat]? = some (eI x) := by
  obtain rfl | rfl | rfl : v = 0 ∨ v = 1 ∨ v = 2 := by omega
  · exact ⟨a, rfl⟩
  · exact ⟨b, rfl⟩
  · exact ⟨c, rfl⟩
theorem leafG' {k : AV → List Cell → Prop} {l : List Rt} {n : Nat} {mo mv : Int} {cs : List Cell} {es : List (List Cell)} (e : es = l.map rtC) (h : n = l.length) (hc : noCs cs = true) (hk : k (.agg (gtC ⟨l, mo, mv⟩)) cs) :
    noA (.agg [.lst (List.take n (List.drop 0 es)), IC mo, IC mv]) = true ∧ noCs cs = true ∧ k (.agg [.lst (List.take n (List.drop 0 es)), IC mo, IC mv]) cs := by
  subst e
  exact leafG h hc hk
def R_reaches : RT := fun args k => ∃ (raw : Gt) (l : Ls) (o : Int) (j : Bool), args = [.agg (gtC raw), .c (.lst (eL l)), I o, Bo j] ∧ raw.fin ∧ l.length ≤ 9223372036854775807 ∧ k (Bo true)
theorem triG (a b c : Gt) {i : Nat} (h : i < 3) (ha : a.fin) (hb : b.fin) (hc : c.fin) : ∃ g : Gt, ([gtC a, gtC b, gtC c] : List (List Cell))[0 + (i : Int).toNat]? = some (gtC g) ∧ g.fin := by
  obtain rfl | rfl | rfl : i = 0 ∨ i = 1 ∨ i = 2 := by omega
  · exact ⟨a, rfl, ha⟩
  · exact ⟨b, rfl, hb⟩
  · exact ⟨c, rfl, hc⟩
def R_gall : RT := fun args k => ∃ (raw : Gt) (rs : List Gs) (l : Ls) (o v : Int), args = [.agg (gtC raw), .c (.lst (eS rs)), .c (.lst (eL l)), I o, I v] ∧ raw.fin ∧ rs.length ≤ 9223372036854775807 ∧ l.length ≤ 9223372036854775807 ∧ k (Bo true)
theorem duoI (a b c d : Int) {i : Nat} (h : i < 2) : ∃ x y : Int, ([[IC a, IC b], [IC c, IC d]] : List (List Cell))[0 + (i : Int).toNat]? = some [IC x, IC y] := by
  obtain rfl | rfl : i = 0 ∨ i = 1 := by omega
  · exact ⟨a, b, rfl⟩
  · exact ⟨c, d, rfl⟩
theorem duoI1 (a b : Int) {i : Nat} (h : i < 2) : ∃ x : Int, ([[IC a], [IC b]] : List (List Cell))[0 + (i : Int).toNat]? = some [IC x] := by
  obtain rfl | rfl : i = 0 ∨ i = 1 := by omega
  · exact ⟨a, rfl⟩
  · exact ⟨b, rfl⟩
theorem duoG (a b : List Gt) {i : Nat} (h : i < 2) : ∃ x : List Gt, ([[.lst (eG a)], [.lst (eG b)]] : List (List Cell))[0 + (i : Int).toNat]? = some [.lst (eG x)] ∧ (x = a ∨ x = b) := by
  obtain rfl | rfl : i = 0 ∨ i = 1 := by omega
  · exact ⟨a, rfl, .inl rfl⟩
  · exact ⟨b, rfl, .inr rfl⟩
theorem triS (a b c : List Gs) {i : Nat} (h : i < 3) : ∃ x : List Gs, ([[.lst (eS a)], [.lst (eS b)], [.lst (eS c)]] : List (List Cell))[0 + (i : Int).toNat]? = some [.lst (eS x)] ∧ (x = a ∨ x = b ∨ x = c) := by
  obtain rfl | rfl | rfl : i = 0 ∨ i = 1 ∨ i = 2 := by omega
  · exact ⟨a, rfl, .inl rfl⟩
  · exact ⟨b, rfl, .inr (.inl rfl)⟩
  · exact ⟨c, rfl, .inr (.inr rfl)⟩
end Go.Proofs
