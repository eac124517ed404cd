/- Gates that may move without limit: setting them again. No program. -/
import Derived.Test.YtgehodhbcckcoaaPGate3
namespace Go.Proofs
open Go Go.Abs
set_option linter.unusedSimpArgs false
set_option linter.unusedVariables false
structure Fe (g : Gt) (z : Gs) : Prop where
  c : ckG g = 0
  v : g.mv = 1000
  o : okS g z = true
  j : z.jm = false
theorem Fe.rch {g : Gt} {z : Gs} (h : Fe g z) : rch g z = (0, g.mo) := by
  have h1 := (ckG_ok h.c).o
  have h2 : 0 ≤ z.op ∧ z.op ≤ g.mo := by have := h.o; simpa [okS, inB] using this
  have h3 := h.v
  rw [Go.Proofs.rch, if_neg (by simp [h.j]), h3, mx, mnG, Prod.mk.injEq]
  exact ⟨by split <;> omega, by split <;> omega⟩
def FrL : List Gt → List Gs → Prop
  | [], [] => True
  | g :: gs, z :: zs => Fe g z ∧ FrL gs zs
  | _, _ => False
theorem fr_len : ∀ {gs : List Gt} {ss : List Gs}, FrL gs ss → gs.length = ss.length
  | [], [], _ => rfl
  | g :: gs, z :: zs, h => by simp [fr_len h.2]
  | [], _ :: _, h => h.elim
  | _ :: _, [], h => h.elim
theorem fr_bad : ∀ {gs : List Gt} {ss : List Gs}, FrL gs ss → badS gs ss = false
  | [], [], _ => rfl
  | g :: gs, z :: zs, h => by rw [badS, if_neg (by simp [h.1.o])]; exact fr_bad h.2
  | [], _ :: _, h => h.elim
  | _ :: _, [], h => h.elim
theorem fr_ck : ∀ {gs : List Gt} {ss : List Gs}, FrL gs ss → ∀ g ∈ gs, ckG g = 0
  | [], [], _, _, h => by cases h
  | g :: gs, z :: zs, h, q, hq => by
    rcases List.mem_cons.1 hq with rfl | hq
    · exact h.1.c
    · exact fr_ck h.2 q hq
  | [], _ :: _, h, _, _ => h.elim
  | _ :: _, [], h, _, _ => h.elim
theorem fr_los {lv : Int} : ∀ {gs : List Gt} {ss : List Gs}, FrL gs ss → totL gs (losL gs ss) lv = 0
  | [], [], _ => rfl
  | g :: gs, z :: zs, h => by
    rw [losL_cons, totL, h.1.rch, fr_los h.2, gfl_0 (atG_ok h.1.c lv)]; rfl
  | [], _ :: _, h => h.elim
  | _ :: _, [], h => h.elim
theorem fr_any {w lv : Int} : ∀ {gs : List Gt} {ss ss' : List Gs} {s : Int}, FrL gs ss → FrL gs ss' → setL w lv s gs ss = setL w lv s gs ss'
  | [], [], [], _, _, _ => rfl
  | g :: gs, z :: zs, z' :: zs', s, h, h' => by
    rw [setL_cons, setL_cons, sNx, sNx, h.1.rch, h'.1.rch, h.1.j, h'.1.j, fr_any h.2 h'.2]
  | [], _ :: _, _, _, h, _ => h.elim
  | _ :: _, [], _, _, h, _ => h.elim
  | [], [], _ :: _, _, _, h => h.elim
  | _ :: _, _ :: _, [], _, _, h => h.elim
theorem fr_out {w lv : Int} : ∀ {gs : List Gt} {ss : List Gs} {s : Int}, FrL gs ss → FrL gs (setL w lv s gs ss).1
  | [], [], _, _ => trivial
  | g :: gs, z :: zs, s, h => by
    rw [setL_cons]
    have hm := (ckG_ok h.1.c).o
    have := opO_in (c := atG g lv) (w := w) (s := s) (lo := (rch g z).1) (hi := (rch g z).2) (by rw [h.1.rch]; exact hm.1)
    rw [h.1.rch] at this ⊢
    exact ⟨⟨h.1.c, h.1.v, by simpa [okS, inB] using this, h.1.j⟩, fr_out h.2⟩
  | [], _ :: _, _, h => h.elim
  | _ :: _, [], _, h => h.elim
theorem fr_enough {w w' lv : Int} : ∀ {gs : List Gt} {ss : List Gs} {s : Int}, FrL gs ss → w ≤ s → w' ≤ s → setL w lv s gs ss = setL w' lv s gs ss ∧ (setL w lv s gs ss).2 = s
  | [], [], _, _, _, _ => ⟨rfl, rfl⟩
  | g :: gs, z :: zs, s, h, h1, h2 => by
    have e1 : opO (atG g lv) w s 0 g.mo = 0 := by rw [opO, if_neg (by omega)]
    have e2 : opO (atG g lv) w' s 0 g.mo = 0 := by rw [opO, if_neg (by omega)]
    have n1 : sNx w lv s g z = s := by rw [sNx, h.1.rch]; simp only; rw [e1]; omega
    have n2 : sNx w' lv s g z = s := by rw [sNx, h.1.rch]; simp only; rw [e2]; omega
    obtain ⟨q1, q2⟩ := fr_enough (gs := gs) (ss := zs) h.2 h1 h2
    rw [setL_cons, setL_cons, n1, n2, h.1.rch, e1, e2, q1]
    exact ⟨rfl, by rw [← q1]; exact q2⟩
  | [], _ :: _, _, h, _, _ => h.elim
  | _ :: _, [], _, h, _, _ => h.elim
theorem fr_rep {w lv : Int} : ∀ {gs : List Gt} {ss : List Gs} {s : Int}, FrL gs ss → w ≤ (setL w lv s gs ss).2 → setL (setL w lv s gs ss).2 lv s gs ss = setL w lv s gs ss
  | [], [], _, _, _ => rfl
  | g :: gs, z :: zs, s, h, hw => by
    by_cases hs : s < w
    · have hm := (ckG_ok h.1.c).o
      have hc := atG_ok h.1.c lv
      have h0 := gfl_0 hc
      have hf := opO_is (c := atG g lv) (w := w) (s := s) hm.1 hs
      rw [h0] at hf
      have es : (setL w lv s (g :: gs) (z :: zs)).2 = (setL w lv (sNx w lv s g z) gs zs).2 := rfl
      rw [es] at hw ⊢
      have en : sNx w lv s g z = s + gfl (atG g lv) (opO (atG g lv) w s 0 g.mo) := by rw [sNx, h.1.rch]; simp only; rw [h0]; omega
      obtain ⟨F1, F2⟩ : w ≤ (setL w lv (sNx w lv s g z) gs zs).2 ∧ sNx w lv s g z ≤ (setL w lv (sNx w lv s g z) gs zs).2 := ⟨hw, (setF (fr_len h.2) (fr_ck h.2) (fr_bad h.2)).lo⟩
      generalize hW : (setL w lv (sNx w lv s g z) gs zs).2 = W at *
      have hs' : s < W := by omega
      have hf' := opO_is (c := atG g lv) (w := W) (s := s) hm.1 hs'
      rw [h0] at hf'
      generalize ho : opO (atG g lv) w s 0 g.mo = o at *
      have eo : opO (atG g lv) W s 0 g.mo = o := by
        refine isFst_one hf' ⟨hf.1, fun x x1 x2 => by have := hf.2.1 x x1 x2; omega, ?_⟩
        rcases hf.2.2 with h1 | h1
        · exact .inl h1
        · right
          have q := (fr_enough (w := w) (w' := w) (lv := lv) (s := sNx w lv s g z) h.2 (by omega) (by omega)).2
          rw [hW] at q
          omega
      have en' : sNx W lv s g z = sNx w lv s g z := by rw [en, sNx, h.1.rch]; simp only; rw [h0, eo]; omega
      have key : setL W lv (sNx w lv s g z) gs zs = setL w lv (sNx w lv s g z) gs zs := by
        have := fr_rep (w := w) (lv := lv) (s := sNx w lv s g z) h.2 (by rw [hW]; exact F1)
        rw [hW] at this
        exact this
      rw [setL_cons, setL_cons, en', h.1.rch, eo, ho, key]
    · have q := fr_enough (w := w) (w' := w) (lv := lv) (s := s) (gs := g :: gs) (ss := z :: zs) h (by omega) (by omega)
      have q' := fr_enough (w := w) (w' := (setL w lv s (g :: gs) (z :: zs)).2) (lv := lv) (s := s) (gs := g :: gs) (ss := z :: zs) h (by omega) (by rw [q.2]; exact Int.le_refl _)
      exact q'.1.symm
  | [], _ :: _, _, h, _ => h.elim
  | _ :: _, [], _, h, _ => h.elim
/-- Little flows. -/
def smG (g : Gt) : Prop := ∀ r ∈ g.rt, (lastP r.2).2 ≤ 100
theorem atL_sm : ∀ {l : List Rt} {a : List Pt} {x : Int}, (a = [] ∨ (vcv a ∧ (lastP a).2 ≤ 100)) → (∀ r ∈ l, vcv r.2) → (∀ r ∈ l, (lastP r.2).2 ≤ 100) → atL a l x = [] ∨ (vcv (atL a l x) ∧ (lastP (atL a l x)).2 ≤ 100)
  | [], _, _, h, _, _ => h
  | r :: l, a, x, h, hv, hb => by
    refine atL_sm (l := l) ?_ (fun r' hr => hv r' (by simp [hr])) fun r' hr => hb r' (by simp [hr])
    split
    · exact .inr ⟨hv r (by simp), hb r (by simp)⟩
    · exact h
theorem gfl_sm {g : Gt} (h : ckG g = 0) (hs : smG g) (lv x : Int) : gfl (atG g lv) x ≤ 100 := by
  rcases atL_sm (l := g.rt) (x := lv) (.inl rfl) (fun r hr => ((ckG_ok h).r r hr).2) hs with e | ⟨e1, e2⟩
  · rw [show atG g lv = [] from e]; show (0 : Int) ≤ _; omega
  · rw [show atG g lv = atL [] g.rt lv from rfl, gfl_ne (ckC_ne e1.c).1]
    have := valC_last' e1.c x
    omega
theorem totL_sm {lv : Int} : ∀ {gs : List Gt} {os : Ls}, (∀ g ∈ gs, ckG g = 0 ∧ smG g) → totL gs os lv ≤ 100 * gs.length
  | [], _, _ => by simp [totL]
  | g :: gs, [], _ => by simp [totL]; omega
  | g :: gs, o :: os, h => by
    have h1 := gfl_sm (h g (by simp)).1 (h g (by simp)).2 lv o
    have h2 := totL_sm (gs := gs) (lv := lv) (os := os) fun q hq => h q (by simp [hq])
    rw [totL]
    simp only [List.length_cons]
    omega
structure GRep (gs : List Gt) (ss : List Gs) (lv w : Int) : Prop where
  s1 : setS gs ss lv w = ((setL w lv 0 gs ss).1, (setL w lv 0 gs ss).2, 0)
  s2 : ∀ ss', FrL gs ss' → setS gs ss' lv w = ((setL w lv 0 gs ss).1, (setL w lv 0 gs ss).2, 0)
  p : 0 ≤ (setL w lv 0 gs ss).2 ∧ (setL w lv 0 gs ss).2 ≤ 100 * gs.length
  s3 : setS gs (setL w lv 0 gs ss).1 lv (setL w lv 0 gs ss).2 = ((setL (setL w lv 0 gs ss).2 lv 0 gs ss).1, (setL w lv 0 gs ss).2, 0)
  en : w ≤ (setL w lv 0 gs ss).2 → (setL (setL w lv 0 gs ss).2 lv 0 gs ss).1 = (setL w lv 0 gs ss).1
theorem g_rep {gs : List Gt} {ss : List Gs} {lv w : Int} (h : FrL gs ss) (hs : ∀ g ∈ gs, smG g) (hl : gs.length ≤ 8) (hlv : 0 ≤ lv ∧ lv ≤ 16777216) (hw : 0 ≤ w ∧ w ≤ 1073741824) : GRep gs ss lv w := by
  have gen : ∀ ss' u, FrL gs ss' → 0 ≤ u ∧ u ≤ 1073741824 → setS gs ss' lv u = ((setL u lv 0 gs ss).1, (setL u lv 0 gs ss).2, 0) := fun ss' u h' hu => by
    rw [setS, if_neg (by simp [askG_of hl (fr_len h') (fr_bad h') (fr_ck h') hlv]), if_neg (by simp [inB]; omega), fr_los h', fr_any h' h]
  have F := setF (w := w) (lv := lv) (s := 0) (fr_len h) (fr_ck h) (fr_bad h)
  have hlo := fr_los (lv := lv) h
  have hsm := totL_sm (lv := lv) (gs := gs) (os := hisL gs ss) fun g hg => ⟨fr_ck h g hg, hs g hg⟩
  have f1 := F.lo
  have f2 := F.hi
  have hp : 0 ≤ (setL w lv 0 gs ss).2 ∧ (setL w lv 0 gs ss).2 ≤ 100 * gs.length := ⟨f1, by omega⟩
  have hr : (setL (setL w lv 0 gs ss).2 lv 0 gs ss).2 = (setL w lv 0 gs ss).2 := by
    by_cases e : w ≤ (setL w lv 0 gs ss).2
    · rw [fr_rep h e]
    · have F' := setF (w := (setL w lv 0 gs ss).2) (lv := lv) (s := 0) (fr_len h) (fr_ck h) (fr_bad h)
      have a := F.en
      have b := F'.en
      have c := F'.hi
      omega
  exact ⟨gen _ _ h hw, fun ss' h' => gen _ _ h' hw, hp, by rw [gen _ _ (fr_out h) (by omega), hr], fun e => by rw [fr_rep h e]⟩
/-- Without limit. -/
def frG (g : Gt) : Gt := ⟨g.rt, g.mo, 1000⟩
def unJ (z : Gs) : Gs := ⟨z.op, false⟩
theorem ckG_fr {g : Gt} (h : mkG g) : ckG (frG g) = 0 := by
  have k := h.ok
  exact ckG_of { k with v := by show (0 : Int) ≤ 1000 ∧ (1000 : Int) ≤ 1000; omega }
theorem fr_mk : ∀ {gs : List Gt} {ss : List Gs}, gs.length = ss.length → (∀ g ∈ gs, mkG g) → badS gs ss = false → FrL (gs.map frG) (ss.map unJ)
  | [], [], _, _, _ => trivial
  | g :: gs, z :: zs, hl, hg, hb => by
    rw [badS] at hb
    split at hb
    · cases hb
    rename_i e
    have e : okS g z = true := by simpa using e
    exact ⟨⟨ckG_fr (hg g (by simp)), rfl, e, rfl⟩, fr_mk (by simpa using hl) (fun q hq => hg q (by simp [hq])) hb⟩
  | [], _ :: _, h, _, _ => by simp at h
  | _ :: _, [], h, _, _ => by simp at h
theorem fr_zero : ∀ {gs : List Gt}, (∀ g ∈ gs, mkG g) → FrL (gs.map frG) (List.replicate gs.length ⟨0, false⟩)
  | [], _ => trivial
  | g :: gs, h => ⟨⟨ckG_fr (h g (by simp)), rfl, by have := (h g (by simp)).ok.o; simp [okS, inB, frG, this.1], rfl⟩, fr_zero fun q hq => h q (by simp [hq])⟩
theorem sm_fr {gs : List Gt} (h : ∀ g ∈ gs, mkG g) : ∀ g ∈ gs.map frG, smG g := fun g hg => by
  obtain ⟨q, hq, rfl⟩ := List.mem_map.1 hg
  exact (h q hq).b
end Go.Proofs
