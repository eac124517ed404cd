/- Gates: what the functions answer. No program. -/
import Derived.Test.YtfhnicamjcfddaaGreatDoorPStorage2
import Derived.Test.YtfhnicamjcfddaaGreatDoorPUnit
import Derived.Test.YtfhnicamjcfddaaGreatDoorAbsS
namespace Go.Proofs
open Go Go.Abs
set_option linter.unusedSimpArgs false
set_option linter.unusedVariables false
abbrev Rt := Int × List Pt
def rtC (r : Rt) : List Cell := [IC r.1, .lst (eP r.2)]
structure Gt where
  rt : List Rt
  mo : Int
  mv : Int
def gtC (g : Gt) : List Cell := [.lst (g.rt.map rtC), IC g.mo, IC g.mv]
structure Gs where
  op : Int
  jm : Bool
  deriving DecidableEq
def gsC (s : Gs) : List Cell := [IC s.op, BC s.jm]
structure Gt.fin (g : Gt) : Prop where
  n : g.rt.length ≤ 9223372036854775807
  c : ∀ r ∈ g.rt, r.2.length ≤ 9223372036854775807
def qle : Option Int → Int → Bool
  | none, _ => false
  | some q, x => decide (x ≤ q)
def rE : Option Int → List Rt → Int
  | _, [] => 0
  | q, r :: l => if inB 0 16777216 r.1 = false then 1 else if qle q r.1 = true then 4 else if ckC r.2 ≠ 0 then ckC r.2 else if r.2.headD (0, 0) ≠ (0, 0) then 3 else if 1073741824 < (lastP r.2).2 then 1 else rE (some r.1) l
theorem rE_cons (q : Option Int) (r : Rt) (l : List Rt) : rE q (r :: l) = if inB 0 16777216 r.1 = false then 1 else if qle q r.1 = true then 4 else if ckC r.2 ≠ 0 then ckC r.2 else if r.2.headD (0, 0) ≠ (0, 0) then 3 else if 1073741824 < (lastP r.2).2 then 1 else rE (some r.1) l := rfl
def ckG (g : Gt) : Int := if g.rt.length = 0 then 3 else if 10 < g.rt.length then 10 else if rE none g.rt ≠ 0 then rE none g.rt else if (inB 0 1000 g.mo && inB 0 1000 g.mv) = false then 1 else 0
/-- A curve of a gate. -/
structure vcv (l : List Pt) : Prop where
  c : ckC l = 0
  h : l.headD (0, 0) = (0, 0)
  y : (lastP l).2 ≤ 1073741824
theorem rE_ok : ∀ {l : List Rt} {q : Option Int}, rE q l = 0 → (∀ r ∈ l, (0 ≤ r.1 ∧ r.1 ≤ 16777216) ∧ vcv r.2) ∧ (∀ x, q = some x → ∀ r ∈ l, x < r.1) ∧ l.Pairwise (fun a b => a.1 < b.1)
  | [], q, _ => ⟨fun r h => (by simp at h), fun _ _ r h => (by simp at h), .nil⟩
  | a :: l, q, h => by
    rw [rE_cons] at h
    split at h
    · omega
    rename_i h1
    split at h
    · omega
    rename_i h2
    split at h
    · rename_i e; exact absurd h e
    rename_i h3
    split at h
    · omega
    rename_i h4
    split at h
    · omega
    rename_i h5
    obtain ⟨i1, i2, i3⟩ := rE_ok h
    simp [inB] at h1
    have hq : ∀ x, q = some x → x < a.1 := fun x e => by
      subst e
      simp [qle] at h2
      omega
    have h4' : a.2.headD (0, 0) = (0, 0) := Classical.byContradiction h4
    refine ⟨fun r hr => ?_, fun x e r hr => ?_, List.pairwise_cons.2 ⟨fun b hb => i2 a.1 rfl b hb, i3⟩⟩
    · rcases List.mem_cons.1 hr with rfl | hr
      · exact ⟨by omega, by omega, h4', by omega⟩
      · exact i1 r hr
    · rcases List.mem_cons.1 hr with rfl | hr
      · exact hq x e
      · have := i2 a.1 rfl r hr; have := hq x e; omega
structure GOk (g : Gt) : Prop where
  n0 : 1 ≤ g.rt.length
  n : g.rt.length ≤ 10
  r : ∀ r ∈ g.rt, (0 ≤ r.1 ∧ r.1 ≤ 16777216) ∧ vcv r.2
  a : g.rt.Pairwise (fun a b => a.1 < b.1)
  o : 0 ≤ g.mo ∧ g.mo ≤ 1000
  v : 0 ≤ g.mv ∧ g.mv ≤ 1000
theorem ckG_ok {g : Gt} (h : ckG g = 0) : GOk g := by
  unfold ckG at h
  split at h
  · omega
  split at h
  · omega
  split at h
  · rename_i e; exact absurd h e
  rename_i h1 h2 h3
  split at h
  · omega
  rename_i h4
  simp [inB] at h4
  obtain ⟨a, _, b⟩ := rE_ok (show rE none g.rt = 0 by omega)
  exact ⟨by omega, by omega, a, b, by omega, by omega⟩
theorem rE_of : ∀ {l : List Rt} {q : Option Int}, (∀ r ∈ l, (0 ≤ r.1 ∧ r.1 ≤ 16777216) ∧ vcv r.2) → (∀ x, q = some x → ∀ r ∈ l, x < r.1) → l.Pairwise (fun a b => a.1 < b.1) → rE q l = 0
  | [], q, _, _, _ => rfl
  | a :: l, q, h1, h2, h3 => by
    obtain ⟨⟨a1, a2⟩, v⟩ := h1 a (by simp)
    have h3' := List.pairwise_cons.1 h3
    have hq : qle q a.1 = false := by
      cases q with
      | none => rfl
      | some x => have := h2 x rfl a (by simp); simp [qle]; omega
    rw [rE_cons, if_neg (by simp [inB, a1, a2]), if_neg (by simp [hq]), if_neg (by simp [v.c]), if_neg (fun e => e v.h), if_neg (by have := v.y; omega)]
    exact rE_of (fun r hr => h1 r (by simp [hr])) (fun x e r hr => by cases e; exact h3'.1 r hr) h3'.2
theorem ckG_of {g : Gt} (h : GOk g) : ckG g = 0 := by
  have := rE_of (q := none) h.r (fun x e => by cases e) h.a
  have h1 := h.n0
  have h2 := h.n
  rw [ckG, if_neg (by omega), if_neg (by omega), if_neg (by simp [this]), if_neg (by have := h.o; have := h.v; simp [inB]; omega)]
/-- The curve of the last rating up to a level. -/
def atL : List Pt → List Rt → Int → List Pt
  | a, [], _ => a
  | a, r :: l, x => atL (if r.1 ≤ x then r.2 else a) l x
def atG (g : Gt) (x : Int) : List Pt := atL [] g.rt x
def okc (c : List Pt) : Prop := c = [] ∨ vcv c
theorem atL_ok : ∀ {l : List Rt} {a : List Pt} {x : Int}, okc a → (∀ r ∈ l, vcv r.2) → okc (atL a l x)
  | [], _, _, h, _ => h
  | r :: l, a, x, h, hv => by
    refine atL_ok (l := l) ?_ fun r' hr => hv r' (by simp [hr])
    split
    · exact .inr (hv r (by simp))
    · exact h
theorem atG_ok {g : Gt} (h : ckG g = 0) (x : Int) : okc (atG g x) := atL_ok (.inl rfl) fun r hr => ((ckG_ok h).r r hr).2
def gfl (c : List Pt) (x : Int) : Int := match c with
  | [] => 0
  | c => valC c x
theorem gfl_ne {c : List Pt} (h : c ≠ []) (x : Int) : gfl c x = valC c x := by
  cases c with
  | nil => exact absurd rfl h
  | cons _ _ => rfl
theorem valC_last' {c : List Pt} (h : ckC c = 0) (x : Int) : valC c x ≤ (lastP c).2 := by
  have h1 : valC c x ≤ valC c (mx x (lastP c).1) := valC_mono h (by unfold mx; split <;> omega)
  cases c with
  | nil => exact absurd rfl (ckC_ne h).1
  | cons p r =>
    have h2 := (ckC_cons.1 h).2.2
    have h3 : (endP p r).1 ≤ mx x (lastP (p :: r)).1 := by show (lastP (p :: r)).1 ≤ _; unfold mx; split <;> omega
    have h4 := ck_end h2
    have h5 : valC (p :: r) (mx x (lastP (p :: r)).1) = (endP p r).2 := by
      rw [valC_eq]
      split
      · rename_i h6
        have h9 : (endP p r).1 ≤ p.1 := by omega
        cases r with
        | nil => rfl
        | cons q r =>
          have h7 := (ckGo_cons.1 h2).2.1
          have h8 := ck_end (ckGo_cons.1 h2).2.2.2.2
          change (endP q r).1 ≤ p.1 at h9
          omega
      · exact vGo_end h2 h3
    rw [h5] at h1
    exact h1
theorem gfl_in {c : List Pt} (h : okc c) (x : Int) : 0 ≤ gfl c x ∧ gfl c x ≤ 1073741824 := by
  rcases h with rfl | h
  · exact ⟨Int.le_refl _, by show (0 : Int) ≤ _; omega⟩
  · rw [gfl_ne (ckC_ne h.c).1]
    exact ⟨(valC_in h.c x).1, by have := valC_last' h.c x; have := h.y; omega⟩
theorem gfl_mono {c : List Pt} (h : okc c) {x y : Int} (hxy : x ≤ y) : gfl c x ≤ gfl c y := by
  rcases h with rfl | h
  · exact Int.le_refl _
  · rw [gfl_ne (ckC_ne h.c).1, gfl_ne (ckC_ne h.c).1]
    exact valC_mono h.c hxy
theorem gfl_0 {c : List Pt} (h : okc c) : gfl c 0 = 0 := by
  rcases h with rfl | h
  · rfl
  · rw [gfl_ne (ckC_ne h.c).1]
    have hh := h.h
    cases c with
    | nil => rfl
    | cons p r =>
      simp at hh
      rw [valC_eq, hh, if_pos (by simp)]
def flowS (g : Gt) (x lv : Int) : Int × Int := if ckG g ≠ 0 then (0, ckG g) else if (inB 0 g.mo x && inB 0 16777216 lv) = false then (0, 1) else (gfl (atG g lv) x, 0)
def okS (g : Gt) (s : Gs) : Bool := inB 0 g.mo s.op
/-- The first error of gates with their states. -/
def badS : List Gt → List Gs → Bool
  | g :: gs, s :: ss => if okS g s = false then true else badS gs ss
  | _, _ => false
def ckGs : List Gt → Int
  | [] => 0
  | g :: gs => if ckG g ≠ 0 then ckG g else ckGs gs
theorem ckGs_ok : ∀ {gs : List Gt}, ckGs gs = 0 → ∀ g ∈ gs, ckG g = 0
  | [], _, g, h => by simp at h
  | a :: gs, h, g, hg => by
    simp only [ckGs] at h
    split at h
    · rename_i e; exact absurd h e
    · rename_i e
      rcases List.mem_cons.1 hg with rfl | hg
      · exact Classical.byContradiction e
      · exact ckGs_ok h g hg
def askG (gs : List Gt) (ss : List Gs) (lv : Int) : Int := if 8 < gs.length then 10 else if gs.length ≠ ss.length then 3 else if badS gs ss = true then 3 else if ckGs gs ≠ 0 then ckGs gs else if inB 0 16777216 lv = false then 1 else 0
structure AOk (gs : List Gt) (ss : List Gs) (lv : Int) : Prop where
  n : gs.length ≤ 8
  l : gs.length = ss.length
  s : badS gs ss = false
  g : ∀ g ∈ gs, ckG g = 0
  lv : 0 ≤ lv ∧ lv ≤ 16777216
theorem askG_ok {gs : List Gt} {ss : List Gs} {lv : Int} (h : askG gs ss lv = 0) : AOk gs ss lv := by
  unfold askG at h
  split at h
  · omega
  split at h
  · omega
  split at h
  · omega
  split at h
  · rename_i e; exact absurd h e
  split at h
  · omega
  rename_i h1 h2 h3 h4 h5
  simp [inB] at h5
  exact ⟨by omega, by omega, by simpa using h3, ckGs_ok (by omega), by omega⟩
def totL : List Gt → Ls → Int → Int
  | g :: gs, o :: os, lv => gfl (atG g lv) o + totL gs os lv
  | _, _, _ => 0
theorem totL_in {gs : List Gt} {lv : Int} : ∀ {os : Ls}, (∀ g ∈ gs, ckG g = 0) → 0 ≤ totL gs os lv ∧ totL gs os lv ≤ 1073741824 * gs.length := by
  induction gs with
  | nil => intro os _; cases os <;> simp [totL]
  | cons g gs ih =>
    intro os h
    cases os with
    | nil => simp [totL]; omega
    | cons o os =>
      have h1 := gfl_in (atG_ok (h g (by simp)) lv) o
      have h2 := ih (os := os) fun g' hg => h g' (by simp [hg])
      rw [totL, List.length_cons]
      omega
def opsL (ss : List Gs) : Ls := ss.map (·.op)
def totS (gs : List Gt) (ss : List Gs) (lv : Int) : Int × Int := if askG gs ss lv ≠ 0 then (0, askG gs ss lv) else (totL gs (opsL ss) lv, 0)
def mnG (a b : Int) : Int := if b < a then b else a
def rch (g : Gt) (s : Gs) : Int × Int := if s.jm = true then (s.op, s.op) else (mx (s.op - g.mv) 0, mnG (s.op + g.mv) g.mo)
def rchS (g : Gt) (s : Gs) : Int × Int × Int := if okS g s = false then (0, 0, 3) else if ckG g ≠ 0 then (0, 0, ckG g) else ((rch g s).1, (rch g s).2, 0)
theorem rch_in {g : Gt} {s : Gs} (h : ckG g = 0) (hs : okS g s = true) : (0 ≤ (rch g s).1 ∧ (rch g s).1 ≤ (rch g s).2) ∧ (rch g s).2 ≤ g.mo ∧ g.mo ≤ 1000 := by
  have ho := (ckG_ok h).o
  have hv := (ckG_ok h).v
  simp [okS, inB] at hs
  unfold rch
  split
  · dsimp only; omega
  · unfold mx mnG
    dsimp only
    split <;> split <;> omega
def losL : List Gt → List Gs → Ls
  | g :: gs, s :: ss => (rch g s).1 :: losL gs ss
  | _, _ => []
def hisL : List Gt → List Gs → Ls
  | g :: gs, s :: ss => (rch g s).2 :: hisL gs ss
  | _, _ => []
theorem losL_len : ∀ {gs : List Gt} {ss : List Gs}, gs.length = ss.length → (losL gs ss).length = gs.length ∧ (hisL gs ss).length = gs.length
  | [], [], _ => ⟨rfl, rfl⟩
  | _ :: gs, _ :: ss, h => by
    obtain ⟨a, b⟩ := losL_len (gs := gs) (ss := ss) (by simpa using h)
    exact ⟨by simp [losL, a], by simp [hisL, b]⟩
  | [], _ :: _, h => by simp at h
  | _ :: _, [], h => by simp at h
def rngS (gs : List Gt) (ss : List Gs) (lv : Int) : Int × Int × Int := if askG gs ss lv ≠ 0 then (0, 0, askG gs ss lv) else (totL gs (losL gs ss) lv, totL gs (hisL gs ss) lv, 0)
/-- The first opening that gives as much as is wanted, or the last one. -/
def fstO (c : List Pt) (t : Int) : Int → Nat → Int
  | lo, 0 => lo
  | lo, n + 1 => if t ≤ gfl c lo then lo else fstO c t (lo + 1) n
def isFst (c : List Pt) (t lo hi o : Int) : Prop := (lo ≤ o ∧ o ≤ hi) ∧ (∀ x, lo ≤ x → x < o → gfl c x < t) ∧ (o = hi ∨ t ≤ gfl c o)
theorem fstO_is {c : List Pt} {t : Int} : ∀ {n : Nat} {lo : Int}, isFst c t lo (lo + n) (fstO c t lo n)
  | 0, lo => ⟨⟨Int.le_refl _, by simp [fstO]⟩, fun x h1 h2 => by simp [fstO] at h2; omega, .inl (by simp [fstO])⟩
  | n + 1, lo => by
    unfold fstO
    split
    · rename_i h
      exact ⟨⟨Int.le_refl _, by omega⟩, fun x h1 h2 => by omega, .inr h⟩
    · rename_i h
      obtain ⟨⟨a1, a2⟩, b, c'⟩ := fstO_is (c := c) (t := t) (n := n) (lo := lo + 1)
      refine ⟨⟨by omega, by omega⟩, fun x h1 h2 => ?_, c'.imp (fun e => by rw [e]; omega) id⟩
      by_cases e : x = lo
      · subst e; omega
      · exact b x (by omega) h2
theorem isFst_one {c : List Pt} {t lo hi o o' : Int} (h : isFst c t lo hi o) (h' : isFst c t lo hi o') : o = o' := by
  obtain ⟨⟨a1, a2⟩, a3, a4⟩ := h
  obtain ⟨⟨b1, b2⟩, b3, b4⟩ := h'
  rcases Int.lt_trichotomy o o' with h | h | h
  · have := b3 o a1 h
    rcases a4 with e | e <;> omega
  · exact h
  · have := a3 o' b1 h
    rcases b4 with e | e <;> omega
def opO (c : List Pt) (w s lo hi : Int) : Int := if s < w then fstO c (w - (s - gfl c lo)) lo (hi - lo).toNat else lo
theorem opO_is {c : List Pt} {w s lo hi : Int} (h : lo ≤ hi) (hs : s < w) : isFst c (w - (s - gfl c lo)) lo hi (opO c w s lo hi) := by
  rw [opO, if_pos hs]
  have := fstO_is (c := c) (t := w - (s - gfl c lo)) (n := (hi - lo).toNat) (lo := lo)
  rwa [show lo + ((hi - lo).toNat : Int) = hi by omega] at this
theorem opO_in {c : List Pt} {w s lo hi : Int} (h : lo ≤ hi) : lo ≤ opO c w s lo hi ∧ opO c w s lo hi ≤ hi := by
  by_cases hs : s < w
  · exact (opO_is h hs).1
  · rw [opO, if_neg hs]; omega
/-- How gates are set, and the sum. -/
def setL (w lv : Int) : Int → List Gt → List Gs → List Gs × Int
  | s, g :: gs, z :: zs => (⟨opO (atG g lv) w s (rch g z).1 (rch g z).2, z.jm⟩ :: (setL w lv (s - gfl (atG g lv) (rch g z).1 + gfl (atG g lv) (opO (atG g lv) w s (rch g z).1 (rch g z).2)) gs zs).1,
      (setL w lv (s - gfl (atG g lv) (rch g z).1 + gfl (atG g lv) (opO (atG g lv) w s (rch g z).1 (rch g z).2)) gs zs).2)
  | s, _, _ => ([], s)
def setS (gs : List Gt) (ss : List Gs) (lv w : Int) : List Gs × Int × Int := if askG gs ss lv ≠ 0 then ([], 0, askG gs ss lv) else if inB 0 1073741824 w = false then ([], 0, 1) else ((setL w lv (totL gs (losL gs ss) lv) gs ss).1, (setL w lv (totL gs (losL gs ss) lv) gs ss).2, 0)
/-! What is asked of the functions. -/
abbrev eG (gs : List Gt) : List (List Cell) := gs.map gtC
abbrev eS (ss : List Gs) : List (List Cell) := ss.map gsC
theorem eG_len (l : List Gt) : (eG l).length = l.length := List.length_map _
theorem eS_len (l : List Gs) : (eS l).length = l.length := List.length_map _
structure fins (gs : List Gt) (ss : List Gs) : Prop where
  g : gs.length ≤ 9223372036854775807
  s : ss.length ≤ 9223372036854775807
  f : ∀ g ∈ gs, g.fin
def R_gI (f : Gt → Int) : RT := fun args k => ∃ g : Gt, args = [.agg (gtC g)] ∧ g.fin ∧ k (I (f g))
def R_atG : RT := fun args k => ∃ (g : Gt) (lv : Int), args = [.agg (gtC g), I lv] ∧ g.fin ∧ k (.agg [.lst (eP (atG g lv)), IC 0])
def R_vflow : RT := fun args k => ∃ (c : List Pt) (w x : Int), args = [.agg [.lst (eP c), IC w], I x] ∧ okc c ∧ k (I (gfl c x))
def R_enough : RT := fun args k => ∃ (c : List Pt) (w x : Int), args = [.agg [.lst (eP c), IC w], I x] ∧ okc c ∧ k (Bo (decide (w ≤ gfl c x)))
def R_flowS : RT := fun args k => ∃ (g : Gt) (x lv : Int), args = [.agg (gtC g), I x, I lv] ∧ g.fin ∧ k (.tup [I (flowS g x lv).1, I (flowS g x lv).2])
def R_rflow : RT := fun args k => ∃ (g : Gt) (x lv : Int), args = [.agg (gtC g), I x, I lv] ∧ ckG g = 0 ∧ k (I (gfl (atG g lv) x))
def R_okS : RT := fun args k => ∃ (g : Gt) (s : Gs), args = [.agg (gtC g), .agg (gsC s)] ∧ k (Bo (okS g s))
def R_askG : RT := fun args k => ∃ (gs : List Gt) (ss : List Gs) (lv : Int), args = [.c (.lst (eG gs)), .c (.lst (eS ss)), I lv] ∧ fins gs ss ∧ k (I (askG gs ss lv))
def R_totS : RT := fun args k => ∃ (gs : List Gt) (ss : List Gs) (lv : Int), args = [.c (.lst (eG gs)), .c (.lst (eS ss)), I lv] ∧ fins gs ss ∧ k (.tup [I (totS gs ss lv).1, I (totS gs ss lv).2])
def R_rtot : RT := fun args k => ∃ (gs : List Gt) (os : Ls) (lv : Int), args = [.c (.lst (eG gs)), .c (.lst (eL os)), I lv] ∧ gs.length ≤ os.length ∧ gs.length ≤ 8 ∧ (∀ g ∈ gs, ckG g = 0) ∧ k (I (totL gs os lv))
def R_rch : RT := fun args k => ∃ (g : Gt) (s : Gs), args = [.agg (gtC g), .agg (gsC s)] ∧ ckG g = 0 ∧ okS g s = true ∧ k (.agg [IC (rch g s).1, IC (rch g s).2])
def R_rchS : RT := fun args k => ∃ (g : Gt) (s : Gs), args = [.agg (gtC g), .agg (gsC s)] ∧ g.fin ∧ k (.tup [.agg [IC (rchS g s).1, IC (rchS g s).2.1], I (rchS g s).2.2])
def R_rngS : RT := fun args k => ∃ (gs : List Gt) (ss : List Gs) (lv : Int), args = [.c (.lst (eG gs)), .c (.lst (eS ss)), I lv] ∧ fins gs ss ∧ k (.tup [.agg [IC (rngS gs ss lv).1, IC (rngS gs ss lv).2.1], I (rngS gs ss lv).2.2])
def R_setS : RT := fun args k => ∃ (gs : List Gt) (ss : List Gs) (lv w : Int), args = [.c (.lst (eG gs)), .c (.lst (eS ss)), I lv, I w] ∧ fins gs ss ∧ k (.tup [.c (.lst (eS (setS gs ss lv w).1)), I (setS gs ss lv w).2.1, I (setS gs ss lv w).2.2])
def R_sameS : RT := fun args k => ∃ a b : List Gs, args = [.c (.lst (eS a)), .c (.lst (eS b))] ∧ (a.length ≤ 9223372036854775807 ∧ b.length ≤ 9223372036854775807) ∧ k (Bo (decide (a = b)))
/-! With a small memory. -/
abbrev vO (e : Nat) (c : List Pt) (w : Int) : List MObj := [.blk [.fn e []], .blk [.lst (eP c), IC w]]
abbrev lO (e s : Nat) (lo hi : Int) (c : List Pt) (w : Int) : List MObj := [.blk [.fn s [.ptr (.x 2) 0, .ptr (.x 3) 0]], .blk [IC lo, IC hi], .blk [.fn e []], .blk [.lst (eP c), IC w]]
def R_set1 (e : Nat) : RG := fun args os k => ∃ (c : List Pt) (w x : Int), args = [I x, .c (.ptr (.x 0) 0), .c (.ptr (.x 1) 0)] ∧ os = vO e c w ∧ okc c ∧ k (Bo (decide (w ≤ gfl c x))) (vO e c w)
def R_least1 (e s : Nat) : RG := fun args os k => ∃ (c : List Pt) (w x lo hi : Int), args = [I x, .c (.ptr (.x 0) 0), .c (.ptr (.x 1) 0)] ∧ os = lO e s lo hi c w ∧ okc c ∧ ((0 ≤ lo ∧ lo ≤ 1000) ∧ 0 ≤ x ∧ x ≤ 2000) ∧ k (Bo (decide (w ≤ gfl c (lo + x)))) (lO e s lo hi c w)
def isSr (c : List Pt) (w lo n j : Int) : Prop := (0 ≤ j ∧ j ≤ n) ∧ (∀ x, 0 ≤ x → x < j → gfl c (lo + x) < w) ∧ (j = n ∨ w ≤ gfl c (lo + j))
def R_search (e s l : Nat) : RG := fun args os k => ∃ (c : List Pt) (w n lo hi : Int), args = [I n, .c (.fn l [.ptr (.x 0) 0, .ptr (.x 1) 0])] ∧ os = lO e s lo hi c w ∧ okc c ∧ ((0 ≤ lo ∧ lo ≤ 1000) ∧ 0 ≤ n ∧ n ≤ 2000) ∧ ∀ j, isSr c w lo n j → k (I j) (lO e s lo hi c w)
def R_least (e s : Nat) : RG := fun args os k => ∃ (c : List Pt) (w lo hi : Int), args = [.agg [IC lo, IC hi], .c (.fn s [.ptr (.x 0) 0, .ptr (.x 1) 0])] ∧ os = vO e c w ∧ okc c ∧ ((0 ≤ lo ∧ lo ≤ hi) ∧ hi ≤ 1000) ∧ ∀ o, isFst c w lo hi o → k (I o) (vO e c w)
theorem isSr_fst {c : List Pt} {w lo hi j : Int} (h : isSr c w lo (hi - lo + 1) j) (hl : lo ≤ hi) : isFst c w lo hi (if hi < lo + j then hi else lo + j) := by
  obtain ⟨⟨a1, a2⟩, b, d⟩ := h
  have b' : ∀ x, lo ≤ x → x < lo + j → gfl c x < w := fun x h1 h2 => by
    have := b (x - lo) (by omega) (by omega)
    rwa [show lo + (x - lo) = x by omega] at this
  split
  · exact ⟨⟨hl, Int.le_refl _⟩, fun x h1 h2 => b' x h1 (by omega), .inl rfl⟩
  · refine ⟨⟨by omega, by omega⟩, b', ?_⟩
    rcases d with d | d
    · omega
    · exact .inr d
def R_ends (ti : Nat) : RA := fun args k => ∃ (gs : List Gt) (ss : List Gs), args = [.c (.lst (eG gs)), .c (.lst (eS ss))] ∧ (gs.length ≤ 8 ∧ gs.length = ss.length ∧ badS gs ss = false) ∧ (∀ g ∈ gs, ckG g = 0) ∧
  k (.tup [.c (.view (.x 0) 0 (losL gs ss).length), .c (.lst (eL (hisL gs ss)))]) (.arr ti 1 (eL (losL gs ss)) false)
theorem badS_at : ∀ {gs : List Gt} {ss : List Gs} {i : Nat} {g : Gt} {z : Gs}, badS gs ss = false → gs[i]? = some g → ss[i]? = some z → okS g z = true
  | [], _, _, _, _, _, h, _ => by simp at h
  | _ :: _, [], _, _, _, _, _, h => by simp at h
  | a :: gs, b :: ss, 0, g, z, h, h1, h2 => by
    simp at h1 h2
    subst h1; subst h2
    cases e : okS a b
    · rw [badS, if_pos e] at h; cases h
    · rfl
  | a :: gs, b :: ss, i + 1, g, z, h, h1, h2 => by
    rw [badS] at h
    split at h
    · cases h
    · exact badS_at h (by simpa using h1) (by simpa using h2)
theorem losL_take : ∀ {gs : List Gt} {ss : List Gs} {i : Nat} {g : Gt} {z : Gs}, gs[i]? = some g → ss[i]? = some z → (losL gs ss).take (i + 1) = (losL gs ss).take i ++ [(rch g z).1] ∧ (hisL gs ss).take (i + 1) = (hisL gs ss).take i ++ [(rch g z).2]
  | [], _, _, _, _, h, _ => by simp at h
  | _ :: _, [], _, _, _, _, h => by simp at h
  | a :: gs, b :: ss, 0, g, z, h1, h2 => by
    simp at h1 h2
    subst h1; subst h2
    exact ⟨rfl, rfl⟩
  | a :: gs, b :: ss, i + 1, g, z, h1, h2 => by
    obtain ⟨q1, q2⟩ := losL_take (gs := gs) (ss := ss) (i := i) (g := g) (z := z) (by simpa using h1) (by simpa using h2)
    exact ⟨by simp only [losL, List.take_succ_cons, q1, List.cons_append], by simp only [hisL, List.take_succ_cons, q2, List.cons_append]⟩
theorem askG_one {g : Gt} {z : Gs} : askG [g] [z] 0 = if okS g z = false then 3 else ckG g := by
  unfold askG
  simp [badS, ckGs, inB]
  by_cases h : okS g z = false
  · simp [h]
  · by_cases h2 : ckG g = 0 <;> simp [h, h2]
abbrev sNx (w lv s : Int) (g : Gt) (z : Gs) : Int := s - gfl (atG g lv) (rch g z).1 + gfl (atG g lv) (opO (atG g lv) w s (rch g z).1 (rch g z).2)
theorem setL_cons (w lv s : Int) (g : Gt) (gs : List Gt) (z : Gs) (zs : List Gs) : setL w lv s (g :: gs) (z :: zs) = (⟨opO (atG g lv) w s (rch g z).1 (rch g z).2, z.jm⟩ :: (setL w lv (sNx w lv s g z) gs zs).1, (setL w lv (sNx w lv s g z) gs zs).2) := rfl
theorem setL_nil (w lv s : Int) (zs : List Gs) : setL w lv s [] zs = ([], s) := by cases zs <;> rfl
/-! What decks make. -/
theorem vcv_mk {r : List Pt} (h3 : 1 ≤ r.length) (h3' : r.length ≤ 4) (h4 : chainP 6 0 19 (0, 0) r) : vcv ((0, 0) :: r) ∧ (lastP ((0, 0) :: r)).2 ≤ 100 := by
  have hin := chain_in (by omega) (by omega) (by omega) h4
  have hok : ∀ q ∈ r, okPt q = true := fun q hq => okPt_of (by have := hin q hq; omega)
  have hck := chain_ck (by omega) (by omega) h4 hok
  have he := end_in (by omega) (by omega) (by omega) h4
  have hl : (lastP ((0, 0) :: r)).2 ≤ 100 := by
    show (endP (0, 0) r).2 ≤ _
    dsimp only at he
    omega
  exact ⟨⟨ckC_cons.2 ⟨by omega, okPt_of (by simp), hck⟩, rfl, by omega⟩, hl⟩
structure mkG (g : Gt) : Prop where
  ok : GOk g
  m : g.mo ≤ 11
  b : ∀ r ∈ g.rt, (lastP r.2).2 ≤ 100
theorem GOk.fin {g : Gt} (h : GOk g) : g.fin := ⟨by have := h.n; omega, fun r hr => by have := (ckC_ne (h.r r hr).2.c).2; omega⟩
theorem mkG.fin {g : Gt} (h : mkG g) : g.fin := h.ok.fin
def R_mkG : RB := fun cs args k => ∃ d : Dk, args = [] ∧ cs = dkC d ∧ d.ok ∧ ∀ (g : Gt) d', Dk.ok d' → mkG g → k (.agg (gtC g)) (dkC d')
structure mkGs (gs : List Gt) (ss : List Gs) : Prop where
  l : gs.length = ss.length
  g : ∀ g ∈ gs, mkG g
  s : badS gs ss = false
theorem badS_snoc : ∀ {gs : List Gt} {ss : List Gs} {g : Gt} {z : Gs}, gs.length = ss.length → badS gs ss = false → okS g z = true → badS (gs ++ [g]) (ss ++ [z]) = false
  | [], [], g, z, _, _, h => by simp [badS, h]
  | a :: gs, b :: ss, g, z, hl, hb, h => by
    rw [badS] at hb
    split at hb
    · cases hb
    rename_i e
    show badS (a :: (gs ++ [g])) (b :: (ss ++ [z])) = false
    rw [badS, if_neg e]
    exact badS_snoc (by simpa using hl) hb h
  | [], _ :: _, _, _, h, _, _ => by simp at h
  | _ :: _, [], _, _, h, _, _ => by simp at h
theorem mkGs.snoc {gs : List Gt} {ss : List Gs} {g : Gt} {z : Gs} (h : mkGs gs ss) (hg : mkG g) (hz : okS g z = true) : mkGs (gs ++ [g]) (ss ++ [z]) :=
  ⟨by simp [h.l], fun x hx => (List.mem_append.1 hx).elim (h.g x) fun hx => by simp at hx; subst hx; exact hg, badS_snoc h.l h.s hz⟩
theorem mkGs.fins {gs : List Gt} {ss : List Gs} (h : mkGs gs ss) (hl : gs.length ≤ 100) : fins gs ss := ⟨by omega, by have := h.l; omega, fun g hg => (h.g g hg).fin⟩
def R_mkGs : RB := fun cs args k => ∃ (d : Dk) (n : Int), args = [I n] ∧ cs = dkC d ∧ d.ok ∧ (0 ≤ n ∧ n ≤ 10) ∧ ∀ (gs : List Gt) (ss : List Gs) d', Dk.ok d' → gs.length ≤ n → mkGs gs ss → k (.tup [.c (.lst (eG gs)), .c (.lst (eS ss))]) (dkC d')
/-- The ratings of a gate under way. -/
structure mkR (l : List Rt) (x : Int) : Prop where
  r : ∀ r ∈ l, (0 ≤ r.1 ∧ r.1 < x) ∧ vcv r.2 ∧ (lastP r.2).2 ≤ 100
  p : l.Pairwise (fun a b => a.1 < b.1)
theorem mkR.snoc {l : List Rt} {x y : Int} {c : List Pt} (h : mkR l x) (hx : 0 ≤ x) (hy : x < y) (hc : vcv c ∧ (lastP c).2 ≤ 100) : mkR (l ++ [(x, c)]) y := by
  refine ⟨fun r hr => ?_, List.pairwise_append.2 ⟨h.p, by simp, fun a ha b hb => ?_⟩⟩
  · rcases List.mem_append.1 hr with hr | hr
    · have := h.r r hr; exact ⟨by omega, this.2⟩
    · simp at hr; subst hr; exact ⟨⟨hx, hy⟩, hc⟩
  · simp at hb; subst hb
    exact (h.r a ha).1.2
theorem mkR.gate {l : List Rt} {x mo mv : Int} (h : mkR l x) (hl : 1 ≤ l.length) (hl' : l.length ≤ 10) (hx : x ≤ 16777216) (ho : 0 ≤ mo ∧ mo ≤ 11) (hv : 0 ≤ mv ∧ mv ≤ 1000) : mkG ⟨l, mo, mv⟩ :=
  ⟨⟨hl, hl', fun r hr => by have := h.r r hr; exact ⟨by omega, this.2.1⟩, h.p, by dsimp only; omega, by dsimp only; omega⟩, ho.2, fun r hr => (h.r r hr).2.2⟩
end Go.Proofs
