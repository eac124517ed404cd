/- Functions that are given what may change: contracts with a small memory, names changed where they are used. -/
import Derived.Test.YtagjajmkmambiaaAbsL
namespace Go.Abs
open Go.RowKit

/-! ### Names changed -/

mutual
def renC (ρ : Id → Id) : Cell → Cell
  | .sc v => .sc v
  | .lst es => .lst es
  | .full es => .full es
  | .view o lo n => .view (ρ o) lo n
  | .ptr i off => .ptr (ρ i) off
  | .aptr o i k => .aptr (ρ o) i k
  | .pel cs => .pel cs
  | .fn f caps => .fn f (renCs ρ caps)
def renCs (ρ : Id → Id) : List Cell → List Cell
  | [] => []
  | c :: r => renC ρ c :: renCs ρ r
end
mutual
def renA (ρ : Id → Id) : AV → AV
  | .c x => .c (renC ρ x)
  | .agg cs => .agg (renCs ρ cs)
  | .tup l => .tup (renAs ρ l)
def renAs (ρ : Id → Id) : List AV → List AV
  | [] => []
  | x :: r => renA ρ x :: renAs ρ r
end
def renO (ρ : Id → Id) : MObj → MObj
  | .blk cs => .blk (renCs ρ cs)
  | .arr e sz es fr => .arr e sz es fr

mutual
def inC (D : Id → Prop) : Cell → Prop
  | .sc _ => True
  | .lst _ => True
  | .full _ => True
  | .view o _ _ => D o
  | .ptr i _ => D i
  | .aptr o _ _ => D o
  | .pel _ => True
  | .fn _ caps => inCs D caps
def inCs (D : Id → Prop) : List Cell → Prop
  | [] => True
  | c :: r => inC D c ∧ inCs D r
end
mutual
def inA (D : Id → Prop) : AV → Prop
  | .c x => inC D x
  | .agg cs => inCs D cs
  | .tup l => inAs D l
def inAs (D : Id → Prop) : List AV → Prop
  | [] => True
  | x :: r => inA D x ∧ inAs D r
end
def inO (D : Id → Prop) : MObj → Prop
  | .blk cs => inCs D cs
  | .arr .. => True

theorem renCs_get {ρ : Id → Id} : ∀ {l : List Cell} {j : Nat}, (renCs ρ l)[j]? = (l[j]?).map (renC ρ)
  | [], j => by simp [renCs]
  | c :: r, 0 => by simp [renCs]
  | c :: r, j + 1 => by simpa [renCs] using renCs_get (l := r) (j := j)
theorem renCs_len {ρ : Id → Id} : ∀ {l : List Cell}, (renCs ρ l).length = l.length
  | [] => rfl
  | c :: r => by simp [renCs, renCs_len (l := r)]
theorem renAs_get {ρ : Id → Id} : ∀ {l : List AV} {j : Nat}, (renAs ρ l)[j]? = (l[j]?).map (renA ρ)
  | [], j => by simp [renAs]
  | c :: r, 0 => by simp [renAs]
  | c :: r, j + 1 => by simpa [renAs] using renAs_get (l := r) (j := j)
theorem renAs_len {ρ : Id → Id} : ∀ {l : List AV}, (renAs ρ l).length = l.length
  | [] => rfl
  | c :: r => by simp [renAs, renAs_len (l := r)]
theorem inCs_get {D : Id → Prop} : ∀ {l : List Cell} {j : Nat} {c : Cell}, inCs D l → l[j]? = some c → inC D c
  | [], _, _, _, h => by simp at h
  | x :: r, 0, c, h, hc => by simp at hc; subst hc; exact h.1
  | x :: r, j + 1, c, h, hc => inCs_get (l := r) (j := j) h.2 (by simpa using hc)
theorem inAs_get {D : Id → Prop} : ∀ {l : List AV} {j : Nat} {c : AV}, inAs D l → l[j]? = some c → inA D c
  | [], _, _, _, h => by simp at h
  | x :: r, 0, c, h, hc => by simp at hc; subst hc; exact h.1
  | x :: r, j + 1, c, h, hc => inAs_get (l := r) (j := j) h.2 (by simpa using hc)

/-- The names of one ghost, as those of another. -/
structure Link (ρ : Id → Id) (D : Id → Prop) (g g' : G) : Prop where
  K : ∀ i, D i → (g.K i ↔ g'.K (ρ i))
  β : ∀ i, D i → g.K i → g.β i = g'.β (ρ i)
  sz : ∀ i, D i → g.K i → g.sz i = g'.sz (ρ i)
  F : g.F = g'.F

variable {ρ : Id → Id} {D : Id → Prop} {g g' : G} {w : World}

theorem Link.pushC (h : Link ρ D g g') {c : Cell} {v : Value} (hr : RepC g w c v) : inC D c → RepC g' w (renC ρ c) v := by
  induction hr with
  | pure hp =>
    intro _
    rw [h.F] at hp
    cases hp with
    | sc hs => exact .pure (.sc hs)
    | nil => exact .pure .nil
    | lst u a b c d e => exact .pure (.lst u a b c d e)
  | full hp => intro _; rw [h.F] at hp; exact .full hp
  | view hk hv hn ha hsp =>
    intro hD
    exact .view ((h.K _ hD).1 hk) ((h.β _ hD hk).symm.trans hv) hn (by rw [← h.sz _ hD hk]; exact ha) hsp
  | ptr hk hv =>
    intro hD
    exact .ptr ((h.K _ hD).1 hk) ((h.β _ hD hk).symm.trans hv)
  | aptr hk hv =>
    rename_i o i k b len cap
    intro hD
    have := RepC.aptr (g := g') (w := w) (i := i) (k := k) ((h.K _ hD).1 hk) ((h.β _ hD hk).symm.trans hv)
    rw [← h.sz _ hD hk] at this
    exact this
  | pel u hc hr => intro _; rw [h.F] at hc hr; exact .pel u hc hr
  | fn us hl _ ih =>
    intro hD
    refine .fn us (by rw [renCs_len]; exact hl) fun j c u hj hu => ?_
    rw [renCs_get] at hj
    cases hc : (‹List Cell› : List Cell)[j]? with
    | none => rw [hc] at hj; cases hj
    | some c0 =>
      rw [hc] at hj
      simp at hj
      subst hj
      exact ih j c0 u hc hu (inCs_get hD hc)

theorem Link.pullC (h : Link ρ D g g') {c' : Cell} {v : Value} (hr : RepC g' w c' v) : ∀ c, renC ρ c = c' → inC D c → RepC g w c v := by
  induction hr with
  | pure hp =>
    intro c e _
    rw [← h.F] at hp
    cases c <;> simp only [renC] at e <;> subst e <;> first | exact .pure hp | cases hp
  | full hp =>
    intro c e _
    rw [← h.F] at hp
    cases c <;> simp only [renC] at e <;> first | (cases e; done) | skip
    simp at e
    subst e
    exact .full hp
  | view hk hv hn ha hsp =>
    intro c e hD
    cases c <;> simp only [renC] at e <;> first | (cases e; done) | skip
    simp at e
    obtain ⟨rfl, rfl, rfl⟩ := e
    have hk' := (h.K _ hD).2 hk
    exact .view hk' ((h.β _ hD hk').trans hv) hn (by rw [h.sz _ hD hk']; exact ha) hsp
  | ptr hk hv =>
    intro c e hD
    cases c <;> simp only [renC] at e <;> first | (cases e; done) | skip
    simp at e
    obtain ⟨rfl, rfl⟩ := e
    have hk' := (h.K _ hD).2 hk
    exact .ptr hk' ((h.β _ hD hk').trans hv)
  | aptr hk hv =>
    rename_i o i k b len cap
    intro c e hD
    cases c <;> simp only [renC] at e <;> first | (cases e; done) | skip
    simp at e
    obtain ⟨rfl, rfl, rfl⟩ := e
    have hk' := (h.K _ hD).2 hk
    rw [← h.sz _ hD hk']
    exact .aptr hk' ((h.β _ hD hk').trans hv)
  | pel u hc hr =>
    intro c e _
    rw [← h.F] at hc hr
    cases c <;> simp only [renC] at e <;> first | (cases e; done) | skip
    simp at e
    subst e
    exact .pel u hc hr
  | fn us hl _ ih =>
    intro c e hD
    cases c <;> simp only [renC] at e <;> first | (cases e; done) | skip
    simp at e
    obtain ⟨rfl, rfl⟩ := e
    rw [renCs_len] at hl
    exact .fn us hl fun j c u hj hu => ih j (renC ρ c) u (by rw [renCs_get, hj]; rfl) hu c rfl (inCs_get hD hj)

theorem Link.pushA (h : Link ρ D g g') {x : AV} {v : Value} (hr : RepA g w x v) : inA D x → RepA g' w (renA ρ x) v := by
  induction hr with
  | c hc => intro hD; exact .c (h.pushC hc hD)
  | agg us hl hc =>
    intro hD
    refine .agg us (by rw [renCs_len]; exact hl) fun j c u hj hu => ?_
    rw [renCs_get] at hj
    cases hc' : (‹List Cell› : List Cell)[j]? with
    | none => rw [hc'] at hj; cases hj
    | some c0 =>
      rw [hc'] at hj
      simp at hj
      subst hj
      exact h.pushC (hc j c0 u hc' hu) (inCs_get hD hc')
  | tup us hl _ ih =>
    intro hD
    refine .tup us (by rw [renAs_len]; exact hl) fun j c u hj hu => ?_
    rw [renAs_get] at hj
    cases hc' : (‹List AV› : List AV)[j]? with
    | none => rw [hc'] at hj; cases hj
    | some c0 =>
      rw [hc'] at hj
      simp at hj
      subst hj
      exact ih j c0 u hc' hu (inAs_get hD hc')

theorem Link.pullA (h : Link ρ D g g') {x' : AV} {v : Value} (hr : RepA g' w x' v) : ∀ x, renA ρ x = x' → inA D x → RepA g w x v := by
  induction hr with
  | c hc =>
    intro x e hD
    cases x <;> simp only [renA] at e <;> first | (cases e; done) | skip
    simp at e
    exact .c (h.pullC hc _ e hD)
  | agg us hl hc =>
    intro x e hD
    cases x <;> simp only [renA] at e <;> first | (cases e; done) | skip
    simp at e
    subst e
    rw [renCs_len] at hl
    exact .agg us hl fun j c u hj hu => h.pullC (hc j (renC ρ c) u (by rw [renCs_get, hj]; rfl) hu) c rfl (inCs_get hD hj)
  | tup us hl _ ih =>
    intro x e hD
    cases x <;> simp only [renA] at e <;> first | (cases e; done) | skip
    simp at e
    subst e
    rw [renAs_len] at hl
    exact .tup us hl fun j c u hj hu => ih j (renA ρ c) u (by rw [renAs_get, hj]; rfl) hu c rfl (inAs_get hD hj)

theorem Link.pushO (h : Link ρ D g g') {i : Id} {o : MObj} (hi : D i) (hk : g.K i) (ho : ObjOk g w i o) (hD : inO D o) : ObjOk g' w (ρ i) (renO ρ o) := by
  cases ho with
  | blk us hv hh hl hr h1 hf =>
    refine .blk us ((h.β i hi hk).symm.trans hv) hh (by rw [renCs_len]; exact hl) (fun j c u hj hu => ?_) h1 (fun o => by rw [← h.F]; exact hf o)
    rw [renCs_get] at hj
    cases hc' : (‹List Cell› : List Cell)[j]? with
    | none => rw [hc'] at hj; cases hj
    | some c0 =>
      rw [hc'] at hj
      simp at hj
      subst hj
      exact h.pushC (hr j c0 u hc' hu) (inCs_get hD hc')
  | arr us hz ho hs hr h1 hf =>
    refine .arr us ((h.sz i hi hk).symm.trans hz) (by rw [← h.β i hi hk]; exact ho) hs (fun k x hx j c hj => ?_) h1 (fun b o hb hF => hf b o (by rw [h.β i hi hk]; exact hb) (by rw [h.F]; exact hF))
    obtain ⟨u, h2, h3⟩ := hr k x hx j c hj
    exact ⟨u, h2, by rw [← h.F]; exact h3⟩

theorem Link.pullO (h : Link ρ D g g') {i : Id} {o : MObj} (hi : D i) (hk : g.K i) (ho : ObjOk g' w (ρ i) (renO ρ o)) (hD : inO D o) : ObjOk g w i o := by
  cases o with
  | blk cs =>
    cases ho with
    | blk us hv hh hl hr h1 hf =>
      rw [renCs_len] at hl
      exact .blk us ((h.β i hi hk).trans hv) hh hl (fun j c u hj hu => h.pullC (hr j (renC ρ c) u (by rw [renCs_get, hj]; rfl) hu) c rfl (inCs_get hD hj)) h1 (fun o => by rw [h.F]; exact hf o)
  | arr e sz es fr =>
    cases ho with
    | arr us hz ho hs hr h1 hf =>
      refine .arr us ((h.sz i hi hk).trans hz) (by rw [h.β i hi hk]; exact ho) hs (fun k x hx j c hj => ?_) h1 (fun b o hb hF => hf b o (by rw [← h.β i hi hk]; exact hb) (by rw [← h.F]; exact hF))
      obtain ⟨u, h2, h3⟩ := hr k x hx j c hj
      exact ⟨u, h2, by rw [h.F]; exact h3⟩

mutual
theorem renC_id : ∀ c : Cell, renC id c = c
  | .sc _ => rfl
  | .lst _ => rfl
  | .full _ => rfl
  | .view _ _ _ => rfl
  | .ptr _ _ => rfl
  | .aptr _ _ _ => rfl
  | .pel _ => rfl
  | .fn f caps => by simp only [renC, renCs_id caps]
theorem renCs_id : ∀ l : List Cell, renCs id l = l
  | [] => rfl
  | c :: r => by simp only [renCs, renC_id c, renCs_id r]
end
mutual
theorem renA_id : ∀ x : AV, renA id x = x
  | .c x => by simp only [renA, renC_id]
  | .agg cs => by simp only [renA, renCs_id]
  | .tup l => by simp only [renA, renAs_id l]
theorem renAs_id : ∀ l : List AV, renAs id l = l
  | [] => rfl
  | c :: r => by simp only [renAs, renA_id c, renAs_id r]
end
theorem renO_id (o : MObj) : renO id o = o := by cases o <;> simp only [renO, renCs_id]


def beqI : Id → Id → Bool
  | .x a, .x b => Nat.beq a b
  | .l a b, .l c d => match Nat.beq a c with
    | true => Nat.beq b d
    | false => false
  | _, _ => false

theorem natBeq {a b : Nat} (h : Nat.beq a b = true) : a = b := Nat.eq_of_beq_eq_true h
theorem natBeqF {a b : Nat} (h : Nat.beq a b = false) : a ≠ b := fun e => by subst e; simp at h
theorem beqI_t {i j : Id} (h : beqI i j = true) : i = j := by
  cases i <;> cases j <;> simp only [beqI] at h <;> try (cases h; done)
  · rw [natBeq h]
  · split at h
    · rename_i h1; rw [natBeq h1, natBeq h]
    · cases h
theorem beqI_f {i j : Id} (h : beqI i j = false) : i ≠ j := by
  rintro rfl
  cases i <;> simp [beqI] at h

/-- The names below a number. -/
def lowI (n : Nat) : Id → Bool
  | .x _ => true
  | .l _ k => Nat.blt k n
mutual
def lowC (n : Nat) : Cell → Bool
  | .sc _ => true
  | .lst _ => true
  | .full _ => true
  | .view i _ _ => lowI n i
  | .ptr i _ => lowI n i
  | .aptr i _ _ => lowI n i
  | .pel _ => true
  | .fn _ caps => lowCs n caps
def lowCs (n : Nat) : List Cell → Bool
  | [] => true
  | c :: r => match lowC n c with
    | true => lowCs n r
    | false => false
end
mutual
def lowA (n : Nat) : AV → Bool
  | .c x => lowC n x
  | .agg cs => lowCs n cs
  | .tup l => lowAs n l
def lowAs (n : Nat) : List AV → Bool
  | [] => true
  | c :: r => match lowA n c with
    | true => lowAs n r
    | false => false
end
def lowM (n : Nat) : List (Id × MObj) → Bool
  | [] => true
  | (i, .blk cs) :: r => match lowI n i, lowCs n cs with
    | true, true => lowM n r
    | _, _ => false
  | (i, .arr ..) :: r => match lowI n i with
    | true => lowM n r
    | false => false
abbrev LI (n : Nat) : Id → Prop := fun i => lowI n i = true
mutual
theorem lowC_in {n : Nat} : ∀ {c : Cell}, lowC n c = true → inC (LI n) c
  | .sc _, _ => trivial
  | .lst _, _ => trivial
  | .full _, _ => trivial
  | .view _ _ _, h => h
  | .ptr _ _, h => h
  | .aptr _ _ _, h => h
  | .pel _, _ => trivial
  | .fn _ caps, h => lowCs_in (l := caps) h
theorem lowCs_in {n : Nat} : ∀ {l : List Cell}, lowCs n l = true → inCs (LI n) l
  | [], _ => trivial
  | c :: r, h => by
    simp only [lowCs] at h
    split at h
    · rename_i e; exact ⟨lowC_in e, lowCs_in h⟩
    · cases h
end
mutual
theorem lowA_in {n : Nat} : ∀ {x : AV}, lowA n x = true → inA (LI n) x
  | .c _, h => lowC_in h
  | .agg _, h => lowCs_in h
  | .tup l, h => lowAs_in (l := l) h
theorem lowAs_in {n : Nat} : ∀ {l : List AV}, lowAs n l = true → inAs (LI n) l
  | [], _ => trivial
  | c :: r, h => by
    simp only [lowAs] at h
    split at h
    · rename_i e; exact ⟨lowA_in e, lowAs_in h⟩
    · cases h
end
theorem lowM_in {n : Nat} : ∀ {l : List (Id × MObj)}, lowM n l = true → ∀ {i : Id} {o : MObj}, mget l i = some o → LI n i ∧ inO (LI n) o
  | [], _, _, _, h => by cases h
  | (j, .blk cs) :: r, h, i, o, hi => by
    simp only [lowM] at h
    split at h
    · rename_i e1 e2
      simp only [mget] at hi
      split at hi
      · rename_i e; subst e; simp at hi; subst hi; exact ⟨e1, lowCs_in e2⟩
      · exact lowM_in h hi
    · cases h
  | (j, .arr e sz es fr) :: r, h, i, o, hi => by
    simp only [lowM] at h
    split at h
    · rename_i e1
      simp only [mget] at hi
      split at hi
      · rename_i e; subst e; simp at hi; subst hi; exact ⟨e1, trivial⟩
      · exact lowM_in h hi
    · cases h
def sameKeys : List (Id × MObj) → List (Id × MObj) → Bool
  | [], [] => true
  | (i, _) :: r, (j, _) :: t => match beqI i j with
    | true => sameKeys r t
    | false => false
  | _, _ => false
theorem sameKeys_none : ∀ {a b : List (Id × MObj)}, sameKeys a b = true → ∀ {i : Id}, mget a i = none → mget b i = none
  | [], [], _, _, _ => rfl
  | (i, x) :: r, (j, y) :: t, h, k, hk => by
    simp only [sameKeys] at h
    split at h
    · rename_i e
      have e := beqI_t e
      subst e
      simp only [mget] at hk ⊢
      split at hk
      · cases hk
      · rename_i e; rw [if_neg e]; exact sameKeys_none h hk
    · cases h
  | [], _ :: _, h, _, _ => by cases h
  | _ :: _, [], h, _, _ => by cases h
/-- What is syntactically clear of a call: its names are old, it makes and takes away nothing. -/
def tameB (m m' : Mem) (l : List AV) : Bool := match lowAs m.nx l, lowM m.nx m.o, Nat.beq m'.nx m.nx, sameKeys m.o m'.o with
  | true, true, true, true => true
  | _, _, _, _ => false
theorem lowI_mono {n k : Nat} (h : n ≤ k) {i : Id} (hi : lowI n i = true) : lowI k i = true := by
  cases i with
  | x _ => rfl
  | l s j =>
    have : j + 1 ≤ n := Nat.le_of_ble_eq_true hi
    show Nat.ble (j + 1) k = true
    exact Nat.ble_eq_true_of_le (by omega)
mutual
theorem lowC_mono {n k : Nat} (h : n ≤ k) : ∀ {c : Cell}, lowC n c = true → lowC k c = true
  | .sc _, _ => rfl
  | .lst _, _ => rfl
  | .full _, _ => rfl
  | .view _ _ _, e => lowI_mono h e
  | .ptr _ _, e => lowI_mono h e
  | .aptr _ _ _, e => lowI_mono h e
  | .pel _, _ => rfl
  | .fn _ caps, e => lowCs_mono h (l := caps) e
theorem lowCs_mono {n k : Nat} (h : n ≤ k) : ∀ {l : List Cell}, lowCs n l = true → lowCs k l = true
  | [], _ => rfl
  | c :: r, e => by
    simp only [lowCs] at e ⊢
    split at e
    · rename_i e1; rw [lowC_mono h e1]; exact lowCs_mono h e
    · cases e
end
mutual
theorem lowA_mono {n k : Nat} (h : n ≤ k) : ∀ {x : AV}, lowA n x = true → lowA k x = true
  | .c _, e => lowC_mono h e
  | .agg _, e => lowCs_mono h e
  | .tup l, e => lowAs_mono h (l := l) e
theorem lowAs_mono {n k : Nat} (h : n ≤ k) : ∀ {l : List AV}, lowAs n l = true → lowAs k l = true
  | [], _ => rfl
  | c :: r, e => by
    simp only [lowAs] at e ⊢
    split at e
    · rename_i e1; rw [lowA_mono h e1]; exact lowAs_mono h e
    · cases e
end
theorem lowM_snoc {n k : Nat} (h : n ≤ k) {i : Id} {cs : List Cell} (hi : lowI k i = true) (hc : lowCs k cs = true) : ∀ {l : List (Id × MObj)}, lowM n l = true → lowM k (l ++ [(i, .blk cs)]) = true
  | [], _ => by simp [lowM, hi, hc]
  | (j, .blk ds) :: r, e => by
    simp only [lowM] at e
    split at e
    · rename_i e1 e2
      show lowM k ((j, .blk ds) :: (r ++ [(i, .blk cs)])) = true
      simp only [lowM, lowI_mono h e1, lowCs_mono h e2]
      exact lowM_snoc h hi hc e
    · cases e
  | (j, .arr _ _ _ _) :: r, e => by
    simp only [lowM] at e
    split at e
    · rename_i e1
      show lowM k ((j, .arr ..) :: (r ++ [(i, .blk cs)])) = true
      simp only [lowM, lowI_mono h e1]
      exact lowM_snoc h hi hc e
    · cases e
theorem beqI_refl (i : Id) : beqI i i = true := by cases i <;> simp [beqI]
theorem sameKeys_snoc {i : Id} {x y : MObj} : ∀ {a b : List (Id × MObj)}, sameKeys a b = true → sameKeys (a ++ [(i, x)]) (b ++ [(i, y)]) = true
  | [], [], _ => by simp [sameKeys, beqI_refl]
  | (j, p) :: r, (k, q) :: t, h => by
    simp only [sameKeys] at h
    split at h
    · rename_i e
      show sameKeys ((j, p) :: (r ++ [(i, x)])) ((k, q) :: (t ++ [(i, y)])) = true
      simp only [sameKeys, e]
      exact sameKeys_snoc h
    · cases h
  | [], _ :: _, h => by cases h
  | _ :: _, [], h => by cases h
theorem tameB_ok {m m' : Mem} {l : List AV} (h : tameB m m' l = true) : lowAs m.nx l = true ∧ lowM m.nx m.o = true ∧ m'.nx = m.nx ∧ sameKeys m.o m'.o = true := by
  unfold tameB at h
  split at h
  · rename_i a b c d; exact ⟨a, b, natBeq c, d⟩
  · cases h
theorem tameB_of {m m' : Mem} {l : List AV} (a : lowAs m.nx l = true) (b : lowM m.nx m.o = true) (c : m'.nx = m.nx) (d : sameKeys m.o m'.o = true) : tameB m m' l = true := by
  unfold tameB
  rw [a, b, d, c]
  simp
theorem lowCs_const {n : Nat} {l : List Value} {cs : List Cell} (h : constCells l = some cs) : lowCs n cs = true := by
  have e := (constCells_spec h).1
  subst e
  clear h
  induction l with
  | nil => rfl
  | cons v r ih => simp only [List.map_cons, lowCs, lowC]; exact ih
theorem sameKeys_some : ∀ {a b : List (Id × MObj)}, sameKeys a b = true → ∀ {i : Id}, mget b i = none → mget a i = none
  | [], [], _, _, _ => rfl
  | (i, x) :: r, (j, y) :: t, h, k, hk => by
    simp only [sameKeys] at h
    split at h
    · rename_i e
      have e := beqI_t e
      subst e
      simp only [mget] at hk ⊢
      split at hk
      · cases hk
      · rename_i e; rw [if_neg e]; exact sameKeys_some h hk
    · cases h
  | [], _ :: _, h, _, _ => by cases h
  | _ :: _, [], h, _, _ => by cases h
def constCellsLow (cs : List Cell) : Prop := ∀ n, lowCs n cs = true
end Go.Abs
