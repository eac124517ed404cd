/- Functions that are given what may change: contracts with a small memory, names changed where they are used. -/
import Derived.Test.YtknjncmgohjpkaaAbsL
namespace Go.Abs
open Go.RowKit

/-! ### Names changed -/

mutual
def renC (ρ : Id → Id) : Cell → Cell
  | .sc v => .sc v
  | .lst es => .lst es
  | .full es => .full es
  | .view o lo n => .view (ρ o) lo n
  | .ptr i off => .ptr (ρ i) off
  | .aptr o i k => .aptr (ρ o) i k
  | .pel cs => .pel cs
  | .fn f caps => .fn f (renCs ρ caps)
def renCs (ρ : Id → Id) : List Cell → List Cell
  | [] => []
  | c :: r => renC ρ c :: renCs ρ r
end
mutual
def renA (ρ : Id → Id) : AV → AV
  | .c x => .c (renC ρ x)
  | .agg cs => .agg (renCs ρ cs)
  | .tup l => .tup (renAs ρ l)
def renAs (ρ : Id → Id) : List AV → List AV
  | [] => []
  | x :: r => renA ρ x :: renAs ρ r
end
def renO (ρ : Id → Id) : MObj → MObj
  | .blk cs => .blk (renCs ρ cs)
  | .arr e sz es fr => .arr e sz es fr

mutual
def inC (D : Id → Prop) : Cell → Prop
  | .sc _ => True
  | .lst _ => True
  | .full _ => True
  | .view o _ _ => D o
  | .ptr i _ => D i
  | .aptr o _ _ => D o
  | .pel _ => True
  | .fn _ caps => inCs D caps
def inCs (D : Id → Prop) : List Cell → Prop
  | [] => True
  | c :: r => inC D c ∧ inCs D r
end
mutual
def inA (D : Id → Prop) : AV → Prop
  | .c x => inC D x
  | .agg cs => inCs D cs
  | .tup l => inAs D l
def inAs (D : Id → Prop) : List AV → Prop
  | [] => True
  | x :: r => inA D x ∧ inAs D r
end
def inO (D : Id → Prop) : MObj → Prop
  | .blk cs => inCs D cs
  | .arr .. => True

theorem renCs_get {ρ : Id → Id} : ∀ {l : List Cell} {j : Nat}, (renCs ρ l)[j]? = (l[j]?).map (renC ρ)
  | [], j => by simp [renCs]
  | c :: r, 0 => by simp [renCs]
  | c :: r, j + 1 => by simpa [renCs] using renCs_get (l := r) (j := j)
theorem renCs_len {ρ : Id → Id} : ∀ {l : List Cell}, (renCs ρ l).length = l.length
  | [] => rfl
  | c :: r => by simp [renCs, renCs_len (l := r)]
theorem renAs_get {ρ : Id → Id} : ∀ {l : List AV} {j : Nat}, (renAs ρ l)[j]? = (l[j]?).map (renA ρ)
  | [], j => by simp [renAs]
  | c :: r, 0 => by simp [renAs]
  | c :: r, j + 1 => by simpa [renAs] using renAs_get (l := r) (j := j)
theorem renAs_len {ρ : Id → Id} : ∀ {l : List AV}, (renAs ρ l).length = l.length
  | [] => rfl
  | c :: r => by simp [renAs, renAs_len (l := r)]
theorem inCs_get {D : Id → Prop} : ∀ {l : List Cell} {j : Nat} {c : Cell}, inCs D l → l[j]? = some c → inC D c
  | [], _, _, _, h => by simp at h
  | x :: r, 0, c, h, hc => by simp at hc; subst hc; exact h.1
  | x :: r, j + 1, c, h, hc => inCs_get (l := r) (j := j) h.2 (by simpa using hc)
theorem inAs_get {D : Id → Prop} : ∀ {l : List AV} {j : Nat} {c : AV}, inAs D l → l[j]? = some c → inA D c
  | [], _, _, _, h => by simp at h
  | x :: r, 0, c, h, hc => by simp at hc; subst hc; exact h.1
  | x :: r, j + 1, c, h, hc => inAs_get (l := r) (j := j) h.2 (by simpa using hc)

/-- The names of one ghost, as those of another. -/
structure Link (ρ : Id → Id) (D : Id → Prop) (g g' : G) : Prop where
  K : ∀ i, D i → (g.K i ↔ g'.K (ρ i))
  β : ∀ i, D i → g.K i → g.β i = g'.β (ρ i)
  sz : ∀ i, D i → g.K i → g.sz i = g'.sz (ρ i)
  F : g.F = g'.F

variable {ρ : Id → Id} {D : Id → Prop} {g g' : G} {w : World}

theorem Link.pushC (h : Link ρ D g g') {c : Cell} {v : Value} (hr : RepC g w c v) : inC D c → RepC g' w (renC ρ c) v := by
  induction hr with
  | pure hp =>
    intro _
    rw [h.F] at hp
    cases hp with
    | sc hs => exact .pure (.sc hs)
    | emp h hn => exact .pure (.emp h hn)
    | lst u a b c d e => exact .pure (.lst u a b c d e)
  | full hp => intro _; rw [h.F] at hp; exact .full hp
  | view hk hv hn ha hsp =>
    intro hD
    exact .view ((h.K _ hD).1 hk) ((h.β _ hD hk).symm.trans hv) hn (by rw [← h.sz _ hD hk]; exact ha) hsp
  | ptr hk hv =>
    intro hD
    exact .ptr ((h.K _ hD).1 hk) ((h.β _ hD hk).symm.trans hv)
  | aptr hk hv =>
    rename_i o i k b len cap
    intro hD
    have := RepC.aptr (g := g') (w := w) (i := i) (k := k) ((h.K _ hD).1 hk) ((h.β _ hD hk).symm.trans hv)
    rw [← h.sz _ hD hk] at this
    exact this
  | pel u hc hr => intro _; rw [h.F] at hc hr; exact .pel u hc hr
  | fn us hl _ ih =>
    intro hD
    refine .fn us (by rw [renCs_len]; exact hl) fun j c u hj hu => ?_
    rw [renCs_get] at hj
    cases hc : (‹List Cell› : List Cell)[j]? with
    | none => rw [hc] at hj; cases hj
    | some c0 =>
      rw [hc] at hj
      simp at hj
      subst hj
      exact ih j c0 u hc hu (inCs_get hD hc)

theorem Link.pullC (h : Link ρ D g g') {c' : Cell} {v : Value} (hr : RepC g' w c' v) : ∀ c, renC ρ c = c' → inC D c → RepC g w c v := by
  induction hr with
  | pure hp =>
    intro c e _
    rw [← h.F] at hp
    cases c <;> simp only [renC] at e <;> subst e <;> first | exact .pure hp | cases hp
  | full hp =>
    intro c e _
    rw [← h.F] at hp
    cases c <;> simp only [renC] at e <;> first | (cases e; done) | skip
    simp at e
    subst e
    exact .full hp
  | view hk hv hn ha hsp =>
    intro c e hD
    cases c <;> simp only [renC] at e <;> first | (cases e; done) | skip
    simp at e
    obtain ⟨rfl, rfl, rfl⟩ := e
    have hk' := (h.K _ hD).2 hk
    exact .view hk' ((h.β _ hD hk').trans hv) hn (by rw [h.sz _ hD hk']; exact ha) hsp
  | ptr hk hv =>
    intro c e hD
    cases c <;> simp only [renC] at e <;> first | (cases e; done) | skip
    simp at e
    obtain ⟨rfl, rfl⟩ := e
    have hk' := (h.K _ hD).2 hk
    exact .ptr hk' ((h.β _ hD hk').trans hv)
  | aptr hk hv =>
    rename_i o i k b len cap
    intro c e hD
    cases c <;> simp only [renC] at e <;> first | (cases e; done) | skip
    simp at e
    obtain ⟨rfl, rfl, rfl⟩ := e
    have hk' := (h.K _ hD).2 hk
    rw [← h.sz _ hD hk']
    exact .aptr hk' ((h.β _ hD hk').trans hv)
  | pel u hc hr =>
    intro c e _
    rw [← h.F] at hc hr
    cases c <;> simp only [renC] at e <;> first | (cases e; done) | skip
    simp at e
    subst e
    exact .pel u hc hr
  | fn us hl _ ih =>
    intro c e hD
    cases c <;> simp only [renC] at e <;> first | (cases e; done) | skip
    simp at e
    obtain ⟨rfl, rfl⟩ := e
    rw [renCs_len] at hl
    exact .fn us hl fun j c u hj hu => ih j (renC ρ c) u (by rw [renCs_get, hj]; rfl) hu c rfl (inCs_get hD hj)

theorem Link.pushA (h : Link ρ D g g') {x : AV} {v : Value} (hr : RepA g w x v) : inA D x → RepA g' w (renA ρ x) v := by
  induction hr with
  | c hc => intro hD; exact .c (h.pushC hc hD)
  | agg us hl hc =>
    intro hD
    refine .agg us (by rw [renCs_len]; exact hl) fun j c u hj hu => ?_
    rw [renCs_get] at hj
    cases hc' : (‹List Cell› : List Cell)[j]? with
    | none => rw [hc'] at hj; cases hj
    | some c0 =>
      rw [hc'] at hj
      simp at hj
      subst hj
      exact h.pushC (hc j c0 u hc' hu) (inCs_get hD hc')
  | tup us hl _ ih =>
    intro hD
    refine .tup us (by rw [renAs_len]; exact hl) fun j c u hj hu => ?_
    rw [renAs_get] at hj
    cases hc' : (‹List AV› : List AV)[j]? with
    | none => rw [hc'] at hj; cases hj
    | some c0 =>
      rw [hc'] at hj
      simp at hj
      subst hj
      exact ih j c0 u hc' hu (inAs_get hD hc')

theorem Link.pullA (h : Link ρ D g g') {x' : AV} {v : Value} (hr : RepA g' w x' v) : ∀ x, renA ρ x = x' → inA D x → RepA g w x v := by
  induction hr with
  | c hc =>
    intro x e hD
    cases x <;> simp only [renA] at e <;> first | (cases e; done) | skip
    simp at e
    exact .c (h.pullC hc _ e hD)
  | agg us hl hc =>
    intro x e hD
    cases x <;> simp only [renA] at e <;> first | (cases e; done) | skip
    simp at e
    subst e
    rw [renCs_len] at hl
    exact .agg us hl fun j c u hj hu => h.pullC (hc j (renC ρ c) u (by rw [renCs_get, hj]; rfl) hu) c rfl (inCs_get hD hj)
  | tup us hl _ ih =>
    intro x e hD
    cases x <;> simp only [renA] at e <;> first | (cases e; done) | skip
    simp at e
    subst e
    rw [renAs_len] at hl
    exact .tup us hl fun j c u hj hu => ih j (renA ρ c) u (by rw [renAs_get, hj]; rfl) hu c rfl (inAs_get hD hj)

theorem Link.pushO (h : Link ρ D g g') {i : Id} {o : MObj} (hi : D i) (hk : g.K i) (ho : ObjOk g w i o) (hD : inO D o) : ObjOk g' w (ρ i) (renO ρ o) := by
  cases ho with
  | blk us hv hh hl hr h1 hf =>
    refine .blk us ((h.β i hi hk).symm.trans hv) hh (by rw [renCs_len]; exact hl) (fun j c u hj hu => ?_) h1 (fun o => by rw [← h.F]; exact hf o)
    rw [renCs_get] at hj
    cases hc' : (‹List Cell› : List Cell)[j]? with
    | none => rw [hc'] at hj; cases hj
    | some c0 =>
      rw [hc'] at hj
      simp at hj
      subst hj
      exact h.pushC (hr j c0 u hc' hu) (inCs_get hD hc')
  | arr us hz ho hs hr h1 hf =>
    refine .arr us ((h.sz i hi hk).symm.trans hz) (by rw [← h.β i hi hk]; exact ho) hs (fun k x hx j c hj => ?_) h1 (fun b o hb hF => hf b o (by rw [h.β i hi hk]; exact hb) (by rw [h.F]; exact hF))
    obtain ⟨u, h2, h3⟩ := hr k x hx j c hj
    exact ⟨u, h2, by rw [← h.F]; exact h3⟩

theorem Link.pullO (h : Link ρ D g g') {i : Id} {o : MObj} (hi : D i) (hk : g.K i) (ho : ObjOk g' w (ρ i) (renO ρ o)) (hD : inO D o) : ObjOk g w i o := by
  cases o with
  | blk cs =>
    cases ho with
    | blk us hv hh hl hr h1 hf =>
      rw [renCs_len] at hl
      exact .blk us ((h.β i hi hk).trans hv) hh hl (fun j c u hj hu => h.pullC (hr j (renC ρ c) u (by rw [renCs_get, hj]; rfl) hu) c rfl (inCs_get hD hj)) h1 (fun o => by rw [h.F]; exact hf o)
  | arr e sz es fr =>
    cases ho with
    | arr us hz ho hs hr h1 hf =>
      refine .arr us ((h.sz i hi hk).trans hz) (by rw [h.β i hi hk]; exact ho) hs (fun k x hx j c hj => ?_) h1 (fun b o hb hF => hf b o (by rw [← h.β i hi hk]; exact hb) (by rw [← h.F]; exact hF))
      obtain ⟨u, h2, h3⟩ := hr k x hx j c hj
      exact ⟨u, h2, by rw [h.F]; exact h3⟩

mutual
theorem renC_id : ∀ c : Cell, renC id c = c
  | .sc _ => rfl
  | .lst _ => rfl
  | .full _ => rfl
  | .view _ _ _ => rfl
  | .ptr _ _ => rfl
  | .aptr _ _ _ => rfl
  | .pel _ => rfl
  | .fn f caps => by simp only [renC, renCs_id caps]
theorem renCs_id : ∀ l : List Cell, renCs id l = l
  | [] => rfl
  | c :: r => by simp only [renCs, renC_id c, renCs_id r]
end
mutual
theorem renA_id : ∀ x : AV, renA id x = x
  | .c x => by simp only [renA, renC_id]
  | .agg cs => by simp only [renA, renCs_id]
  | .tup l => by simp only [renA, renAs_id l]
theorem renAs_id : ∀ l : List AV, renAs id l = l
  | [] => rfl
  | c :: r => by simp only [renAs, renA_id c, renAs_id r]
end
theorem renO_id (o : MObj) : renO id o = o := by cases o <;> simp only [renO, renCs_id]


def beqI : Id → Id → Bool
  | .x a, .x b => Nat.beq a b
  | .l a b, .l c d => match Nat.beq a c with
    | true => Nat.beq b d
    | false => false
  | _, _ => false

theorem natBeq {a b : Nat} (h : Nat.beq a b = true) : a = b := Nat.eq_of_beq_eq_true h
theorem natBeqF {a b : Nat} (h : Nat.beq a b = false) : a ≠ b := fun e => by subst e; simp at h
theorem beqI_t {i j : Id} (h : beqI i j = true) : i = j := by
  cases i <;> cases j <;> simp only [beqI] at h <;> try (cases h; done)
  · rw [natBeq h]
  · split at h
    · rename_i h1; rw [natBeq h1, natBeq h]
    · cases h
theorem beqI_f {i j : Id} (h : beqI i j = false) : i ≠ j := by
  rintro rfl
  cases i <;> simp [beqI] at h

theorem beqI_refl (i : Id) : beqI i i = true := by cases i <;> simp [beqI]
end Go.Abs
