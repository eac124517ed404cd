/- Regions: the text's order stands for every order that may be drawn. -/
import Derived.Test.YtfhnicamjcfddaaGreatDoorAbsW
namespace Go.Abs
open Go.RowKit

section
variable {P : Program}

theorem evs_congr {φ φ' : Nat → Option AV} : ∀ {l : List Operand}, (∀ x ∈ l, ev φ x = ev φ' x) → evs φ l = evs φ' l
  | [], _ => rfl
  | x :: r, h => by
    unfold evs
    rw [h x (by simp), evs_congr fun y hy => h y (by simp [hy])]

theorem parts_congr {φ φ' : Nat → Option AV} {sz : Nat} : ∀ {l : List (Nat × Operand)} {i : Nat} {m : Mem}, (∀ x ∈ l, ev φ x.2 = ev φ' x.2) → parts φ sz i l m = parts φ' sz i l m
  | [], _, _, _ => rfl
  | (k, x) :: r, i, m, h => by
    have ih : ∀ m1, parts φ sz (i + 1) r m1 = parts φ' sz (i + 1) r m1 := fun m1 => parts_congr fun y hy => h y (by simp [hy])
    unfold parts
    rw [h (k, x) (by simp)]
    simp only [ih]

theorem buildF_congr {φ φ' : Nat → Option AV} {fs : List (Nat × TypeId)} : ∀ {l : List (Nat × Operand)} {cs : List Cell}, (∀ x ∈ l, ev φ x.2 = ev φ' x.2) → buildF φ P fs cs l = buildF φ' P fs cs l
  | [], _, _ => rfl
  | (k, x) :: r, cs, h => by
    have ih : ∀ cs, buildF φ P fs cs r = buildF φ' P fs cs r := fun cs => buildF_congr fun y hy => h y (by simp [hy])
    unfold buildF
    rw [h (k, x) (by simp)]
    simp only [ih]

theorem opF_congr {φ φ' : Nat → Option AV} {op : Op} {d : Nat} {m : Mem} (h : ∀ x ∈ op.operands, ev φ x = ev φ' x) : opF P op d φ m = opF P op d φ' m := by
  unfold opF
  cases op <;> simp only [Op.operands, Call.operands] at h <;> try rfl
  case move x => simp only [h x (by simp)]
  case assign x => simp only [h x (by simp)]
  case pick c a b => simp only [h c (by simp), h a (by simp), h b (by simp)]
  case box T x => simp only [h x (by simp)]
  case build T ps =>
    have hh : ∀ cs fs, buildF φ P fs cs ps.toList = buildF φ' P fs cs ps.toList := fun cs fs => buildF_congr fun x hx => h x.2 (by simp; exact ⟨x.1, by simpa using hx⟩)
    simp only [hh]
  case buildSlice T n ps =>
    have hh : ∀ sz, parts φ sz 0 ps.toList m = parts φ' sz 0 ps.toList m := fun sz => parts_congr fun x hx => h x.2 (by simp; exact ⟨x.1, by simpa using hx⟩)
    simp only [hh]
  case makeSlice t x y => simp only [h x (by simp), h y (by simp)]
  case load t x => simp only [h x (by simp)]
  case nilCheck x => simp only [h x (by simp)]
  case binOp op t x y t' => simp only [h x (by simp), h y (by simp)]
  case unOp op t x => simp only [h x (by simp)]
  case convert s t x => simp only [h x (by simp)]
  case fieldAddr s x f => simp only [h x (by simp)]
  case field s x f => simp only [h x (by simp)]
  case indexAddr t x y => simp only [h x (by simp), h y (by simp)]
  case index t x y => simp only [h x (by simp), h y (by simp)]
  case extract x i => simp only [h x (by simp)]
  case makeMap t r => cases r <;> rfl
  case lookup t x y ok => cases ok <;> simp only [h x (by simp), h y (by simp)]
  case slice t x lo hi mx =>
    have e1 : lo.map (ev φ) = lo.map (ev φ') := by cases lo <;> simp; exact h _ (by simp)
    have e2 : hi.map (ev φ) = hi.map (ev φ') := by cases hi <;> simp; exact h _ (by simp)
    have e3 : mx.map (ev φ) = mx.map (ev φ') := by cases mx <;> simp; exact h _ (by simp)
    simp only [h x (by simp), e1, e2, e3]
  case makeFunc fn first caps =>
    have hh : evs φ caps.toList = evs φ' caps.toList := evs_congr fun x hx => h x (by simp at hx ⊢; exact .inr hx)
    cases fn <;> first | rfl | simp only [hh]
  case call c =>
    obtain ⟨callee, args, ats⟩ := c
    have hh : evs φ args.toList = evs φ' args.toList := evs_congr fun x hx => h x (by simp at hx ⊢; exact .inr hx)
    cases callee <;> first | rfl | simp only [hh]

/-- A call, abstractly: what is right of it wherever it is made. -/
def CallSem (P : Program) (f : Nat) (args : List AV) (m : Mem) (r : AV) (m' : Mem) : Prop :=
  (∀ vals w, (callFunc f vals).run P w = .ok (.enter f vals) w) ∧
  ∀ (B : Base) (g : G) (w : World) (vals : List Value), Inv B g m w → vals.length = args.length → (∀ (j : Nat) a v, args[j]? = some a → vals[j]? = some v → RepA g w a v) →
    Calls P f vals.toArray w fun e w' => ∃ v g', e = .returned v ∧ Ext g w g' w' ∧ RepA g' w' r v ∧ Inv B g' m' w'

/-- 0: its own operands alone; 1: it reads; 2: it may change the small memory. -/
def clsOf (qc : Nat → Bool) (o : Oper) : Nat :=
  match o.op with
  | .move _ | .assign _ | .pick .. | .build .. | .unOp .. | .binOp .. | .convert .. | .fieldAddr .. | .field .. | .extract .. | .index .. | .nilCheck _ | .makeFunc .. => 0
  | .call { callee := .builtin .len, .. } | .call { callee := .builtin .min, .. } | .call { callee := .builtin .max, .. } => 0
  | .load .. | .indexAddr .. | .slice .. => 1
  | .call { callee := .value (.func f), .. } => if qc f then 1 else 2
  | _ => 2


/-! ### What an operation looks at and changes, by names -/

/-- R: the names that it looks at alone; W: the names that it may change; A: whether it makes a name for its slot. -/
structure Lab where
  R : List Id
  W : List Id
  A : Bool

def noLab : Lab := ⟨[], [], false⟩

def inI (i : Id) : List Id → Bool
  | [] => false
  | j :: r => match beqI i j with
    | true => true
    | false => inI i r
theorem inI_cons {i j : Id} {r : List Id} : inI i (j :: r) = true ↔ i = j ∨ inI i r = true := by
  show (match beqI i j with
    | true => true
    | false => inI i r) = true ↔ _
  cases e : beqI i j with
  | true => simp [beqI_t e]
  | false => simp [beqI_f e]
theorem inI_append {i : Id} : ∀ {a b : List Id}, inI i (a ++ b) = true ↔ inI i a = true ∨ inI i b = true
  | [], b => by simp [inI]
  | j :: a, b => by rw [List.cons_append, inI_cons, inI_cons, inI_append, or_assoc]
theorem inI_nil {i : Id} : inI i [] = false := rfl

def ids1 : Cell → List Id
  | .view o _ _ => [o]
  | .ptr i _ => [i]
  | .aptr o _ _ => [o]
  | .mp i => [i]
  | _ => []
def idsL : List Cell → List Id
  | [] => []
  | c :: r => ids1 c ++ idsL r
def idsA : AV → List Id
  | .c (.fn _ caps) => idsL caps
  | .c x => ids1 x
  | .agg cs => idsL cs
  | .tup _ => []
def idsAs : List AV → List Id
  | [] => []
  | x :: r => idsA x ++ idsAs r

def isD (d : Option Nat) (s : Nat) : Bool :=
  match d with
  | some d => Nat.beq s d
  | none => false

/-- The small memory by what is looked up in it. -/
structure FM where
  μ : Id → Option MObj
  n : Nat
  ν : Nat → Bool
def fm (m : Mem) : FM := ⟨mget m.o, m.nx, fun s => memU s m.us⟩
def updF (ℓ : Lab) (d : Option Nat) (F G : FM) : FM := ⟨fun i => if inI i ℓ.W = true then F.μ i else G.μ i, G.n, fun s => G.ν s || (ℓ.A && isD d s)⟩
def AgreeF (ℓ : Lab) (F : FM) (M : Mem) : Prop := (∀ i, inI i ℓ.R = true ∨ inI i ℓ.W = true → mget M.o i = F.μ i) ∧ M.nx = F.n

theorem fm_ext {F G : FM} (h1 : ∀ i, F.μ i = G.μ i) (h2 : F.n = G.n) (h3 : ∀ s, F.ν s = G.ν s) : F = G := by
  obtain ⟨a, b, c⟩ := F
  obtain ⟨a', b', c'⟩ := G
  simp only at h1 h2 h3
  rw [show a = a' from funext h1, h2, show c = c' from funext h3]

/-! #### Changes by names -/

/-- M' is M, but as m' at the names W. -/
structure UpdW (W : List Id) (m' M M' : Mem) : Prop where
  o : ∀ i, mget M'.o i = if inI i W = true then mget m'.o i else mget M.o i
  nx : M'.nx = M.nx
  us : M'.us = M.us
def AgW (W : List Id) (m M : Mem) : Prop := ∀ i, inI i W = true → mget M.o i = mget m.o i

/-- A change that looks at and touches the names W alone. -/
structure Loc {α : Type} (W : List Id) (m m' : Mem) (a : α) (f : Mem → Option (α × Mem)) : Prop where
  self : UpdW W m' m m'
  all : ∀ M, AgW W m M → ∃ M', f M = some (a, M') ∧ UpdW W m' M M'

theorem Loc.refl {α : Type} {m : Mem} {a : α} {f : Mem → Option (α × Mem)} (h : ∀ M, f M = some (a, M)) : Loc [] m m a f :=
  ⟨⟨fun i => by simp [inI], rfl, rfl⟩, fun M _ => ⟨M, h M, fun i => by simp [inI], rfl, rfl⟩⟩
theorem Loc.bind {α β γ : Type} {W1 W2 : List Id} {m m1 m2 : Mem} {a : α} {b : β} {c : γ} {f : Mem → Option (α × Mem)} {g : Mem → Option (β × Mem)} {h : Mem → Option (γ × Mem)}
    (h1 : Loc W1 m m1 a f) (h2 : Loc W2 m1 m2 b g) (hh : ∀ M M1 M2, f M = some (a, M1) → g M1 = some (b, M2) → h M = some (c, M2)) : Loc (W1 ++ W2) m m2 c h := by
  have key : ∀ M M1 M2, UpdW W1 m1 M M1 → UpdW W2 m2 M1 M2 → UpdW (W1 ++ W2) m2 M M2 := fun M M1 M2 u1 u2 => by
    refine ⟨fun i => ?_, u2.nx.trans u1.nx, u2.us.trans u1.us⟩
    rw [u2.o i]
    by_cases e2 : inI i W2 = true
    · rw [if_pos e2, if_pos (inI_append.2 (.inr e2))]
    · rw [if_neg e2, u1.o i]
      by_cases e1 : inI i W1 = true
      · rw [if_pos e1, if_pos (inI_append.2 (.inl e1)), h2.self.o i, if_neg e2]
      · rw [if_neg e1, if_neg (fun e => (inI_append.1 e).elim e1 e2)]
  refine ⟨key _ _ _ h1.self h2.self, fun M hM => ?_⟩
  obtain ⟨M1, e1, u1⟩ := h1.all M fun i hi => hM i (inI_append.2 (.inl hi))
  obtain ⟨M2, e2, u2⟩ := h2.all M1 fun i hi => by
    rw [u1.o i, h1.self.o i]
    by_cases e : inI i W1 = true
    · rw [if_pos e, if_pos e]
    · rw [if_neg e, if_neg e]; exact hM i (inI_append.2 (.inr hi))
  exact ⟨M2, hh _ _ _ e1 e2, key _ _ _ u1 u2⟩
theorem Loc.map {α γ : Type} {W1 : List Id} {m m1 : Mem} {a : α} {c : γ} {f : Mem → Option (α × Mem)} {h : Mem → Option (γ × Mem)}
    (h1 : Loc W1 m m1 a f) (hh : ∀ M M1, f M = some (a, M1) → h M = some (c, M1)) : Loc W1 m m1 c h :=
  ⟨h1.self, fun M hM => by obtain ⟨M', e, u⟩ := h1.all M hM; exact ⟨M', hh _ _ e, u⟩⟩

theorem updW_mset {m : Mem} {i : Id} {o : MObj} : ∀ M : Mem, UpdW [i] { m with o := mset m.o i o } M { M with o := mset M.o i o } := fun M => by
  refine ⟨fun j => ?_, rfl, rfl⟩
  simp only [mget_mset]
  by_cases e : j = i
  · rw [if_pos e, if_pos (inI_cons.2 (.inl e)), if_pos e]
  · rw [if_neg e, if_neg (fun h => (inI_cons.1 h).elim e (by simp [inI]))]
theorem loc_mset {α : Type} {m : Mem} {i : Id} {o : MObj} {a : α} {f : Mem → Option (α × Mem)} (h : ∀ M : Mem, mget M.o i = mget m.o i → f M = some (a, { M with o := mset M.o i o })) : Loc [i] m { m with o := mset m.o i o } a f :=
  ⟨updW_mset m, fun M hM => ⟨_, h M (hM i (inI_cons.2 (.inl rfl))), updW_mset M⟩⟩

theorem pur_loc {m m' : Mem} {c c' : Cell} (h : pur m c = some (c', m')) : Loc (ids1 c) m m' c' (pur · c) := by
  unfold pur at h
  split at h
  · simp at h; obtain ⟨rfl, rfl⟩ := h; exact .refl fun _ => rfl
  · simp at h; obtain ⟨rfl, rfl⟩ := h; exact .refl fun _ => rfl
  · simp at h; obtain ⟨rfl, rfl⟩ := h; exact .refl fun _ => rfl
  · split at h
    · split at h
      · rename_i o lo n _ e sz es fr ho hl
        simp at h
        obtain ⟨rfl, rfl⟩ := h
        exact loc_mset fun M hM => by simp only [pur, hM, ho, if_pos hl]
      · cases h
    · cases h
  · cases h
theorem purL_loc : ∀ {l l' : List Cell} {m m' : Mem}, purL m l = some (l', m') → Loc (idsL l) m m' l' (purL · l)
  | [], _, m, m', h => by simp [purL] at h; obtain ⟨rfl, rfl⟩ := h; exact .refl fun _ => rfl
  | c :: r, l', m, m', h => by
    unfold purL at h
    split at h
    · rename_i e1
      split at h
      · rename_i e2
        simp at h
        obtain ⟨rfl, rfl⟩ := h
        exact (pur_loc e1).bind (purL_loc e2) fun M M1 M2 h1 h2 => by simp only [purL, h1, h2]
      · cases h
    · cases h

/-- The names of operands. -/
def idsO (L : Nat → Option AV) (x : Operand) : List Id :=
  match ev L x with
  | some a => idsA a
  | none => []
def idsP (L : Nat → Option AV) : List (Nat × Operand) → List Id
  | [] => []
  | (_, x) :: r => idsO L x ++ idsP L r

theorem idsL_av {a : AV} {cs : List Cell} (h : avCells a = some cs) : ∀ i, inI i (idsL cs) = true → inI i (idsA a) = true := by
  intro i hi
  cases a with
  | c x =>
    simp [avCells] at h
    subst h
    simp only [idsL, List.append_nil] at hi
    cases x <;> first | exact hi | (simp [ids1, inI] at hi)
  | agg l => simp [avCells] at h; subst h; exact hi
  | tup l => cases h

theorem Loc.mono {α : Type} {W W2 : List Id} {m m' : Mem} {a : α} {f : Mem → Option (α × Mem)} (h : Loc W m m' a f) (hs : ∀ i, inI i W = true → inI i W2 = true) : Loc W2 m m' a f := by
  have key : ∀ M M', AgW W2 m M → UpdW W m' M M' → UpdW W2 m' M M' := fun M M' hM u => by
    refine ⟨fun i => ?_, u.nx, u.us⟩
    rw [u.o i]
    by_cases e : inI i W = true
    · rw [if_pos e, if_pos (hs i e)]
    · rw [if_neg e]
      by_cases e2 : inI i W2 = true
      · rw [if_pos e2, h.self.o i, if_neg e, hM i e2]
      · rw [if_neg e2]
  refine ⟨key m m' (fun _ _ => rfl) h.self, fun M hM => ?_⟩
  obtain ⟨M', e, u⟩ := h.all M fun i hi => hM i (hs i hi)
  exact ⟨M', e, key M M' hM u⟩

theorem parts_loc {L : Nat → Option AV} {sz : Nat} : ∀ {l : List (Nat × Operand)} {i : Nat} {es : List (List Cell)} {m m' : Mem}, parts L sz i l m = some (es, m') → Loc (idsP L l) m m' es (parts L sz i l ·)
  | [], _, _, m, m', h => by simp [parts] at h; obtain ⟨rfl, rfl⟩ := h; exact .refl fun _ => rfl
  | (k, x) :: r, i, es, m, m', h => by
    unfold parts at h
    split at h
    · rename_i hk
      split at h
      · rename_i a hx
        split at h
        · rename_i cs hcs
          split at h
          · rename_i hsz
            split at h
            · rename_i pcs m1 e1
              split at h
              · rename_i l2 m2 e2
                simp at h
                obtain ⟨rfl, rfl⟩ := h
                have := ((purL_loc e1).mono (idsL_av hcs)).bind (c := pcs :: l2) (h := (parts L sz i ((k, x) :: r) ·)) (parts_loc e2) fun M M1 M2 h1 h2 => by simp only [parts, if_pos hk, hx, hcs, if_pos hsz, h1, h2]
                have e : idsP L ((k, x) :: r) = idsA a ++ idsP L r := by simp only [idsP, idsO, hx]
                rw [e]
                exact this
              · cases h
            · cases h
          · cases h
        · cases h
      · cases h
    · cases h

/-! #### Reads -/

theorem loadF_loc {ti : TI} {m M : Mem} {p : AV} (h : AgW (idsA p) m M) : loadF ti M p = loadF ti m p := by
  unfold loadF
  split
  · rw [h _ (inI_cons.2 (.inl rfl))]
  · rw [h _ (inI_cons.2 (.inl rfl))]
  · rfl
  · rfl
theorem indexF_loc {m M : Mem} {t : Nat} {p ix : AV} (h : AgW (idsA p) m M) : indexF P M t p ix = indexF P m t p ix := by
  unfold indexF
  split
  · split
    · rfl
    · split
      · split
        · rfl
        · rfl
        · rw [h _ (inI_cons.2 (.inl rfl))]
        · rfl
      · rfl
  · rfl
  · rfl
theorem sliceF_loc {m M : Mem} {t : Nat} {p : AV} {lo hi mx : Option (Option AV)} (h : AgW (idsA p) m M) : sliceF P M t p lo hi mx = sliceF P m t p lo hi mx := by
  unfold sliceF
  split
  · split
    · split
      · split
        · split
          · split
            · rfl
            · rfl
            · rfl
            · rw [h _ (inI_cons.2 (.inl rfl))]
            · rfl
          · rfl
        · rfl
      · rfl
    · rfl
  · rfl
theorem elems_loc {m M : Mem} {c : Cell} (h : AgW (ids1 c) m M) : elems M c = elems m c := by
  unfold elems
  split
  · rfl
  · rfl
  · rfl
  · rw [h _ (inI_cons.2 (.inl rfl))]
  · rfl

theorem mapF_loc {m M : Mem} {t : Nat} {p ix : AV} (h : AgW (idsA p) m M) : mapF P t M p ix = mapF P t m p ix := by
  unfold mapF
  split
  · rw [h _ (inI_cons.2 (.inl rfl))]
  · rfl

/-! #### Stores -/

def labStore (p v : AV) : List Id :=
  match p with
  | .c (.ptr i _) => [i]
  | p => idsA v ++ idsA p
theorem storeF_loc {ti : TI} {m m' : Mem} {p v : AV} (h : storeF ti m p v = some m') : Loc (labStore p v) m m' () (fun M => (storeF ti M p v).map fun M' => ((), M')) := by
  unfold storeF at h
  split at h
  · cases h
  · rename_i cs' hcs
    split at h
    · rename_i hl
      split at h
      · rename_i i off
        split at h
        · rename_i cs hm
          split at h
          · rename_i hb
            simp at h
            subst h
            exact loc_mset fun M hM => by simp only [storeF, hcs, if_pos hl, hM, hm, if_pos hb, Option.map_some]
          · cases h
        · cases h
      · rename_i o i k
        split at h
        · rename_i pcs m1 hp
          split at h
          · rename_i e sz es hm
            split at h
            · rename_i cs hes
              split at h
              · rename_i hb
                simp at h
                subst h
                have h1 := (purL_loc hp).mono (idsL_av hcs)
                have h2 : Loc [o] m1 { m1 with o := mset m1.o o (.arr e sz (es.set i (wr cs k pcs)) false) } () (fun M => match mget M.o o with
                  | some (.arr e sz es false) => match es[i]? with
                    | some cs => if k + ti.size ≤ cs.length then some ((), { M with o := mset M.o o (.arr e sz (es.set i (wr cs k pcs)) false) }) else none
                    | none => none
                  | _ => none) := loc_mset fun M hM => by simp only [hM, hm, hes, if_pos hb]
                refine h1.bind h2 fun M M1 M2 g1 g2 => ?_
                simp only [storeF, hcs, if_pos hl, g1]
                split at g2
                · split at g2
                  · split at g2
                    · rename_i e1 _ _ e2 e3
                      simp at g2
                      subst g2
                      simp only [e1, e2, if_pos e3, Option.map_some]
                    · cases g2
                  · cases g2
                · cases g2
              · cases h
            · cases h
          · cases h
        · cases h
      · cases h
    · cases h

/-! #### All operations that do not call -/

def labBI (b : Builtin) (args : List AV) (i : Id) : Lab :=
  match b, args with
  | .append, [s, x] => ⟨idsA x, i :: idsA s, true⟩
  | .copy, [s, x] => ⟨idsA x, idsA s, false⟩
  | _, _ => noLab
def labOp (op : Op) (d nx : Nat) (L : Nat → Option AV) : Lab :=
  match op with
  | .alloc _ => ⟨[], [.l d nx], true⟩
  | .box _ _ => ⟨[], [.l d nx], true⟩
  | .makeSlice .. => ⟨[], [.l d nx], true⟩
  | .buildSlice _ _ ps => ⟨[], .l d nx :: idsP L ps.toList, true⟩
  | .load _ a => ⟨idsO L a, [], false⟩
  | .makeMap _ _ => ⟨[], [.l d nx], true⟩
  | .lookup _ x _ _ => ⟨idsO L x, [], false⟩
  | .indexAddr _ x _ => ⟨idsO L x, [], false⟩
  | .slice _ x _ _ _ => ⟨idsO L x, [], false⟩
  | .call { callee := .builtin b, args, .. } => match evs L args.toList with
    | some l => labBI b l (.l d nx)
    | none => noLab
  | _ => noLab

/-- A step that looks at the names of its label alone, and changes these of W alone. -/
structure LocL (ℓ : Lab) (d : Nat) (m m' : Mem) (x : AV) (f : Mem → Option (AV × Mem)) : Prop where
  self : fm m' = updF ℓ (some d) (fm m') (fm m)
  all : ∀ M, AgreeF ℓ (fm m) M → ∃ M', f M = some (x, M') ∧ fm M' = updF ℓ (some d) (fm m') (fm M)

theorem locL_quiet {ℓ : Lab} (hW : ℓ.W = []) (hA : ℓ.A = false) {d : Nat} {m : Mem} {x : AV} {f : Mem → Option (AV × Mem)} (h : ∀ M, AgreeF ℓ (fm m) M → f M = some (x, M)) : LocL ℓ d m m x f := by
  have key : ∀ M, fm M = updF ℓ (some d) (fm m) (fm M) := fun M => fm_ext (fun i => by simp [updF, hW, inI]) rfl (fun s => by simp [updF, hA])
  exact ⟨key m, fun M hM => ⟨M, h M hM, key M⟩⟩
theorem locL_of {R W : List Id} {d : Nat} {m m' : Mem} {x : AV} {f : Mem → Option (AV × Mem)} (hs : UpdW W m' m m') (h : ∀ M, AgreeF ⟨R, W, false⟩ (fm m) M → ∃ M', f M = some (x, M') ∧ UpdW W m' M M') : LocL ⟨R, W, false⟩ d m m' x f := by
  have key : ∀ M M', UpdW W m' M M' → fm M' = updF ⟨R, W, false⟩ (some d) (fm m') (fm M) := fun M M' u => fm_ext (fun i => u.o i) u.nx (fun s => by simp [fm, updF, u.us])
  exact ⟨key _ _ hs, fun M hM => by obtain ⟨M', e, u⟩ := h M hM; exact ⟨M', e, key _ _ u⟩⟩

theorem addObj_loc {R W : List Id} {d : Nat} {m m1 : Mem} {obj : MObj} {x : AV} {f : Mem → Option (AV × Mem)} (hs : UpdW W m1 m m1) (h : ∀ M, AgreeF ⟨R, .l d m.nx :: W, true⟩ (fm m) M → ∃ M1, f M = some (x, addObj d M1 obj) ∧ UpdW W m1 M M1) :
    LocL ⟨R, .l d m.nx :: W, true⟩ d m (addObj d m1 obj) x f := by
  have key : ∀ M M1, M.nx = m.nx → mget M.o (.l d m.nx) = mget m.o (.l d m.nx) → UpdW W m1 M M1 → fm (addObj d M1 obj) = updF ⟨R, .l d m.nx :: W, true⟩ (some d) (fm (addObj d m1 obj)) (fm M) := fun M M1 hn he u => by
    have hid : newId d M1 = .l d m.nx := by simp [newId, u.nx, hn]
    have hid1 : newId d m1 = .l d m.nx := by simp [newId, hs.nx]
    refine fm_ext (fun i => ?_) (by simp [fm, updF, addObj, u.nx]) (fun s => ?_)
    · simp only [fm, updF, addObj, mget_snoc, hid, hid1]
      by_cases e : i = .l d m.nx
      · rw [if_pos (inI_cons.2 (.inl e)), u.o i, hs.o i, e]
        by_cases e2 : inI (.l d m.nx) W = true
        · rw [if_pos e2]
        · rw [if_neg e2, if_neg e2, he]
      · simp only [if_neg e]
        by_cases e2 : inI i W = true
        · rw [if_pos (inI_cons.2 (.inr e2)), u.o i, if_pos e2]
        · rw [if_neg (fun h => (inI_cons.1 h).elim e e2), u.o i, if_neg e2]
          cases mget M.o i <;> rfl
    · simp only [fm, updF, addObj, memU, isD, u.us, Bool.true_and]
      cases Nat.beq s d <;> simp
  exact ⟨key _ _ rfl rfl hs, fun M hM => by
    obtain ⟨M1, e, u⟩ := h M hM
    exact ⟨_, e, key M M1 hM.2 (hM.1 _ (.inr (inI_cons.2 (.inl rfl)))) u⟩⟩

theorem updW_nil (m' M : Mem) : UpdW [] m' M M := ⟨fun i => by simp [inI], rfl, rfl⟩
theorem updW_mdel {m : Mem} {i : Id} : ∀ M : Mem, UpdW [i] { m with o := mdel m.o i } M { M with o := mdel M.o i } := fun M => by
  refine ⟨fun j => ?_, rfl, rfl⟩
  simp only [mget_mdel]
  by_cases e : j = i
  · rw [if_pos e, if_pos (inI_cons.2 (.inl e)), if_pos e]
  · rw [if_neg e, if_neg (fun h => (inI_cons.1 h).elim e (by simp [inI]))]
theorem appZ_loc {t t' : TypeId} {d : Nat} {m m' : Mem} {s y : Cell} {x : AV} (h : appZF P t t' d m s y = some (x, m')) : LocL (labBI .append [.c s, .c y] (.l d m.nx)) d m m' x (appZF P t t' d · s y) := by
  have h' := h
  unfold appZF at h
  split at h
  case h_2 => cases h
  rename_i o lo n kq k _ _ _ _ e _ _ _ _ _ kn _ hti hti'
  split at h
  case h_2 => cases h
  rename_i te e' sz es fr hte hm
  split at h
  case h_2 => cases h
  rename_i z hz0
  split at h
  case isFalse => cases h
  rename_i hc
  simp at h
  obtain ⟨rfl, rfl⟩ := h
  exact addObj_loc (W := [o]) (updW_mdel _) fun M hM => ⟨{ M with o := mdel M.o o }, by
    have e : mget M.o o = mget m.o o := hM.1 o (.inr (inI_cons.2 (.inr (inI_cons.2 (.inl rfl)))))
    simp only [appZF, hti, hti', hte, e, hm, hz0, if_pos hc, newId, hM.2]; rfl, updW_mdel _⟩
theorem callB_loc {b : Builtin} {at_ : List TypeId} {d : Nat} {m m' : Mem} {l : List AV} {x : AV} (h : callB P b at_ d m l = some (x, m')) : LocL (labBI b l (.l d m.nx)) d m m' x (callB P b at_ d · l) := by
  have quiet : ∀ {x : AV} {b : Builtin}, labBI b l (.l d m.nx) = noLab → (∀ M, callB P b at_ d M l = some (x, M)) → LocL (labBI b l (.l d m.nx)) d m m x (callB P b at_ d · l) := fun e h => by rw [e]; exact locL_quiet rfl rfl fun M _ => h M
  unfold callB at h
  split at h
  · rename_i t y
    split at h
    · rename_i e0 h1
      split at h
      · rename_i n h2
        simp at h
        obtain ⟨rfl, rfl⟩ := h
        exact quiet rfl fun M => by simp only [callB, h1, h2]
      · cases h
    · rename_i h1
      split at h
      · simp at h
        obtain ⟨rfl, rfl⟩ := h
        exact quiet rfl fun M => by simp [callB, h1]
      · cases h
    · cases h
  · simp only [Option.some.injEq, Prod.mk.injEq] at h
    obtain ⟨rfl, rfl⟩ := h
    exact quiet rfl fun M => rfl
  · simp only [Option.some.injEq, Prod.mk.injEq] at h
    obtain ⟨rfl, rfl⟩ := h
    exact quiet rfl fun M => rfl
  · simp only [Option.some.injEq, Prod.mk.injEq] at h
    obtain ⟨rfl, rfl⟩ := h
    exact quiet rfl fun M => rfl
  · rename_i t t' s y
    split at h
    · rename_i ht
      split at h
      · rename_i ty
        split at h
        · rename_i te es2 h2 h3
          split at h
          · cases h
          · rename_i hc
            have hy : ∀ M, AgreeF ⟨idsA (.c y), .l d m.nx :: idsA (.c s), true⟩ (fm m) M → elems M y = some es2 := fun M hM => by
              rw [← h3]
              exact elems_loc fun i hi => hM.1 i (.inl (by cases y <;> first | exact hi | (simp [ids1, inI] at hi)))
            split at h
            · split at h
              · rename_i hb
                simp at h
                obtain ⟨rfl, rfl⟩ := h
                exact addObj_loc (W := []) (updW_nil _ _) fun M hM => ⟨M, by simp only [callB, if_pos ht, ty, h2, hy M hM, if_neg hc, if_pos hb, newId, hM.2]; rfl, updW_nil _ _⟩
              · cases h
            · split at h
              · cases h
              · split at h
                · rename_i hb
                  simp at h
                  obtain ⟨rfl, rfl⟩ := h
                  exact addObj_loc (W := []) (updW_nil _ _) fun M hM => ⟨M, by simp only [callB, if_pos ht, ty, h2, hy M hM, if_neg hc, if_pos hb, newId, hM.2]; rfl, updW_nil _ _⟩
                · cases h
            · rename_i _ o lo n
              split at h
              · rename_i hm
                split at h
                · rename_i hb
                  simp at h
                  obtain ⟨rfl, rfl⟩ := h
                  exact addObj_loc (W := [o]) (updW_mdel _) fun M hM => ⟨{ M with o := mdel M.o o }, by
                    have e : mget M.o o = mget m.o o := hM.1 o (.inr (inI_cons.2 (.inr (inI_cons.2 (.inl rfl)))))
                    simp only [callB, if_pos ht, ty, h2, hy M hM, if_neg hc, e, hm, if_pos hb, newId, hM.2]; rfl, updW_mdel _⟩
                · cases h
              · cases h
            · cases h
        · cases h
      · cases h
    · rename_i ht
      have e : (callB P .append [t, t'] d · [.c s, .c y]) = (appZF P t t' d · s y) := by funext M; simp only [callB, if_neg ht]
      rw [e]
      exact appZ_loc h
  · rename_i t t' o lo n y
    split at h
    · rename_i ty
      split at h
      · rename_i te es2 _ _ _ h2 h3 h4
        split at h
        · rename_i hc
          simp at h
          obtain ⟨rfl, rfl⟩ := h
          exact locL_of (R := idsA (.c y)) (W := [o]) (updW_mset _) fun M hM => ⟨{ M with o := mset M.o o _ }, by
            have e : mget M.o o = mget m.o o := hM.1 o (.inr (inI_cons.2 (.inl rfl)))
            have hy : elems M y = some es2 := by
              rw [← h3]
              exact elems_loc fun i hi => hM.1 i (.inl (by cases y <;> first | exact hi | (simp [ids1, inI] at hi)))
            simp only [callB, ty, h2, hy, e, h4, if_pos hc], updW_mset _⟩
        · cases h
      · cases h
    · cases h
  · cases h
def appl (u : Option (Nat × AV)) (φ : Nat → Option AV) : Nat → Option AV :=
  match u with
  | none => φ
  | some (d, x) => fun t => if t = d then some x else φ t

def delF (d : Option Nat) (φ : Nat → Option AV) : Nat → Option AV :=
  match d with
  | none => φ
  | some d => fun t => if t = d then some (.tup []) else φ t

def guardF (ops : Array Oper) (o : Oper) (φ : Nat → Option AV) : Option Bool :=
  match o.guard with
  | none => some true
  | some (j, want) => match (ops[j]?).bind (·.dst) with
    | some d => match φ d with
      | some (.c (.sc (.bool b))) => some (b == want)
      | some (.tup []) => some false
      | _ => none
    | none => none

def labUpd : AV → List Id
  | .c (.mp i) => [i]
  | _ => []
theorem updF_loc {t : TypeId} {m m' : Mem} {p q v : AV} (h : updF' P t m p q v = some m') : Loc (labUpd p) m m' () (fun M => (updF' P t M p q v).map fun M' => ((), M')) := by
  unfold updF' at h
  split at h
  · rename_i hti
    split at h
    · rename_i h1 h2 hm
      simp only [Option.some.injEq] at h
      subst h
      exact loc_mset fun M hM => by simp only [updF', hti, h1, h2, hM, hm, Option.map_some]
    · cases h
  · cases h

theorem opF_pure {qc : Nat → Bool} {o : Oper} (hc : clsOf qc o = 0) {d : Nat} {φ : Nat → Option AV} {m m' : Mem} {x : AV} (h : opF P o.op d φ m = some (x, m')) : m' = m ∧ ∀ m2, opF P o.op d φ m2 = some (x, m2) := by
  have mp : ∀ {α : Type} {o : Option α} {f : α → AV} {m' : Mem}, o.map (fun y => (f y, m)) = some (x, m') → m' = m ∧ ∀ m2 : Mem, o.map (fun y => (f y, m2)) = some (x, m2) := by
    intro α o f m' h
    cases o with
    | none => cases h
    | some y => simp at h; exact ⟨h.2.symm, fun m2 => by simp [h.1]⟩
  obtain ⟨dst, op, ty, pos, af, gd⟩ := o
  simp only at h ⊢
  unfold opF at h ⊢
  cases op <;> simp only [clsOf] at hc h ⊢ <;> try (exact absurd hc (by decide))
  case move y => exact mp (f := id) h
  case assign y => exact mp (f := id) h
  case pick c a b =>
    split at h
    · exact mp (f := id) h
    · exact mp (f := id) h
    · cases h
  case build T ps =>
    split at h
    · split at h
      · split at h
        · rename_i hif
          exact ⟨(mp h).1, fun m2 => by rw [if_pos hif]; exact (mp h).2 m2⟩
        · cases h
      · split at h
        · exact mp h
        · cases h
      · cases h
    · cases h
  case nilCheck y => split at h <;> first | (simp at h; exact ⟨h.2.symm, fun m2 => by simp [h.1]⟩) | cases h
  case binOp op t y z t' =>
    split at h
    · split at h
      · rename_i hif
        exact ⟨(mp h).1, fun m2 => by rw [if_pos hif]; exact (mp h).2 m2⟩
      · cases h
    · split at h
      · exact mp h
      · cases h
    · split at h
      · split at h
        · exact mp h
        · cases h
      · cases h
    · split at h
      · exact mp h
      · cases h
    · exact mp h
  case unOp op t y =>
    split at h
    · exact mp h
    · cases h
  case convert s t y => split at h <;> first | (simp at h; exact ⟨h.2.symm, fun m2 => by simp [h.1]⟩) | cases h
  case fieldAddr s y f =>
    split at h
    · exact mp (f := id) h
    · cases h
  case field s y f =>
    split at h
    · exact mp (f := id) h
    · cases h
  case index s y f =>
    split at h
    · exact mp (f := id) h
    · cases h
  case extract y i =>
    split at h
    · exact mp (f := id) h
    · cases h
  case makeFunc fn first caps =>
    cases fn <;> simp only at h ⊢ <;> try (cases h; done)
    split at h
    · rename_i hf
      obtain rfl : first = #[] := Array.eq_empty_of_size_eq_zero hf
      split at h
      · split at h
        · simp at h; exact ⟨h.2.symm, fun m2 => by simp [h.1]⟩
        · cases h
      · cases h
    · cases h
  case call c =>
    obtain ⟨callee, args, ats⟩ := c
    cases callee <;> simp only at h hc ⊢ <;> try (cases h; done)
    rename_i b
    split at h
    · rename_i l hl
      cases b <;> simp only at hc <;> try (exact absurd hc (by decide))
      all_goals
        unfold callB at h ⊢
        repeat' split at h
        all_goals first
          | (cases h; done)
          | contradiction
          | (simp at h; obtain ⟨rfl, rfl⟩ := h; simp_all; done)
          | (simp only [Option.some.injEq, Prod.mk.injEq] at h; obtain ⟨rfl, rfl⟩ := h; refine ⟨rfl, fun m2 => ?_⟩; split <;> first | rfl | contradiction)
          | skip
    · cases h

theorem opF_quiet {qc : Nat → Bool} {o : Oper} (hc : clsOf qc o ≤ 1) {d : Nat} {φ : Nat → Option AV} {m m' : Mem} {x : AV} (h : opF P o.op d φ m = some (x, m')) : m' = m := by
  rcases Nat.lt_or_ge (clsOf qc o) 1 with h0 | h0
  · exact (opF_pure (qc := qc) (by omega) h).1
  · have h1 : clsOf qc o = 1 := by omega
    obtain ⟨dst, op, ty, pos, af, gd⟩ := o
    simp only at h
    unfold opF at h
    cases op <;> simp only [clsOf] at h1 h <;> try (exact absurd h1 (by decide))
    case load t y =>
      split at h
      · exact (map_pair h).2
      · cases h
    case indexAddr t y z =>
      split at h
      · exact (map_pair h).2
      · cases h
    case slice t y lo hi mx =>
      split at h
      · exact (map_pair h).2
      · cases h
    case call c =>
      obtain ⟨callee, args, ats⟩ := c
      cases callee <;> simp only at h h1 <;> try (cases h; done)
      rename_i b
      cases b <;> simp only at h1 <;> exact absurd h1 (by decide)

end
end Go.Abs
