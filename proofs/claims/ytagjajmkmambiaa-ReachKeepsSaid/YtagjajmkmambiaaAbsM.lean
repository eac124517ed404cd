/- Regions: the text's order stands for every order that may be drawn. -/
import Derived.Test.YtagjajmkmambiaaAbsW
namespace Go.Abs
open Go.RowKit

section
variable {P : Program}

theorem evs_congr {φ φ' : Nat → Option AV} : ∀ {l : List Operand}, (∀ x ∈ l, ev φ x = ev φ' x) → evs φ l = evs φ' l
  | [], _ => rfl
  | x :: r, h => by
    unfold evs
    rw [h x (by simp), evs_congr fun y hy => h y (by simp [hy])]

theorem parts_congr {φ φ' : Nat → Option AV} {sz : Nat} : ∀ {l : List (Nat × Operand)} {i : Nat} {m : Mem}, (∀ x ∈ l, ev φ x.2 = ev φ' x.2) → parts φ sz i l m = parts φ' sz i l m
  | [], _, _, _ => rfl
  | (k, x) :: r, i, m, h => by
    have ih : ∀ m1, parts φ sz (i + 1) r m1 = parts φ' sz (i + 1) r m1 := fun m1 => parts_congr fun y hy => h y (by simp [hy])
    unfold parts
    rw [h (k, x) (by simp)]
    simp only [ih]

theorem buildF_congr {φ φ' : Nat → Option AV} {fs : List (Nat × TypeId)} : ∀ {l : List (Nat × Operand)} {cs : List Cell}, (∀ x ∈ l, ev φ x.2 = ev φ' x.2) → buildF φ P fs cs l = buildF φ' P fs cs l
  | [], _, _ => rfl
  | (k, x) :: r, cs, h => by
    have ih : ∀ cs, buildF φ P fs cs r = buildF φ' P fs cs r := fun cs => buildF_congr fun y hy => h y (by simp [hy])
    unfold buildF
    rw [h (k, x) (by simp)]
    simp only [ih]

theorem opF_congr {φ φ' : Nat → Option AV} {op : Op} {d : Nat} {m : Mem} (h : ∀ x ∈ op.operands, ev φ x = ev φ' x) : opF P op d φ m = opF P op d φ' m := by
  unfold opF
  cases op <;> simp only [Op.operands, Call.operands] at h <;> try rfl
  case move x => simp only [h x (by simp)]
  case assign x => simp only [h x (by simp)]
  case pick c a b => simp only [h c (by simp), h a (by simp), h b (by simp)]
  case box T x => simp only [h x (by simp)]
  case build T ps =>
    have hh : ∀ cs fs, buildF φ P fs cs ps.toList = buildF φ' P fs cs ps.toList := fun cs fs => buildF_congr fun x hx => h x.2 (by simp; exact ⟨x.1, by simpa using hx⟩)
    simp only [hh]
  case buildSlice T n ps =>
    have hh : ∀ sz, parts φ sz 0 ps.toList m = parts φ' sz 0 ps.toList m := fun sz => parts_congr fun x hx => h x.2 (by simp; exact ⟨x.1, by simpa using hx⟩)
    simp only [hh]
  case makeSlice t x y => simp only [h x (by simp), h y (by simp)]
  case load t x => simp only [h x (by simp)]
  case nilCheck x => simp only [h x (by simp)]
  case binOp op t x y t' => simp only [h x (by simp), h y (by simp)]
  case unOp op t x => simp only [h x (by simp)]
  case convert s t x => simp only [h x (by simp)]
  case fieldAddr s x f => simp only [h x (by simp)]
  case field s x f => simp only [h x (by simp)]
  case indexAddr t x y => simp only [h x (by simp), h y (by simp)]
  case index t x y => simp only [h x (by simp), h y (by simp)]
  case extract x i => simp only [h x (by simp)]
  case slice t x lo hi mx =>
    have e1 : lo.map (ev φ) = lo.map (ev φ') := by cases lo <;> simp; exact h _ (by simp)
    have e2 : hi.map (ev φ) = hi.map (ev φ') := by cases hi <;> simp; exact h _ (by simp)
    have e3 : mx.map (ev φ) = mx.map (ev φ') := by cases mx <;> simp; exact h _ (by simp)
    simp only [h x (by simp), e1, e2, e3]
  case makeFunc fn first caps =>
    have hh : evs φ caps.toList = evs φ' caps.toList := evs_congr fun x hx => h x (by simp at hx ⊢; exact .inr hx)
    cases fn <;> first | rfl | simp only [hh]
  case call c =>
    obtain ⟨callee, args, ats⟩ := c
    have hh : evs φ args.toList = evs φ' args.toList := evs_congr fun x hx => h x (by simp at hx ⊢; exact .inr hx)
    cases callee <;> first | rfl | simp only [hh]

/-- A call, abstractly: what is right of it wherever it is made. -/
def CallSem (P : Program) (f : Nat) (args : List AV) (m : Mem) (r : AV) (m' : Mem) : Prop :=
  (∀ vals w, (callFunc f vals).run P w = .ok (.enter f vals) w) ∧
  ∀ (B : Base) (g : G) (w : World) (vals : List Value), Inv B g m w → vals.length = args.length → (∀ (j : Nat) a v, args[j]? = some a → vals[j]? = some v → RepA g w a v) →
    Calls P f vals.toArray w fun e w' => ∃ v g', e = .returned v ∧ Ext g w g' w' ∧ RepA g' w' r v ∧ Inv B g' m' w'

/-- 0: its own operands alone; 1: it reads; 2: it may change the small memory. -/
def clsOf (qc : Nat → Bool) (o : Oper) : Nat :=
  match o.op with
  | .move _ | .assign _ | .pick .. | .build .. | .unOp .. | .binOp .. | .convert .. | .fieldAddr .. | .field .. | .extract .. | .index .. | .nilCheck _ | .makeFunc .. => 0
  | .call { callee := .builtin .len, .. } | .call { callee := .builtin .min, .. } | .call { callee := .builtin .max, .. } => 0
  | .load .. | .indexAddr .. | .slice .. => 1
  | .call { callee := .value (.func f), .. } => if qc f then 1 else 2
  | _ => 2

/-- A block of the frame's own making. -/
def isOwn : Id → Bool
  | .x _ => false
  | .l s _ => match Nat.beq s 0 with
    | true => false
    | false => true
def notOwnA : List AV → Bool
  | [] => true
  | .c (.ptr i _) :: r => match isOwn i with
    | true => false
    | false => notOwnA r
  | _ :: r => notOwnA r
/-- A call that is not handed a block of the frame's own making keeps all of these. -/
def KeepB (m m' : Mem) (l : List AV) : Prop := notOwnA l = true → ∀ i cs, isOwn i = true → (mget m'.o i = some (.blk cs) ↔ mget m.o i = some (.blk cs))
def StepR (P : Program) (qc : Nat → Bool) (N : Nat) (o : Oper) (φ : Nat → Option AV) (m : Mem) (u : Option (Nat × AV)) (m' : Mem) : Prop :=
  match o.op with
  | .store t p v => o.dst = none ∧ u = none ∧ ∃ ti pa va, tiOf P t = some ti ∧ ev φ p = some pa ∧ ev φ v = some va ∧ storeF ti m pa va = some m'
  | .call { callee := .value f, args, .. } => ∃ fid caps l r, ev φ f = some (.c (.fn fid caps)) ∧ evs φ args.toList = some l ∧ CallSem P fid (l ++ caps.map .c) m r m' ∧ ((qc fid = true → m' = m) ∧ KeepB m m' (l ++ caps.map .c)) ∧
      u = o.dst.map (·, r) ∧ ∀ d, o.dst = some d → d < N
  | op => ∃ d x, o.dst = some d ∧ d < N ∧ opF P op d φ m = some (x, m') ∧ u = some (d, x)

def appl (u : Option (Nat × AV)) (φ : Nat → Option AV) : Nat → Option AV :=
  match u with
  | none => φ
  | some (d, x) => fun t => if t = d then some x else φ t

def delF (d : Option Nat) (φ : Nat → Option AV) : Nat → Option AV :=
  match d with
  | none => φ
  | some d => fun t => if t = d then some (.tup []) else φ t

def guardF (ops : Array Oper) (o : Oper) (φ : Nat → Option AV) : Option Bool :=
  match o.guard with
  | none => some true
  | some (j, want) => match (ops[j]?).bind (·.dst) with
    | some d => match φ d with
      | some (.c (.sc (.bool b))) => some (b == want)
      | some (.tup []) => some false
      | _ => none
    | none => none

/-- What makes or moves arrays alone. -/
def isArr (o : Oper) : Bool :=
  match o.op with
  | .buildSlice .. | .makeSlice .. => true
  | .call { callee := .builtin .append, .. } => true
  | _ => false
def isLoad (o : Oper) : Bool :=
  match o.op with
  | .load .. => true
  | _ => false
def hasArr : List Oper → Bool
  | [] => false
  | o :: r => match isArr o with
    | true => true
    | false => hasArr r
def memN (n : Nat) : List Nat → Bool
  | [] => false
  | k :: r => match Nat.beq n k with
    | true => true
    | false => memN n r
def slotsOf : List Operand → List Nat → List Nat
  | [], S => S
  | .tmp t :: r, S => t :: slotsOf r S
  | _ :: r, S => slotsOf r S
def inS (o : Oper) (S : List Nat) : Bool :=
  match isArr o, o.dst with
  | true, _ => true
  | false, some d => memN d S
  | false, none => false
/-- The slots that lead to what makes arrays (the operations come from behind). -/
def feedsL : List Oper → List Nat → List Nat
  | [], S => S
  | o :: r, S => match inS o S with
    | true => feedsL r (slotsOf o.op.operands.toList S)
    | false => feedsL r S
def useN : List Operand → List Nat → Bool
  | [], _ => false
  | .tmp t :: r, D => match memN t D with
    | true => true
    | false => useN r D
  | _ :: r, D => useN r D
/-- The slots that come of such operations. -/
def fedBy (p : Oper → Bool) : List Oper → List Nat → List Nat
  | [], D => D
  | o :: r, D => match p o, useN o.op.operands.toList D, o.dst with
    | true, _, some d => fedBy p r (d :: D)
    | _, true, some d => fedBy p r (d :: D)
    | _, _, _ => fedBy p r D
/-- A load that may come before or behind the making of an array: it must read a block. -/
def flagL (ops : Array Oper) (o : Oper) : Bool :=
  match isLoad o with
  | false => false
  | true => match hasArr ops.toList with
    | false => false
    | true => match o.dst with
      | none => false
      | some d => match memN d (feedsL ops.toList.reverse []), memN d (fedBy isArr ops.toList []) with
        | false, false => true
        | _, _ => false
def byPtr (φ : Nat → Option AV) (o : Oper) : Prop :=
  match o.op with
  | .load _ a => (∃ i off, ev φ a = some (.c (.ptr i off))) ∨ ∃ cs, ev φ a = some (.c (.pel cs))
  | _ => False
def isSt (o : Oper) : Bool :=
  match o.op with
  | .store .. => true
  | .call { callee := .builtin .copy, .. } => true
  | _ => false
def isRd (o : Oper) : Bool :=
  match o.op with
  | .load .. | .indexAddr .. => true
  | _ => false
def hasSt : List Oper → Bool
  | [] => false
  | o :: r => match isSt o with
    | true => true
    | false => hasSt r
def inSt (o : Oper) (S : List Nat) : Bool :=
  match isSt o, o.dst with
  | true, _ => true
  | false, some d => memN d S
  | false, none => false
def feedsSt : List Oper → List Nat → List Nat
  | [], S => S
  | o :: r, S => match inSt o S with
    | true => feedsSt r (slotsOf o.op.operands.toList S)
    | false => feedsSt r S
/-- A read that may come before or behind a store: it must read data. -/
def flagD (ops : Array Oper) (o : Oper) : Bool :=
  match isRd o with
  | false => false
  | true => match hasSt ops.toList with
    | false => false
    | true => match o.dst with
      | none => false
      | some d => match memN d (feedsSt ops.toList.reverse []), memN d (fedBy isSt ops.toList []) with
        | false, false => true
        | _, _ => false
def byData (φ : Nat → Option AV) (o : Oper) : Prop :=
  match o.op with
  | .load _ a => ∃ cs, ev φ a = some (.c (.pel cs))
  | .indexAddr _ x _ => ∃ es, ev φ x = some (.c (.lst es))
  | _ => False
def isCallV (o : Oper) : Bool :=
  match o.op with
  | .call { callee := .value _, .. } => true
  | _ => false
def hasP (p : Oper → Bool) : List Oper → Bool
  | [] => false
  | o :: r => match p o with
    | true => true
    | false => hasP p r
def feedsP (p : Oper → Bool) : List Oper → List Nat → List Nat
  | [], S => S
  | o :: r, S => match p o, o.dst with
    | true, _ => feedsP p r (slotsOf o.op.operands.toList S)
    | false, some d => (match memN d S with
      | true => feedsP p r (slotsOf o.op.operands.toList S)
      | false => feedsP p r S)
    | false, none => feedsP p r S
def sameDst (a b : Oper) : Bool :=
  match isCallV a, a.dst, b.dst with
  | true, some x, some y => Nat.beq x y
  | _, _, _ => false
/-- A call that the slot does not lead to. -/
def looseC (rev : List Oper) (d : Nat) (c : Oper) : Bool :=
  match isCallV c with
  | false => false
  | true => match memN d (feedsP (sameDst c) rev []) with
    | true => false
    | false => true
/-- A load that may come before or behind a call: it must read a block of the frame's own making. -/
def flagM (ops : Array Oper) (o : Oper) : Bool :=
  match isLoad o with
  | false => false
  | true => match hasP isCallV ops.toList with
    | false => false
    | true => match o.dst with
      | none => false
      | some d => match hasP (looseC ops.toList.reverse d) ops.toList, memN d (fedBy isCallV ops.toList []) with
        | true, false => true
        | _, _ => false
def flagB (ops : Array Oper) (o : Oper) : Bool :=
  match isCallV o with
  | false => false
  | true => hasP (flagM ops) ops.toList
def byOwn (φ : Nat → Option AV) (o : Oper) : Prop :=
  match o.op with
  | .load _ a => (∃ i off, ev φ a = some (.c (.ptr i off)) ∧ isOwn i = true) ∨ ∃ cs, ev φ a = some (.c (.pel cs))
  | _ => False
def byNo (φ : Nat → Option AV) (o : Oper) : Prop :=
  match o.op with
  | .call { callee := .value (.func _), args, .. } => ∃ l, evs φ args.toList = some l ∧ notOwnA l = true
  | _ => False
def Reads (ops : Array Oper) (o : Oper) (φ : Nat → Option AV) : Prop := ((flagL ops o = true → byPtr φ o) ∧ (flagD ops o = true → byData φ o)) ∧ (flagM ops o = true → byOwn φ o) ∧ (flagB ops o = true → byNo φ o)
def isAl (o : Oper) : Bool :=
  match o.op with
  | .alloc _ => true
  | _ => false
def hasAl : List Oper → Bool
  | [] => false
  | o :: r => match isAl o with
    | true => true
    | false => hasAl r
/-- A call that may come before or behind a new block. -/
def flagC (ops : Array Oper) (o : Oper) : Bool :=
  match isCallV o with
  | false => false
  | true => hasAl ops.toList
def TameO (φ : Nat → Option AV) (m m' : Mem) (o : Oper) : Prop :=
  match o.op with
  | .call { callee := .value (.func _), args, .. } => ∃ l, evs φ args.toList = some l ∧ tameB m m' l = true
  | _ => False
/-- It comes up and is carried out. -/
def Comes (ops : Array Oper) (o : Oper) (φ : Nat → Option AV) (m m' : Mem) : Prop := guardF ops o φ = some true ∧ Reads ops o φ ∧ (flagC ops o = true → TameO φ m m' o)
theorem Comes.mem {ops : Array Oper} {o : Oper} {φ : Nat → Option AV} {m m' m2 m2' : Mem} (h : Comes ops o φ m m') (hc : isCallV o = false) : Comes ops o φ m2 m2' :=
  ⟨h.1, h.2.1, fun e => by unfold flagC at e; rw [hc] at e; cases e⟩
/-- Left out: its slot reads as nothing. -/
def SkipTo (N : Nat) (o : Oper) (φ φ' : Nat → Option AV) : Prop := (∀ d, o.dst = some d → d < N) ∧ φ' = delF o.dst φ
/-- An operation comes up: it is carried out, or its guard says no. -/
def Yields (P : Program) (qc : Nat → Bool) (N : Nat) (ops : Array Oper) (o : Oper) (φ : Nat → Option AV) (m : Mem) (φ' : Nat → Option AV) (m' : Mem) : Prop :=
  (Comes ops o φ m m' ∧ ∃ u, StepR P qc N o φ m u m' ∧ φ' = appl u φ) ∨ (guardF ops o φ = some false ∧ SkipTo N o φ φ' ∧ m' = m)

theorem stepR_dst {qc : Nat → Bool} {N : Nat} {o : Oper} {φ : Nat → Option AV} {m m' : Mem} {u : Option (Nat × AV)} (h : StepR P qc N o φ m u m') : u.map (·.1) = o.dst := by
  unfold StepR at h
  split at h
  · obtain ⟨h1, h2, _⟩ := h; rw [h1, h2]; rfl
  · obtain ⟨fid, caps, l, r, _, _, _, _, h5, _⟩ := h
    rw [h5]; cases o.dst <;> rfl
  · obtain ⟨d, x, h1, _, _, h4⟩ := h; rw [h1, h4]; rfl

/-- Slots that an operation does not look at don't matter to it. -/
theorem stepR_congr {qc : Nat → Bool} {N : Nat} {o : Oper} {φ φ' : Nat → Option AV} {m m' : Mem} {u : Option (Nat × AV)} (h : ∀ x ∈ o.op.operands, ev φ x = ev φ' x) (hs : StepR P qc N o φ m u m') : StepR P qc N o φ' m u m' := by
  unfold StepR at hs ⊢
  split at hs
  · rename_i t p v ho
    obtain ⟨h1, h2, ti, pa, va, h3, h4, h5, h6⟩ := hs
    rw [ho] at h
    simp only [Op.operands] at h
    exact ⟨h1, h2, ti, pa, va, h3, (h p (by simp)).symm.trans h4, (h v (by simp)).symm.trans h5, h6⟩
  · rename_i f args ats ho
    obtain ⟨fid, caps, l, r, h1, h2, h3⟩ := hs
    rw [ho] at h
    simp only [Op.operands, Call.operands] at h
    refine ⟨fid, caps, l, r, (h f (by simp)).symm.trans h1, (evs_congr fun x hx => h x (by simp at hx ⊢; exact .inr hx)).symm.trans h2, h3⟩
  · rename_i op h1 h2
    obtain ⟨d, x, hd, hn, hx, hu⟩ := hs
    exact ⟨d, x, hd, hn, (opF_congr h).symm.trans hx, hu⟩

theorem opF_pure {qc : Nat → Bool} {o : Oper} (hc : clsOf qc o = 0) {d : Nat} {φ : Nat → Option AV} {m m' : Mem} {x : AV} (h : opF P o.op d φ m = some (x, m')) : m' = m ∧ ∀ m2, opF P o.op d φ m2 = some (x, m2) := by
  have mp : ∀ {α : Type} {o : Option α} {f : α → AV} {m' : Mem}, o.map (fun y => (f y, m)) = some (x, m') → m' = m ∧ ∀ m2 : Mem, o.map (fun y => (f y, m2)) = some (x, m2) := by
    intro α o f m' h
    cases o with
    | none => cases h
    | some y => simp at h; exact ⟨h.2.symm, fun m2 => by simp [h.1]⟩
  obtain ⟨dst, op, ty, pos, af, gd⟩ := o
  simp only at h ⊢
  unfold opF at h ⊢
  cases op <;> simp only [clsOf] at hc h ⊢ <;> try (exact absurd hc (by decide))
  case move y => exact mp (f := id) h
  case assign y => exact mp (f := id) h
  case pick c a b =>
    split at h
    · exact mp (f := id) h
    · exact mp (f := id) h
    · cases h
  case build T ps =>
    split at h
    · split at h
      · split at h
        · rename_i hif
          exact ⟨(mp h).1, fun m2 => by rw [if_pos hif]; exact (mp h).2 m2⟩
        · cases h
      · cases h
    · cases h
  case nilCheck y => split at h <;> first | (simp at h; exact ⟨h.2.symm, fun m2 => by simp [h.1]⟩) | cases h
  case binOp op t y z t' =>
    split at h
    · split at h
      · rename_i hif
        exact ⟨(mp h).1, fun m2 => by rw [if_pos hif]; exact (mp h).2 m2⟩
      · cases h
    · split at h
      · exact mp h
      · cases h
    · cases h
  case unOp op t y =>
    split at h
    · exact mp h
    · cases h
  case convert s t y => split at h <;> first | (simp at h; exact ⟨h.2.symm, fun m2 => by simp [h.1]⟩) | cases h
  case fieldAddr s y f =>
    split at h
    · exact mp (f := id) h
    · cases h
  case field s y f =>
    split at h
    · exact mp (f := id) h
    · cases h
  case index s y f =>
    split at h
    · exact mp (f := id) h
    · cases h
  case extract y i =>
    split at h
    · exact mp (f := id) h
    · cases h
  case makeFunc fn first caps =>
    cases fn <;> simp only at h ⊢ <;> try (cases h; done)
    split at h
    · rename_i hf
      obtain rfl : first = #[] := Array.eq_empty_of_size_eq_zero hf
      split at h
      · split at h
        · simp at h; exact ⟨h.2.symm, fun m2 => by simp [h.1]⟩
        · cases h
      · cases h
    · cases h
  case call c =>
    obtain ⟨callee, args, ats⟩ := c
    cases callee <;> simp only at h hc ⊢ <;> try (cases h; done)
    rename_i b
    split at h
    · rename_i l hl
      cases b <;> simp only at hc <;> try (exact absurd hc (by decide))
      all_goals
        unfold callB at h ⊢
        repeat' split at h
        all_goals first
          | (cases h; done)
          | (simp at h; obtain ⟨rfl, rfl⟩ := h; simp_all; done)
          | (simp only [Option.some.injEq, Prod.mk.injEq] at h; obtain ⟨rfl, rfl⟩ := h; refine ⟨rfl, fun m2 => ?_⟩; split <;> first | rfl | contradiction)
          | skip
    · cases h

theorem opF_quiet {qc : Nat → Bool} {o : Oper} (hc : clsOf qc o ≤ 1) {d : Nat} {φ : Nat → Option AV} {m m' : Mem} {x : AV} (h : opF P o.op d φ m = some (x, m')) : m' = m := by
  rcases Nat.lt_or_ge (clsOf qc o) 1 with h0 | h0
  · exact (opF_pure (qc := qc) (by omega) h).1
  · have h1 : clsOf qc o = 1 := by omega
    obtain ⟨dst, op, ty, pos, af, gd⟩ := o
    simp only at h
    unfold opF at h
    cases op <;> simp only [clsOf] at h1 h <;> try (exact absurd h1 (by decide))
    case load t y =>
      split at h
      · exact (map_pair h).2
      · cases h
    case indexAddr t y z =>
      split at h
      · exact (map_pair h).2
      · cases h
    case slice t y lo hi mx =>
      split at h
      · exact (map_pair h).2
      · cases h
    case call c =>
      obtain ⟨callee, args, ats⟩ := c
      cases callee <;> simp only at h h1 <;> try (cases h; done)
      rename_i b
      cases b <;> simp only at h1 <;> exact absurd h1 (by decide)

end
end Go.Abs
