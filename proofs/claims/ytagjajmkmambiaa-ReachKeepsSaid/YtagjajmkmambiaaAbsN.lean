/- Regions: any order that may be drawn comes to the same abstract end; and the abstract end is the real one. -/
import Derived.Test.YtagjajmkmambiaaAbsFr
namespace Go.Abs
set_option linter.unusedSimpArgs false
open Go.RowKit

section
variable {P : Program} {qc : Nat → Bool} {N : Nat} {ops : Array Oper}

def put (d : Option Nat) (x : Option AV) (φ : Nat → Option AV) : Nat → Option AV :=
  match d with
  | none => φ
  | some d => fun t => if t = d then x else φ t

theorem put_comm {d e : Option Nat} (h : ∀ k, d = some k → e ≠ some k) (x y : Option AV) (φ : Nat → Option AV) : put d x (put e y φ) = put e y (put d x φ) := by
  cases d with
  | none => rfl
  | some d =>
    cases e with
    | none => rfl
    | some e =>
      have hne : d ≠ e := fun he => h d rfl (he ▸ rfl)
      funext t
      simp only [put]
      by_cases h1 : t = d
      · subst h1; simp [hne]
      · simp [h1]

theorem ev_put {d : Option Nat} {x : Option AV} {φ : Nat → Option AV} {y : Operand} (h : ∀ k, d = some k → y ≠ .tmp k) : ev (put d x φ) y = ev φ y := by
  cases d with
  | none => rfl
  | some d =>
    cases y with
    | tmp t =>
      have hne : t ≠ d := fun e => h d rfl (by rw [e])
      simp [ev, put, hne]
    | _ => rfl

theorem appl_put {u : Option (Nat × AV)} {φ : Nat → Option AV} : appl u φ = put (u.map (·.1)) (u.map (·.2)) φ := by
  cases u with
  | none => rfl
  | some p => rfl
theorem delF_put {d : Option Nat} {φ : Nat → Option AV} : delF d φ = put d (some (.tup [])) φ := by cases d <;> rfl

/-- One step puts something, or nothing, into its slot. -/
theorem yields_put {o : Oper} {φ φ' : Nat → Option AV} {m m' : Mem} (h : Yields P qc N ops o φ m φ' m') : ∃ x, φ' = put o.dst x φ := by
  rcases h with ⟨_, u, hs, rfl⟩ | ⟨_, ⟨_, rfl⟩, _⟩
  · exact ⟨u.map (·.2), by rw [appl_put, stepR_dst hs]⟩
  · exact ⟨some (.tup []), delF_put⟩

theorem guardF_put {o : Oper} {d : Option Nat} {x : Option AV} {φ : Nat → Option AV} (h : ∀ k, d = some k → k ∉ o.looksAt ops) : guardF ops o (put d x φ) = guardF ops o φ := by
  cases d with
  | none => rfl
  | some d =>
    unfold guardF
    cases hg : o.guard with
    | none => rfl
    | some gw =>
      obtain ⟨j, want⟩ := gw
      simp only
      cases hd : (ops[j]?).bind (·.dst) with
      | none => rfl
      | some e =>
        have hne : e ≠ d := fun he => by
          refine h d rfl ?_
          simp [Oper.looksAt, hg, hd, he]
        simp [put, hne]

theorem step_put {o : Oper} {d : Option Nat} {x : Option AV} {φ : Nat → Option AV} {m m' : Mem} {u : Option (Nat × AV)} (h : ∀ k, d = some k → k ∉ o.looksAt ops) :
    StepR P qc N o (put d x φ) m u m' ↔ StepR P qc N o φ m u m' := by
  have he : ∀ y ∈ o.op.operands, ev (put d x φ) y = ev φ y := fun y hy => ev_put fun k hk hky => h k hk (by
    subst hky
    exact List.mem_append_left _ (List.mem_filterMap.2 ⟨.tmp k, by simpa using hy, rfl⟩))
  exact ⟨stepR_congr he, stepR_congr fun y hy => (he y hy).symm⟩
theorem comes_put {o : Oper} {d : Option Nat} {x : Option AV} {φ : Nat → Option AV} {m m' : Mem} (h : ∀ k, d = some k → k ∉ o.looksAt ops) : Comes ops o (put d x φ) m m' = Comes ops o φ m m' := by
  have he : ∀ y ∈ o.op.operands, ev (put d x φ) y = ev φ y := fun y hy => ev_put fun k hk hky => h k hk (by
    subst hky
    exact List.mem_append_left _ (List.mem_filterMap.2 ⟨.tmp k, by simpa using hy, rfl⟩))
  have hb : byPtr (put d x φ) o = byPtr φ o := by
    unfold byPtr
    obtain ⟨dst, op, ty, pos, af, gd⟩ := o
    cases op <;> try rfl
    simp only [Op.operands] at he
    simp only
    rw [he _ (by simp)]
  have hd : byData (put d x φ) o = byData φ o := by
    unfold byData
    obtain ⟨dst, op, ty, pos, af, gd⟩ := o
    cases op <;> try rfl
    · simp only [Op.operands] at he
      simp only
      rw [he _ (by simp)]
    · simp only [Op.operands] at he
      simp only
      rw [he _ (by simp)]
  have ht : TameO (put d x φ) m m' o = TameO φ m m' o := by
    unfold TameO
    obtain ⟨dst, op, ty, pos, af, gd⟩ := o
    cases op <;> try rfl
    rename_i c
    obtain ⟨callee, args, ats⟩ := c
    simp only [Op.operands, Call.operands] at he
    have hh : evs (put d x φ) args.toList = evs φ args.toList := evs_congr fun y hy => he y (by simp at hy ⊢; exact .inr hy)
    cases callee <;> try rfl
    rename_i f
    cases f <;> try rfl
    simp only [hh]
  have hw : byOwn (put d x φ) o = byOwn φ o := by
    unfold byOwn
    obtain ⟨dst, op, ty, pos, af, gd⟩ := o
    cases op <;> try rfl
    simp only [Op.operands] at he
    simp only
    rw [he _ (by simp)]
  have hno : byNo (put d x φ) o = byNo φ o := by
    unfold byNo
    obtain ⟨dst, op, ty, pos, af, gd⟩ := o
    cases op <;> try rfl
    rename_i c
    obtain ⟨callee, args, ats⟩ := c
    simp only [Op.operands, Call.operands] at he
    have hh : evs (put d x φ) args.toList = evs φ args.toList := evs_congr fun y hy => he y (by simp at hy ⊢; exact .inr hy)
    cases callee <;> try rfl
    rename_i f
    cases f <;> try rfl
    simp only [hh]
  unfold Comes Reads
  rw [guardF_put h, hb, hd, ht, hw, hno]

/-! #### What only adds, and what only reads -/

def Grow (m m' : Mem) : Prop := ∀ i, match mget m.o i with
  | none => True
  | some (.blk cs) => mget m'.o i = some (.blk cs)
  | some (.arr e sz es _) => ∃ fr', mget m'.o i = some (.arr e sz es fr')
theorem Grow.refl (m : Mem) : Grow m m := fun i => by
  split
  · trivial
  · assumption
  · exact ⟨_, by assumption⟩
theorem Grow.trans {a b c : Mem} (h : Grow a b) (k : Grow b c) : Grow a c := fun i => by
  have h1 := h i
  have h2 := k i
  split
  · trivial
  · rename_i cs e
    rw [e] at h1
    simp only at h1
    rw [h1] at h2
    exact h2
  · rename_i e sz es fr e'
    rw [e'] at h1
    obtain ⟨fr', h1⟩ := h1
    rw [h1] at h2
    exact h2
theorem Grow.blk {m m' : Mem} (h : Grow m m') {i : Id} {cs : List Cell} (hi : mget m.o i = some (.blk cs)) : mget m'.o i = some (.blk cs) := by
  have := h i
  rw [hi] at this
  exact this
theorem Grow.arr {m m' : Mem} (h : Grow m m') {i : Id} {e sz : Nat} {es : List (List Cell)} {fr : Bool} (hi : mget m.o i = some (.arr e sz es fr)) : ∃ fr', mget m'.o i = some (.arr e sz es fr') := by
  have := h i
  rw [hi] at this
  exact this
theorem grow_add {d : Nat} {m : Mem} {o : MObj} : Grow m (addObj d m o) := fun i => by
  simp only [addObj, mget_snoc]
  cases h : mget m.o i with
  | none => trivial
  | some x => cases x <;> first | rfl | exact ⟨_, rfl⟩
theorem grow_pur {m m' : Mem} {c c' : Cell} (h : pur m c = some (c', m')) : Grow m m' := by
  unfold pur at h
  split at h
  · simp at h; rw [← h.2]; exact .refl _
  · simp at h; rw [← h.2]; exact .refl _
  · simp at h; rw [← h.2]; exact .refl _
  · split at h
    · split at h
      · rename_i o lo n _ e sz es fr ho hl
        simp at h
        rw [← h.2]
        intro i
        simp only [mget_mset]
        by_cases hi : i = o
        · subst hi; simp [ho]
        · simp only [if_neg hi]
          exact Grow.refl m i
      · cases h
    · cases h
  · cases h
theorem grow_purL {m' : Mem} : ∀ {l l' : List Cell} {m : Mem}, purL m l = some (l', m') → Grow m m'
  | [], _, _, h => by simp [purL] at h; rw [← h.2]; exact .refl _
  | c :: r, l', m, h => by
    unfold purL at h
    split at h
    · rename_i e1
      split at h
      · rename_i e2
        simp at h
        rw [← h.2]
        exact (grow_pur e1).trans (grow_purL (m' := _) e2)
      · cases h
    · cases h
theorem grow_parts {L : Nat → Option AV} {sz : Nat} {m' : Mem} : ∀ {l : List (Nat × Operand)} {i : Nat} {es : List (List Cell)} {m : Mem}, parts L sz i l m = some (es, m') → Grow m m'
  | [], _, _, _, h => by simp [parts] at h; rw [← h.2]; exact .refl _
  | (k, x) :: r, i, es, m, h => by
    unfold parts at h
    split at h
    · split at h
      · split at h
        · split at h
          · split at h
            · rename_i e1
              split at h
              · rename_i e2
                simp at h
                rw [← h.2]
                exact (grow_purL e1).trans (grow_parts e2)
              · cases h
            · cases h
          · cases h
        · cases h
      · cases h
    · cases h

/-- The blocks are the same. -/
def blkI (m m' : Mem) : Prop := ∀ i cs, mget m'.o i = some (.blk cs) ↔ mget m.o i = some (.blk cs)
theorem blkI.refl (m : Mem) : blkI m m := fun _ _ => Iff.rfl
theorem blkI.trans {a b c : Mem} (h : blkI a b) (k : blkI b c) : blkI a c := fun i cs => (k i cs).trans (h i cs)
theorem blkI_add {d : Nat} {m : Mem} {e sz : Nat} {es : List (List Cell)} {fr : Bool} : blkI m (addObj d m (.arr e sz es fr)) := fun i cs => by
  simp only [addObj, mget_snoc]
  cases h : mget m.o i with
  | none =>
    simp only
    constructor
    · intro h; split at h <;> simp at h
    · intro h; cases h
  | some x => exact Iff.rfl
theorem blkI_pur {m m' : Mem} {c c' : Cell} (h : pur m c = some (c', m')) : blkI m m' := by
  unfold pur at h
  split at h
  · simp at h; rw [← h.2]; exact .refl _
  · simp at h; rw [← h.2]; exact .refl _
  · simp at h; rw [← h.2]; exact .refl _
  · split at h
    · split at h
      · rename_i o lo n _ e sz es fr ho hl
        simp at h
        rw [← h.2]
        intro i cs
        simp only [mget_mset]
        by_cases hi : i = o
        · subst hi; simp [ho]
        · simp only [if_neg hi]
      · cases h
    · cases h
  · cases h
theorem blkI_purL {m' : Mem} : ∀ {l l' : List Cell} {m : Mem}, purL m l = some (l', m') → blkI m m'
  | [], _, _, h => by simp [purL] at h; rw [← h.2]; exact .refl _
  | c :: r, l', m, h => by
    unfold purL at h
    split at h
    · rename_i e1
      split at h
      · rename_i e2
        simp at h
        rw [← h.2]
        exact (blkI_pur e1).trans (blkI_purL (m' := _) e2)
      · cases h
    · cases h
theorem blkI_parts {L : Nat → Option AV} {sz : Nat} {m' : Mem} : ∀ {l : List (Nat × Operand)} {i : Nat} {es : List (List Cell)} {m : Mem}, parts L sz i l m = some (es, m') → blkI m m'
  | [], _, _, _, h => by simp [parts] at h; rw [← h.2]; exact .refl _
  | (k, x) :: r, i, es, m, h => by
    unfold parts at h
    split at h
    · split at h
      · split at h
        · split at h
          · split at h
            · rename_i e1
              split at h
              · rename_i e2
                simp at h
                rw [← h.2]
                exact (blkI_purL e1).trans (blkI_parts e2)
              · cases h
            · cases h
          · cases h
        · cases h
      · cases h
    · cases h
theorem blkI_del {m : Mem} {o : Id} {e sz : Nat} {es : List (List Cell)} {fr : Bool} (h : mget m.o o = some (.arr e sz es fr)) : blkI m { m with o := mdel m.o o } := fun i cs => by
  simp only [mget_mdel]
  by_cases hi : i = o
  · subst hi; simp [h]
  · simp only [if_neg hi]
theorem opF_blkI {o : Oper} (hc : isArr o = true) {d : Nat} {φ : Nat → Option AV} {m m' : Mem} {x : AV} (h : opF P o.op d φ m = some (x, m')) : blkI m m' := by
  obtain ⟨dst, op, ty, pos, af, gd⟩ := o
  unfold opF at h
  cases op <;> simp only [isArr] at hc h <;> try (cases hc; done)
  case makeSlice T x y =>
    repeat' split at h
    all_goals first | (cases h; done) | (simp at h; rw [← h.2]; exact blkI_add)
  case buildSlice T n ps =>
    repeat' split at h
    all_goals first | (cases h; done) | (rename_i e _; simp at h; rw [← h.2]; exact (blkI_parts e).trans blkI_add)
  case call c =>
    obtain ⟨callee, args, ats⟩ := c
    cases callee <;> simp only at hc h <;> try (cases hc; done)
    rename_i b
    cases b <;> simp only at hc h <;> try (cases hc; done)
    split at h
    · unfold callB at h
      repeat' split at h
      all_goals first
        | (cases h; done)
        | (simp at h; rw [← h.2]; exact blkI_add)
        | (rename_i e _; simp at h; rw [← h.2]; exact (blkI_del e).trans blkI_add)
        | simp_all
    · cases h
theorem loadF_blkI {ti : TI} {m m' : Mem} (hb : blkI m m') {p : AV} (hp : (∃ i off, p = .c (.ptr i off)) ∨ ∃ cs, p = .c (.pel cs)) : loadF ti m' p = loadF ti m p := by
  rcases hp with ⟨i, off, rfl⟩ | ⟨cs, rfl⟩
  · unfold loadF
    simp only
    cases h : mget m.o i with
    | none =>
      cases h' : mget m'.o i with
      | none => rfl
      | some y => cases y with
        | blk cs => rw [(hb i cs).1 h'] at h; cases h
        | arr _ _ _ _ => rfl
    | some y =>
      cases y with
      | blk cs => rw [(hb i cs).2 h]
      | arr _ _ _ _ =>
        cases h' : mget m'.o i with
        | none => rfl
        | some y => cases y with
          | blk cs => rw [(hb i cs).1 h'] at h; cases h
          | arr _ _ _ _ => rfl
  · rfl

def isRead (o : Oper) : Bool :=
  match o.op with
  | .load .. | .indexAddr .. | .slice .. => true
  | _ => false
def isAdd (o : Oper) : Bool :=
  match o.op with
  | .alloc _ | .box .. | .buildSlice .. | .makeSlice .. => true
  | _ => false

theorem opF_grow {o : Oper} (hc : isAdd o = true) {d : Nat} {φ : Nat → Option AV} {m m' : Mem} {x : AV} (h : opF P o.op d φ m = some (x, m')) : Grow m m' := by
  obtain ⟨dst, op, ty, pos, af, gd⟩ := o
  unfold opF at h
  cases op <;> simp only [isAdd] at hc h <;> try (cases hc; done)
  case alloc T =>
    repeat' split at h
    all_goals first | (cases h; done) | (simp at h; rw [← h.2]; exact grow_add)
  case makeSlice T x y =>
    repeat' split at h
    all_goals first | (cases h; done) | (simp at h; rw [← h.2]; exact grow_add)
  case box T y =>
    repeat' split at h
    all_goals first | (cases h; done) | (simp at h; rw [← h.2]; exact grow_add)
  case buildSlice T n ps =>
    repeat' split at h
    all_goals first
      | (cases h; done)
      | (rename_i e _; simp at h; rw [← h.2]; exact (grow_parts (by assumption)).trans grow_add)

theorem loadF_grow {ti : TI} {m m' : Mem} (hg : Grow m m') {p x : AV} (h : loadF ti m p = some x) : loadF ti m' p = some x := by
  unfold loadF at h ⊢
  split at h
  · split at h
    · rename_i e; simp only [hg.blk e]; exact h
    · cases h
  · split at h
    · rename_i e; obtain ⟨fr', e'⟩ := hg.arr e; simp only [e']; exact h
    · cases h
  · exact h
  · cases h
theorem indexF_grow {m m' : Mem} (hg : Grow m m') {t : Nat} {p ix x : AV} (h : indexF P m t p ix = some x) : indexF P m' t p ix = some x := by
  unfold indexF at h ⊢
  split at h
  · rename_i h1
    split at h
    · cases h
    · rename_i te h2
      split at h
      · rename_i hn
        simp only [h2, if_pos hn]
        split at h
        · exact h
        · exact h
        · split at h
          · rename_i e; obtain ⟨fr', e'⟩ := hg.arr e; simp only [e']; exact h
          · cases h
        · cases h
      · cases h
  · exact h
  · cases h
theorem sliceF_grow {m m' : Mem} (hg : Grow m m') {t : Nat} {p x : AV} {lo hi mx : Option (Option AV)} (h : sliceF P m t p lo hi mx = some x) : sliceF P m' t p lo hi mx = some x := by
  unfold sliceF at h ⊢
  split at h
  · split at h
    · rename_i h1 h2
      split at h
      · rename_i h3 h4
        split at h
        · rename_i hif
          split at h
          · split at h
            · simp only [h1, h2, h3, h4, if_pos hif]; exact h
            · simp only [h1, h2, h3, h4, if_pos hif]; exact h
            · simp only [h1, h2, h3, h4, if_pos hif]; exact h
            · split at h
              · rename_i e; obtain ⟨fr', e'⟩ := hg.arr e; simp only [h1, h2, h3, h4, if_pos hif, e']; exact h
              · cases h
            · cases h
          · simp only [h1, h2, h3, h4, if_pos hif]; exact h
        · cases h
      · cases h
    · cases h
  · cases h

def apartS (qc : Nat → Bool) (ops : Array Oper) (x y : Oper) : Bool :=
  x.apart ops y && (clsOf qc x == 0 || clsOf qc y == 0 || (decide (clsOf qc x ≤ 1) && decide (clsOf qc y ≤ 1)) || (isRead x && isAdd y) || (isLoad x && flagL ops x && isArr y) || (isArr x && isLoad y && flagL ops y) || (isRd x && flagD ops x) || (isRd y && flagD ops y) || (isCallV x && flagC ops x && isAl y) || (isLoad x && flagM ops x && (isCallV y && flagB ops y)) || (isCallV x && flagB ops x && (isLoad y && flagM ops y)))

theorem stepR_quiet {o : Oper} (hc : clsOf qc o ≤ 1) {φ : Nat → Option AV} {m m' : Mem} {u : Option (Nat × AV)} (h : StepR P qc N o φ m u m') : m' = m := by
  unfold StepR at h
  split at h
  · rename_i t p v ho
    simp [clsOf, ho] at hc
  · rename_i f args ats ho
    obtain ⟨fid, caps, l, r, h1, _, _, h4, _⟩ := h
    cases f with
    | func f =>
      simp [ev] at h1
      refine h4.1 ?_
      simp only [clsOf, ho] at hc
      rw [← h1.1]
      split at hc
      · assumption
      · omega
    | _ => simp [clsOf, ho] at hc
  · obtain ⟨d, x, _, _, h3, _⟩ := h
    exact opF_quiet hc h3

theorem stepR_pure {o : Oper} (hc : clsOf qc o = 0) {φ : Nat → Option AV} {m m' : Mem} {u : Option (Nat × AV)} (h : StepR P qc N o φ m u m') : m' = m ∧ ∀ m2, StepR P qc N o φ m2 u m2 := by
  refine ⟨stepR_quiet (by omega) h, fun m2 => ?_⟩
  unfold StepR at h ⊢
  split at h
  · rename_i t p v ho
    simp [clsOf, ho] at hc
  · rename_i f args ats ho
    cases f with
    | func f =>
      simp only [clsOf, ho] at hc
      split at hc <;> omega
    | _ => simp [clsOf, ho] at hc
  · obtain ⟨d, x, h1, h2, h3, h4⟩ := h
    exact ⟨d, x, h1, h2, (opF_pure hc h3).2 m2, h4⟩

theorem cls0_call {o : Oper} (hc : clsOf qc o = 0) : isCallV o = false := by
  obtain ⟨dst, op, ty, pos, af, gd⟩ := o
  cases op <;> try rfl
  rename_i c
  obtain ⟨callee, args, ats⟩ := c
  cases callee <;> try rfl
  rename_i f
  cases f <;> simp only [clsOf] at hc <;> try (cases hc; done)
  split at hc <;> cases hc
theorem yields_quiet {o : Oper} (hc : clsOf qc o ≤ 1) {φ φ' : Nat → Option AV} {m m' : Mem} (h : Yields P qc N ops o φ m φ' m') : m' = m := by
  rcases h with ⟨_, u, hs, _⟩ | ⟨_, _, h⟩
  · exact stepR_quiet hc hs
  · exact h
theorem yields_pure {o : Oper} (hc : clsOf qc o = 0) {φ φ' : Nat → Option AV} {m m' : Mem} (h : Yields P qc N ops o φ m φ' m') : m' = m ∧ ∀ m2, Yields P qc N ops o φ m2 φ' m2 := by
  rcases h with ⟨hg, u, hs, he⟩ | ⟨hg, he, hm⟩
  · obtain ⟨h1, h2⟩ := stepR_pure hc hs
    exact ⟨h1, fun m2 => .inl ⟨hg.mem (cls0_call hc), u, h2 m2, he⟩⟩
  · exact ⟨hm, fun m2 => .inr ⟨hg, he, rfl⟩⟩

theorem yields_add {o : Oper} (hc : isAdd o = true) {φ φ' : Nat → Option AV} {m m' : Mem} (h : Yields P qc N ops o φ m φ' m') : Grow m m' := by
  rcases h with ⟨_, u, hs, _⟩ | ⟨_, _, h⟩
  · unfold StepR at hs
    split at hs
    · rename_i ho; simp [isAdd, ho] at hc
    · rename_i ho; simp [isAdd, ho] at hc
    · obtain ⟨d, x, _, _, h3, _⟩ := hs
      exact opF_grow hc h3
  · rw [h]; exact .refl _
theorem yields_read {o : Oper} (hc : isRead o = true) {φ φ' : Nat → Option AV} {m m' m2 : Mem} (hg : Grow m m2) (h : Yields P qc N ops o φ m φ' m') : m' = m ∧ Yields P qc N ops o φ m2 φ' m2 := by
  have hcl : clsOf qc o ≤ 1 := by
    obtain ⟨dst, op, ty, pos, af, gd⟩ := o
    cases op <;> simp only [isRead] at hc <;> first | (cases hc; done) | (simp [clsOf])
  refine ⟨yields_quiet hcl h, ?_⟩
  rcases h with ⟨h0, u, hs, he⟩ | ⟨h0, he, h⟩
  · refine .inl ⟨h0.mem (by obtain ⟨dst, op, ty, pos, af, gd⟩ := o; cases op <;> simp only [isRead] at hc <;> first | (cases hc; done) | rfl), u, ?_, he⟩
    obtain ⟨dst, op, ty, pos, af, gd⟩ := o
    unfold StepR at hs ⊢
    cases op <;> simp only [isRead] at hc <;> try (cases hc; done)
    case load t y =>
      obtain ⟨d, x, h1, h2, h3, h4⟩ := hs
      refine ⟨d, x, h1, h2, ?_, h4⟩
      simp only [opF] at h3 ⊢
      split at h3
      · rename_i e1 e2
        cases hl : loadF _ m _ with
        | none => rw [hl] at h3; cases h3
        | some z => rw [hl] at h3; simp at h3; rw [loadF_grow hg hl]; simp [h3.1]
      · cases h3
    case indexAddr t y z =>
      obtain ⟨d, x, h1, h2, h3, h4⟩ := hs
      refine ⟨d, x, h1, h2, ?_, h4⟩
      simp only [opF] at h3 ⊢
      split at h3
      · rename_i e1 e2
        cases hl : indexF P m t _ _ with
        | none => rw [hl] at h3; cases h3
        | some z => rw [hl] at h3; simp at h3; rw [indexF_grow hg hl]; simp [h3.1]
      · cases h3
    case slice t y lo hi mx =>
      obtain ⟨d, x, h1, h2, h3, h4⟩ := hs
      refine ⟨d, x, h1, h2, ?_, h4⟩
      simp only [opF] at h3 ⊢
      split at h3
      · rename_i e1
        cases hl : sliceF P m t _ _ _ _ with
        | none => rw [hl] at h3; cases h3
        | some z => rw [hl] at h3; simp at h3; rw [sliceF_grow hg hl]; simp [h3.1]
      · cases h3
  · exact .inr ⟨h0, he, rfl⟩

/-- What is put elsewhere does not matter to a step. -/
theorem yields_move {o : Oper} {d : Option Nat} {x : Option AV} {φ φ' : Nat → Option AV} {m m' : Mem} (h1 : ∀ k, d = some k → k ∉ o.looksAt ops) (h2 : ∀ k, d = some k → o.dst ≠ some k) :
    (∀ φ', Yields P qc N ops o (put d x φ) m φ' m' → ∃ φ1, Yields P qc N ops o φ m φ1 m' ∧ φ' = put d x φ1) ∧ (Yields P qc N ops o φ m φ' m' → Yields P qc N ops o (put d x φ) m (put d x φ') m') := by
  constructor
  · intro φ' h
    rcases h with ⟨hg, u, hs, rfl⟩ | ⟨hg, ⟨hdN, rfl⟩, rfl⟩
    · rw [comes_put h1] at hg
      have hs' := (step_put h1).1 hs
      refine ⟨appl u φ, .inl ⟨hg, u, hs', rfl⟩, ?_⟩
      rw [appl_put, appl_put, stepR_dst hs]
      exact (put_comm h2 _ _ _).symm
    · rw [guardF_put h1] at hg
      refine ⟨delF o.dst φ, .inr ⟨hg, ⟨hdN, rfl⟩, rfl⟩, ?_⟩
      rw [delF_put, delF_put]
      exact (put_comm h2 _ _ _).symm
  · intro h
    rcases h with ⟨hg, u, hs, rfl⟩ | ⟨hg, ⟨hdN, rfl⟩, rfl⟩
    · refine .inl ⟨by rw [comes_put h1]; exact hg, u, (step_put h1).2 hs, ?_⟩
      rw [appl_put, appl_put, stepR_dst hs]
      exact put_comm h2 _ _ _
    · refine .inr ⟨by rw [guardF_put h1]; exact hg, ⟨hdN, ?_⟩, rfl⟩
      rw [delF_put, delF_put]
      exact put_comm h2 _ _ _

theorem yields_arr {o : Oper} (hc : isArr o = true) {φ φ' : Nat → Option AV} {m m' : Mem} (h : Yields P qc N ops o φ m φ' m') : blkI m m' := by
  rcases h with ⟨_, u, hs, _⟩ | ⟨_, _, h⟩
  · unfold StepR at hs
    split at hs
    · rename_i ho; simp [isArr, ho] at hc
    · rename_i ho; simp [isArr, ho] at hc
    · obtain ⟨d, x, _, _, h3, _⟩ := hs
      exact opF_blkI hc h3
  · rw [h]; exact .refl _
theorem yields_load {o : Oper} (hc : isLoad o = true) (hf : flagL ops o = true) {φ φ' : Nat → Option AV} {m m' m2 : Mem} (hb : blkI m m2 ∨ blkI m2 m) (h : Yields P qc N ops o φ m φ' m') : m' = m ∧ Yields P qc N ops o φ m2 φ' m2 := by
  rcases h with ⟨hg, u, hs, he⟩ | ⟨h0, he, hm⟩
  · obtain ⟨dst, op, ty, pos, af, gd⟩ := o
    have hp := hg.2.1.1.1 hf
    cases op <;> simp only [isLoad] at hc <;> try (cases hc; done)
    rename_i t a
    obtain ⟨d, x, h1, h2, h3, h4⟩ := hs
    simp only [byPtr] at hp
    have hl : ∀ ti p, ev φ a = some p → loadF ti m2 p = loadF ti m p := fun ti p hpe => by
      have hpp : (∃ i off, p = .c (.ptr i off)) ∨ ∃ cs, p = .c (.pel cs) := by
        rw [hpe] at hp
        rcases hp with ⟨i, off, e⟩ | ⟨cs, e⟩
        · simp at e; exact .inl ⟨i, off, e⟩
        · simp at e; exact .inr ⟨cs, e⟩
      rcases hb with hb | hb
      · exact loadF_blkI hb hpp
      · exact (loadF_blkI hb hpp).symm
    simp only [opF] at h3
    split at h3
    · rename_i ti p e1 e2
      cases hl2 : loadF ti m p with
      | none => rw [hl2] at h3; cases h3
      | some z =>
        rw [hl2] at h3
        simp at h3
        refine ⟨h3.2.symm, .inl ⟨hg.mem rfl, u, ⟨d, x, h1, h2, ?_, h4⟩, he⟩⟩
        simp only [opF, e1, e2]
        rw [hl ti p e2, hl2]
        simp [h3.1]
    · cases h3
  · exact ⟨hm, .inr ⟨h0, he, rfl⟩⟩

theorem indexF_mem {m m2 : Mem} {t : Nat} {es : List (List Cell)} {ix : AV} : indexF P m2 t (.c (.lst es)) ix = indexF P m t (.c (.lst es)) ix := rfl
theorem map_mem {o : Option AV} {m m2 m' : Mem} {x : AV} (h : o.map (·, m) = some (x, m')) : m' = m ∧ o.map (·, m2) = some (x, m2) := by
  cases o with
  | none => cases h
  | some z => simp at h; exact ⟨h.2.symm, by simp [h.1]⟩
theorem yields_data {o : Oper} (hc : isRd o = true) (hf : flagD ops o = true) {φ φ' : Nat → Option AV} {m m' : Mem} (h : Yields P qc N ops o φ m φ' m') : m' = m ∧ ∀ m2, Yields P qc N ops o φ m2 φ' m2 := by
  rcases h with ⟨hg, u, hs, he⟩ | ⟨h0, he, hm⟩
  · obtain ⟨dst, op, ty, pos, af, gd⟩ := o
    have hp := hg.2.1.1.2 hf
    cases op <;> simp only [isRd] at hc <;> try (cases hc; done)
    case load t a =>
      obtain ⟨d, x, h1, h2, h3, h4⟩ := hs
      simp only [byData] at hp
      obtain ⟨cs, hp⟩ := hp
      simp only [opF, hp] at h3
      cases hti : tiOf P t with
      | none => rw [hti] at h3; cases h3
      | some ti =>
        rw [hti] at h3
        simp only at h3
        have hl : ∀ m2, loadF ti m2 (.c (.pel cs)) = loadF ti m (.c (.pel cs)) := fun _ => rfl
        refine ⟨(map_mem (m2 := m) h3).1, fun m2 => .inl ⟨hg.mem rfl, u, ⟨d, x, h1, h2, ?_, h4⟩, he⟩⟩
        simp only [opF, hp, hti]
        rw [hl m2]
        exact (map_mem h3).2
    case indexAddr t a b =>
      obtain ⟨d, x, h1, h2, h3, h4⟩ := hs
      simp only [byData] at hp
      obtain ⟨es, hp⟩ := hp
      simp only [opF, hp] at h3
      cases hix : ev φ b with
      | none => rw [hix] at h3; cases h3
      | some ix =>
        rw [hix] at h3
        simp only at h3
        refine ⟨(map_mem (m2 := m) h3).1, fun m2 => .inl ⟨hg.mem rfl, u, ⟨d, x, h1, h2, ?_, h4⟩, he⟩⟩
        simp only [opF, hp, hix]
        rw [indexF_mem (m := m)]
        exact (map_mem h3).2
  · exact ⟨hm, fun m2 => .inr ⟨h0, he, rfl⟩⟩

/-- A new block, made before the call in place of behind it. -/
theorem yields_al {o : Oper} (hc : isAl o = true) {φ φ' : Nat → Option AV} {m m1 m2 : Mem} (hnx : m1.nx = m.nx) (h : Yields P qc N ops o φ m1 φ' m2) :
    (m2 = m1 ∧ Yields P qc N ops o φ m φ' m) ∨ ∃ d cs, constCellsLow cs ∧ m2 = addObj d m1 (.blk cs) ∧ Yields P qc N ops o φ m φ' (addObj d m (.blk cs)) := by
  rcases h with ⟨hg, u, hs, he⟩ | ⟨hg, he, hm⟩
  · obtain ⟨dst, op, ty, pos, af, gd⟩ := o
    cases op <;> simp only [isAl] at hc <;> try (cases hc; done)
    rename_i T
    obtain ⟨d, x, h1, h2, h3, h4⟩ := hs
    simp only [opF] at h3
    split at h3
    · rename_i ti e1
      split at h3
      · rename_i cs e2
        simp at h3
        have hid : newId d m1 = newId d m := by simp [newId, hnx]
        refine .inr ⟨d, cs, fun n => lowCs_const e2, h3.2.symm, .inl ⟨hg.mem rfl, u, ⟨d, x, h1, h2, ?_, h4⟩, he⟩⟩
        simp only [opF, e1, e2]
        rw [← h3.1, hid]
      · cases h3
    · cases h3
  · exact .inl ⟨hm, .inr ⟨hg, he, rfl⟩⟩
theorem yields_frame {o : Oper} (hc : isCallV o = true) (hf : flagC ops o = true) {φ φ' : Nat → Option AV} {m m1 : Mem} {d : Nat} {cs : List Cell} (hcs : constCellsLow cs) (h : Yields P qc N ops o φ m φ' m1) :
    m1.nx = m.nx ∧ Yields P qc N ops o φ (addObj d m (.blk cs)) φ' (addObj d m1 (.blk cs)) := by
  rcases h with ⟨hg, u, hs, he⟩ | ⟨hg, he, hm⟩
  · obtain ⟨dst, op, ty, pos, af, gd⟩ := o
    have ht := hg.2.2 hf
    cases op <;> simp only [isCallV] at hc <;> try (cases hc; done)
    rename_i c
    obtain ⟨callee, args, ats⟩ := c
    cases callee <;> simp only at hc <;> try (cases hc; done)
    rename_i f
    cases f <;> simp only [TameO] at ht <;> try exact ht.elim
    rename_i fid0
    obtain ⟨l0, hl0, htb⟩ := ht
    obtain ⟨t1, t2, t3, t4⟩ := tameB_ok htb
    obtain ⟨fid, caps, l, r, c1, c2, c3, c4, c5, c6⟩ := hs
    rw [hl0] at c2
    simp at c2
    subst c2
    simp [ev] at c1
    obtain ⟨rfl, rfl⟩ := c1
    have hnk : ∀ o, mget m.o (newId d m) ≠ some o := fun o ho => by
      have := (lowM_in t2 ho).1
      have h5 : m.nx + 1 ≤ m.nx := Nat.le_of_ble_eq_true this
      omega
    have hnk0 : mget m.o (newId d m) = none := by
      cases hh : mget m.o (newId d m) with
      | none => rfl
      | some o => exact absurd hh (hnk o)
    have hid : newId d m1 = newId d m := by simp [newId, t3]
    have fr := CallSem.frame (M := addObj d m (.blk cs)) (M' := addObj d m1 (.blk cs)) c3 (LI m.nx) (fun _ => rfl) (fun s k hk => by
        have : k + 1 ≤ m.nx := Nat.le_of_ble_eq_true hk
        omega) (fun s k hk => Nat.ble_eq_true_of_le hk) t3 (by simp [addObj]) (by simp [addObj, t3]) (by simpa using lowAs_in t1) (fun i o hi => lowM_in t2 hi) (fun i o hi => by simp only [addObj, mget_snoc, hi]) (fun i o hi hn => by
        simp only [addObj, mget_snoc, hn] at hi
        split at hi
        · rename_i e
          subst e
          intro hh
          have h5 : m.nx + 1 ≤ m.nx := Nat.le_of_ble_eq_true hh
          omega
        · cases hi) (fun i o hi => by
        simp only [addObj, mget_snoc] at hi
        cases h1 : mget m1.o i with
        | some y => rw [h1] at hi; simp at hi; subst hi; exact .inl rfl
        | none =>
          rw [h1] at hi
          simp only at hi
          split at hi
          · rename_i e
            subst e
            right
            rw [hid]
            refine ⟨hnk0, ?_⟩
            simp only [addObj, mget_snoc, hnk0]
            simp at hi ⊢
            exact hi
          · cases hi)
    have tm : tameB (addObj d m (.blk cs)) (addObj d m1 (.blk cs)) l0 = true := by
      refine tameB_of (lowAs_mono (by simp [addObj]) t1) ?_ (by simp [addObj, t3]) ?_
      · exact lowM_snoc (n := m.nx) (k := m.nx + 1) (by omega) (show lowI (m.nx + 1) (newId d m) = true from Nat.ble_eq_true_of_le (Nat.le_refl _)) (hcs _) t2
      · simp only [addObj, hid]
        exact sameKeys_snoc t4
    refine ⟨t3, .inl ⟨⟨hg.1, hg.2.1, fun _ => ⟨l0, hl0, tm⟩⟩, u, ⟨_, [], l0, r, rfl, hl0, by simpa using fr, ⟨fun e => by rw [c4.1 e], fun hno i cs0 hi => ?_⟩, c5, c6⟩, he⟩⟩
    · have hk := c4.2 hno i cs0 hi
      simp only [addObj, mget_snoc]
      cases h1 : mget m.o i with
      | none =>
        have h2 := sameKeys_none t4 h1
        rw [h2]
        simp only [hid]
      | some y =>
        cases h2 : mget m1.o i with
        | none => rw [sameKeys_some t4 h2] at h1; cases h1
        | some z => rw [h1, h2] at hk; exact hk
  · exact ⟨by rw [hm], .inr ⟨hg, he, by rw [hm]⟩⟩

/-- The frame's own blocks are the same. -/
def ownI (m m' : Mem) : Prop := ∀ i cs, isOwn i = true → (mget m'.o i = some (.blk cs) ↔ mget m.o i = some (.blk cs))
theorem yields_own {o : Oper} (hc : isCallV o = true) (hf : flagB ops o = true) {φ φ' : Nat → Option AV} {m m' : Mem} (h : Yields P qc N ops o φ m φ' m') : ownI m m' := by
  rcases h with ⟨hg, u, hs, he⟩ | ⟨hg, he, hm⟩
  · obtain ⟨dst, op, ty, pos, af, gd⟩ := o
    have ht := hg.2.1.2.2 hf
    cases op <;> simp only [isCallV] at hc <;> try (cases hc; done)
    rename_i c
    obtain ⟨callee, args, ats⟩ := c
    cases callee <;> simp only at hc <;> try (cases hc; done)
    rename_i f
    cases f <;> simp only [byNo] at ht <;> try exact ht.elim
    obtain ⟨l0, hl0, hno⟩ := ht
    obtain ⟨fid, caps, l, r, c1, c2, c3, c4, c5, c6⟩ := hs
    rw [hl0] at c2
    simp at c2
    subst c2
    simp [ev] at c1
    obtain ⟨rfl, rfl⟩ := c1
    exact c4.2 (by simpa using hno)
  · rw [hm]; exact fun _ _ _ => Iff.rfl
theorem loadF_own {ti : TI} {m m' : Mem} (hb : ownI m m') {p : AV} (hp : (∃ i off, p = .c (.ptr i off) ∧ isOwn i = true) ∨ ∃ cs, p = .c (.pel cs)) : loadF ti m' p = loadF ti m p := by
  rcases hp with ⟨i, off, rfl, hi⟩ | ⟨cs, rfl⟩
  · unfold loadF
    simp only
    cases h : mget m.o i with
    | none =>
      cases h' : mget m'.o i with
      | none => rfl
      | some y => cases y with
        | blk cs => rw [(hb i cs hi).1 h'] at h; cases h
        | arr _ _ _ _ => rfl
    | some y =>
      cases y with
      | blk cs => rw [(hb i cs hi).2 h]
      | arr _ _ _ _ =>
        cases h' : mget m'.o i with
        | none => rfl
        | some y => cases y with
          | blk cs => rw [(hb i cs hi).1 h'] at h; cases h
          | arr _ _ _ _ => rfl
  · rfl
theorem yields_ownload {o : Oper} (hc : isLoad o = true) (hf : flagM ops o = true) {φ φ' : Nat → Option AV} {m m' m2 : Mem} (hb : ownI m m2 ∨ ownI m2 m) (h : Yields P qc N ops o φ m φ' m') : m' = m ∧ Yields P qc N ops o φ m2 φ' m2 := by
  rcases h with ⟨hg, u, hs, he⟩ | ⟨h0, he, hm⟩
  · obtain ⟨dst, op, ty, pos, af, gd⟩ := o
    have hp := hg.2.1.2.1 hf
    cases op <;> simp only [isLoad] at hc <;> try (cases hc; done)
    rename_i t a
    obtain ⟨d, x, h1, h2, h3, h4⟩ := hs
    simp only [byOwn] at hp
    have hl : ∀ ti p, ev φ a = some p → loadF ti m2 p = loadF ti m p := fun ti p hpe => by
      have hpp : (∃ i off, p = .c (.ptr i off) ∧ isOwn i = true) ∨ ∃ cs, p = .c (.pel cs) := by
        rw [hpe] at hp
        rcases hp with ⟨i, off, e, hi⟩ | ⟨cs, e⟩
        · simp at e; exact .inl ⟨i, off, e, hi⟩
        · simp at e; exact .inr ⟨cs, e⟩
      rcases hb with hb | hb
      · exact loadF_own hb hpp
      · exact (loadF_own hb hpp).symm
    simp only [opF] at h3
    split at h3
    · rename_i ti p e1 e2
      cases hl2 : loadF ti m p with
      | none => rw [hl2] at h3; cases h3
      | some z =>
        rw [hl2] at h3
        simp at h3
        refine ⟨h3.2.symm, .inl ⟨hg.mem rfl, u, ⟨d, x, h1, h2, ?_, h4⟩, he⟩⟩
        simp only [opF, e1, e2]
        rw [hl ti p e2, hl2]
        simp [h3.1]
    · cases h3
  · exact ⟨hm, .inr ⟨h0, he, rfl⟩⟩

/-- TWO STEPS APART CHANGE PLACES. -/
theorem yields_comm {oi oj : Oper} (hap : apartS qc ops oi oj = true) {φ φ1 φ2 : Nat → Option AV} {m m1 m2 : Mem} (hi : Yields P qc N ops oi φ m φ1 m1) (hj : Yields P qc N ops oj φ1 m1 φ2 m2) :
    ∃ φ3 m3, Yields P qc N ops oj φ m φ3 m3 ∧ Yields P qc N ops oi φ3 m3 φ2 m2 := by
  simp only [apartS, Bool.and_eq_true, Bool.or_eq_true, beq_iff_eq, decide_eq_true_eq] at hap
  obtain ⟨hap, hcls⟩ := hap
  obtain ⟨a1, a2, a3⟩ := Oper.apart_spec hap
  obtain ⟨x, hx⟩ := yields_put hi
  subst hx
  have a2' : ∀ k, oi.dst = some k → oj.dst ≠ some k := a2
  obtain ⟨φ3, k1, k2⟩ := (yields_move (P := P) (qc := qc) (N := N) (ops := ops) (o := oj) (d := oi.dst) (x := x) (φ := φ) (φ' := φ) (m := m1) (m' := m2) a1 a2').1 φ2 hj
  obtain ⟨y, hy⟩ := yields_put k1
  have a2'' : ∀ k, oj.dst = some k → oi.dst ≠ some k := fun k h1 h2 => a2 k h2 h1
  have mv : ∀ {m m1}, Yields P qc N ops oi φ m (put oi.dst x φ) m1 → Yields P qc N ops oi φ3 m φ2 m1 := fun {m m1} h => by
    have := (yields_move (d := oj.dst) (x := y) a3 a2'').2 h
    rw [hy, k2, hy, put_comm a2' x y φ]
    exact this
  have mvM : ∀ {M M1}, Yields P qc N ops oi φ M (put oi.dst x φ) M1 → Yields P qc N ops oi φ3 M φ2 M1 := mv
  rcases hcls with (((((((((hc | hc) | ⟨hc, hd⟩) | ⟨hc, hd⟩) | ⟨⟨hc, hf⟩, hd⟩) | ⟨⟨hc, hd⟩, hf⟩) | ⟨hc, hf⟩) | ⟨hc, hf⟩) | ⟨⟨hc, hf⟩, hd⟩) | ⟨⟨hc, hf⟩, hd, hdf⟩) | ⟨⟨hc, hf⟩, hd, hdf⟩
  · obtain ⟨rfl, hp⟩ := yields_pure hc hi
    exact ⟨φ3, m2, k1, mv (hp m2)⟩
  · obtain ⟨rfl, hp⟩ := yields_pure hc k1
    exact ⟨φ3, m, hp m, mv hi⟩
  · have e1 := yields_quiet hc hi
    have e2 := yields_quiet hd k1
    subst e1
    subst e2
    exact ⟨φ3, _, k1, mv hi⟩
  · obtain ⟨e1, _⟩ := yields_read hc (.refl _) hi
    subst e1
    exact ⟨φ3, m2, k1, mv (yields_read hc (yields_add hd k1) hi).2⟩
  · obtain ⟨e1, _⟩ := yields_load hc hf (m2 := m) (.inl (.refl _)) hi
    subst e1
    exact ⟨φ3, m2, k1, mv (yields_load hc hf (.inl (yields_arr hd k1)) hi).2⟩
  · obtain ⟨e1, q⟩ := yields_load hd hf (m2 := m) (.inr (yields_arr hc hi)) k1
    subst e1
    exact ⟨φ3, m, q, mv hi⟩
  · obtain ⟨rfl, hp⟩ := yields_data hc hf hi
    exact ⟨φ3, m2, k1, mv (hp m2)⟩
  · obtain ⟨rfl, hp⟩ := yields_data hc hf k1
    exact ⟨φ3, m, hp m, mv hi⟩
  · have hnx := (yields_frame (d := 0) (cs := []) hc hf (fun _ => rfl) hi).1
    rcases yields_al hd hnx k1 with ⟨e1, q⟩ | ⟨d, cs, hcs, e1, q⟩
    · subst e1
      exact ⟨φ3, m, q, mv hi⟩
    · subst e1
      exact ⟨φ3, _, q, mvM (yields_frame hc hf hcs hi).2⟩
  · obtain ⟨e1, _⟩ := yields_ownload hc hf (m2 := m) (.inl fun _ _ _ => Iff.rfl) hi
    subst e1
    exact ⟨φ3, m2, k1, mv (yields_ownload hc hf (.inl (yields_own hd hdf k1)) hi).2⟩
  · obtain ⟨e1, q⟩ := yields_ownload hd hdf (m2 := m) (.inr (yields_own hc hf hi)) k1
    subst e1
    exact ⟨φ3, m, q, mv hi⟩

/-- Operation number i comes up. -/
def opS (P : Program) (qc : Nat → Bool) (N : Nat) (ops : Array Oper) (i : Nat) (K : (Nat → Option AV) → Mem → Prop) (φ : Nat → Option AV) (m : Mem) : Prop :=
  match ops[i]? with
  | none => K φ m
  | some o => ∃ φ' m', Yields P qc N ops o φ m φ' m' ∧ K φ' m'

theorem opS_mono {i : Nat} {K K' : (Nat → Option AV) → Mem → Prop} (h : ∀ φ m, K φ m → K' φ m) {φ : Nat → Option AV} {m : Mem} (hh : opS P qc N ops i K φ m) : opS P qc N ops i K' φ m := by
  unfold opS at *
  split
  · exact h _ _ (by simpa [*] using hh)
  · rename_i o ho
    simp only [ho] at hh
    obtain ⟨φ', m', h1, h2⟩ := hh
    exact ⟨φ', m', h1, h _ _ h2⟩

def anyS (P : Program) (qc : Nat → Bool) (N : Nat) (ops : Array Oper) (K : (Nat → Option AV) → Mem → Prop) : Nat → Array Bool → (Nat → Option AV) → Mem → Prop
  | 0, listed, φ, m => Region.ready .any ops listed = [] ∧ K φ m
  | fuel + 1, listed, φ, m => (Region.ready .any ops listed = [] → K φ m) ∧ ∀ i ∈ Region.ready .any ops listed, opS P qc N ops i (anyS P qc N ops K fuel (listed.setIfInBounds i true)) φ m

theorem opS_of {i : Nat} {o : Oper} (hi : ops[i]? = some o) {K : (Nat → Option AV) → Mem → Prop} {φ φ' : Nat → Option AV} {m m' : Mem} (hy : Yields P qc N ops o φ m φ' m') (hk : K φ' m') : opS P qc N ops i K φ m := by
  unfold opS
  simp only [hi]
  exact ⟨φ', m', hy, hk⟩

theorem opS_comm {j : Nat} {oi oj : Oper} (hj : ops[j]? = some oj) (hap : apartS qc ops oi oj = true) {K : (Nat → Option AV) → Mem → Prop} {φ φ1 : Nat → Option AV} {m m1 : Mem} (hi : Yields P qc N ops oi φ m φ1 m1) (h : opS P qc N ops j K φ1 m1) :
    opS P qc N ops j (fun φ' m' => ∃ φ2 m2, Yields P qc N ops oi φ' m' φ2 m2 ∧ K φ2 m2) φ m := by
  unfold opS at *
  simp only [hj] at *
  obtain ⟨φ2, m2, h1, h2⟩ := h
  obtain ⟨φ3, m3, h3, h4⟩ := yields_comm hap hi h1
  exact ⟨φ3, m3, h3, φ2, m2, h4, h2⟩

/-- An operation that may come up now may be taken first. -/
theorem anyS_first {K : (Nat → Option AV) → Mem → Prop} {i : Nat} {oi : Oper} (hi : ops[i]? = some oi) (Bk : Nat → Bool) (hB : ∀ j oj, Bk j = true → j ≠ i → ops[j]? = some oj → ∃ e ∈ oj.after, Region.binds .any e = true ∧ Bk e.on = true) :
    ∀ (fuel : Nat) (listed : Array Bool) (φ φ1 : Nat → Option AV) (m m1 : Mem),
      (∀ j oj, ops[j]? = some oj → j ≠ i → listed.getD j true = false → Bk j = false → apartS qc ops oi oj = true) →
      (∀ j, Bk j = true → listed.getD j true = false) →
      i ∈ Region.ready .any ops listed → Yields P qc N ops oi φ m φ1 m1 →
      anyS P qc N ops K fuel (listed.setIfInBounds i true) φ1 m1 → anyS P qc N ops K (fuel + 1) listed φ m := by
  intro fuel
  induction fuel with
  | zero =>
    intro listed φ φ1 m m1 _ _ hr hy H
    refine ⟨fun h => (by rw [h] at hr; cases hr), fun j hj => ?_⟩
    by_cases hji : j = i
    · subst hji; exact opS_of hi hy H
    · have := ready_mono hj hji
      rw [H.1] at this
      cases this
  | succ fuel ih =>
    intro listed φ φ1 m m1 hfree hun0 hr hy H
    refine ⟨fun h => (by rw [h] at hr; cases hr), fun j hj => ?_⟩
    by_cases hji : j = i
    · subst hji; exact opS_of hi hy H
    · have h1 := H.2 j (ready_mono hj hji)
      obtain ⟨hjun, oj, hoj, hall⟩ := mem_ready.1 hj
      have hnot : Bk j = false := by
        cases hbj : Bk j with
        | false => rfl
        | true =>
          obtain ⟨e, he, hb, hbe⟩ := hB j oj hbj hji hoj
          have h1 := hall e he hb
          have h0 := hun0 e.on hbe
          rcases Nat.lt_or_ge e.on listed.size with h' | h'
          · simp [h'] at h0 h1; rw [h0] at h1; cases h1
          · simp [Array.getElem?_eq_none h'] at h1
      have h2 := opS_comm hoj (hfree j oj hoj hji hjun hnot) hy h1
      have hfree' : ∀ k ok, ops[k]? = some ok → k ≠ i → (listed.setIfInBounds j true).getD k true = false →
          Bk k = false → apartS qc ops oi ok = true := fun k ok hk hki hun hno => by
        refine hfree k ok hk hki ?_ hno
        by_cases hjk : j = k
        · subst hjk; exact hjun
        · rw [getD_set_ne true hjk] at hun; exact hun
      refine opS_mono (fun φ' m' h3 => ?_) h2
      obtain ⟨φ2, m2, h4, h5⟩ := h3
      refine ih (listed.setIfInBounds j true) φ' φ2 m' m2 hfree' (fun k hk => by rw [getD_set_ne true (fun e => by rw [e] at hnot; rw [hnot] at hk; cases hk)]; exact hun0 k hk) (ready_mono hr (Ne.symm hji)) h4 ?_
      rw [Array.setIfInBounds_comm _ _ hji]
      exact h5

/-- The operations that wait for number i. -/
def waitsS (ops : Array Oper) (i : Nat) : Array Bool :=
  (List.range ops.size).foldl (fun B k => match ops[k]? with
    | some o => B.setIfInBounds k (k == i || o.after.any (fun e => Region.binds .any e && B.getD e.on false))
    | none => B) (Array.replicate ops.size false)

def freeWith (qc : Nat → Bool) (ops : Array Oper) (listed : Array Bool) (i : Nat) (Bk : Array Bool) : Bool :=
  match ops[i]? with
  | none => false
  | some oi => listed.getD i true == false && (List.range ops.size).all fun j => match ops[j]? with
      | some oj => (!Bk.getD j false || j == i || (listed.getD j true == false && oj.after.any (fun e => Region.binds .any e && (Bk.getD e.on false && decide (e.on < ops.size))))) &&
          (j == i || listed.getD j true || Bk.getD j false || apartS qc ops oi oj)
      | none => true
def freeS (qc : Nat → Bool) (ops : Array Oper) (listed : Array Bool) (i : Nat) : Bool := freeWith qc ops listed i (waitsS ops i)

theorem freeWith_spec {i : Nat} {oi : Oper} {listed Bk : Array Bool} (hi : ops[i]? = some oi) (h : freeWith qc ops listed i Bk = true) :
    listed.getD i true = false ∧ ∀ (j : Nat) (oj : Oper), ops[j]? = some oj → (Bk.getD j false = true → j ≠ i → listed.getD j true = false ∧ ∃ e ∈ oj.after, Region.binds .any e = true ∧ (Bk.getD e.on false && decide (e.on < ops.size)) = true) ∧
      (j ≠ i → listed.getD j true = false → Bk.getD j false = false → apartS qc ops oi oj = true) := by
  simp only [freeWith, hi, Bool.and_eq_true, beq_iff_eq, List.all_eq_true, List.mem_range] at h
  refine ⟨h.1, fun j oj hj => ?_⟩
  have h1 := h.2 j (Array.getElem?_eq_some_iff.1 hj).1
  simp only [hj, Bool.and_eq_true, Bool.or_eq_true, beq_iff_eq, Bool.not_eq_true'] at h1
  obtain ⟨h2, h3⟩ := h1
  refine ⟨fun hb hne => ?_, fun hne hun hb => ?_⟩
  · rcases h2 with (h2 | h2) | ⟨h2, h4⟩
    · rw [h2] at hb; cases hb
    · exact absurd h2 hne
    · obtain ⟨e, he, hb'⟩ := Array.any_eq_true'.1 h4
      rw [Bool.and_eq_true] at hb'
      exact ⟨h2, e, he, hb'.1, hb'.2⟩
  · rcases h3 with ((h3 | h3) | h3) | h3
    · exact absurd h3 hne
    · rw [h3] at hun; cases hun
    · rw [h3] at hb; cases hb
    · exact h3

def lexFromS (qc : Nat → Bool) (ops : Array Oper) : Nat → Nat → Array Bool → Bool
  | 0, _, listed => (Region.ready .any ops listed).isEmpty
  | fuel + 1, k, listed => (Region.ready .any ops listed).contains k && freeS qc ops listed k && lexFromS qc ops fuel (k + 1) (listed.setIfInBounds k true)

def lexS (qc : Nat → Bool) (ops : Array Oper) : Bool := lexFromS qc ops ops.size 0 (Array.replicate ops.size false)

/-- The operations in the text's order. -/
def listS (P : Program) (qc : Nat → Bool) (N : Nat) (ops : Array Oper) (K : (Nat → Option AV) → Mem → Prop) : List Oper → (Nat → Option AV) → Mem → Prop
  | [], φ, m => K φ m
  | o :: r, φ, m => ∃ φ' m', Yields P qc N ops o φ m φ' m' ∧ listS P qc N ops K r φ' m'

theorem anyS_lex {K : (Nat → Option AV) → Mem → Prop} : ∀ (l : List Oper) (k : Nat) (listed : Array Bool) (φ : Nat → Option AV) (m : Mem), (∀ j, l[j]? = ops[k + j]?) →
    lexFromS qc ops l.length k listed = true → listS P qc N ops K l φ m → anyS P qc N ops K l.length listed φ m
  | [], _, _, _, _, _, hB, h => ⟨by simpa [lexFromS] using hB, h⟩
  | o :: l, k, listed, φ, m, hl, hB, h => by
    have h0 : ops[k]? = some o := by simpa using (hl 0).symm
    simp only [List.length_cons, lexFromS, Bool.and_eq_true] at hB
    obtain ⟨⟨hr, hf⟩, hB'⟩ := hB
    obtain ⟨φ', m', hy, hK⟩ := h
    obtain ⟨f1, f2⟩ := freeWith_spec h0 hf
    refine anyS_first h0 (fun j => (waitsS ops k).getD j false && decide (j < ops.size)) (fun j oj hb hne hj => ?_) l.length listed φ φ' m m' (fun j oj hj hne hun hb => ?_) (fun j hb => ?_) (by simpa using hr) hy
      (anyS_lex l (k + 1) _ _ _ (fun j => by have := hl (j + 1); simpa [Nat.add_assoc, Nat.add_comm 1 j] using this) hB' hK)
    · simp only [Bool.and_eq_true, decide_eq_true_eq] at hb
      exact ((f2 j oj hj).1 hb.1 hne).2
    · refine (f2 j oj hj).2 hne hun ?_
      have : j < ops.size := (Array.getElem?_eq_some_iff.1 hj).1
      simpa [this] using hb
    · simp only [Bool.and_eq_true, decide_eq_true_eq] at hb
      by_cases hjk : j = k
      · rw [hjk]; exact f1
      · exact ((f2 j ops[j] (Array.getElem?_eq_getElem hb.2)).1 hb.1 hjk).1

/-! ### The real run -/

variable {B : Base}

structure RS (B : Base) (φ : Nat → Option AV) (m : Mem) (a : Act) (w : World) : Prop where
  ex : ∃ g, Slots g w φ a ∧ Inv B g m w
  defers : a.defers = []
  size : a.tmps.size = B.N

theorem slots_put {g : G} {w : World} {φ : Nat → Option AV} {a : Act} (h : Slots g w φ a) {d : Option Nat} {x : Option AV} {v : Value} (hx : ∀ k y, d = some k → x = some y → k < a.tmps.size ∧ RepA g w y v) : Slots g w (put d x φ) (a.put d v) := by
  cases d with
  | none => exact h
  | some d =>
    intro t y hy
    simp only [put] at hy
    simp only [Act.put]
    by_cases ht : t = d
    · subst ht
      rw [if_pos rfl] at hy
      obtain ⟨h1, h2⟩ := hx t y rfl hy
      exact ⟨v, by simp [h1], h2⟩
    · rw [if_neg ht] at hy
      obtain ⟨v', h1, h2⟩ := h t y hy
      exact ⟨v', by rw [Array.getElem?_setIfInBounds_ne (Ne.symm ht)]; exact h1, h2⟩

theorem slots_ext {g g' : G} {w w' : World} {φ : Nat → Option AV} {a : Act} (h : Slots g w φ a) (he : Ext g w g' w') : Slots g' w' φ a := fun t x hx => by
  obtain ⟨v, h1, h2⟩ := h t x hx
  exact ⟨v, h1, h2.ext he⟩

theorem size_put (a : Act) (d : Option Nat) (v : Value) : (a.put d v).tmps.size = a.tmps.size := by cases d <;> simp [Act.put]
theorem defers_put (a : Act) (d : Option Nat) (v : Value) : (a.put d v).defers = a.defers := by cases d <;> rfl

theorem guard_wanted {φ : Nat → Option AV} {m : Mem} {a : Act} {w : World} (hR : RS B φ m a w) {o : Oper} {r : Bool} (h : guardF ops o φ = some r) : Region.wanted o (yielded ops a.tmps) = r := by
  obtain ⟨g, hs, _⟩ := hR.ex
  unfold guardF at h
  unfold Region.wanted
  cases hg : o.guard with
  | none => simp [hg] at h; exact h.symm
  | some gw =>
    obtain ⟨j, want⟩ := gw
    simp only [hg] at h ⊢
    cases hd : (ops[j]?).bind (·.dst) with
    | none => simp [hd] at h
    | some d =>
      simp only [hd] at h
      split at h
      · rename_i b hb
        obtain ⟨v, h1, h2⟩ := hs d _ hb
        have := isBool h2
        subst this
        simp at h
        simp [yielded, hd, h1, h]
      · rename_i hb
        obtain ⟨v, h1, h2⟩ := hs d _ hb
        simp at h
        subst h
        cases h2 with
        | tup us hl _ =>
          have : us = [] := List.eq_nil_of_length_eq_zero hl
          subst this
          simp [yielded, hd, h1]
      · cases h

theorem run_callFunc_enter {f : Nat} {vals : Array Value} {w : World} (h : ∀ vals w, (callFunc f vals).run P w = .ok (.enter f vals) w) : (callFunc f vals).run P w = .ok (.enter f vals) w := h vals w

/-- A step is right. -/
theorem stepR_wp {φ : Nat → Option AV} {m m' : Mem} {a : Act} {w : World} (hN : B.N = N) (hR : RS B φ m a w) {o : Oper} {u : Option (Nat × AV)} (h : StepR P qc N o φ m u m') {K : Act → World → Prop} {Q : Exit → Act → World → Prop}
    (hK : ∀ a' w', RS B (appl u φ) m' a' w' → K a' w') : o.wp P a w K Q := by
  obtain ⟨⟨g, hs, hI⟩, hd, hz⟩ := hR
  have hdst := stepR_dst h
  have fin : ∀ {g' w' v}, Ext g w g' w' → Inv B g' m' w' → (∀ k y, o.dst = some k → u.map (·.2) = some y → k < a.tmps.size ∧ RepA g' w' y v) → K (a.put o.dst v) w' := fun {g' w' v} he hI' hr => by
    refine hK _ _ ⟨⟨g', ?_, hI'⟩, by rw [defers_put]; exact hd, by rw [size_put]; exact hz⟩
    rw [appl_put, hdst]
    exact slots_put (slots_ext hs he) hr
  unfold StepR at h
  unfold Oper.wp
  split at h
  · rename_i t p v ho
    obtain ⟨h1, h2, ti, pa, va, h3, h4, h5, h6⟩ := h
    obtain ⟨w', g', r1, r2, r3⟩ := storeOp_ok hI hs o ho h3 h4 h5 h6
    rw [r1, Oper.upon_skip]
    exact fin r2 r3 (fun k y hk => by rw [h1] at hk; cases hk)
  · rename_i f args ats ho
    obtain ⟨fid, caps, l, r, h1, h2, ⟨h3, h4⟩, _, h6, h7⟩ := h
    have hf := ev_rep hs h1
    obtain ⟨hll, hlr⟩ := evs_rep hs h2
    obtain ⟨us, hfv, hul, hur⟩ : ∃ us : List Value, a.eval f = .func (.func fid) #[] us.toArray ∧ us.length = caps.length ∧ ∀ (j : Nat) c u, caps[j]? = some c → us[j]? = some u → RepC g w c u := by
      generalize a.eval f = v at hf
      cases hf with
      | c hf => cases hf with
        | pure hf => cases hf
        | fn us hl hr => exact ⟨us, rfl, hl, hr⟩
    have hrun : (execOp a.eval o).run P w = .ok (.enter fid (args.toList.map a.eval ++ us).toArray) w := by
      have e : (args.map a.eval ++ us.toArray) = (args.toList.map a.eval ++ us).toArray := by apply Array.ext'; simp
      simp only [execOp, ho, resolve, Deferred.ofValue, hfv, Sem.run_bind, Sem.run_pure, Result.andThen_ok, invoke, Array.empty_append]
      rw [e]
      exact h3 _ _
    rw [hrun, Oper.upon_enter]
    refine (h4 B g w (args.toList.map a.eval ++ us) hI (by simp [hll, hul]) (fun j x v hx hv => ?_)).mono fun e w' he => ?_
    · rw [List.getElem?_append] at hx hv
      simp only [List.length_map] at hv
      by_cases hj : j < l.length
      · rw [if_pos hj] at hx
        rw [if_pos (by omega)] at hv
        exact hlr j x v hx hv
      · rw [if_neg hj] at hx
        rw [if_neg (by omega)] at hv
        rw [List.getElem?_map] at hx
        cases hc : caps[j - l.length]? with
        | none => simp [hc] at hx
        | some c =>
          simp [hc] at hx
          subst hx
          exact .c (hur _ c v hc (by rw [show j - l.length = j - args.toList.length by omega]; exact hv))
    · obtain ⟨v, g', rfl, r1, r2, r3⟩ := he
      exact fin r1 r3 (fun k y hk hy => by
        rw [h6, hk] at hy
        simp at hy
        subst hy
        exact ⟨by rw [hz, hN]; exact h7 k hk, r2⟩)
  · obtain ⟨d, x, h1, h2, h3, h4⟩ := h
    obtain ⟨v, w', g', r1, r2, r3, r4⟩ := opF_ok hI hs o h3
    rw [r1, Oper.upon_value]
    exact fin r2 r4 (fun k y hk hy => by
      rw [h1] at hk
      rw [h4] at hy
      simp at hk hy
      subst hk; subst hy
      exact ⟨by rw [hz, hN]; exact h2, r3⟩)

theorem yields_skip {φ φ' : Nat → Option AV} {m m' : Mem} {a : Act} {w : World} (hN : B.N = N) (hR : RS B φ m a w) {o : Oper} (h1 : SkipTo N o φ φ') (h2 : m' = m) : RS B φ' m' (a.put o.dst undef) w := by
  obtain ⟨⟨g, hs, hI⟩, hd, hz⟩ := hR
  obtain ⟨hdN, h1⟩ := h1
  subst h1; subst h2
  refine ⟨⟨g, ?_, hI⟩, by rw [defers_put]; exact hd, by rw [size_put]; exact hz⟩
  rw [delF_put]
  exact slots_put hs (fun k y hk h => by
    cases h
    exact ⟨by rw [hz, hN]; exact hdN k hk, .tup [] rfl fun j x u h => by simp at h⟩)

theorem wpAny_of_anyS (hN : B.N = N) {K : (Nat → Option AV) → Mem → Prop} {Q : Exit → Act → World → Prop} (hQ : ∀ φ m a w, RS B φ m a w → K φ m → Q .normal a w) :
    ∀ (fuel : Nat) (listed : Array Bool) (φ : Nat → Option AV) (m : Mem) (a : Act) (w : World), RS B φ m a w → anyS P qc N ops K fuel listed φ m → wpAny P .any ops Q fuel listed a w
  | 0, _, φ, m, a, w, hR, h => ⟨h.1, hQ _ _ _ _ hR h.2⟩
  | fuel + 1, listed, φ, m, a, w, hR, h => by
    refine ⟨fun h0 => hQ _ _ _ _ hR (h.1 h0), fun i hi => ?_⟩
    have h1 := h.2 i hi
    unfold opS at h1
    unfold wpOp
    split at h1
    · rename_i ho
      rw [ho]
      exact wpAny_of_anyS hN hQ fuel _ _ _ _ _ hR h1
    · rename_i o ho
      rw [ho]
      simp only
      obtain ⟨φ', m', hy, hk⟩ := h1
      rcases hy with ⟨hg, u, hs, rfl⟩ | ⟨hg, h2, h3⟩
      · rw [guard_wanted hR hg.1]
        simp only [if_true]
        exact .inl (stepR_wp hN hR hs fun a' w' hR' => wpAny_of_anyS hN hQ fuel _ _ _ _ _ hR' hk)
      · rw [guard_wanted hR hg]
        simp only [Bool.false_eq_true, if_false]
        exact wpAny_of_anyS hN hQ fuel _ _ _ _ _ (yields_skip hN hR h2 h3) hk

theorem wpList_of_listS (hN : B.N = N) {K : (Nat → Option AV) → Mem → Prop} {Q : Exit → Act → World → Prop} (hQ : ∀ φ m a w, RS B φ m a w → K φ m → Q .normal a w) :
    ∀ (l : List Oper) (φ : Nat → Option AV) (m : Mem) (a : Act) (w : World), RS B φ m a w → listS P qc N ops K l φ m → wpList P ops Q l a w
  | [], φ, m, a, w, hR, h => hQ _ _ _ _ hR h
  | o :: l, φ, m, a, w, hR, h => by
    obtain ⟨φ', m', hy, hk⟩ := h
    unfold wpList
    rcases hy with ⟨hg, u, hs, rfl⟩ | ⟨hg, h2, h3⟩
    · rw [guard_wanted hR hg.1]
      simp only [if_true]
      exact .inl (stepR_wp hN hR hs fun a' w' hR' => wpList_of_listS hN hQ l _ _ _ _ hR' hk)
    · rw [guard_wanted hR hg]
      simp only [Bool.false_eq_true, if_false]
      exact wpList_of_listS hN hQ l _ _ _ _ (yields_skip hN hR h2 h3) hk

theorem RS.drew {φ : Nat → Option AV} {m : Mem} {a : Act} {w : World} (h : RS B φ m a w) : RS B φ m a w.drew := by
  obtain ⟨⟨g, hs, hI⟩, hd, hz⟩ := h
  obtain ⟨he, hI'⟩ := inv_quiet hI (grownBy_drew w none)
  exact ⟨⟨g, slots_ext hs he, hI'⟩, hd, hz⟩

/-- A REGION IS RIGHT, whether it draws its order or not. -/
theorem region_ok (hm : P.follows .mixedOrders = true) (hN : B.N = N) {id : Nat} {draw : Bool} (hB : draw = true → lexS qc ops = true) {K : (Nat → Option AV) → Mem → Prop} {Q : Exit → Act → World → Prop} (hQ : ∀ φ m a w, RS B φ m a w → K φ m → Q .normal a w)
    {φ : Nat → Option AV} {m : Mem} {a : Act} {w : World} (hR : RS B φ m a w) (h : listS P qc N ops K ops.toList φ m) : (Code.region id ops draw).wp P Q a w := by
  cases draw with
  | false => exact wp_region_list (wpList_of_listS hN hQ _ _ _ _ _ hR h)
  | true =>
    refine wp_region_any hm (wpAny_of_anyS (qc := qc) hN hQ _ _ φ m a _ hR.drew ?_)
    have := anyS_lex (P := P) (qc := qc) (N := N) (K := K) ops.toList 0 (Array.replicate ops.size false) φ m (by simp) (by simpa [lexS] using hB rfl) h
    simpa using this

end
end Go.Abs
