/- Regions: any order that may be drawn comes to the same abstract end; and the abstract end is the real one. -/
import Derived.Test.YtfhnicamjcfddaaGreatDoorAbsM
namespace Go.Abs
set_option linter.unusedSimpArgs false
open Go.RowKit

section
variable {P : Program} {N : Nat} {ops : Array Oper}

theorem opF_loc {o : Oper} {d : Nat} {φ : Nat → Option AV} {m m' : Mem} {x : AV} (h : opF P o.op d φ m = some (x, m')) : LocL (labOp o.op d m.nx φ) d m m' x (opF P o.op d φ ·) := by
  by_cases hc : clsOf (fun _ => false) o = 0
  · obtain ⟨e, h2⟩ := opF_pure hc h
    subst e
    have e : labOp o.op d m'.nx φ = noLab := by
      obtain ⟨dst, op, ty, pos, af, gd⟩ := o
      cases op <;> simp only [clsOf] at hc <;> try first | rfl | (exact absurd hc (by decide))
      rename_i c
      obtain ⟨callee, args, ats⟩ := c
      cases callee <;> try rfl
      rename_i b
      cases b <;> try (exact absurd (show (2 : Nat) = 0 from hc) (by decide))
      all_goals
        simp only [labOp]
        split <;> rfl
    rw [e]
    exact locL_quiet rfl rfl fun M _ => h2 M
  · obtain ⟨dst, op, ty, pos, af, gd⟩ := o
    simp only at h ⊢
    unfold opF at h
    cases op <;> simp only [clsOf] at hc h <;> try (first | (exact (hc trivial).elim) | (cases h; done))
    case alloc T =>
      split at h
      · rename_i ti e1
        split at h
        · rename_i cs e2
          simp at h
          obtain ⟨rfl, rfl⟩ := h
          exact addObj_loc (R := []) (W := []) (updW_nil _ _) fun M hM => ⟨M, by simp only [opF, e1, e2, newId, hM.2]; rfl, updW_nil _ _⟩
        · cases h
      · cases h
    case box T y =>
      split at h
      · rename_i av e1
        split at h
        · rename_i cs e2
          simp at h
          obtain ⟨rfl, rfl⟩ := h
          exact addObj_loc (R := []) (W := []) (updW_nil _ _) fun M hM => ⟨M, by simp only [opF, e1, e2, newId, hM.2]; rfl, updW_nil _ _⟩
        · cases h
      · cases h
    case makeSlice T y z =>
      split at h
      · rename_i e1 e2 e3
        split at h
        · rename_i te e4
          split at h
          · rename_i cs e5
            split at h
            · rename_i e6
              simp at h
              obtain ⟨rfl, rfl⟩ := h
              exact addObj_loc (R := []) (W := []) (updW_nil _ _) fun M hM => ⟨M, by simp only [opF, e1, e2, e3, e4, e5, if_pos e6, newId, hM.2]; rfl, updW_nil _ _⟩
            · cases h
          · cases h
        · cases h
      · cases h
    case buildSlice T n ps =>
      split at h
      · rename_i e e1
        split at h
        · rename_i te e2
          split at h
          · cases h
          · rename_i e3
            split at h
            · rename_i es m1 e4
              split at h
              · rename_i e5
                simp at h
                obtain ⟨rfl, rfl⟩ := h
                have hp := parts_loc e4
                have hid : newId d m1 = .l d m.nx := by simp [newId, hp.self.nx]
                rw [hid]
                exact addObj_loc (R := []) (W := idsP φ ps.toList) hp.self fun M hM => by
                  obtain ⟨M1, g1, g2⟩ := hp.all M fun i hi => hM.1 i (.inr (inI_cons.2 (.inr hi)))
                  refine ⟨M1, ?_, g2⟩
                  simp only [opF, e1, e2, if_neg e3, g1, if_pos e5, newId, g2.nx, hM.2]
                  rfl
              · cases h
            · cases h
        · cases h
      · cases h
    case makeMap T r =>
      cases r with
      | some _ => cases h
      | none =>
        simp only at h
        split at h
        · rename_i e1
          simp at h
          obtain ⟨rfl, rfl⟩ := h
          exact addObj_loc (R := []) (W := []) (updW_nil _ _) fun M hM => ⟨M, by simp only [opF, e1, newId, hM.2]; rfl, updW_nil _ _⟩
        · cases h
    case lookup t y z ok =>
      cases ok with
      | false => cases h
      | true =>
        simp only at h
        split at h
        · rename_i p q e1 e2
          obtain ⟨h3, h4⟩ := map_pair h
          subst h4
          refine locL_quiet rfl rfl fun M hM => ?_
          have : mapF P t M p q = mapF P t m' p q := mapF_loc fun i hi => hM.1 i (.inl (by simp only [labOp, idsO, e1]; exact hi))
          simp only [opF, e1, e2, this, h3, Option.map_some]
        · cases h
    case load t y =>
      split at h
      · rename_i ti p e1 e2
        obtain ⟨h3, h4⟩ := map_pair h
        subst h4
        refine locL_quiet rfl rfl fun M hM => ?_
        have : loadF ti M p = loadF ti m' p := loadF_loc fun i hi => hM.1 i (.inl (by simp only [labOp, idsO, e2]; exact hi))
        simp only [opF, e1, e2, this, h3, Option.map_some]
      · cases h
    case indexAddr t y z =>
      split at h
      · rename_i p i e1 e2
        obtain ⟨h3, h4⟩ := map_pair h
        subst h4
        refine locL_quiet rfl rfl fun M hM => ?_
        have : indexF P M t p i = indexF P m' t p i := indexF_loc fun i hi => hM.1 i (.inl (by simp only [labOp, idsO, e1]; exact hi))
        simp only [opF, e1, e2, this, h3, Option.map_some]
      · cases h
    case slice t y lo hi mx =>
      split at h
      · rename_i p e1
        obtain ⟨h3, h4⟩ := map_pair h
        subst h4
        refine locL_quiet rfl rfl fun M hM => ?_
        have : sliceF P M t p (lo.map (ev φ)) (hi.map (ev φ)) (mx.map (ev φ)) = sliceF P m' t p (lo.map (ev φ)) (hi.map (ev φ)) (mx.map (ev φ)) := sliceF_loc fun i hi => hM.1 i (.inl (by simp only [labOp, idsO, e1]; exact hi))
        simp only [opF, e1, this, h3, Option.map_some]
      · cases h
    case call c =>
      obtain ⟨callee, args, ats⟩ := c
      cases callee <;> simp only at h <;> try (cases h; done)
      rename_i b
      split at h
      · rename_i l hl
        have := callB_loc h
        have e : labOp (.call { callee := .builtin b, args := args, argTypes := ats }) d m.nx φ = labBI b l (.l d m.nx) := by simp only [labOp, hl]
        rw [e]
        refine ⟨this.self, fun M hM => ?_⟩
        obtain ⟨M', g1, g2⟩ := this.all M hM
        exact ⟨M', by simp only [opF, hl]; exact g1, g2⟩
      · cases h

def memO (d : Option Nat) (us : List Nat) : Bool :=
  match d with
  | some d => memU d us
  | none => false
/-- A step of the small memory. -/
def StepR (P : Program) (N : Nat) (o : Oper) (φ : Nat → Option AV) (m : Mem) (u : Option (Nat × AV)) (m' : Mem) : Prop :=
  match o.op with
  | .store t p v => o.dst = none ∧ u = none ∧ ∃ ti pa va, tiOf P t = some ti ∧ ev φ p = some pa ∧ ev φ v = some va ∧ storeF ti m pa va = some m'
  | .call { callee := .value f, args, .. } => ∃ fid caps l r, ev φ f = some (.c (.fn fid caps)) ∧ evs φ args.toList = some l ∧ CallSem P fid (l ++ caps.map .c) m r m' ∧
      u = o.dst.map (·, r) ∧ ∀ d, o.dst = some d → d < N
  | .mapUpdate t p q v => o.dst = none ∧ u = none ∧ ∃ pa qa va, ev φ p = some pa ∧ ev φ q = some qa ∧ ev φ v = some va ∧ updF' P t m pa qa va = some m'
  | op => ∃ d x, o.dst = some d ∧ d < N ∧ memU d m.us = false ∧ opF P op d φ m = some (x, m') ∧ u = some (d, x)

theorem stepR_congr {o : Oper} {φ φ' : Nat → Option AV} {m m' : Mem} {u : Option (Nat × AV)} (h : ∀ x ∈ o.op.operands, ev φ x = ev φ' x) (hs : StepR P N o φ m u m') : StepR P N o φ' m u m' := by
  unfold StepR at hs ⊢
  split at hs
  · rename_i t p v ho
    obtain ⟨h1, h2, ti, pa, va, h3, h4, h5, h6⟩ := hs
    rw [ho] at h
    simp only [Op.operands] at h
    exact ⟨h1, h2, ti, pa, va, h3, (h p (by simp)).symm.trans h4, (h v (by simp)).symm.trans h5, h6⟩
  · rename_i f args ats ho
    obtain ⟨fid, caps, l, r, h1, h2, h3⟩ := hs
    rw [ho] at h
    simp only [Op.operands, Call.operands] at h
    refine ⟨fid, caps, l, r, (h f (by simp)).symm.trans h1, (evs_congr fun x hx => h x (by simp at hx ⊢; exact .inr hx)).symm.trans h2, h3⟩
  · rename_i t p q v ho
    obtain ⟨h1, h2, pa, qa, va, h3, h4, h5, h6⟩ := hs
    rw [ho] at h
    simp only [Op.operands] at h
    exact ⟨h1, h2, pa, qa, va, (h p (by simp)).symm.trans h3, (h q (by simp)).symm.trans h4, (h v (by simp)).symm.trans h5, h6⟩
  · rename_i op h1 h2 h3
    obtain ⟨d, x, hd, hn, hm, hx, hu⟩ := hs
    exact ⟨d, x, hd, hn, hm, (opF_congr h).symm.trans hx, hu⟩
theorem stepR_dst {o : Oper} {φ : Nat → Option AV} {m m' : Mem} {u : Option (Nat × AV)} (h : StepR P N o φ m u m') : u.map (·.1) = o.dst := by
  unfold StepR at h
  split at h
  · obtain ⟨h1, h2, _⟩ := h; rw [h1, h2]; rfl
  · obtain ⟨fid, caps, l, r, _, _, _, h5, _⟩ := h
    rw [h5]; cases o.dst <;> rfl
  · obtain ⟨h1, h2, _⟩ := h; rw [h1, h2]; rfl
  · obtain ⟨d, x, h1, _, _, _, h4⟩ := h; rw [h1, h4]; rfl

/-- A step, wherever the memory is as here by the names of its label. -/
def StepL (P : Program) (N : Nat) (o : Oper) (φ : Nat → Option AV) (F : FM) (u : Option (Nat × AV)) (F' : FM) (ℓ : Lab) : Prop :=
  ∀ φ' M, (∀ x ∈ o.op.operands, ev φ' x = ev φ x) → AgreeF ℓ F M → memO o.dst M.us = false → ∃ M', StepR P N o φ' M u M' ∧ fm M' = updF ℓ o.dst F' (fm M)

/-- A call, wherever the memory is as here by the names of its label. -/
def CallL (P : Program) (f : Nat) (args : List AV) (d : Option Nat) (m : Mem) (r : AV) (m' : Mem) (ℓ : Lab) : Prop :=
  fm m' = updF ℓ d (fm m') (fm m) ∧ ∀ M, AgreeF ℓ (fm m) M → memO d M.us = false → ∃ M', CallSem P f args M r M' ∧ fm M' = updF ℓ d (fm m') (fm M)

theorem stepL_op {o : Oper} {d : Nat} {φ : Nat → Option AV} {m m' : Mem} {x : AV} (hd : o.dst = some d) (hN : d < N) (h1 : ∀ t p v, o.op ≠ .store t p v) (h2 : ∀ f args ats, o.op ≠ .call { callee := .value f, args := args, argTypes := ats }) (h3 : ∀ t p q v, o.op ≠ .mapUpdate t p q v)
    (h : opF P o.op d φ m = some (x, m')) : fm m' = updF (labOp o.op d m.nx φ) (some d) (fm m') (fm m) ∧ StepL P N o φ (fm m) (some (d, x)) (fm m') (labOp o.op d m.nx φ) := by
  have hl := opF_loc h
  refine ⟨hl.self, fun φ' M hφ hM hf => ?_⟩
  obtain ⟨M', g1, g2⟩ := hl.all M hM
  rw [hd] at hf ⊢
  refine ⟨M', ?_, g2⟩
  unfold StepR
  split
  · rename_i ho; exact absurd ho (h1 _ _ _)
  · rename_i ho; exact absurd ho (h2 _ _ _)
  · rename_i ho; exact absurd ho (h3 _ _ _ _)
  · exact ⟨d, x, hd, hN, hf, (opF_congr hφ).trans g1, rfl⟩
theorem stepL_upd {o : Oper} {φ : Nat → Option AV} {m m' : Mem} {t : Nat} {p q v : Operand} {pa qa va : AV} (ho : o.op = .mapUpdate t p q v) (hd : o.dst = none) (hp : ev φ p = some pa) (hq : ev φ q = some qa) (hv : ev φ v = some va) (h : updF' P t m pa qa va = some m') :
    fm m' = updF ⟨[], labUpd pa, false⟩ none (fm m') (fm m) ∧ StepL P N o φ (fm m) none (fm m') ⟨[], labUpd pa, false⟩ := by
  have hl := updF_loc h
  have key : ∀ M M', UpdW (labUpd pa) m' M M' → fm M' = updF ⟨[], labUpd pa, false⟩ none (fm m') (fm M) := fun M M' u => fm_ext (fun i => u.o i) u.nx (fun s => by simp [fm, updF, u.us])
  refine ⟨key _ _ hl.self, fun φ' M hφ hM _ => ?_⟩
  obtain ⟨M', g1, g2⟩ := hl.all M fun i hi => hM.1 i (.inr hi)
  rw [hd]
  refine ⟨M', ?_, key _ _ g2⟩
  unfold StepR
  rw [ho]
  rw [ho] at hφ
  simp only [Op.operands] at hφ
  refine ⟨hd, rfl, pa, qa, va, (hφ p (by simp)).trans hp, (hφ q (by simp)).trans hq, (hφ v (by simp)).trans hv, ?_⟩
  cases he : updF' P t M pa qa va with
  | none => simp [he] at g1
  | some M2 => simp [he] at g1; rw [g1]
theorem stepL_store {o : Oper} {φ : Nat → Option AV} {m m' : Mem} {t : Nat} {p v : Operand} {ti : TI} {pa va : AV} (ho : o.op = .store t p v) (hd : o.dst = none) (hti : tiOf P t = some ti) (hp : ev φ p = some pa) (hv : ev φ v = some va) (h : storeF ti m pa va = some m') :
    fm m' = updF ⟨[], labStore pa va, false⟩ none (fm m') (fm m) ∧ StepL P N o φ (fm m) none (fm m') ⟨[], labStore pa va, false⟩ := by
  have hl := storeF_loc h
  have key : ∀ M M', UpdW (labStore pa va) m' M M' → fm M' = updF ⟨[], labStore pa va, false⟩ none (fm m') (fm M) := fun M M' u => fm_ext (fun i => u.o i) u.nx (fun s => by simp [fm, updF, u.us])
  refine ⟨key _ _ hl.self, fun φ' M hφ hM _ => ?_⟩
  obtain ⟨M', g1, g2⟩ := hl.all M fun i hi => hM.1 i (.inr hi)
  rw [hd]
  refine ⟨M', ?_, key _ _ g2⟩
  unfold StepR
  rw [ho]
  rw [ho] at hφ
  simp only [Op.operands] at hφ
  refine ⟨hd, rfl, ti, pa, va, hti, (hφ p (by simp)).trans hp, (hφ v (by simp)).trans hv, ?_⟩
  cases he : storeF ti M pa va with
  | none => simp [he] at g1
  | some M2 => simp [he] at g1; rw [g1]
theorem stepL_call {o : Oper} {φ : Nat → Option AV} {m m' : Mem} {f : Operand} {args : Array Operand} {ats : Array TypeId} {fid : Nat} {caps : List Cell} {l : List AV} {r : AV} {ℓ : Lab} (ho : o.op = .call { callee := .value f, args := args, argTypes := ats })
    (hf : ev φ f = some (.c (.fn fid caps))) (hl : evs φ args.toList = some l) (h : CallL P fid (l ++ caps.map .c) o.dst m r m' ℓ) (hN : ∀ d, o.dst = some d → d < N) :
    fm m' = updF ℓ o.dst (fm m') (fm m) ∧ StepL P N o φ (fm m) (o.dst.map (·, r)) (fm m') ℓ := by
  refine ⟨h.1, fun φ' M hφ hM hd => ?_⟩
  obtain ⟨M', g1, g2⟩ := h.2 M hM hd
  refine ⟨M', ?_, g2⟩
  unfold StepR
  rw [ho]
  rw [ho] at hφ
  simp only [Op.operands, Call.operands] at hφ
  exact ⟨fid, caps, l, r, (hφ f (by simp)).trans hf, (evs_congr fun x hx => hφ x (by simp at hx ⊢; exact .inr hx)).trans hl, g1, rfl, hN⟩

def put (d : Option Nat) (x : Option AV) (φ : Nat → Option AV) : Nat → Option AV :=
  match d with
  | none => φ
  | some d => fun t => if t = d then x else φ t

theorem put_comm {d e : Option Nat} (h : ∀ k, d = some k → e ≠ some k) (x y : Option AV) (φ : Nat → Option AV) : put d x (put e y φ) = put e y (put d x φ) := by
  cases d with
  | none => rfl
  | some d =>
    cases e with
    | none => rfl
    | some e =>
      have hne : d ≠ e := fun he => h d rfl (he ▸ rfl)
      funext t
      simp only [put]
      by_cases h1 : t = d
      · subst h1; simp [hne]
      · simp [h1]

theorem ev_put {d : Option Nat} {x : Option AV} {φ : Nat → Option AV} {y : Operand} (h : ∀ k, d = some k → y ≠ .tmp k) : ev (put d x φ) y = ev φ y := by
  cases d with
  | none => rfl
  | some d =>
    cases y with
    | tmp t =>
      have hne : t ≠ d := fun e => h d rfl (by rw [e])
      simp [ev, put, hne]
    | _ => rfl

theorem appl_put {u : Option (Nat × AV)} {φ : Nat → Option AV} : appl u φ = put (u.map (·.1)) (u.map (·.2)) φ := by
  cases u with
  | none => rfl
  | some p => rfl
theorem delF_put {d : Option Nat} {φ : Nat → Option AV} : delF d φ = put d (some (.tup [])) φ := by cases d <;> rfl

theorem guardF_put {o : Oper} {d : Option Nat} {x : Option AV} {φ : Nat → Option AV} (h : ∀ k, d = some k → k ∉ o.looksAt ops) : guardF ops o (put d x φ) = guardF ops o φ := by
  cases d with
  | none => rfl
  | some d =>
    unfold guardF
    cases hg : o.guard with
    | none => rfl
    | some gw =>
      obtain ⟨j, want⟩ := gw
      simp only
      cases hd : (ops[j]?).bind (·.dst) with
      | none => rfl
      | some e =>
        have hne : e ≠ d := fun he => by
          refine h d rfl ?_
          simp [Oper.looksAt, hg, hd, he]
        simp [put, hne]


/-- Left out: its slot reads as nothing. -/
def SkipTo (N : Nat) (o : Oper) (φ φ' : Nat → Option AV) : Prop := (∀ d, o.dst = some d → d < N) ∧ φ' = delF o.dst φ
/-- An operation comes up: it is carried out, or its guard says no. -/
def YieldsL (P : Program) (N : Nat) (ops : Array Oper) (o : Oper) (φ : Nat → Option AV) (F : FM) (φ' : Nat → Option AV) (F' : FM) (ℓ : Lab) : Prop :=
  ((guardF ops o φ = some true ∧ (∀ d, o.dst = some d → F.ν d = false)) ∧ F' = updF ℓ o.dst F' F ∧ ∃ u, u.map (·.1) = o.dst ∧ StepL P N o φ F u F' ℓ ∧ φ' = appl u φ) ∨
  (guardF ops o φ = some false ∧ SkipTo N o φ φ' ∧ F' = F)

theorem yields_put {o : Oper} {φ φ' : Nat → Option AV} {F F' : FM} {ℓ : Lab} (h : YieldsL P N ops o φ F φ' F' ℓ) : ∃ x, φ' = put o.dst x φ := by
  rcases h with ⟨_, _, u, hu, _, rfl⟩ | ⟨_, ⟨_, rfl⟩, _⟩
  · exact ⟨u.map (·.2), by rw [appl_put, hu]⟩
  · exact ⟨some (.tup []), delF_put⟩

theorem step_put {o : Oper} {d : Option Nat} {x : Option AV} {φ : Nat → Option AV} {F F' : FM} {u : Option (Nat × AV)} {ℓ : Lab} (h : ∀ k, d = some k → k ∉ o.looksAt ops) :
    StepL P N o (put d x φ) F u F' ℓ ↔ StepL P N o φ F u F' ℓ := by
  have he : ∀ y ∈ o.op.operands, ev (put d x φ) y = ev φ y := fun y hy => ev_put fun k hk hky => h k hk (by
    subst hky
    exact List.mem_append_left _ (List.mem_filterMap.2 ⟨.tmp k, by simpa using hy, rfl⟩))
  exact ⟨fun hs φ' M hφ => hs φ' M fun y hy => (hφ y hy).trans (he y hy).symm, fun hs φ' M hφ => hs φ' M fun y hy => (hφ y hy).trans (he y hy)⟩

def clear1 (a : List Id) : List Id → Bool
  | [] => true
  | i :: r => match inI i a with
    | true => false
    | false => clear1 a r
theorem clear1_spec {a : List Id} : ∀ {b : List Id}, clear1 a b = true → ∀ i, inI i b = true → inI i a = false
  | [], _, i, h => by simp [inI] at h
  | j :: r, h, i, hi => by
    simp only [clear1] at h
    split at h
    · cases h
    · rename_i e
      rcases inI_cons.1 hi with rfl | hi
      · exact e
      · exact clear1_spec h i hi
/-- Two labels that have nothing to do with each other. -/
def disjL (a b : Lab) : Bool := match clear1 a.W b.R, clear1 a.W b.W, clear1 b.W a.R with
  | true, true, true => true
  | _, _, _ => false
theorem disjL_spec {a b : Lab} (h : disjL a b = true) : (∀ i, (inI i b.R = true ∨ inI i b.W = true) → inI i a.W = false) ∧ (∀ i, (inI i a.R = true ∨ inI i a.W = true) → inI i b.W = false) := by
  unfold disjL at h
  split at h
  · rename_i h1 h2 h3
    refine ⟨fun i hi => hi.elim (clear1_spec h1 i) (clear1_spec h2 i), fun i hi => hi.elim (clear1_spec h3 i) fun hi => ?_⟩
    cases e : inI i b.W with
    | false => rfl
    | true => rw [clear1_spec h2 i e] at hi; cases hi
  · cases h

/-- TWO STEPS APART CHANGE PLACES. -/
theorem yields_comm {oi oj : Oper} (hap : oi.apart ops oj = true) {ℓi ℓj : Lab} (hdj : disjL ℓi ℓj = true) {φ φ1 φ2 : Nat → Option AV} {F F1 F2 : FM} (hi : YieldsL P N ops oi φ F φ1 F1 ℓi) (hj : YieldsL P N ops oj φ1 F1 φ2 F2 ℓj) :
    ∃ φ3 F3, YieldsL P N ops oj φ F φ3 F3 ℓj ∧ YieldsL P N ops oi φ3 F3 φ2 F2 ℓi := by
  obtain ⟨a1, a2, a3⟩ := Oper.apart_spec hap
  obtain ⟨q1, q2⟩ := disjL_spec hdj
  obtain ⟨x, hx⟩ := yields_put hi
  obtain ⟨y, hy⟩ := yields_put hj
  have a2' : ∀ k, oi.dst = some k → oj.dst ≠ some k := a2
  have a2'' : ∀ k, oj.dst = some k → oi.dst ≠ some k := fun k h1 h2 => a2 k h2 h1
  have hφ : φ2 = put oi.dst x (put oj.dst y φ) := by rw [hy, hx, put_comm a2']
  have gj : guardF ops oj φ1 = guardF ops oj φ := by rw [hx]; exact guardF_put a1
  have gi : guardF ops oi (put oj.dst y φ) = guardF ops oi φ := guardF_put a3
  -- the slots, moved
  have skj : SkipTo N oj φ1 φ2 → SkipTo N oj φ (put oj.dst y φ) := fun h => by
    refine ⟨h.1, ?_⟩
    have h2 := h.2
    rw [delF_put] at h2 ⊢
    cases hd : oj.dst with
    | none => rfl
    | some d =>
      rw [hd] at h2 hy
      rw [hy] at h2
      have := congrFun h2 d
      simp only [put, if_true] at this
      rw [this]
  have ski : SkipTo N oi φ φ1 → SkipTo N oi (put oj.dst y φ) φ2 := fun h => by
    refine ⟨h.1, ?_⟩
    have h2 := h.2
    rw [delF_put] at h2 ⊢
    rw [hφ]
    cases hd : oi.dst with
    | none => rfl
    | some d =>
      rw [hd] at h2 hx
      rw [hx] at h2
      have := congrFun h2 d
      simp only [put, if_true] at this
      rw [this]
  have stj : ∀ {u : Option (Nat × AV)}, u.map (·.1) = oj.dst → φ2 = appl u φ1 → put oj.dst y φ = appl u φ := fun {u} hu h => by
    rw [appl_put, hu] at h ⊢
    cases hd : oj.dst with
    | none => rfl
    | some d =>
      rw [hd] at h hy
      rw [hy] at h
      have := congrFun h d
      simp only [put, if_true] at this
      rw [this]
  have sti : ∀ {u : Option (Nat × AV)}, u.map (·.1) = oi.dst → φ1 = appl u φ → φ2 = appl u (put oj.dst y φ) := fun {u} hu h => by
    rw [appl_put, hu] at h ⊢
    rw [hφ]
    cases hd : oi.dst with
    | none => rfl
    | some d =>
      rw [hd] at h hx
      rw [hx] at h
      have := congrFun h d
      simp only [put, if_true] at this
      rw [this]
  rcases hi with ⟨⟨hgi, hni⟩, hFi, ui, hui, hsi, hφi⟩ | ⟨hgi, hki, hFi⟩ <;> rcases hj with ⟨⟨hgj, hnj⟩, hFj, uj, huj, hsj, hφj⟩ | ⟨hgj, hkj, hFj⟩
  · have m1 : ∀ i, inI i ℓi.W = false → F1.μ i = F.μ i := fun i h => by rw [hFi]; simp [updF, h]
    have m2 : ∀ i, inI i ℓj.W = false → F2.μ i = F1.μ i := fun i h => by rw [hFj]; simp [updF, h]
    have n1 : F1.n = F.n := by rw [hFi]; rfl
    have n2 : F2.n = F1.n := by rw [hFj]; rfl
    have v1 : ∀ s, F1.ν s = (F.ν s || (ℓi.A && isD oi.dst s)) := fun s => by rw [hFi]; rfl
    have v2 : ∀ s, F2.ν s = (F1.ν s || (ℓj.A && isD oj.dst s)) := fun s => by rw [hFj]; rfl
    have p3 : ∀ i, (updF ℓj oj.dst F2 F).μ i = if inI i ℓj.W = true then F2.μ i else F.μ i := fun _ => rfl
    refine ⟨put oj.dst y φ, updF ℓj oj.dst F2 F, .inl ⟨⟨by rw [← gj]; exact hgj, fun d hd => ?_⟩, fm_ext (fun i => ?_) rfl (fun s => rfl), uj, huj, fun φ' M hφ' hM hd => ?_, stj huj hφj⟩,
      .inl ⟨⟨by rw [gi]; exact hgi, fun d hd => ?_⟩, fm_ext (fun i => ?_) (n2.trans n1) (fun s => ?_), ui, hui, fun φ' M hφ' hM hd => ?_, sti hui hφi⟩⟩
    · have := hnj d hd
      rw [v1] at this
      cases e : F.ν d with
      | false => rfl
      | true => rw [e] at this; simp at this
    · simp only [updF]; split <;> rfl
    · have hsj' := (step_put (ops := ops) (o := oj) (d := oi.dst) (x := x) (φ := φ) a1).1 (by rw [← hx]; exact hsj)
      obtain ⟨M', g1, g2⟩ := hsj' φ' M hφ' ⟨fun i h => by rw [m1 i (q1 i h)]; exact hM.1 i h, hM.2.trans n1.symm⟩ hd
      refine ⟨M', g1, ?_⟩
      rw [g2]
      exact fm_ext (fun i => by simp only [updF]; split <;> rfl) rfl (fun s => rfl)
    · have e1 := hni d hd
      simp only [updF, e1, Bool.false_or]
      cases hA : ℓj.A with
      | false => rfl
      | true =>
        cases hdj' : oj.dst with
        | none => rfl
        | some e =>
          have hne : d ≠ e := fun h => a2 d hd (by rw [hdj', h])
          simp only [isD, Bool.true_and]
          cases hb : Nat.beq d e with
          | false => rfl
          | true => exact absurd (natBeq hb) hne
    · simp only [updF]
      by_cases e : inI i ℓi.W = true
      · rw [if_pos e]
      · rw [if_neg e]
        by_cases e2 : inI i ℓj.W = true
        · rw [if_pos e2]
        · rw [if_neg e2, m2 i (by simpa using e2), m1 i (by simpa using e)]
    · rw [v2, v1]
      simp only [updF]
      rw [Bool.or_assoc, Bool.or_assoc, Bool.or_comm (ℓi.A && _)]
    · have hsi' := (step_put (ops := ops) (o := oi) (d := oj.dst) (x := y) (φ := φ) a3).2 hsi
      obtain ⟨M', g1, g2⟩ := hsi' φ' M hφ' ⟨fun i h => by rw [hM.1 i h, p3, if_neg (by rw [q2 i h]; decide)], hM.2⟩ hd
      refine ⟨M', g1, ?_⟩
      rw [g2]
      refine fm_ext (fun i => ?_) rfl (fun s => rfl)
      simp only [updF]
      by_cases e : inI i ℓi.W = true
      · rw [if_pos e, if_pos e, m2 i (q2 i (.inr e))]
      · rw [if_neg e, if_neg e]
  · subst hFj
    refine ⟨put oj.dst y φ, F, .inr ⟨by rw [← gj]; exact hgj, skj hkj, rfl⟩, .inl ⟨⟨by rw [gi]; exact hgi, hni⟩, hFi, ui, hui, ?_, sti hui hφi⟩⟩
    exact (step_put a3).2 hsi
  · subst hFi
    refine ⟨put oj.dst y φ, F2, .inl ⟨⟨by rw [← gj]; exact hgj, hnj⟩, hFj, uj, huj, ?_, stj huj hφj⟩, .inr ⟨by rw [gi]; exact hgi, ski hki, rfl⟩⟩
    exact (step_put (x := x) a1).1 (by rw [← hx]; exact hsj)
  · subst hFi
    subst hFj
    exact ⟨put oj.dst y φ, _, .inr ⟨by rw [← gj]; exact hgj, skj hkj, rfl⟩, .inr ⟨by rw [gi]; exact hgi, ski hki, rfl⟩⟩

variable {lab : Nat → Lab}
/-- Operation number i comes up. -/
def opS (P : Program) (N : Nat) (ops : Array Oper) (lab : Nat → Lab) (i : Nat) (K : (Nat → Option AV) → FM → Prop) (φ : Nat → Option AV) (m : FM) : Prop :=
  match ops[i]? with
  | none => K φ m
  | some o => ∃ φ' m', YieldsL P N ops o φ m φ' m' (lab i) ∧ K φ' m'

theorem opS_mono {i : Nat} {K K' : (Nat → Option AV) → FM → Prop} (h : ∀ φ m, K φ m → K' φ m) {φ : Nat → Option AV} {m : FM} (hh : opS P N ops lab i K φ m) : opS P N ops lab i K' φ m := by
  unfold opS at *
  split
  · exact h _ _ (by simpa [*] using hh)
  · rename_i o ho
    simp only [ho] at hh
    obtain ⟨φ', m', h1, h2⟩ := hh
    exact ⟨φ', m', h1, h _ _ h2⟩

def anyS (P : Program) (N : Nat) (ops : Array Oper) (lab : Nat → Lab) (K : (Nat → Option AV) → FM → Prop) : Nat → Array Bool → (Nat → Option AV) → FM → Prop
  | 0, listed, φ, m => Region.ready .any ops listed = [] ∧ K φ m
  | fuel + 1, listed, φ, m => (Region.ready .any ops listed = [] → K φ m) ∧ ∀ i ∈ Region.ready .any ops listed, opS P N ops lab i (anyS P N ops lab K fuel (listed.setIfInBounds i true)) φ m

theorem opS_of {i : Nat} {o : Oper} (hi : ops[i]? = some o) {K : (Nat → Option AV) → FM → Prop} {φ φ' : Nat → Option AV} {m m' : FM} (hy : YieldsL P N ops o φ m φ' m' (lab i)) (hk : K φ' m') : opS P N ops lab i K φ m := by
  unfold opS
  simp only [hi]
  exact ⟨φ', m', hy, hk⟩

theorem opS_comm {j : Nat} {oi oj : Oper} {ℓ : Lab} (hj : ops[j]? = some oj) (hap : oi.apart ops oj = true ∧ disjL ℓ (lab j) = true) {K : (Nat → Option AV) → FM → Prop} {φ φ1 : Nat → Option AV} {m m1 : FM} (hi : YieldsL P N ops oi φ m φ1 m1 ℓ) (h : opS P N ops lab j K φ1 m1) :
    opS P N ops lab j (fun φ' m' => ∃ φ2 m2, YieldsL P N ops oi φ' m' φ2 m2 ℓ ∧ K φ2 m2) φ m := by
  unfold opS at *
  simp only [hj] at *
  obtain ⟨φ2, m2, h1, h2⟩ := h
  obtain ⟨φ3, m3, h3, h4⟩ := yields_comm hap.1 hap.2 hi h1
  exact ⟨φ3, m3, h3, φ2, m2, h4, h2⟩

/-- An operation that may come up now may be taken first. -/
theorem anyS_first {Ap : Nat → Nat → Oper → Oper → Prop} (hAp : ∀ i j oi oj, Ap i j oi oj → oi.apart ops oj = true ∧ disjL (lab i) (lab j) = true) {K : (Nat → Option AV) → FM → Prop} {i : Nat} {oi : Oper} (hi : ops[i]? = some oi) (Bk : Nat → Bool) (hB : ∀ j oj, Bk j = true → j ≠ i → ops[j]? = some oj → ∃ e ∈ oj.after, Region.binds .any e = true ∧ Bk e.on = true) :
    ∀ (fuel : Nat) (listed : Array Bool) (φ φ1 : Nat → Option AV) (m m1 : FM),
      (∀ j oj, ops[j]? = some oj → j ≠ i → listed.getD j true = false → Bk j = false → Ap i j oi oj) →
      (∀ j, Bk j = true → listed.getD j true = false) →
      i ∈ Region.ready .any ops listed → YieldsL P N ops oi φ m φ1 m1 (lab i) →
      anyS P N ops lab K fuel (listed.setIfInBounds i true) φ1 m1 → anyS P N ops lab K (fuel + 1) listed φ m := by
  intro fuel
  induction fuel with
  | zero =>
    intro listed φ φ1 m m1 _ _ hr hy H
    refine ⟨fun h => (by rw [h] at hr; cases hr), fun j hj => ?_⟩
    by_cases hji : j = i
    · subst hji; exact opS_of hi hy H
    · have := ready_mono hj hji
      rw [H.1] at this
      cases this
  | succ fuel ih =>
    intro listed φ φ1 m m1 hfree hun0 hr hy H
    refine ⟨fun h => (by rw [h] at hr; cases hr), fun j hj => ?_⟩
    by_cases hji : j = i
    · subst hji; exact opS_of hi hy H
    · have h1 := H.2 j (ready_mono hj hji)
      obtain ⟨hjun, oj, hoj, hall⟩ := mem_ready.1 hj
      have hnot : Bk j = false := by
        cases hbj : Bk j with
        | false => rfl
        | true =>
          obtain ⟨e, he, hb, hbe⟩ := hB j oj hbj hji hoj
          have h1 := hall e he hb
          have h0 := hun0 e.on hbe
          rcases Nat.lt_or_ge e.on listed.size with h' | h'
          · simp [h'] at h0 h1; rw [h0] at h1; cases h1
          · simp [Array.getElem?_eq_none h'] at h1
      have h2 := opS_comm hoj (hAp _ _ _ _ (hfree j oj hoj hji hjun hnot)) hy h1
      have hfree' : ∀ k ok, ops[k]? = some ok → k ≠ i → (listed.setIfInBounds j true).getD k true = false →
          Bk k = false → Ap i k oi ok := fun k ok hk hki hun hno => by
        refine hfree k ok hk hki ?_ hno
        by_cases hjk : j = k
        · subst hjk; exact hjun
        · rw [getD_set_ne true hjk] at hun; exact hun
      refine opS_mono (fun φ' m' h3 => ?_) h2
      obtain ⟨φ2, m2, h4, h5⟩ := h3
      refine ih (listed.setIfInBounds j true) φ' φ2 m' m2 hfree' (fun k hk => by rw [getD_set_ne true (fun e => by rw [e] at hnot; rw [hnot] at hk; cases hk)]; exact hun0 k hk) (ready_mono hr (Ne.symm hji)) h4 ?_
      rw [Array.setIfInBounds_comm _ _ hji]
      exact h5

def memP (i j : Nat) : List (Nat × Nat) → Bool
  | [] => false
  | (a, b) :: r => match Nat.beq i a, Nat.beq j b with
    | true, true => true
    | _, _ => memP i j r
/-- Apart, if the labels of the pairs told are clear of each other. -/
def apS (qc : Nat → Bool) (ops : Array Oper) (np : List (Nat × Nat)) (i j : Nat) (x y : Oper) : Bool :=
  x.apart ops y && (clsOf qc x == 0 || clsOf qc y == 0 || (decide (clsOf qc x ≤ 1) && decide (clsOf qc y ≤ 1)) || memP i j np || memP j i np)
/-! #### The check of a region, carried out once for each pair -/

structure Row where
  dst : Option Nat
  looks : List Nat
  af : List Nat
  cl : Nat
def afL : List Edge → List Nat
  | [] => []
  | e :: r => match Region.binds .any e with
    | true => e.on :: afL r
    | false => afL r
def clsN (qc : Nat → Bool) (o : Oper) : Nat := match clsOf qc o with
  | 0 => 0
  | 1 => 1
  | _ => 2
def rowOf (qc : Nat → Bool) (ops : Array Oper) (o : Oper) : Row := ⟨o.dst, o.looksAt ops, afL o.after.toList, clsN qc o⟩
def forceNs : List Nat → (List Nat → Bool) → Bool
  | [], k => k []
  | n :: r, k => forceNs r fun l => k (n :: l)
theorem forceNs_ok : ∀ {l : List Nat} {k : List Nat → Bool}, forceNs l k = k l
  | [], _ => rfl
  | n :: r, k => forceNs_ok (l := r) (k := fun l => k (n :: l))
def rowK (qc : Nat → Bool) (ops : Array Oper) (o : Oper) (k : Row → Bool) : Bool :=
  forceNs (o.looksAt ops) fun l => forceNs (afL o.after.toList) fun a => match clsN qc o, o.dst with
    | 0, some d => k ⟨some d, l, a, 0⟩
    | 0, none => k ⟨none, l, a, 0⟩
    | 1, some d => k ⟨some d, l, a, 1⟩
    | 1, none => k ⟨none, l, a, 1⟩
    | n, some d => k ⟨some d, l, a, n⟩
    | n, none => k ⟨none, l, a, n⟩
theorem rowK_ok {qc : Nat → Bool} {o : Oper} {k : Row → Bool} : rowK qc ops o k = k (rowOf qc ops o) := by
  unfold rowK rowOf
  rw [forceNs_ok, forceNs_ok]
  split <;> simp_all
def rowsK (qc : Nat → Bool) (ops : Array Oper) : List Oper → (List Row → Bool) → Bool
  | [], k => k []
  | o :: l, k => rowK qc ops o fun r => rowsK qc ops l fun rs => k (r :: rs)
theorem rowsK_ok {qc : Nat → Bool} : ∀ {l : List Oper} {k : List Row → Bool}, rowsK qc ops l k = k (l.map (rowOf qc ops))
  | [], _ => rfl
  | o :: l, k => by
    unfold rowsK
    rw [rowK_ok, rowsK_ok]
    rfl
def slotsApart (x y : Row) : Bool :=
  match x.dst with
  | some d => (match memN d y.looks with
    | true => false
    | false => match y.dst with
      | some e => (match Nat.beq e d with
        | true => false
        | false => (match memN e x.looks with
          | true => false
          | false => true))
      | none => true)
  | none => match y.dst with
    | some e => (match memN e x.looks with
      | true => false
      | false => true)
    | none => true
def apR (np : List (Nat × Nat)) (i j : Nat) (x y : Row) : Bool :=
  match slotsApart x y with
  | false => false
  | true => match Nat.beq x.cl 0, Nat.beq y.cl 0 with
    | true, _ => true
    | _, true => true
    | _, _ => match Nat.ble x.cl 1, Nat.ble y.cl 1 with
      | true, true => true
      | _, _ => match memP i j np with
        | true => true
        | false => memP j i np
def meets (B : List Nat) : List Nat → Bool
  | [] => false
  | a :: r => match memN a B with
    | true => true
    | false => meets B r
def passK (np : List (Nat × Nat)) (k : Nat) (x : Row) : Nat → List Row → List Nat → Bool
  | _, [], _ => true
  | j, r :: t, B => match meets B r.af with
    | true => passK np k x (j + 1) t (j :: B)
    | false => match apR np k j x r with
      | true => passK np k x (j + 1) t B
      | false => false
def allLt (k : Nat) : List Nat → Bool
  | [] => true
  | a :: r => match Nat.blt a k with
    | true => allLt k r
    | false => false
def stepsK (np : List (Nat × Nat)) : Nat → List Row → Bool
  | _, [] => true
  | k, r :: t => match allLt k r.af, passK np k r (k + 1) t [k] with
    | true, true => stepsK np (k + 1) t
    | _, _ => false
def lexS (qc : Nat → Bool) (np : List (Nat × Nat)) (ops : Array Oper) : Bool := rowsK qc ops ops.toList fun rows => stepsK np 0 rows

theorem memN_iff {n : Nat} : ∀ {l : List Nat}, memN n l = true ↔ n ∈ l
  | [] => by simp [memN]
  | k :: r => by
    show (match Nat.beq n k with
      | true => true
      | false => memN n r) = true ↔ _
    cases e : Nat.beq n k with
    | true => exact ⟨fun _ => by rw [natBeq e]; exact List.mem_cons_self, fun _ => rfl⟩
    | false =>
      have hne := natBeqF e
      show memN n r = true ↔ _
      rw [memN_iff (l := r), List.mem_cons]
      exact ⟨.inr, fun h => h.resolve_left hne⟩
theorem afL_iff {n : Nat} : ∀ {l : List Edge}, n ∈ afL l ↔ ∃ e ∈ l, Region.binds .any e = true ∧ e.on = n
  | [] => by simp [afL]
  | e :: r => by
    show n ∈ (match Region.binds .any e with
      | true => e.on :: afL r
      | false => afL r) ↔ _
    cases hb : Region.binds .any e with
    | true =>
      show n ∈ e.on :: afL r ↔ _
      rw [List.mem_cons, afL_iff (l := r)]
      refine ⟨fun h => ?_, fun ⟨x, hx, h1, h2⟩ => ?_⟩
      · rcases h with rfl | ⟨x, hx, h1, h2⟩
        · exact ⟨e, by simp, hb, rfl⟩
        · exact ⟨x, by simp [hx], h1, h2⟩
      · rcases List.mem_cons.1 hx with rfl | hx
        · exact .inl h2.symm
        · exact .inr ⟨x, hx, h1, h2⟩
    | false =>
      show n ∈ afL r ↔ _
      rw [afL_iff (l := r)]
      refine ⟨fun ⟨x, hx, h1, h2⟩ => ⟨x, by simp [hx], h1, h2⟩, fun ⟨x, hx, h1, h2⟩ => ?_⟩
      rcases List.mem_cons.1 hx with rfl | hx
      · rw [hb] at h1; cases h1
      · exact ⟨x, hx, h1, h2⟩
theorem slotsApart_ok {qc : Nat → Bool} {x y : Oper} (h : slotsApart (rowOf qc ops x) (rowOf qc ops y) = true) : x.apart ops y = true := by
  have nm : ∀ {n : Nat} {l : List Nat}, memN n l = false → n ∉ l := fun {n l} e hc => by
    rw [memN_iff.2 hc] at e; cases e
  unfold slotsApart rowOf at h
  unfold Oper.apart
  simp only at h
  cases hx : x.dst with
  | none =>
    rw [hx] at h
    cases hy : y.dst with
    | none => rfl
    | some e =>
      rw [hy] at h
      simp only at h
      split at h
      · cases h
      · rename_i e1; simp [nm e1]
  | some d =>
    rw [hx] at h
    simp only at h
    split at h
    · cases h
    · rename_i e0
      cases hy : y.dst with
      | none => simp [nm e0]
      | some e =>
        rw [hy] at h
        simp only at h
        split at h
        · cases h
        · rename_i e1
          split at h
          · cases h
          · rename_i e2
            have := natBeqF e1
            simp [nm e0, nm e2, this]
theorem clsN_le {qc : Nat → Bool} {o : Oper} : (clsN qc o = 0 → clsOf qc o = 0) ∧ (clsN qc o ≤ 1 → clsOf qc o ≤ 1) := by
  unfold clsN
  split <;> constructor <;> intro h <;> omega
theorem apR_ok {qc : Nat → Bool} {np : List (Nat × Nat)} {i j : Nat} {x y : Oper} (h : apR np i j (rowOf qc ops x) (rowOf qc ops y) = true) : apS qc ops np i j x y = true := by
  unfold apR at h
  split at h
  · cases h
  · rename_i e
    have e := slotsApart_ok e
    simp only [apS, e, Bool.true_and, Bool.or_eq_true, beq_iff_eq, Bool.and_eq_true, decide_eq_true_eq]
    split at h
    · rename_i e1; exact .inl (.inl (.inl (.inl (clsN_le.1 (natBeq e1)))))
    · rename_i e1 _; exact .inl (.inl (.inl (.inr (clsN_le.1 (natBeq e1)))))
    · split at h
      · rename_i e1 e2; exact .inl (.inl (.inr ⟨clsN_le.2 (Nat.le_of_ble_eq_true e1), clsN_le.2 (Nat.le_of_ble_eq_true e2)⟩))
      · split at h
        · rename_i e1; exact .inl (.inr e1)
        · exact .inr h
theorem meets_iff {B : List Nat} : ∀ {l : List Nat}, meets B l = true ↔ ∃ a ∈ l, a ∈ B
  | [] => by simp [meets]
  | a :: r => by
    show (match memN a B with
      | true => true
      | false => meets B r) = true ↔ _
    cases e : memN a B with
    | true => exact ⟨fun _ => ⟨a, by simp, memN_iff.1 e⟩, fun _ => rfl⟩
    | false =>
      have hna : a ∉ B := fun h => by rw [memN_iff.2 h] at e; cases e
      show meets B r = true ↔ _
      rw [meets_iff (l := r)]
      refine ⟨fun ⟨x, hx, hb⟩ => ⟨x, by simp [hx], hb⟩, fun ⟨x, hx, hb⟩ => ?_⟩
      rcases List.mem_cons.1 hx with rfl | hx
      · exact absurd hb hna
      · exact ⟨x, hx, hb⟩
theorem passK_ok {np : List (Nat × Nat)} {k : Nat} {x : Row} : ∀ {rows : List Row} {j : Nat} {B : List Nat}, (∀ b ∈ B, b < j) → passK np k x j rows B = true →
    ∃ Bf : Nat → Bool, (∀ b ∈ B, Bf b = true) ∧ (∀ (i : Nat) r, rows[i]? = some r → Bf (j + i) = true → ∃ a ∈ r.af, Bf a = true) ∧ (∀ (i : Nat) r, rows[i]? = some r → Bf (j + i) = false → apR np k (j + i) x r = true) ∧ ∀ b, Bf b = true → b ∈ B ∨ (j ≤ b ∧ b < j + rows.length)
  | [], j, B, hB, _ => ⟨fun b => memN b B, fun b hb => memN_iff.2 hb, fun i r h => by simp at h, fun i r h => by simp at h, fun b hb => .inl (memN_iff.1 hb)⟩
  | r :: t, j, B, hB, h => by
    unfold passK at h
    split at h
    · rename_i hm
      obtain ⟨Bf, h1, h2, h3, h4⟩ := passK_ok (rows := t) (fun b hb => by rcases List.mem_cons.1 hb with rfl | hb; omega; have := hB b hb; omega) h
      refine ⟨Bf, fun b hb => h1 b (by simp [hb]), fun i r' hr hb => ?_, fun i r' hr hb => ?_, fun b hb => ?_⟩
      · cases i with
        | zero =>
          simp at hr
          subst hr
          obtain ⟨a, ha, hab⟩ := meets_iff.1 hm
          exact ⟨a, ha, h1 a (by simp [hab])⟩
        | succ i => exact h2 i r' (by simpa using hr) (by rw [show j + 1 + i = j + (i + 1) by omega]; exact hb)
      · cases i with
        | zero => rw [Nat.add_zero, h1 j (by simp)] at hb; cases hb
        | succ i =>
          have := h3 i r' (by simpa using hr) (by rw [show j + 1 + i = j + (i + 1) by omega]; exact hb)
          rwa [show j + 1 + i = j + (i + 1) by omega] at this
      · rcases h4 b hb with hb | hb
        · rcases List.mem_cons.1 hb with rfl | hb
          · exact .inr ⟨Nat.le_refl _, by simp⟩
          · exact .inl hb
        · exact .inr ⟨by omega, by simp; omega⟩
    · rename_i hm
      split at h
      · rename_i ha
        obtain ⟨Bf, h1, h2, h3, h4⟩ := passK_ok (rows := t) (fun b hb => by have := hB b hb; omega) h
        have hj : Bf j = false := by
          cases e : Bf j with
          | false => rfl
          | true =>
            rcases h4 j e with hb | hb
            · have := hB j hb; omega
            · omega
        refine ⟨Bf, h1, fun i r' hr hb => ?_, fun i r' hr hb => ?_, fun b hb => ?_⟩
        · cases i with
          | zero => rw [Nat.add_zero, hj] at hb; cases hb
          | succ i => exact h2 i r' (by simpa using hr) (by rw [show j + 1 + i = j + (i + 1) by omega]; exact hb)
        · cases i with
          | zero => simp at hr; subst hr; exact ha
          | succ i =>
            have := h3 i r' (by simpa using hr) (by rw [show j + 1 + i = j + (i + 1) by omega]; exact hb)
            rwa [show j + 1 + i = j + (i + 1) by omega] at this
        · rcases h4 b hb with hb | hb
          · exact .inl hb
          · exact .inr ⟨by omega, by simp; omega⟩
      · cases h
theorem allLt_ok {k : Nat} : ∀ {l : List Nat}, allLt k l = true → ∀ a ∈ l, a < k
  | [], _, a, h => by cases h
  | b :: r, h, a, ha => by
    unfold allLt at h
    split at h
    · rename_i e
      rcases List.mem_cons.1 ha with rfl | ha
      · exact Nat.le_of_ble_eq_true (by simpa [Nat.blt] using e)
      · exact allLt_ok h a ha
    · cases h
theorem stepsK_ok {np : List (Nat × Nat)} : ∀ {rows : List Row} {k : Nat}, stepsK np k rows = true → ∀ (i : Nat) r, rows[i]? = some r → allLt (k + i) r.af = true ∧ passK np (k + i) r (k + i + 1) (rows.drop (i + 1)) [k + i] = true
  | [], _, _, i, r, h => by simp at h
  | x :: t, k, h, i, r, hr => by
    unfold stepsK at h
    split at h
    · rename_i e1 e2
      cases i with
      | zero => simp at hr; subst hr; exact ⟨e1, e2⟩
      | succ i =>
        have := stepsK_ok h i r (by simpa using hr)
        rw [show k + 1 + i = k + (i + 1) by omega] at this
        simpa using this
    · cases h
/-- What the check says of each operation. -/
structure LexAt (qc : Nat → Bool) (np : List (Nat × Nat)) (ops : Array Oper) (k : Nat) (ok : Oper) (Bf : Nat → Bool) : Prop where
  af : ∀ e ∈ ok.after, Region.binds .any e = true → e.on < k
  self : Bf k = true
  waits : ∀ j oj, ops[j]? = some oj → Bf j = true → j ≠ k → ∃ e ∈ oj.after, Region.binds .any e = true ∧ Bf e.on = true
  range : ∀ j, Bf j = true → k ≤ j ∧ j < ops.size
  apart : ∀ j oj, ops[j]? = some oj → k < j → Bf j = false → apS qc ops np k j ok oj = true
theorem lexS_ok {qc : Nat → Bool} {np : List (Nat × Nat)} (h : lexS qc np ops = true) {k : Nat} {ok : Oper} (hk : ops[k]? = some ok) : ∃ Bf, LexAt qc np ops k ok Bf := by
  unfold lexS at h
  rw [rowsK_ok] at h
  have hrow : ∀ (j : Nat) oj, ops[j]? = some oj → (ops.toList.map (rowOf qc ops))[j]? = some (rowOf qc ops oj) := fun j oj hj => by
    rw [List.getElem?_map]
    have : ops.toList[j]? = some oj := by simpa using hj
    rw [this]; rfl
  have hks : k < ops.size := (Array.getElem?_eq_some_iff.1 hk).1
  obtain ⟨h1, h2⟩ := stepsK_ok h k _ (hrow k ok hk)
  rw [Nat.zero_add] at h1 h2
  obtain ⟨Bf, b1, b2, b3, b4⟩ := passK_ok (fun b hb => by simp at hb; omega) h2
  have hdrop : ∀ (j : Nat) oj, ops[j]? = some oj → k < j → ((ops.toList.map (rowOf qc ops)).drop (k + 1))[j - (k + 1)]? = some (rowOf qc ops oj) := fun j oj hj hkj => by
    rw [List.getElem?_drop, show k + 1 + (j - (k + 1)) = j by omega]
    exact hrow j oj hj
  have hrange : ∀ j, Bf j = true → k ≤ j ∧ j < ops.size := fun j hj => by
    rcases b4 j hj with hb | hb
    · simp at hb; omega
    · simp at hb; omega
  refine ⟨Bf, fun e he hb => allLt_ok h1 _ (afL_iff.2 ⟨e, by simpa using he, hb, rfl⟩), b1 k (by simp), fun j oj hj hb hne => ?_, hrange, fun j oj hj hkj hb => ?_⟩
  · have := hrange j hb
    obtain ⟨a, ha, hab⟩ := b2 (j - (k + 1)) _ (hdrop j oj hj (by omega)) (by rw [show k + 1 + (j - (k + 1)) = j by omega]; exact hb)
    obtain ⟨e, he, hbe, rfl⟩ := afL_iff.1 ha
    exact ⟨e, by simpa using he, hbe, hab⟩
  · have := b3 (j - (k + 1)) _ (hdrop j oj hj hkj) (by rw [show k + 1 + (j - (k + 1)) = j by omega]; exact hb)
    rw [show k + 1 + (j - (k + 1)) = j by omega] at this
    exact apR_ok this

/-- The labels are as small as the operations' classes tell, and those of the pairs told are clear of each other. -/
structure LabOk (qc : Nat → Bool) (np : List (Nat × Nat)) (ops : Array Oper) (lab : Nat → Lab) : Prop where
  c0 : ∀ i o, ops[i]? = some o → clsOf qc o = 0 → lab i = noLab
  c1 : ∀ i o, ops[i]? = some o → clsOf qc o ≤ 1 → (lab i).W = []
  np : ∀ i j, memP i j np = true → disjL (lab i) (lab j) = true

theorem clear1_nil : ∀ (b : List Id), clear1 [] b = true
  | [] => rfl
  | _ :: r => by simp only [clear1, inI]; exact clear1_nil r
theorem disjL_comm {a b : Lab} (h : disjL a b = true) : disjL b a = true := by
  have hs := disjL_spec h
  have mk : ∀ {x : List Id} (y : List Id), (∀ i, inI i y = true → inI i x = false) → clear1 x y = true := fun {x} y => by
    induction y with
    | nil => intro _; rfl
    | cons j r ih =>
      intro hh
      simp only [clear1, hh j (inI_cons.2 (.inl rfl))]
      exact ih fun i hi => hh i (inI_cons.2 (.inr hi))
  unfold disjL
  rw [mk a.R fun i hi => hs.2 i (.inl hi), mk a.W fun i hi => hs.2 i (.inr hi), mk b.R fun i hi => hs.1 i (.inl hi)]
theorem apS_ok {qc : Nat → Bool} {np : List (Nat × Nat)} {lab : Nat → Lab} (hl : LabOk qc np ops lab) {i j : Nat} {oi oj : Oper} (h : ops[i]? = some oi ∧ ops[j]? = some oj ∧ apS qc ops np i j oi oj = true) : oi.apart ops oj = true ∧ disjL (lab i) (lab j) = true := by
  obtain ⟨hi, hj, h⟩ := h
  simp only [apS, Bool.and_eq_true, Bool.or_eq_true, beq_iff_eq, decide_eq_true_eq] at h
  refine ⟨h.1, ?_⟩
  rcases h.2 with (((h | h) | ⟨h1, h2⟩) | h) | h
  · rw [hl.c0 i oi hi h]
    simp only [disjL, noLab, clear1_nil]
    rfl
  · rw [hl.c0 j oj hj h]
    simp only [disjL, noLab, clear1_nil, clear1]
  · simp only [disjL, hl.c1 i oi hi h1, hl.c1 j oj hj h2, clear1_nil]
  · exact hl.np i j h
  · exact disjL_comm (hl.np j i h)

/-- The operations in the text's order. -/
def listS (P : Program) (N : Nat) (ops : Array Oper) (lab : Nat → Lab) (K : (Nat → Option AV) → FM → Prop) : Nat → List Oper → (Nat → Option AV) → FM → Prop
  | _, [], φ, m => K φ m
  | k, o :: r, φ, m => ∃ φ' m', YieldsL P N ops o φ m φ' m' (lab k) ∧ listS P N ops lab K (k + 1) r φ' m'

theorem anyS_lex {qc : Nat → Bool} {np : List (Nat × Nat)} (hlex : lexS qc np ops = true) (hlab : LabOk qc np ops lab) {K : (Nat → Option AV) → FM → Prop} : ∀ (l : List Oper) (k : Nat) (listed : Array Bool) (φ : Nat → Option AV) (m : FM), (∀ j, l[j]? = ops[k + j]?) →
    listed.size = ops.size → (∀ j, j < ops.size → listed.getD j true = decide (j < k)) → k + l.length = ops.size → listS P N ops lab K k l φ m → anyS P N ops lab K l.length listed φ m
  | [], k, listed, φ, m, hl, hs, hd, hk, h => by
    refine ⟨List.eq_nil_iff_forall_not_mem.2 fun j hj => ?_, h⟩
    obtain ⟨h1, o, ho, _⟩ := mem_ready.1 hj
    have hlt : j < ops.size := (Array.getElem?_eq_some_iff.1 ho).1
    rw [hd j hlt] at h1
    simp at h1 hk
    omega
  | o :: l, k, listed, φ, m, hl, hs, hd, hk, h => by
    have h0 : ops[k]? = some o := by simpa using (hl 0).symm
    have hks : k < ops.size := (Array.getElem?_eq_some_iff.1 h0).1
    obtain ⟨φ', m', hy, hK⟩ := h
    obtain ⟨Bf, L⟩ := lexS_ok hlex h0
    have hF : ∀ j, j < ops.size → listed.getD j false = listed.getD j true := fun j hj => by
      have : j < listed.size := by omega
      simp [this]
    refine anyS_first (Ap := fun i j oi oj => ops[i]? = some oi ∧ ops[j]? = some oj ∧ apS qc ops np i j oi oj = true) (fun i j oi oj h => apS_ok hlab h) h0 Bf (fun j oj hb hne hj => L.waits j oj hj hb hne) l.length listed φ φ' m m' (fun j oj hj hne hun hb => ?_) (fun j hb => ?_) ?_ hy
      (anyS_lex hlex hlab l (k + 1) _ _ _ (fun j => by have := hl (j + 1); simpa [Nat.add_assoc, Nat.add_comm 1 j] using this) (by simp [hs]) (fun j hj => ?_) (by simp at hk; omega) hK)
    · have hj' : j < ops.size := (Array.getElem?_eq_some_iff.1 hj).1
      rw [hd j hj'] at hun
      simp at hun
      exact ⟨h0, hj, L.apart j oj hj (by omega) hb⟩
    · obtain ⟨r1, r2⟩ := L.range j hb
      rw [hd j r2]
      simp; omega
    · refine mem_ready.2 ⟨by rw [hd k hks]; simp, o, h0, fun e he hb => ?_⟩
      have := L.af e he hb
      rw [hF e.on (by omega), hd e.on (by omega)]
      simp [this]
    · by_cases hjk : j = k
      · subst hjk
        have : j < listed.size := by omega
        simp [this]
      · rw [getD_set_ne true (fun e => hjk e.symm), hd j hj]
        simp; omega

/-! ### The real run -/

variable {B : Base}

structure RS (B : Base) (φ : Nat → Option AV) (m : Mem) (a : Act) (w : World) : Prop where
  ex : ∃ g, Slots g w φ a ∧ Inv B g m w
  defers : a.defers = B.ds
  size : a.tmps.size = B.N

theorem slots_put {g : G} {w : World} {φ : Nat → Option AV} {a : Act} (h : Slots g w φ a) {d : Option Nat} {x : Option AV} {v : Value} (hx : ∀ k y, d = some k → x = some y → k < a.tmps.size ∧ RepA g w y v) : Slots g w (put d x φ) (a.put d v) := by
  cases d with
  | none => exact h
  | some d =>
    intro t y hy
    simp only [put] at hy
    simp only [Act.put]
    by_cases ht : t = d
    · subst ht
      rw [if_pos rfl] at hy
      obtain ⟨h1, h2⟩ := hx t y rfl hy
      exact ⟨v, by simp [h1], h2⟩
    · rw [if_neg ht] at hy
      obtain ⟨v', h1, h2⟩ := h t y hy
      exact ⟨v', by rw [Array.getElem?_setIfInBounds_ne (Ne.symm ht)]; exact h1, h2⟩

theorem slots_ext {g g' : G} {w w' : World} {φ : Nat → Option AV} {a : Act} (h : Slots g w φ a) (he : Ext g w g' w') : Slots g' w' φ a := fun t x hx => by
  obtain ⟨v, h1, h2⟩ := h t x hx
  exact ⟨v, h1, h2.ext he⟩

theorem size_put (a : Act) (d : Option Nat) (v : Value) : (a.put d v).tmps.size = a.tmps.size := by cases d <;> simp [Act.put]
theorem defers_put (a : Act) (d : Option Nat) (v : Value) : (a.put d v).defers = a.defers := by cases d <;> rfl

theorem guard_wanted {φ : Nat → Option AV} {m : Mem} {a : Act} {w : World} (hR : RS B φ m a w) {o : Oper} {r : Bool} (h : guardF ops o φ = some r) : Region.wanted o (yielded ops a.tmps) = r := by
  obtain ⟨g, hs, _⟩ := hR.ex
  unfold guardF at h
  unfold Region.wanted
  cases hg : o.guard with
  | none => simp [hg] at h; exact h.symm
  | some gw =>
    obtain ⟨j, want⟩ := gw
    simp only [hg] at h ⊢
    cases hd : (ops[j]?).bind (·.dst) with
    | none => simp [hd] at h
    | some d =>
      simp only [hd] at h
      split at h
      · rename_i b hb
        obtain ⟨v, h1, h2⟩ := hs d _ hb
        have := isBool h2
        subst this
        simp at h
        simp [yielded, hd, h1, h]
      · rename_i hb
        obtain ⟨v, h1, h2⟩ := hs d _ hb
        simp at h
        subst h
        cases h2 with
        | tup us hl _ =>
          have : us = [] := List.eq_nil_of_length_eq_zero hl
          subst this
          simp [yielded, hd, h1]
      · cases h

theorem run_callFunc_enter {f : Nat} {vals : Array Value} {w : World} (h : ∀ vals w, (callFunc f vals).run P w = .ok (.enter f vals) w) : (callFunc f vals).run P w = .ok (.enter f vals) w := h vals w

/-- A step is right. -/
theorem stepR_wp {φ : Nat → Option AV} {m m' : Mem} {a : Act} {w : World} (hN : B.N = N) (hR : RS B φ m a w) {o : Oper} {u : Option (Nat × AV)} (h : StepR P N o φ m u m') {K : Act → World → Prop} {Q : Exit → Act → World → Prop}
    (hK : ∀ a' w', RS B (appl u φ) m' a' w' → K a' w') : o.wp P a w K Q := by
  obtain ⟨⟨g, hs, hI⟩, hd, hz⟩ := hR
  have hdst := stepR_dst h
  have fin : ∀ {g' w' v}, Ext g w g' w' → Inv B g' m' w' → (∀ k y, o.dst = some k → u.map (·.2) = some y → k < a.tmps.size ∧ RepA g' w' y v) → K (a.put o.dst v) w' := fun {g' w' v} he hI' hr => by
    refine hK _ _ ⟨⟨g', ?_, hI'⟩, by rw [defers_put]; exact hd, by rw [size_put]; exact hz⟩
    rw [appl_put, hdst]
    exact slots_put (slots_ext hs he) hr
  unfold StepR at h
  unfold Oper.wp
  split at h
  · rename_i t p v ho
    obtain ⟨h1, h2, ti, pa, va, h3, h4, h5, h6⟩ := h
    obtain ⟨w', g', r1, r2, r3⟩ := storeOp_ok hI hs o ho h3 h4 h5 h6
    rw [r1, Oper.upon_skip]
    exact fin r2 r3 (fun k y hk => by rw [h1] at hk; cases hk)
  · rename_i f args ats ho
    obtain ⟨fid, caps, l, r, h1, h2, ⟨h3, h4⟩, h6, h7⟩ := h
    have hf := ev_rep hI.laid hs h1
    obtain ⟨hll, hlr⟩ := evs_rep hI.laid hs h2
    obtain ⟨us, hfv, hul, hur⟩ : ∃ us : List Value, a.eval f = .func (.func fid) #[] us.toArray ∧ us.length = caps.length ∧ ∀ (j : Nat) c u, caps[j]? = some c → us[j]? = some u → RepC g w c u := by
      generalize a.eval f = v at hf
      cases hf with
      | c hf => cases hf with
        | pure hf => cases hf
        | fn us hl hr => exact ⟨us, rfl, hl, hr⟩
    have hrun : (execOp a.eval o).run P w = .ok (.enter fid (args.toList.map a.eval ++ us).toArray) w := by
      have e : (args.map a.eval ++ us.toArray) = (args.toList.map a.eval ++ us).toArray := by apply Array.ext'; simp
      simp only [execOp, ho, resolve, Deferred.ofValue, hfv, Sem.run_bind, Sem.run_pure, Result.andThen_ok, invoke, Array.empty_append]
      rw [e]
      exact h3 _ _
    rw [hrun, Oper.upon_enter]
    refine (h4 B g w (args.toList.map a.eval ++ us) hI (by simp [hll, hul]) (fun j x v hx hv => ?_)).mono fun e w' he => ?_
    · rw [List.getElem?_append] at hx hv
      simp only [List.length_map] at hv
      by_cases hj : j < l.length
      · rw [if_pos hj] at hx
        rw [if_pos (by omega)] at hv
        exact hlr j x v hx hv
      · rw [if_neg hj] at hx
        rw [if_neg (by omega)] at hv
        rw [List.getElem?_map] at hx
        cases hc : caps[j - l.length]? with
        | none => simp [hc] at hx
        | some c =>
          simp [hc] at hx
          subst hx
          exact .c (hur _ c v hc (by rw [show j - l.length = j - args.toList.length by omega]; exact hv))
    · obtain ⟨v, g', rfl, r1, r2, r3⟩ := he
      exact fin r1 r3 (fun k y hk hy => by
        rw [h6, hk] at hy
        simp at hy
        subst hy
        exact ⟨by rw [hz, hN]; exact h7 k hk, r2⟩)
  · rename_i t p q v ho
    obtain ⟨h1, h2, pa, qa, va, h3, h4, h5, h6⟩ := h
    obtain ⟨w', g', r1, r2, r3⟩ := updOp_ok hI hs o ho h3 h4 h5 h6
    rw [r1, Oper.upon_skip]
    exact fin r2 r3 (fun k y hk => by rw [h1] at hk; cases hk)
  · obtain ⟨d, x, h1, h2, h0, h3, h4⟩ := h
    obtain ⟨v, w', g', r1, r2, r3, r4⟩ := opF_ok hI hs o h0 h3
    rw [r1, Oper.upon_value]
    exact fin r2 r4 (fun k y hk hy => by
      rw [h1] at hk
      rw [h4] at hy
      simp at hk hy
      subst hk; subst hy
      exact ⟨by rw [hz, hN]; exact h2, r3⟩)


theorem Inv.fm {B : Base} {g : G} {m m' : Mem} {w : World} (he : fm m = fm m') (h : Inv B g m w) : Inv B g m' w := by
  have ho : ∀ i, mget m'.o i = mget m.o i := fun i => (congrFun (congrArg FM.μ he) i).symm
  have hn : m'.nx = m.nx := (congrArg FM.n he).symm
  have hu : ∀ s, memU s m'.us = memU s m.us := fun s => (congrFun (congrArg FM.ν he) s).symm
  exact { ok := fun i o hi => h.ok i o (by rw [← ho]; exact hi), apart := fun i j oi oj b hi hj => h.apart i j oi oj b (by rw [← ho]; exact hi) (by rw [← ho]; exact hj), fresh := fun s k hk => h.fresh s k (fun hU => hk (by unfold Used at *; rw [hn, usd_congr hu]; exact hU)), flt := h.flt, ext := h.ext, fnew := h.fnew, own := fun i o b hi => h.own i o b (by rw [← ho]; exact hi), os := h.os, tape := h.tape, output := h.output, size := h.size, block := h.block }
theorem RS.fm {B : Base} {φ : Nat → Option AV} {m m' : Mem} {a : Act} {w : World} (he : fm m = fm m') (h : RS B φ m a w) : RS B φ m' a w := by
  obtain ⟨⟨g, hs, hI⟩, hd, hz⟩ := h
  exact ⟨⟨g, hs, hI.fm he⟩, hd, hz⟩
theorem RS.bump {B : Base} {φ : Nat → Option AV} {m : Mem} {a : Act} {w : World} (h : RS B φ m a w) : RS B φ (bump m) a w := by
  obtain ⟨⟨g, hs, hI⟩, hd, hz⟩ := h
  have hb := bump_o m
  refine ⟨⟨g, hs, { ok := fun i o hi => hI.ok i o (by rw [← hb]; exact hi), apart := fun i j oi oj b hi hj => hI.apart i j oi oj b (by rw [← hb]; exact hi) (by rw [← hb]; exact hj), fresh := fun s k hk => hI.fresh s k (fun hU => hk (used_bump hU)), flt := hI.flt, ext := hI.ext, fnew := hI.fnew, own := fun i o b hi => hI.own i o b (by rw [← hb]; exact hi), os := hI.os, tape := hI.tape, output := hI.output, size := hI.size, block := hI.block }⟩, hd, hz⟩

theorem skip_put {φ φ' : Nat → Option AV} {m : Mem} {a : Act} {w : World} (hN : B.N = N) (hR : RS B φ m a w) {o : Oper} (h1 : SkipTo N o φ φ') : RS B φ' m (a.put o.dst undef) w := by
  obtain ⟨⟨g, hs, hI⟩, hd, hz⟩ := hR
  obtain ⟨hdN, h1⟩ := h1
  subst h1
  refine ⟨⟨g, ?_, hI⟩, by rw [defers_put]; exact hd, by rw [size_put]; exact hz⟩
  rw [delF_put]
  exact slots_put hs (fun k y hk h => by
    cases h
    exact ⟨by rw [hz, hN]; exact hdN k hk, .tup [] rfl fun j x u h => by simp at h⟩)

def RF (B : Base) (φ : Nat → Option AV) (F : FM) (a : Act) (w : World) : Prop := ∃ m, fm m = F ∧ RS B φ m a w

theorem wpAny_of_anyS {lab : Nat → Lab} (hN : B.N = N) {K : (Nat → Option AV) → FM → Prop} {Q : Exit → Act → World → Prop} (hQ : ∀ φ m a w, RS B φ m a w → K φ (fm m) → Q .normal a w) :
    ∀ (fuel : Nat) (listed : Array Bool) (φ : Nat → Option AV) (F : FM) (a : Act) (w : World), RF B φ F a w → anyS P N ops lab K fuel listed φ F → wpAny P .any ops Q fuel listed a w
  | 0, _, φ, F, a, w, hR, h => by obtain ⟨m, rfl, hR⟩ := hR; exact ⟨h.1, hQ _ _ _ _ hR h.2⟩
  | fuel + 1, listed, φ, F, a, w, hR, h => by
    refine ⟨fun h0 => by obtain ⟨m, rfl, hR⟩ := hR; exact hQ _ _ _ _ hR (h.1 h0), fun i hi => ?_⟩
    have h1 := h.2 i hi
    unfold opS at h1
    unfold wpOp
    split at h1
    · rename_i ho
      rw [ho]
      exact wpAny_of_anyS hN hQ fuel _ _ _ _ _ hR h1
    · rename_i o ho
      rw [ho]
      simp only
      obtain ⟨φ', F', hy, hk⟩ := h1
      obtain ⟨m, rfl, hR⟩ := hR
      rcases hy with ⟨⟨hg, hn⟩, hF, u, hu, hs, rfl⟩ | ⟨hg, h2, rfl⟩
      · rw [guard_wanted hR hg]
        simp only [if_true]
        obtain ⟨M', g1, g2⟩ := hs φ m (fun _ _ => rfl) ⟨fun _ _ => rfl, rfl⟩ (by
          unfold memO
          split
          · rename_i d hd; exact hn d hd
          · rfl)
        rw [← hF] at g2
        exact .inl (stepR_wp hN hR g1 fun a' w' hR' => wpAny_of_anyS hN hQ fuel _ _ _ _ _ ⟨M', g2, hR'⟩ hk)
      · rw [guard_wanted hR hg]
        simp only [Bool.false_eq_true, if_false]
        exact wpAny_of_anyS hN hQ fuel _ _ _ _ _ ⟨m, rfl, skip_put hN hR h2⟩ hk

theorem RS.drew {φ : Nat → Option AV} {m : Mem} {a : Act} {w : World} (h : RS B φ m a w) : RS B φ m a w.drew := by
  obtain ⟨⟨g, hs, hI⟩, hd, hz⟩ := h
  obtain ⟨he, hI'⟩ := inv_quiet hI (grownBy_drew w none)
  exact ⟨⟨g, slots_ext hs he, hI'⟩, hd, hz⟩

/-- A REGION THAT DRAWS ITS ORDER IS RIGHT. -/
theorem regionD_ok {lab : Nat → Lab} {qc : Nat → Bool} {np : List (Nat × Nat)} (hm : P.follows .mixedOrders = true) (hN : B.N = N) {id : Nat} (hB : lexS qc np ops = true) (hlab : LabOk qc np ops lab) {K : (Nat → Option AV) → FM → Prop} {Q : Exit → Act → World → Prop} (hQ : ∀ φ m a w, RS B φ m a w → K φ (fm m) → Q .normal a w)
    {φ : Nat → Option AV} {m : Mem} {a : Act} {w : World} (hR : RS B φ m a w) (h : listS P N ops lab K 0 ops.toList φ (fm m)) : (Code.region id ops true).wp P Q a w := by
  refine wp_region_any hm (wpAny_of_anyS (lab := lab) hN hQ _ _ φ (fm m) a _ ⟨m, rfl, hR.drew⟩ ?_)
  have := anyS_lex (P := P) (N := N) (K := K) hB hlab ops.toList 0 (Array.replicate ops.size false) φ (fm m) (by simp) (by simp) (fun j hj => by simp [hj]) (by simp) h
  simpa using this

end
end Go.Abs
