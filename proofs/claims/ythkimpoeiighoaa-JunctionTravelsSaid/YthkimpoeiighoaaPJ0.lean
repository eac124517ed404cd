/- Proved here: what functions of the given program come to, and the plain laws of it; no condition but those in the theorems. -/
import Derived.Test.YthkimpoeiighoaaL17
import Derived.Test.YthkimpoeiighoaaPRiver6
namespace Go.Proofs
open Go Go.Abs
set_option linter.unusedSimpArgs false
set_option linter.unusedVariables false
set_option maxRecDepth 4000
def R_way : RT := fun args k => ∃ (r : Rv) (x : Int), args = [.agg (rvC r), I x] ∧ RvOk r ∧ (0 ≤ x ∧ x < r.n) ∧ k (.c (.lst (eL ((wayR r x).map Int.ofNat))))
theorem way_ok : FunR Try.prog 51 R_way := by
  intro args k h
  obtain ⟨r, x, rfl, hr, hx, hk⟩ := h
  have hm := eK_len r.ls
  have hrl := hr.len
  have hpl := path_len hr hx
  refine does_ex (qc := qc1) (np := [(5, [(2, 5), (2, 7), (2, 9), (3, 5), (3, 7), (3, 9)])]) (CK := ckK [(58, cSc R_lnk)]) mixed Try.func51 rfl rfl Try.ntmps51 Try.results51 τ_ok (by kernel_rfl) (ckK_ok ⟨cSc_ok link_ok, trivial⟩) (by simp) ?_
  conv => whnf
  refine ⟨r, x, rfl, by omega, ?_⟩
  conv => whnf
  refine ⟨List Nat × Int, fun s => ([(2, .c (.ptr (.l 2 0) 0)), (5, .c (.view (.l 18 1) 0 s.1.length)), (6, I (lnk r.ls s.2))], ⟨[(.l 2 0, .blk (rvC r)), (.l 18 1, .arr 3 1 (eL (s.1.map Int.ofNat)) false)], 2, []⟩),
    fun s => (0 ≤ s.2 ∧ s.2 < r.n) ∧ wayR r x = s.1 ++ wayR r s.2, fun s => (r.n - s.2).toNat, ([], x), ⟨hx, rfl⟩,
    Shift.trans (Shift.rename [] ⟨rfl, rfl, rfl, trivial⟩ ⟨rfl, rfl, trivial⟩ rfl rfl rfl) (Shift.nilArr (t := 5) rfl 18 3 1), fun s hs => ?_⟩
  obtain ⟨o, y⟩ := s
  obtain ⟨hy, hw⟩ := hs
  dsimp only at hy hw ⊢
  have hmo : (eL (o.map Int.ofNat)).length = o.length := by rw [eL_len, List.length_map]
  have hol : o.length ≤ 40 := by have := congrArg List.length hw; rw [List.length_append] at this; omega
  rcases lnk_spec r.ls y with ⟨e, _⟩ | ⟨i, l, e1, e2, e3⟩
  · rw [wayR_end (k := y) (by omega), List.append_nil] at hw
    rw [e]
    conv => whnf
    (repeat ((first | refine fork_t ?_ | refine fork_f ?_); (conv => whnf)))
    refine ⟨by rw [hmo]; omega, ?_⟩
    conv => whnf
    have ht : List.take o.length (List.drop 0 (eL (o.map Int.ofNat))) = eL (o.map Int.ofNat) := by rw [List.drop_zero, List.take_of_length_le (by rw [hmo]; exact Nat.le_refl _)]
    show k (.c (.lst (List.take o.length (List.drop 0 (eL (o.map Int.ofNat))))))
    rw [ht, ← hw]
    exact hk
  rw [e3]
  rw [wayR_step hr hy.1 e3 e1 e2] at hw
  have hil := (List.getElem?_eq_some_iff.1 e1).1
  have hlo := hr.l l (List.mem_of_getElem? e1)
  have h1 := hlo.o
  have h2 := hlo.t
  conv => whnf
  refine Fork.mk (fun h => ?_) (fun h => ?_)
  rotate_left
  · exfalso; simp at h
  clear h
  conv => whnf
  refine ⟨by first | exact Nat.le_refl _ | (simp; done), ?_⟩
  conv => whnf
  refine ⟨rfl, ?_⟩
  conv => whnf
  refine ⟨⟨rfl, rfl, rfl, hmo.symm, by rw [hmo]; simp; omega⟩, ?_⟩
  conv => whnf
  refine ⟨by omega, lkC l, by rw [Int.toNat_natCast, List.getElem?_map, e1]; rfl, rfl, ?_⟩
  conv => whnf
  refine ⟨r, l.to, rfl, by omega, ?_⟩
  conv => whnf
  refine ⟨(o ++ [i], l.to), ⟨by dsimp only; omega, by dsimp only; rw [hw]; simp⟩, Shift.rename [(.l 18 1, .l 18 2)] ⟨rfl, ?_, rfl, trivial⟩ ⟨rfl, ?_, trivial⟩ rfl rfl rfl, by dsimp only; omega⟩
  · dsimp only; rw [List.length_append, ← hmo]; rfl
  · dsimp only; rw [List.map_append, show eL (o.map Int.ofNat ++ List.map Int.ofNat [i]) = eL (o.map Int.ofNat) ++ [eI (i : Int)] from List.map_append]; rfl
def R_pth : RT := fun args k => ∃ (r : Rv) (x : Int), args = [.agg (rvC r), I x] ∧ r.fin ∧ k (.tup [.c (.lst (eL (pthS r x).1)), I (pthS r x).2])
theorem kPth {k : AV → Prop} {x y : Ls × Int} (h : k (.tup [.c (.lst (eL x.1)), I x.2])) (e : x = y) : k (.tup [.c (.lst (eL y.1)), I y.2]) := by subst e; exact h
theorem pth_ok : FunR Try.prog 35 R_pth := by
  intro args k h
  obtain ⟨r, x, rfl, hf, hk⟩ := h
  have hm := eK_len r.ls
  refine does_ex (qc := qc1) (np := []) (CK := ckK [(27, cSc R_rvE), (45, cSc R_node), (51, cPu R_way)]) mixed Try.func35 rfl rfl Try.ntmps35 Try.results35 τ_ok (by kernel_rfl) (ckK_ok ⟨cSc_ok rvE_ok', cSc_ok node_ok, cPu_ok way_ok rfl, trivial⟩) (by simp) ?_
  conv => whnf
  refine ⟨r, rfl, hf, ?_⟩
  conv => whnf
  refine Fork.mk (fun h => ?_) (fun h => ?_)
  · have h1 : rvE r ≠ 0 := by simpa using h
    conv => whnf
    exact kPth (y := ([], rvE r)) hk (by rw [pthS, if_pos h1])
  have h1 : rvE r = 0 := by simpa using h
  have hr := rvE_ok h1
  have hrl := hr.len
  clear h
  conv => whnf
  refine ⟨r, x, rfl, hr.n, ?_⟩
  conv => whnf
  refine Fork.mk (fun h => ?_) (fun h => ?_)
  · have h2 : inN r.n x = false := by simpa only [Bool.not_eq_true'] using h
    conv => whnf
    exact kPth (y := ([], 11)) hk (by rw [pthS, if_neg (by simp [h1]), if_pos h2])
  have h2 : inN r.n x = true := by simpa only [Bool.not_eq_false'] using h
  have hx : 0 ≤ x ∧ x < r.n := by simp [inN] at h2; omega
  have e0 : pthS r x = (pathR r x, 0) := by rw [pthS, if_neg (by simp [h1]), if_neg (by simp [h2])]
  clear h h2
  have hwi := way_in hr (r.n - x).toNat x (Nat.le_refl _) hx.1
  have hwl := path_len hr hx
  rw [pathR] at e0
  conv => whnf
  refine ⟨r, x, rfl, hr, hx, ?_⟩
  generalize wayR r x = ws at e0 hwi hwl
  have hmw : (eL (ws.map Int.ofNat)).length = ws.length := by rw [eL_len, List.length_map]
  conv => whnf
  refine ⟨Nat, fun i => ([(2, .c (.ptr (.l 2 0) 0)), (7, .c (.view (.l 37 9) 0 (i + 1))), (23, .c (.lst (eL (ws.map Int.ofNat)))), (24, I (eL (ws.map Int.ofNat)).length), (25, I i)], ⟨[(.l 2 0, .blk (rvC r)), (.l 37 9, .arr 3 1 (eL (x :: (ws.take i).map (toOf r.ls))) false)], 10, []⟩),
    fun i => i ≤ ws.length, fun i => ws.length - i, 0, Nat.zero_le _, Shift.rename [(.l 37 9, .l 20 1)] ⟨rfl, rfl, rfl, rfl, rfl, trivial⟩ ⟨rfl, rfl, trivial⟩ rfl rfl rfl, fun i hi => ?_⟩
  dsimp only
  have hmi : (eL (x :: (ws.take i).map (toOf r.ls))).length = i + 1 := by rw [eL_len, List.length_cons, List.length_map, List.length_take]; omega
  conv => whnf
  refine Fork.mk (fun h => ?_) (fun h => ?_)
  rotate_left
  · have hie : i = ws.length := by simp at h; omega
    subst hie
    rw [List.take_length] at hmi ⊢
    conv => whnf
    refine ⟨by rw [hmi]; omega, ?_⟩
    conv => whnf
    have ht : List.take (ws.length + 1) (List.drop 0 (eL (x :: ws.map (toOf r.ls)))) = eL (x :: ws.map (toOf r.ls)) := by rw [List.drop_zero, List.take_of_length_le (by rw [hmi]; exact Nat.le_refl _)]
    show k (.tup [.c (.lst (List.take (ws.length + 1) (List.drop 0 (eL (x :: ws.map (toOf r.ls)))))), I 0])
    rw [ht]
    exact kPth (y := (x :: ws.map (toOf r.ls), 0)) hk e0
  have hil : i < ws.length := by simp at h; omega
  clear h
  have hci := List.getElem?_eq_getElem hil
  have hin := hwi _ (List.getElem_mem hil)
  generalize ws[i] = c at hci hin
  have hcl := List.getElem?_eq_getElem hin
  have hto : toOf r.ls c = (r.ls[c]'hin).to := by unfold toOf; rw [hcl]
  generalize r.ls[c] = l at hcl hto
  have hw1 := wr_succ (i := i) (by omega)
  conv => whnf
  refine ⟨by omega, eI (c : Int), by rw [Int.toNat_natCast, List.getElem?_map, List.getElem?_map, hci]; rfl, rfl, ?_⟩
  conv => whnf
  refine ⟨by omega, lkC l, by rw [Int.toNat_natCast, List.getElem?_map, hcl]; rfl, rfl, ?_⟩
  conv => whnf
  refine ⟨by first | exact Nat.le_refl _ | (simp; done), ?_⟩
  conv => whnf
  refine ⟨rfl, ?_⟩
  conv => whnf
  refine ⟨⟨rfl, rfl, rfl, hmi.symm, by rw [hmi]; simp; omega⟩, ?_⟩
  conv => whnf
  rw [hw1]
  refine ⟨i + 1, hil, Shift.rename [(.l 37 9, .l 37 11)] ⟨rfl, ?_, rfl, rfl, rfl, trivial⟩ ⟨rfl, ?_, trivial⟩ rfl rfl rfl, by omega⟩
  · dsimp only; rw [hmi]; rfl
  · dsimp only; rw [take_snoc hci, List.map_append, ← List.cons_append, show eL ((x :: (ws.take i).map (toOf r.ls)) ++ List.map (toOf r.ls) [c]) = eL (x :: (ws.take i).map (toOf r.ls)) ++ [eI (toOf r.ls c)] from List.map_append, hto]; rfl
end Go.Proofs

/- For chapter 17 alone: parts of PLag, PLagD, PMore, PRest (which import more than this chapter bears). No program. -/
namespace Go.Proofs
open Go Go.Abs
set_option linter.unusedSimpArgs false
set_option linter.unusedVariables false
def posG : Nat → Ls → Int
  | _, [] => -1
  | i, x :: r => if decide (0 < x) = true then (i : Int) else posG (i + 1) r
abbrev pos (ws : Ls) : Int := posG 0 ws
theorem posG_spec : ∀ {l : Ls} {i : Nat}, (posG i l = -1 ∧ ∀ x ∈ l, x ≤ 0) ∨ ∃ (j : Nat) (x : Int), l[j]? = some x ∧ 0 < x ∧ posG i l = ((i + j : Nat) : Int) ∧ ∀ (k : Nat) y, k < j → l[k]? = some y → y ≤ 0
  | [], i => .inl ⟨rfl, fun x h => by simp at h⟩
  | x :: r, i => by
    rw [posG]
    by_cases h : 0 < x
    · rw [if_pos (by simp [h])]
      exact .inr ⟨0, x, rfl, h, rfl, fun k y h => by omega⟩
    · rw [if_neg (by simp [h])]
      rcases posG_spec (l := r) (i := i + 1) with ⟨h1, h2⟩ | ⟨j, y, h1, h2, h3, h4⟩
      · exact .inl ⟨h1, fun z hz => by
          rcases List.mem_cons.1 hz with rfl | hz
          · omega
          · exact h2 z hz⟩
      · refine .inr ⟨j + 1, y, by simpa using h1, h2, by rw [h3]; congr 1; omega, fun k z hk hz => ?_⟩
        cases k with
        | zero => simp at hz; omega
        | succ k => exact h4 k z (by omega) (by simpa using hz)
theorem sum_np {l : Ls} (h : ∀ x ∈ l, x ≤ 0) : l.sum ≤ 0 := by
  induction l with
  | nil => simp
  | cons x r ih =>
    have := h x (by simp)
    have := ih fun y hy => h y (by simp [hy])
    rw [List.sum_cons]
    omega
theorem pos_ok {ws : Ls} {den : Int} (h : rkCheck ws den = 0) : ∃ (j : Nat) (x : Int), ws[j]? = some x ∧ 0 < x ∧ pos ws = j ∧ j < ws.length ∧ ws.length ≤ 24 ∧ ∀ (k : Nat) y, k < j → ws[k]? = some y → y = 0 := by
  obtain ⟨h1, h2, h3, h4, h5, h6, h7⟩ := rk_facts h
  rcases posG_spec (l := ws) (i := 0) with ⟨_, g⟩ | ⟨j, x, g1, g2, g3, g4⟩
  · have := sum_np g; omega
  · refine ⟨j, x, g1, g2, by rw [pos, g3, Nat.zero_add], (List.getElem?_eq_some_iff.1 g1).1, h2, fun k y hk hy => ?_⟩
    have := g4 k y hk hy
    have := (h7 y (List.mem_of_getElem? hy)).1
    omega
def lagW (ls : List Lk) (t : Int) : List Nat → Int → Option (Int × Int)
  | [], f => if f = t then some (0, 0) else none
  | i :: w, f => if f = t then some (0, 0) else match ls[i]? with
    | none => none
    | some l => (lagW ls t w l.to).map fun x => (pos l.ws + x.1, (l.ws.length : Int) - 1 + x.2)
def lagR (r : Rv) (f t : Int) : Option (Int × Int) := lagW r.ls t (wayR r f) f
theorem lagR_eq (r : Rv) (t : Int) : lagR r t t = some (0, 0) := by
  unfold lagR
  cases wayR r t <;> simp [lagW]
theorem lagR_end {r : Rv} {f t : Int} (h : lnk r.ls f < 0) (hne : f ≠ t) : lagR r f t = none := by
  unfold lagR
  rw [wayR_end h, lagW, if_neg hne]
theorem lagR_step {r : Rv} (hr : RvOk r) {f t : Int} (hf0 : 0 ≤ f) (hne : f ≠ t) {i : Nat} {l : Lk} (h : lnk r.ls f = i) (hl : r.ls[i]? = some l) (hf : l.fr = f) : lagR r f t = (lagR r l.to t).map fun x => (pos l.ws + x.1, (l.ws.length : Int) - 1 + x.2) := by
  unfold lagR
  rw [wayR_step hr hf0 h hl hf, lagW, if_neg hne, hl]
theorem lnk_at (ls : List Lk) (f : Int) : lnk ls f < 0 ∨ ∃ (i : Nat) (l : Lk), lnk ls f = i ∧ ls[i]? = some l ∧ l.fr = f := by
  rcases lnk_spec ls f with ⟨h, _⟩ | ⟨j, a, h1, h2, h3⟩
  · exact .inl (by omega)
  · exact .inr ⟨j, a, h3, h1, h2⟩
theorem lagR_past {r : Rv} (hr : RvOk r) {t : Int} : ∀ (m : Nat) (f : Int), (r.n - f).toNat ≤ m → 0 ≤ f → t < f → f < r.n → lagR r f t = none
  | 0, f, h, h0, ht, hn => by omega
  | m + 1, f, h, h0, ht, hn => by
    rcases lnk_at r.ls f with hl | ⟨i, l, h1, h2, h3⟩
    · exact lagR_end hl (by omega)
    · have hk := hr.l l (List.mem_of_getElem? h2)
      have k2 := hk.o
      have k3 := hk.t
      rw [lagR_step hr h0 (by omega) h1 h2 h3, lagR_past hr m l.to (by omega) (by omega) (by omega) k3]
      rfl
def trvM : Option (Int × Int) → Int × Int × Bool × Int
  | some x => (x.1, x.2, true, 0)
  | none => (0, 0, false, 0)
def trvS (r : Rv) (f t : Int) : Int × Int × Bool × Int := if rvE r ≠ 0 then (0, 0, false, rvE r) else if inN r.n f = false then (0, 0, false, 11) else if inN r.n t = false then (0, 0, false, 11) else trvM (lagR r f t)
def R_trv : RT := fun args k => ∃ (r : Rv) (f t : Int), args = [.agg (rvC r), I f, I t] ∧ r.fin ∧ k (.tup [I (trvS r f t).1, I (trvS r f t).2.1, Bo (trvS r f t).2.2.1, I (trvS r f t).2.2.2])
theorem kTrv {k : AV → Prop} {x y : Int × Int × Bool × Int} (h : k (.tup [I x.1, I x.2.1, Bo x.2.2.1, I x.2.2.2])) (e : x = y) : k (.tup [I y.1, I y.2.1, Bo y.2.2.1, I y.2.2.2]) := by subst e; exact h
structure lgI (r : Rv) (f0 t f a b : Int) : Prop where
  hf : 0 ≤ f ∧ f < r.n
  ha : 0 ≤ a ∧ a ≤ 24 * f
  hb : 0 ≤ b ∧ b ≤ 24 * f
  he : lagR r f0 t = (lagR r f t).map fun x => (a + x.1, b + x.2)
theorem lgI.zero {r : Rv} {f t : Int} (h : 0 ≤ f ∧ f < r.n) : lgI r f t f 0 0 := ⟨h, by omega, by omega, by cases lagR r f t <;> simp⟩
theorem lgI.done {r : Rv} {f0 t a b : Int} (h : lgI r f0 t t a b) : lagR r f0 t = some (a, b) := by
  rw [h.he, lagR_eq]
  simp
theorem lgI.no {r : Rv} {f0 t f a b : Int} (h : lgI r f0 t f a b) (hl : lagR r f t = none) : lagR r f0 t = none := by
  rw [h.he, hl]
  rfl
theorem lgI.next {r : Rv} (hr : RvOk r) {f0 t f a b : Int} (h : lgI r f0 t f a b) (hne : f ≠ t) {i : Nat} {l : Lk} (h1 : lnk r.ls f = i) (h2 : r.ls[i]? = some l) (h3 : l.fr = f) : lgI r f0 t l.to (a + pos l.ws) (b + ((l.ws.length : Int) - 1)) := by
  have hk := hr.l l (List.mem_of_getElem? h2)
  have k2 := hk.o
  have k3 := hk.t
  obtain ⟨j, x, p1, p2, p3, p4, p5, p6⟩ := pos_ok hk.r
  have ha := h.ha
  have hb := h.hb
  have hf := h.hf
  refine ⟨by omega, by omega, by omega, ?_⟩
  rw [h.he, lagR_step hr hf.1 hne h1 h2 h3]
  cases lagR r l.to t with
  | none => rfl
  | some x => simp; omega
theorem lag_next {r : Rv} (hr : RvOk r) {l : Lk} (hl : l ∈ r.ls) : ∀ (n : Nat) (q : Int) (z : Int × Int), (r.n - q).toNat ≤ n → 0 ≤ q → q < r.n → lagR r q l.fr = some z → lagR r q l.to = some (z.1 + pos l.ws, z.2 + ((l.ws.length : Int) - 1)) := by
  have hk := hr.l l hl
  have k2 := hk.o
  have k3 := hk.t
  obtain ⟨il, hil⟩ := List.getElem?_of_mem hl
  intro n
  induction n with
  | zero => intro q z h0 h1 h2 h3; omega
  | succ n ih =>
    intro q z h0 h1 h2 h3
    by_cases hq : q = l.fr
    · subst hq
      rw [lagR_eq] at h3
      cases h3
      have hlk : lnk r.ls l.fr = il := by
        rcases lnk_at r.ls l.fr with h | ⟨i, l', g1, g2, g3⟩
        · rcases lnk_spec r.ls l.fr with ⟨_, h⟩ | ⟨j, a, g1, g2, g3⟩
          · exact absurd rfl (h l hl)
          · omega
        · have : i = il := by
            obtain ⟨i1, e1⟩ := List.getElem?_eq_some_iff.1 g2
            obtain ⟨i2, e2⟩ := List.getElem?_eq_some_iff.1 hil
            rcases Nat.lt_trichotomy i il with e | e | e
            · have := List.pairwise_iff_getElem.1 hr.p i il i1 i2 e
              rw [e1, e2] at this
              omega
            · exact e
            · have := List.pairwise_iff_getElem.1 hr.p il i i2 i1 e
              rw [e1, e2] at this
              omega
          rw [g1, this]
      rw [lagR_step hr h1 (by omega) hlk hil rfl, lagR_eq]
      simp
    · rcases lnk_at r.ls q with h | ⟨i, l', g1, g2, g3⟩
      · rw [lagR_end h hq] at h3; cases h3
      · have hk' := hr.l l' (List.mem_of_getElem? g2)
        have k2' := hk'.o
        have k3' := hk'.t
        rw [lagR_step hr h1 hq g1 g2 g3] at h3
        obtain ⟨z', hz', rfl⟩ := Option.map_eq_some_iff.1 h3
        have hle : l'.to ≤ l.fr := by
          rcases Int.lt_or_le l.fr l'.to with h | h
          · rw [lagR_past hr _ l'.to (Nat.le_refl _) (by omega) h k3'] at hz'; cases hz'
          · exact h
        rw [lagR_step hr h1 (by omega) g1 g2 g3, ih l'.to z' (by omega) (by omega) k3' hz']
        simp only [Option.map_some, Option.some.injEq, Prod.mk.injEq]
        omega
theorem fP_step {ws : Ls} {den : Int} {ps : Ls} {q : Int} (h1 : 1 ≤ ws.length) (hp : ps.length ≤ ws.length) (k : Nat) : fP (stepF ws den ps q) k = hP ws den ps q k := by
  rw [stepF, fP_trim, fP_tab]
  split
  · rfl
  · rename_i h
    unfold hP gP
    rw [fP_out (by omega), fP_out (by omega), if_neg (by omega)]
    omega
theorem gA_set {a : Ls} {i j : Int} {v : Int} (hi : 0 ≤ i) (h : i.toNat < a.length) (hj : 0 ≤ j) : gA (a.set i.toNat v) j = if j = i then v else gA a j := by
  have := gN_set (a := a) (i := i.toNat) (j := j.toNat) (v := v) h
  unfold gA
  unfold gN at this
  rw [this]
  by_cases e : j = i
  · rw [if_pos e, if_pos (by rw [e])]
  · rw [if_neg e, if_neg (by omega)]
theorem gA_set1 {a : Ls} {i j : Int} {v : Int} (hi : 1 ≤ i) (h : i.toNat < a.length) : gA (a.set i.toNat v) j = if j = i then v else gA a j := by
  by_cases hj : 0 ≤ j
  · exact gA_set (by omega) h hj
  · rw [if_neg (by omega)]
    unfold gA
    rw [List.getD_eq_getElem?_getD, List.getD_eq_getElem?_getD, List.getElem?_set_ne (by omega)]
def vT (E : Int → Int) (a : Ls) (k : Nat) : Nat → Int
  | 0 => 0
  | m + 1 => E k * gN a k + vT E a (k + 1) m
theorem vT_low {E : Int → Int} {a : Ls} {t : Nat} {v : Int} : ∀ {m k : Nat}, t < k → vT E (a.set t v) k m = vT E a k m
  | 0, k, _ => rfl
  | m + 1, k, h => by
    have e : gN (a.set t v) k = gN a k := by unfold gN; rw [List.getD_eq_getElem?_getD, List.getD_eq_getElem?_getD, List.getElem?_set_ne (by omega)]
    rw [vT, vT, e, vT_low (by omega)]
theorem vT_set {E : Int → Int} {a : Ls} {t : Nat} {v : Int} (ht : t < a.length) : ∀ {m k : Nat}, k ≤ t → t < k + m → vT E (a.set t (gN a t + v)) k m = vT E a k m + E t * v
  | 0, k, h1, h2 => by omega
  | m + 1, k, h1, h2 => by
    rw [vT, vT]
    by_cases e : k = t
    · subst e
      rw [vT_low (by omega)]
      have : gN (a.set k (gN a k + v)) k = gN a k + v := by unfold gN; rw [List.getD_eq_getElem?_getD, List.getElem?_set_self ht]; rfl
      rw [this, Int.mul_add]
      omega
    · have e2 : gN (a.set t (gN a t + v)) k = gN a k := by unfold gN; rw [List.getD_eq_getElem?_getD, List.getD_eq_getElem?_getD, List.getElem?_set_ne (by omega), List.getD_eq_getElem?_getD]
      rw [e2, vT_set ht (by omega) (by omega)]
      omega
theorem vT_zero {E : Int → Int} {a : Ls} : ∀ {m k : Nat}, (∀ j : Nat, k ≤ j → j < k + m → E j = 0) → vT E a k m = 0
  | 0, k, _ => rfl
  | m + 1, k, h => by rw [vT, h k (by omega) (by omega), vT_zero fun j h1 h2 => h j (by omega) (by omega)]; omega
theorem vT_skip {E : Int → Int} {a : Ls} : ∀ {d m k : Nat}, (∀ j : Nat, k ≤ j → j < k + d → E j = 0) → vT E a k (d + m) = vT E a (k + d) m
  | 0, m, k, _ => by rw [Nat.zero_add, Nat.add_zero]
  | d + 1, m, k, h => by
    rw [show d + 1 + m = (d + m) + 1 by omega, vT, h k (by omega) (by omega), vT_skip fun j h1 h2 => h j (by omega) (by omega), show k + 1 + d = k + (d + 1) by omega]
    omega
theorem vT_last {E : Int → Int} {a : Ls} {z : Nat} : ∀ {m k : Nat}, (∀ j : Nat, k ≤ j → j < k + m → E j = if j = z then 1 else 0) → k ≤ z → z < k + m → vT E a k m = gN a z
  | 0, k, _, h1, h2 => by omega
  | m + 1, k, h, h1, h2 => by
    rw [vT, h k (by omega) (by omega)]
    by_cases e : k = z
    · subst e
      rw [if_pos rfl, vT_zero fun j h3 h4 => by rw [h j (by omega) (by omega), if_neg (by omega)]]
      omega
    · rw [if_neg e, vT_last (fun j h3 h4 => h j (by omega) (by omega)) (by omega) (by omega)]
      omega
end Go.Proofs
