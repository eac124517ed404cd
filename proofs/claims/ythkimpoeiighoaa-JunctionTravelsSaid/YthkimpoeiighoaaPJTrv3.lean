/- Proved here: what functions of the given program come to, and the plain laws of it; no condition but those in the theorems. -/
import Derived.Test.YthkimpoeiighoaaPJ0
import Derived.Test.YthkimpoeiighoaaPJTrv2
namespace Go.Proofs
open Go Go.Abs
set_option linter.unusedSimpArgs false
set_option linter.unusedVariables false
set_option maxRecDepth 40000
def R_posz : RT := fun args k => ∃ x : Int, args = [I x] ∧ k (Bo (decide (0 < x)))
theorem posz_ok : FunR Try.prog 53 R_posz := by
  intro args k h
  obtain ⟨x, rfl, hk⟩ := h
  refine does_ex (qc := qc1) (np := []) (CK := ckK []) mixed Try.func53 rfl rfl Try.ntmps53 Try.results53 τ_ok (by kernel_rfl) (ckK_ok trivial) (by simp) ?_
  conv => whnf
  exact hk
def R_ixW : RT := fun args k => ∃ l : Ls, args = [.c (.lst (eL l)), .c (.fn 53 [])] ∧ l.length ≤ 9223372036854775807 ∧ k (I (pos l))
theorem ixW_ok : FunR Try.prog 52 R_ixW := by
  intro args k h
  obtain ⟨l, rfl, hl, hk⟩ := h
  have hm := eL_len l
  refine does_ex (qc := qc1) (np := []) (CK := ckK [(53, cSc R_posz)]) mixed Try.func52 rfl rfl Try.ntmps52 Try.results52 τ_ok (by kernel_rfl) (ckK_ok ⟨cSc_ok posz_ok, trivial⟩) (by simp) ?_
  conv => whnf
  refine ⟨Nat, fun i => ([(0, .c (.lst (eL l))), (1, .c (.fn 53 [])), (7, I (eL l).length), (8, I i)], ⟨[], 9, []⟩),
    fun i => i ≤ l.length ∧ pos l = posG i (l.drop i), fun i => l.length - i, 0, ⟨Nat.zero_le _, rfl⟩, Shift.reset ⟨rfl, rfl, rfl, rfl, trivial⟩ trivial rfl rfl, fun i hi => ?_⟩
  obtain ⟨hi1, hi2⟩ := hi
  dsimp only
  conv => whnf
  refine Fork.mk (fun h => ?_) (fun h => ?_)
  rotate_left
  · have hie : i = l.length := by simp at h; omega
    rw [hie, List.drop_length] at hi2
    rw [hi2] at hk
    conv => whnf
    exact hk
  have hi : i < l.length := by simp at h; omega
  clear h
  have hci := List.getElem?_eq_getElem hi
  generalize l[i] = x at hci
  rw [dropC hci, posG] at hi2
  have hw1 := wr_succ (i := i) (by omega)
  conv => whnf
  refine ⟨by omega, eI x, by rw [Int.toNat_natCast, List.getElem?_map, hci]; rfl, rfl, ?_⟩
  conv => whnf
  refine ⟨x, rfl, ?_⟩
  conv => whnf
  refine Fork.mk (fun h => ?_) (fun h => ?_)
  · rw [if_pos h] at hi2
    rw [hi2] at hk
    conv => whnf
    exact hk
  rw [if_neg (by rw [h]; simp)] at hi2
  conv => whnf
  rw [hw1]
  exact ⟨i + 1, ⟨hi, hi2⟩, Shift.reset ⟨rfl, rfl, rfl, rfl, trivial⟩ trivial rfl rfl, by omega⟩
theorem jtrv_ok : FunR Try.prog 36 R_trv := by
  intro args k h
  obtain ⟨r, f, t, rfl, hr, hk⟩ := h
  have hmk := eK_len r.ls
  refine does_ex (qc := qc1) (np := []) (CK := ckK [(27, cSc R_rvE), (45, cSc R_node), (51, cPu R_way), (52, cSc R_ixW)]) mixed Try.func36 rfl rfl Try.ntmps36 Try.results36 τ_ok (by kernel_rfl) (ckK_ok ⟨cSc_ok rvE_ok', cSc_ok node_ok, cPu_ok way_ok rfl, cSc_ok ixW_ok, trivial⟩) (by simp) ?_
  conv => whnf
  refine ⟨r, rfl, hr, ?_⟩
  conv => whnf
  refine Fork.mk (fun h => ?_) (fun h => ?_)
  · have h1 : rvE r ≠ 0 := by simpa using h
    conv => whnf
    exact kTrv hk (y := (0, 0, false, rvE r)) (by rw [trvS, if_pos h1])
  have h1 : rvE r = 0 := by simpa using h
  clear h
  have hr := rvE_ok h1
  have hrl := hr.len
  have hrn := hr.n
  conv => whnf
  refine ⟨r, f, rfl, hrn, ?_⟩
  conv => whnf
  refine Fork.mk (fun h => ?_) (fun h => ?_)
  · have h2 : inN r.n f = false := by simpa using h
    conv => whnf
    refine Fork.mk (fun _ => ?_) (fun h => by cases h)
    conv => whnf
    exact kTrv hk (y := (0, 0, false, 11)) (by rw [trvS, if_neg (by simp [h1]), if_pos h2])
  have h2 : inN r.n f = true := by simpa using h
  clear h
  conv => whnf
  refine ⟨r, t, rfl, hrn, ?_⟩
  conv => whnf
  refine Fork.mk (fun h => ?_) (fun h => ?_)
  · have h3 : inN r.n t = false := by simpa using h
    conv => whnf
    exact kTrv hk (y := (0, 0, false, 11)) (by rw [trvS, if_neg (by simp [h1]), if_neg (by simp [h2]), if_pos h3])
  have h3 : inN r.n t = true := by simpa using h
  clear h
  have e0 : trvS r f t = trvM (lagR r f t) := by rw [trvS, if_neg (by simp [h1]), if_neg (by simp [h2]), if_neg (by simp [h3])]
  have hf : 0 ≤ f ∧ f < r.n := by simp [inN] at h2; omega
  conv => whnf
  refine ⟨r, f, rfl, hr, hf, ?_⟩
  have hW : (wayR r f).length ≤ 40 := path_len hr hf
  generalize hW0 : wayR r f = W at hW
  have hmw : (eL (W.map Int.ofNat)).length = W.length := by rw [eL_len, List.length_map]
  conv => whnf
  refine ⟨Nat × Int × Int × Int, fun y => ([(1, I y.2.1), (2, I t), (3, .c (.ptr (.l 3 0) 0)), (11, I y.2.2.1), (12, I y.2.2.2), (33, .c (.lst (eL (W.map Int.ofNat)))), (34, I (eL (W.map Int.ofNat)).length), (35, I y.1)], ⟨[(.l 3 0, .blk (rvC r))], 9, []⟩),
    fun y => y.1 ≤ W.length ∧ W.drop y.1 = wayR r y.2.1 ∧ lgI r f t y.2.1 y.2.2.1 y.2.2.2, fun y => W.length - y.1, (0, f, 0, 0), ⟨Nat.zero_le _, hW0.symm, lgI.zero hf⟩, Shift.rename [] ⟨rfl, rfl, rfl, rfl, rfl, rfl, rfl, rfl, trivial⟩ ⟨rfl, trivial⟩ rfl rfl rfl, fun y hy => ?_⟩
  obtain ⟨j, q, a, b⟩ := y
  obtain ⟨hj, hw, hI⟩ := hy
  dsimp only at hj hw hI ⊢
  have ha := hI.ha
  have hb := hI.hb
  have hq := hI.hf
  conv => whnf
  refine Fork.mk (fun h => ?_) (fun h => ?_)
  rotate_left
  · have hje : j = W.length := by simp at h; omega
    clear h
    rw [hje, List.drop_length] at hw
    have hlt : lnk r.ls q < 0 := by
      rcases lnk_at r.ls q with h | ⟨i, l, g1, g2, g3⟩
      · exact h
      · rw [wayR_step hr hq.1 g1 g2 g3] at hw; cases hw
    conv => whnf
    refine Fork.mk (fun h => ?_) (fun h => ?_)
    · have hne : q ≠ t := by simpa using h
      conv => whnf
      exact kTrv hk (y := (0, 0, false, 0)) (by rw [e0, hI.no (lagR_end hlt hne)]; rfl)
    have he : q = t := by simpa using h
    subst he
    conv => whnf
    exact kTrv hk (y := (a, b, true, 0)) (by rw [e0, hI.done]; rfl)
  have hj2 : j < W.length := by simp at h; omega
  clear h
  have hwj := wr_succ (i := j) (by omega)
  have hcj := List.getElem?_eq_getElem hj2
  generalize W[j] = i at hcj
  rw [dropC hcj] at hw
  obtain ⟨l, g1, g2, g3⟩ : ∃ l, lnk r.ls q = i ∧ r.ls[i]? = some l ∧ l.fr = q := by
    rcases lnk_at r.ls q with h | ⟨i', l, g1, g2, g3⟩
    · rw [wayR_end h] at hw; cases hw
    · rw [wayR_step hr hq.1 g1 g2 g3] at hw
      obtain ⟨e, _⟩ := List.cons.inj hw
      subst e
      exact ⟨l, g1, g2, g3⟩
  have hil := (List.getElem?_eq_some_iff.1 g2).1
  have hlk := hr.l l (List.mem_of_getElem? g2)
  have k2 := hlk.o
  have k3 := hlk.t
  rw [wayR_step hr hq.1 g1 g2 g3] at hw
  obtain ⟨pj, px, p1, p2, p3, p4, p5, p6⟩ := pos_ok hlk.r
  have hmw2 := eL_len l.ws
  conv => whnf
  refine ⟨by omega, eI (i : Int), by rw [Int.toNat_natCast, List.getElem?_map, List.getElem?_map, hcj]; rfl, rfl, ?_⟩
  conv => whnf
  refine ⟨by omega, lkC l, by rw [Int.toNat_natCast, List.getElem?_map, g2]; rfl, rfl, ?_⟩
  conv => whnf
  rw [g3]
  refine Fork.mk (fun h => ?_) (fun h => ?_)
  · have hge : t ≤ q := by simpa using h
    clear h
    conv => whnf
    refine Fork.mk (fun h => ?_) (fun h => ?_)
    · have hne : q ≠ t := by simpa using h
      conv => whnf
      exact kTrv hk (y := (0, 0, false, 0)) (by rw [e0, hI.no (lagR_past hr _ q (Nat.le_refl _) hq.1 (by omega) hq.2)]; rfl)
    have he : q = t := by simpa using h
    subst he
    conv => whnf
    exact kTrv hk (y := (a, b, true, 0)) (by rw [e0, hI.done]; rfl)
  have hlt : ¬ t ≤ q := by simpa using h
  clear h
  have hI2 := hI.next hr (by omega) g1 g2 g3
  have w1 : IntKind.i64.wrap (a + pos l.ws) = a + pos l.ws := wrap_in (by omega) (by omega)
  have w2 : IntKind.i64.wrap ((((eL l.ws).length : Nat) : Int) - 1) = (l.ws.length : Int) - 1 := by rw [hmw2]; exact wrap_in (by omega) (by omega)
  have w3 : IntKind.i64.wrap (b + ((l.ws.length : Int) - 1)) = b + ((l.ws.length : Int) - 1) := wrap_in (by omega) (by omega)
  conv => whnf
  refine ⟨l.ws, rfl, by omega, ?_⟩
  conv => whnf
  rw [w1, w2, w3, hwj]
  exact ⟨(j + 1, l.to, a + pos l.ws, b + ((l.ws.length : Int) - 1)), ⟨hj2, (List.cons.inj hw).2, hI2⟩, Shift.reset ⟨rfl, rfl, rfl, rfl, rfl, rfl, rfl, rfl, trivial⟩ ⟨rfl, trivial⟩ rfl rfl, by dsimp only; omega⟩
end Go.Proofs

/- What arrives is not negative. No program. -/
namespace Go.Proofs
open Go Go.Abs
set_option linter.unusedSimpArgs false
set_option linter.unusedVariables false
theorem nn_go {n : Int} : ∀ {ls : List Lk} {ws : List Ls} {a : Ls} {x : List Ls × Ls}, (∀ l ∈ ls, LkOk n l) → n = a.length → ws.length = ls.length → (∀ (i : Nat) l p, ls[i]? = some l → ws[i]? = some p → fitsB l.ws.length p = true) → (∀ v ∈ a, 0 ≤ v) → lkGo ls ws a = some x → ∀ v ∈ x.2, 0 ≤ v
  | [], ws, a, x, _, _, _, _, hA, h => by
    have h : some ([], a) = some x := by cases ws <;> exact h
    cases h
    exact hA
  | l :: ls, [], a, x, _, _, h, _, _, _ => by simp at h
  | l :: ls, w :: ws, a, x, hl, hna, hwl, hw, hA, h => by
    have hk := hl l (by simp)
    rw [lkGo_cons] at h
    split at h
    case isFalse => cases h
    rename_i hst
    obtain ⟨X1, hX1, rfl⟩ := Option.map_eq_some_iff.1 h
    have ho := out_in hk.r (hw 0 l w rfl rfl) hst
    show ∀ v ∈ X1.2, 0 ≤ v
    refine nn_go (n := n) (fun z hz => hl z (by simp [hz])) (by rw [List.length_set]; exact hna) (by simpa using hwl) (fun j z y e1 e2 => hw (j + 1) z y (by simpa using e1) (by simpa using e2)) (fun v hv => ?_) hX1
    rcases List.mem_or_eq_of_mem_set hv with hv | rfl
    · exact hA v hv
    · have : 0 ≤ gA a l.to := gN_nn hA l.to.toNat
      omega
theorem nn_run {r : Rv} (hr : RvOk r) : ∀ {ls : List Ls} {w : List Ls} {x : List Ls × List Ls}, WvOk r w → runX r w ls = .ok x → ∀ a ∈ x.2, ∀ v ∈ a, 0 ≤ v
  | [], w, x, hw, h => by
    simp [runX] at h
    subst h
    intro a h
    simp at h
  | l :: ls, w, x, hw, h => by
    obtain ⟨y, z, p, e, rfl⟩ := runX_in h
    obtain ⟨f1, f2, f3, f4, f5⟩ := passX_fit hr hw p
    have h1 := nn_go (n := r.n) hr.l f3.symm hw.l hw.f (fun v hv => by
      have := List.all_eq_true.1 f4 v hv
      simp [inQ] at this
      exact this.1) f5
    intro a ha
    rcases List.mem_cons.1 ha with rfl | ha
    · exact h1
    · exact nn_run hr f1 e a ha
def accJ (R : List Ls) (t i : Nat) : Int := ((R.take i).map fun a => gN a t).sum
theorem accJ_next {R : List Ls} {t i : Nat} {a : Ls} (h : R[i]? = some a) : accJ R t (i + 1) = accJ R t i + gN a t := by
  unfold accJ
  rw [List.take_add_one, h, List.map_append, List.sum_append]
  simp
theorem accJ_all (R : List Ls) (t : Nat) : accJ R t R.length = (R.map fun a => gN a t).sum := by
  unfold accJ
  rw [List.take_length]
theorem accJ_in {R : List Ls} {t : Nat} (h : ∀ a ∈ R, ∀ v ∈ a, 0 ≤ v) (i : Nat) : 0 ≤ accJ R t i ∧ accJ R t i ≤ (R.map fun a => gN a t).sum := by
  have hn : ∀ l : List Ls, (∀ a ∈ l, a ∈ R) → 0 ≤ (l.map fun a => gN a t).sum := fun l hl => (sum_nn fun x hx => by
    obtain ⟨a, ha, rfl⟩ := List.mem_map.1 hx
    exact gN_nn (h a (hl a ha)) t).1
  have e : (R.map fun a => gN a t).sum = accJ R t i + ((R.drop i).map fun a => gN a t).sum := by
    unfold accJ
    rw [← List.sum_append, ← List.map_append, List.take_append_drop]
  have h1 := hn (R.drop i) fun a ha => List.mem_of_mem_drop ha
  exact ⟨hn (R.take i) fun a ha => List.mem_of_mem_take ha, by omega⟩
end Go.Proofs
