/- Proved here: what functions of the given program come to, for the statements of this chapter; no condition but those in the theorems. -/
import Derived.Test.YthkimpoeiighoaaC17
import Derived.Test.YthkimpoeiighoaaPRiver
import Derived.Test.YthkimpoeiighoaaAbsBA
namespace Go.Proofs
open Go Go.Abs
set_option linter.unusedSimpArgs false
set_option linter.unusedVariables false
set_option maxRecDepth 4000
theorem kI {k : AV → Prop} {a b : Int} (h : k (I a)) (e : a = b) : k (I b) := e ▸ h
theorem kBo {k : AV → Prop} {a b : Bool} (h : k (Bo a)) (e : a = b) : k (Bo b) := e ▸ h
def R_node : RT := fun args k => ∃ (r : Rv) (x : Int), args = [.agg (rvC r), I x] ∧ (1 ≤ r.n ∧ r.n ≤ 40) ∧ k (Bo (inN r.n x))
def R_rvE : RT := fun args k => ∃ r : Rv, args = [.agg (rvC r)] ∧ r.fin ∧ k (I (rvE r))
theorem node_ok : FunR Try.prog 45 R_node := by
  intro args k h
  obtain ⟨r, x, rfl, hn, hk⟩ := h
  have en : IntKind.i64.wrap (r.n - 1) = r.n - 1 := wrap_in (by omega) (by omega)
  refine does_ex (qc := qc1) (np := []) (CK := ckK [(57, cSc R_within)]) mixed Try.func45 rfl rfl Try.ntmps45 Try.results45 τ_ok (by kernel_rfl) (ckK_ok ⟨cSc_ok within_ok, trivial⟩) (by simp) ?_
  conv => whnf
  rw [en]
  exact hk
theorem rvE_ok' : FunR Try.prog 27 R_rvE := by
  intro args k h
  obtain ⟨r, rfl, hf, hk⟩ := h
  have hm := eK_len r.ls
  have hf1 := hf.1
  refine does_ex (qc := qc1) (np := []) (CK := ckK [(45, cSc R_node), (46, cSc R_rk)]) mixed Try.func27 rfl rfl Try.ntmps27 Try.results27 τ_ok (by kernel_rfl) (ckK_ok ⟨cSc_ok node_ok, cSc_ok rk_ok, trivial⟩) (by simp) ?_
  conv => whnf
  have b0 : (r.n < 1 ∨ 40 < r.n) → k (I 3) := fun e => kI hk (by rw [rvE, if_pos e])
  refine Fork.mk (fun g1 => ?_) (fun g1 => ?_)
  · conv => whnf
    (repeat ((first | refine fork_t ?_ | refine fork_f ?_); (conv => whnf)))
    exact b0 (by simp at g1; omega)
  conv => whnf
  refine Fork.mk (fun g2 => ?_) (fun g2 => ?_)
  · conv => whnf
    exact b0 (by simp at g2; omega)
  have hn : 1 ≤ r.n ∧ r.n ≤ 40 := by simp at g1 g2; omega
  have e0 : rvE r = lkE r.n none r.ls := by rw [rvE, if_neg (by omega)]
  rw [e0] at hk
  clear g1 g2 b0
  have en : IntKind.i64.wrap (r.n - 1) = r.n - 1 := wrap_in (by omega) (by omega)
  conv => whnf
  refine ⟨Nat, fun i => ([(1, .c (.ptr (.l 1 0) 0)), (15, .c (.lst (eK r.ls))), (16, I (eK r.ls).length), (17, I i)], ⟨[(.l 1 0, .blk (rvC r))], 9, []⟩),
    fun i => i ≤ r.ls.length ∧ lkE r.n none r.ls = lkE r.n (if i = 0 then none else (r.ls[i - 1]?).map Lk.fr) (r.ls.drop i), fun i => r.ls.length - i, 0, ⟨Nat.zero_le _, rfl⟩, Shift.reset ⟨rfl, rfl, rfl, rfl, trivial⟩ ⟨rfl, trivial⟩ rfl rfl, fun i hi => ?_⟩
  obtain ⟨hi1, hi2⟩ := hi
  dsimp only
  conv => whnf
  refine Fork.mk (fun h => ?_) (fun h => ?_)
  rotate_left
  · have hie : i = r.ls.length := by simp at h; omega
    rw [hie, List.drop_length] at hi2
    conv => whnf
    exact kI hk (by rw [hi2]; rfl)
  have hi : i < r.ls.length := by simp at h; omega
  clear h
  have hci := List.getElem?_eq_getElem hi
  have hlw := hf.2 _ (List.getElem_mem hi)
  generalize r.ls[i] = l at hci hlw
  rw [dropC hci, lkE_cons] at hi2
  have hw1 := wr_succ (i := i) (by omega)
  conv => whnf
  refine ⟨by omega, lkC l, by rw [Int.toNat_natCast, List.getElem?_map, hci]; rfl, rfl, ?_⟩
  conv => whnf
  refine ⟨r, l.fr, rfl, hn, ?_⟩
  conv => whnf
  refine Fork.mk (fun g1 => ?_) (fun g1 => ?_)
  · conv => whnf
    (repeat ((first | refine fork_t ?_ | refine fork_f ?_); (conv => whnf)))
    rw [if_pos (by simp [inN] at g1 ⊢; omega)] at hi2
    exact kI hk hi2
  conv => whnf
  refine ⟨r, l.to, rfl, hn, ?_⟩
  conv => whnf
  refine Fork.mk (fun g2 => ?_) (fun g2 => ?_)
  · conv => whnf
    rw [if_pos (by simp [inN] at g1 g2 ⊢; omega)] at hi2
    exact kI hk hi2
  rw [if_neg (by simp [inN] at g1 g2 ⊢; omega)] at hi2
  conv => whnf
  clear g1 g2
  refine Fork.mk (fun h => ?_) (fun h => ?_)
  · rw [if_pos (by simpa using h)] at hi2
    conv => whnf
    exact kI hk hi2
  rw [if_neg (by simpa using h)] at hi2
  clear h
  conv => whnf
  have bad : (qleR (if i = 0 then none else (r.ls[i - 1]?).map Lk.fr) l.fr = true) → k (I 4) := fun e => by
    rw [if_pos e] at hi2
    exact kI hk hi2
  have good : qleR (if i = 0 then none else (r.ls[i - 1]?).map Lk.fr) l.fr = false → lkE r.n none r.ls = if rkCheck l.ws l.den ≠ 0 then rkCheck l.ws l.den else lkE r.n (some l.fr) (r.ls.drop (i + 1)) := fun e => by
    rw [if_neg (by rw [e]; simp)] at hi2
    exact hi2
  clear hi2
  rcases Nat.eq_zero_or_pos i with hi0 | hi0
  · subst hi0
    refine Fork.mk (fun h => ?_) (fun h => ?_)
    · exfalso; simp at h
    clear h
    conv => whnf
    (repeat ((first | refine fork_t ?_ | refine fork_f ?_); (conv => whnf)))
    have good := good rfl
    refine ⟨l.ws, rfl, hlw, ?_⟩
    conv => whnf
    refine Fork.mk (fun h => ?_) (fun h => ?_)
    · have h1 : rkCheck l.ws l.den ≠ 0 := by simpa using h
      rw [if_pos h1] at good
      conv => whnf
      exact kI hk good
    have h1 : rkCheck l.ws l.den = 0 := by simpa using h
    rw [if_neg (by simp [h1])] at good
    clear h
    conv => whnf
    rw [hw1]
    exact ⟨_, ⟨hi, by rw [good, if_neg (Nat.succ_ne_zero _), show ∀ n, Nat.succ n - 1 = n from fun _ => rfl, hci]; rfl⟩, Shift.reset ⟨rfl, rfl, rfl, rfl, trivial⟩ ⟨rfl, trivial⟩ rfl rfl, by omega⟩
  have hcj := List.getElem?_eq_getElem (show i - 1 < r.ls.length by omega)
  generalize r.ls[i - 1] = p at hcj
  rw [if_neg (by omega : ¬ i = 0), hcj] at bad good
  refine Fork.mk (fun h => ?_) (fun h => ?_)
  rotate_left
  · exfalso; simp at h; omega
  clear h
  have hw3 : IntKind.i64.wrap ((i : Int) - 1) = ((i - 1 : Nat) : Int) := by rw [wrap_in (by omega) (by omega)]; omega
  conv => whnf
  rw [hw3]
  refine ⟨by omega, lkC p, by rw [Int.toNat_natCast, List.getElem?_map, hcj]; rfl, rfl, ?_⟩
  conv => whnf
  refine Fork.mk (fun h => ?_) (fun h => ?_)
  · conv => whnf
    exact bad h
  have good := good h
  clear h bad
  conv => whnf
  refine ⟨l.ws, rfl, hlw, ?_⟩
  conv => whnf
  refine Fork.mk (fun h => ?_) (fun h => ?_)
  · have h1 : rkCheck l.ws l.den ≠ 0 := by simpa using h
    rw [if_pos h1] at good
    conv => whnf
    exact kI hk good
  have h1 : rkCheck l.ws l.den = 0 := by simpa using h
  rw [if_neg (by simp [h1])] at good
  clear h
  conv => whnf
  rw [hw1]
  exact ⟨_, ⟨hi, by rw [good, if_neg (Nat.succ_ne_zero _), show ∀ n, Nat.succ n - 1 = n from fun _ => rfl, hci]; rfl⟩, Shift.reset ⟨rfl, rfl, rfl, rfl, trivial⟩ ⟨rfl, trivial⟩ rfl rfl, by omega⟩
theorem rrvE_ok : FunR Try.prog 28 R_rvE := by
  intro args k h
  obtain ⟨r, rfl, hf, hk⟩ := h
  have hm := eK_len r.ls
  have hf1 := hf.1
  refine does_ex (qc := qc1) (np := []) (CK := ckK [(39, cSc R_within), (38, cSc R_rk)]) mixed Try.func28 rfl rfl Try.ntmps28 Try.results28 τ_ok (by kernel_rfl) (ckK_ok ⟨cSc_ok rIn_ok, cSc_ok rrk_ok, trivial⟩) (by simp) ?_
  conv => whnf
  have b0 : (r.n < 1 ∨ 40 < r.n) → k (I 3) := fun e => kI hk (by rw [rvE, if_pos e])
  refine Fork.mk (fun g1 => ?_) (fun g1 => ?_)
  · conv => whnf
    (repeat ((first | refine fork_t ?_ | refine fork_f ?_); (conv => whnf)))
    exact b0 (by simp at g1; omega)
  conv => whnf
  refine Fork.mk (fun g2 => ?_) (fun g2 => ?_)
  · conv => whnf
    exact b0 (by simp at g2; omega)
  have hn : 1 ≤ r.n ∧ r.n ≤ 40 := by simp at g1 g2; omega
  have e0 : rvE r = lkE r.n none r.ls := by rw [rvE, if_neg (by omega)]
  rw [e0] at hk
  clear g1 g2 b0
  have en : IntKind.i64.wrap (r.n - 1) = r.n - 1 := wrap_in (by omega) (by omega)
  conv => whnf
  refine ⟨Nat, fun i => ([(1, .c (.ptr (.l 1 0) 0)), (15, .c (.lst (eK r.ls))), (16, I (eK r.ls).length), (17, I i)], ⟨[(.l 1 0, .blk (rvC r))], 9, []⟩),
    fun i => i ≤ r.ls.length ∧ lkE r.n none r.ls = lkE r.n (if i = 0 then none else (r.ls[i - 1]?).map Lk.fr) (r.ls.drop i), fun i => r.ls.length - i, 0, ⟨Nat.zero_le _, rfl⟩, Shift.reset ⟨rfl, rfl, rfl, rfl, trivial⟩ ⟨rfl, trivial⟩ rfl rfl, fun i hi => ?_⟩
  obtain ⟨hi1, hi2⟩ := hi
  dsimp only
  conv => whnf
  refine Fork.mk (fun h => ?_) (fun h => ?_)
  rotate_left
  · have hie : i = r.ls.length := by simp at h; omega
    rw [hie, List.drop_length] at hi2
    conv => whnf
    exact kI hk (by rw [hi2]; rfl)
  have hi : i < r.ls.length := by simp at h; omega
  clear h
  have hci := List.getElem?_eq_getElem hi
  have hlw := hf.2 _ (List.getElem_mem hi)
  generalize r.ls[i] = l at hci hlw
  rw [dropC hci, lkE_cons] at hi2
  have hw1 := wr_succ (i := i) (by omega)
  conv => whnf
  refine ⟨by omega, lkC l, by rw [Int.toNat_natCast, List.getElem?_map, hci]; rfl, rfl, ?_⟩
  conv => whnf
  rw [en]
  refine Fork.mk (fun g1 => ?_) (fun g1 => ?_)
  · conv => whnf
    (repeat ((first | refine fork_t ?_ | refine fork_f ?_); (conv => whnf)))
    rw [if_pos (by simp [inN] at g1 ⊢; omega)] at hi2
    exact kI hk hi2
  conv => whnf
  rw [en]
  refine Fork.mk (fun g2 => ?_) (fun g2 => ?_)
  · conv => whnf
    rw [if_pos (by simp [inN] at g1 g2 ⊢; omega)] at hi2
    exact kI hk hi2
  rw [if_neg (by simp [inN] at g1 g2 ⊢; omega)] at hi2
  conv => whnf
  clear g1 g2
  refine Fork.mk (fun h => ?_) (fun h => ?_)
  · rw [if_pos (by simpa using h)] at hi2
    conv => whnf
    exact kI hk hi2
  rw [if_neg (by simpa using h)] at hi2
  clear h
  conv => whnf
  have bad : (qleR (if i = 0 then none else (r.ls[i - 1]?).map Lk.fr) l.fr = true) → k (I 4) := fun e => by
    rw [if_pos e] at hi2
    exact kI hk hi2
  have good : qleR (if i = 0 then none else (r.ls[i - 1]?).map Lk.fr) l.fr = false → lkE r.n none r.ls = if rkCheck l.ws l.den ≠ 0 then rkCheck l.ws l.den else lkE r.n (some l.fr) (r.ls.drop (i + 1)) := fun e => by
    rw [if_neg (by rw [e]; simp)] at hi2
    exact hi2
  clear hi2
  rcases Nat.eq_zero_or_pos i with hi0 | hi0
  · subst hi0
    refine Fork.mk (fun h => ?_) (fun h => ?_)
    · exfalso; simp at h
    clear h
    conv => whnf
    (repeat ((first | refine fork_t ?_ | refine fork_f ?_); (conv => whnf)))
    have good := good rfl
    refine ⟨l.ws, rfl, hlw, ?_⟩
    conv => whnf
    refine Fork.mk (fun h => ?_) (fun h => ?_)
    · have h1 : rkCheck l.ws l.den ≠ 0 := by simpa using h
      rw [if_pos h1] at good
      conv => whnf
      exact kI hk good
    have h1 : rkCheck l.ws l.den = 0 := by simpa using h
    rw [if_neg (by simp [h1])] at good
    clear h
    conv => whnf
    rw [hw1]
    exact ⟨_, ⟨hi, by rw [good, if_neg (Nat.succ_ne_zero _), show ∀ n, Nat.succ n - 1 = n from fun _ => rfl, hci]; rfl⟩, Shift.reset ⟨rfl, rfl, rfl, rfl, trivial⟩ ⟨rfl, trivial⟩ rfl rfl, by omega⟩
  have hcj := List.getElem?_eq_getElem (show i - 1 < r.ls.length by omega)
  generalize r.ls[i - 1] = p at hcj
  rw [if_neg (by omega : ¬ i = 0), hcj] at bad good
  refine Fork.mk (fun h => ?_) (fun h => ?_)
  rotate_left
  · exfalso; simp at h; omega
  clear h
  have hw3 : IntKind.i64.wrap ((i : Int) - 1) = ((i - 1 : Nat) : Int) := by rw [wrap_in (by omega) (by omega)]; omega
  conv => whnf
  rw [hw3]
  refine ⟨by omega, lkC p, by rw [Int.toNat_natCast, List.getElem?_map, hcj]; rfl, rfl, ?_⟩
  conv => whnf
  refine Fork.mk (fun h => ?_) (fun h => ?_)
  · conv => whnf
    exact bad h
  have good := good h
  clear h bad
  conv => whnf
  refine ⟨l.ws, rfl, hlw, ?_⟩
  conv => whnf
  refine Fork.mk (fun h => ?_) (fun h => ?_)
  · have h1 : rkCheck l.ws l.den ≠ 0 := by simpa using h
    rw [if_pos h1] at good
    conv => whnf
    exact kI hk good
  have h1 : rkCheck l.ws l.den = 0 := by simpa using h
  rw [if_neg (by simp [h1])] at good
  clear h
  conv => whnf
  rw [hw1]
  exact ⟨_, ⟨hi, by rw [good, if_neg (Nat.succ_ne_zero _), show ∀ n, Nat.succ n - 1 = n from fun _ => rfl, hci]; rfl⟩, Shift.reset ⟨rfl, rfl, rfl, rfl, trivial⟩ ⟨rfl, trivial⟩ rfl rfl, by omega⟩
def R_wvE : RT := fun args k => ∃ (r : Rv) (w : List Ls), args = [.agg (rvC r), .c (.lst (eV w))] ∧ r.fin ∧ vfin w ∧ k (I (wvE r w))
def R_wvB : RT := fun args k => ∃ (r : Rv) (w : List Ls), args = [.agg (rvC r), .c (.lst (eV w))] ∧ r.fin ∧ vfin w ∧ k (Bo (decide (w.length = r.ls.length) && wvOk r.ls w))
theorem wvOk_cons (l : Lk) (r : List Lk) (w : Ls) (ws : List Ls) : wvOk (l :: r) (w :: ws) = ((decide (rkCheck l.ws l.den = 0) && fitsB l.ws.length w) && wvOk r ws) := rfl
theorem wvE_ok' : FunR Try.prog 40 R_wvE := by
  intro args k h
  obtain ⟨r, w, rfl, hf, hfw, hk⟩ := h
  have hm := eK_len r.ls
  have hmw := eV_len w
  have hf1 := hf.1
  have hfw1 := hfw.1
  refine does_ex (qc := qc1) (np := []) (CK := ckK [(27, cSc R_rvE), (55, cSc R_valid)]) mixed Try.func40 rfl rfl Try.ntmps40 Try.results40 τ_ok (by kernel_rfl) (ckK_ok ⟨cSc_ok rvE_ok', cSc_ok pvalid_ok, trivial⟩) (by simp) ?_
  conv => whnf
  refine ⟨r, rfl, hf, ?_⟩
  conv => whnf
  refine Fork.mk (fun h => ?_) (fun h => ?_)
  · have h1 : rvE r ≠ 0 := by simpa using h
    conv => whnf
    exact kI hk (by rw [wvE, if_pos h1])
  have h1 : rvE r = 0 := by simpa using h
  clear h
  conv => whnf
  refine Fork.mk (fun h => ?_) (fun h => ?_)
  · have h2 : w.length ≠ r.ls.length := by simp at h; omega
    conv => whnf
    exact kI hk (by rw [wvE, if_neg (by simp [h1]), if_pos h2])
  have h2 : w.length = r.ls.length := by simp at h; omega
  clear h
  have hk1 : wvOk r.ls w = false → k (I 3) := fun e => kI hk (by rw [wvE, if_neg (by simp [h1]), if_neg (by omega), if_pos e])
  have hk2 : wvOk r.ls w = true → k (I 0) := fun e => kI hk (by rw [wvE, if_neg (by simp [h1]), if_neg (by omega), if_neg (by simp [e])])
  clear hk
  conv => whnf
  refine ⟨Nat, fun i => ([(1, .c (.lst (eV w))), (20, .c (.lst (eK r.ls))), (21, I (eK r.ls).length), (22, I i)], ⟨[], 9, []⟩),
    fun i => i ≤ r.ls.length ∧ wvOk r.ls w = wvOk (r.ls.drop i) (w.drop i), fun i => r.ls.length - i, 0, ⟨Nat.zero_le _, rfl⟩, Shift.reset ⟨rfl, rfl, rfl, rfl, trivial⟩ trivial rfl rfl, fun i hi => ?_⟩
  obtain ⟨hi1, hi2⟩ := hi
  dsimp only
  conv => whnf
  refine Fork.mk (fun h => ?_) (fun h => ?_)
  rotate_left
  · have hie : i = r.ls.length := by simp at h; omega
    rw [hie, List.drop_length] at hi2
    conv => whnf
    exact hk2 (by rw [hi2]; rfl)
  have hi : i < r.ls.length := by simp at h; omega
  clear h
  have hci := List.getElem?_eq_getElem hi
  have hlw := hf.2 _ (List.getElem_mem hi)
  generalize r.ls[i] = l at hci hlw
  have hcw := List.getElem?_eq_getElem (show i < w.length by omega)
  have hpw := hfw.2 _ (List.getElem_mem (show i < w.length by omega))
  generalize w[i] = p at hcw hpw
  rw [dropC hci, dropC hcw, wvOk_cons] at hi2
  have hw1 := wr_succ (i := i) (by omega)
  conv => whnf
  refine ⟨by omega, lkC l, by rw [Int.toNat_natCast, List.getElem?_map, hci]; rfl, rfl, ?_⟩
  conv => whnf
  refine ⟨by omega, wvC p, by rw [Int.toNat_natCast, List.getElem?_map, hcw]; rfl, rfl, ?_⟩
  conv => whnf
  refine ⟨l.ws, p, rfl, rfl, hlw, hpw, ?_⟩
  conv => whnf
  refine Fork.mk (fun h => ?_) (fun h => ?_)
  · have hb : (decide (rkCheck l.ws l.den = 0) && fitsB l.ws.length p) = false := by simpa only [Bool.not_eq_true'] using h
    conv => whnf
    exact hk1 (by rw [hi2, hb]; rfl)
  have hb : (decide (rkCheck l.ws l.den = 0) && fitsB l.ws.length p) = true := by simpa only [Bool.not_eq_false'] using h
  rw [hb, Bool.true_and] at hi2
  clear h
  conv => whnf
  rw [hw1]
  exact ⟨i + 1, ⟨hi, hi2⟩, Shift.reset ⟨rfl, rfl, rfl, rfl, trivial⟩ trivial rfl rfl, by omega⟩
theorem wvB_ok : FunR Try.prog 47 R_wvB := by
  intro args k h
  obtain ⟨r, w, rfl, hf, hfw, hk⟩ := h
  have hm := eK_len r.ls
  have hmw := eV_len w
  have hf1 := hf.1
  have hfw1 := hfw.1
  refine does_ex (qc := qc1) (np := []) (CK := ckK [(15, cSc R_valid)]) mixed Try.func47 rfl rfl Try.ntmps47 Try.results47 τ_ok (by kernel_rfl) (ckK_ok ⟨cSc_ok valid_ok, trivial⟩) (by simp) ?_
  conv => whnf
  refine Fork.mk (fun h => ?_) (fun h => ?_)
  · have h2 : w.length ≠ r.ls.length := by simp at h; omega
    conv => whnf
    exact kBo hk (by simp [h2])
  have h2 : w.length = r.ls.length := by simp at h; omega
  clear h
  have hk1 : wvOk r.ls w = false → k (Bo false) := fun e => kBo hk (by simp [e])
  have hk2 : wvOk r.ls w = true → k (Bo true) := fun e => kBo hk (by simp [e, h2])
  clear hk
  conv => whnf
  refine ⟨Nat, fun i => ([(1, .c (.lst (eV w))), (14, .c (.lst (eK r.ls))), (15, I (eK r.ls).length), (16, I i)], ⟨[], 9, []⟩),
    fun i => i ≤ r.ls.length ∧ wvOk r.ls w = wvOk (r.ls.drop i) (w.drop i), fun i => r.ls.length - i, 0, ⟨Nat.zero_le _, rfl⟩, Shift.reset ⟨rfl, rfl, rfl, rfl, trivial⟩ trivial rfl rfl, fun i hi => ?_⟩
  obtain ⟨hi1, hi2⟩ := hi
  dsimp only
  conv => whnf
  refine Fork.mk (fun h => ?_) (fun h => ?_)
  rotate_left
  · have hie : i = r.ls.length := by simp at h; omega
    rw [hie, List.drop_length] at hi2
    conv => whnf
    exact hk2 (by rw [hi2]; rfl)
  have hi : i < r.ls.length := by simp at h; omega
  clear h
  have hci := List.getElem?_eq_getElem hi
  have hlw := hf.2 _ (List.getElem_mem hi)
  generalize r.ls[i] = l at hci hlw
  have hcw := List.getElem?_eq_getElem (show i < w.length by omega)
  have hpw := hfw.2 _ (List.getElem_mem (show i < w.length by omega))
  generalize w[i] = p at hcw hpw
  rw [dropC hci, dropC hcw, wvOk_cons] at hi2
  have hw1 := wr_succ (i := i) (by omega)
  conv => whnf
  refine ⟨by omega, lkC l, by rw [Int.toNat_natCast, List.getElem?_map, hci]; rfl, rfl, ?_⟩
  conv => whnf
  refine ⟨by omega, wvC p, by rw [Int.toNat_natCast, List.getElem?_map, hcw]; rfl, rfl, ?_⟩
  conv => whnf
  refine ⟨l.ws, p, rfl, rfl, hlw, hpw, ?_⟩
  conv => whnf
  refine Fork.mk (fun h => ?_) (fun h => ?_)
  · have hb : (decide (rkCheck l.ws l.den = 0) && fitsB l.ws.length p) = false := by simpa only [Bool.not_eq_true'] using h
    conv => whnf
    exact hk1 (by rw [hi2, hb]; rfl)
  have hb : (decide (rkCheck l.ws l.den = 0) && fitsB l.ws.length p) = true := by simpa only [Bool.not_eq_false'] using h
  rw [hb, Bool.true_and] at hi2
  clear h
  conv => whnf
  rw [hw1]
  exact ⟨i + 1, ⟨hi, hi2⟩, Shift.reset ⟨rfl, rfl, rfl, rfl, trivial⟩ trivial rfl rfl, by omega⟩
end Go.Proofs
