/- Proved here: what functions of the given program come to, for the statements of this chapter; no condition but those in the theorems. -/
import Derived.Test.YthkimpoeiighoaaJ17
import Derived.Test.YthkimpoeiighoaaPRiver4
namespace Go.Proofs
open Go Go.Abs
set_option linter.unusedSimpArgs false
set_option linter.unusedVariables false
set_option maxRecDepth 4000
theorem river_ok : FunB Try.prog 10 R_river := by
  intro cs args k h
  obtain ⟨d, rfl, rfl, hd, hk⟩ := h
  refine doesB_ex (qc := qc1) (np := [(6, [(1, 11), (1, 14), (1, 16)])]) (CK := ckK [(23, cB R_next), (18, cB R_reach)]) mixed Try.func10 rfl rfl Try.ntmps10 Try.results10 τ_ok (by kernel_rfl) (ckK_ok ⟨cB_ok next_ok rfl, cB_ok reach_ok rfl, trivial⟩) (by simp) rfl rfl ?_
  conv => whnf
  refine ⟨d, rfl, hd, by omega, fun v d hd hv1 hv2 => ?_⟩
  have e1 : IntKind.i64.wrap (1 + v) = 1 + v := wrap_in (by omega) (by omega)
  conv => whnf
  rw [e1]
  have hN : 1 ≤ 1 + v ∧ 1 + v ≤ 6 := by omega
  generalize 1 + v = N at hN
  clear hv1 hv2 e1
  refine ⟨List Lk × Dk × Nat, fun s => ([(0, .c (.ptr (.x 0) 0)), (2, .c (.ptr (.l 2 0) 0)), (3, .c (.ptr (.l 3 1) 0)), (4, I s.2.2)], ⟨[(.x 0, .blk (dkC s.2.1)), (.l 2 0, .blk [IC 0, .sc (.slice none 0 0)]), (.l 3 1, .blk [IC N, .view (.l 36 2) 0 s.1.length]), (.l 36 2, .arr 38 4 (eK s.1) false)], 3, []⟩),
    fun s => s.2.1.ok ∧ mkLs N s.1 s.2.2 ∧ s.2.2 ≤ 5 ∧ s.1.length ≤ s.2.2, fun s => 5 - s.2.2, ([], d, 0), ⟨hd, .nil _ _, Nat.zero_le _, Nat.le_refl _⟩,
    Shift.trans (Shift.rename [] ⟨rfl, rfl, rfl, rfl, trivial⟩ ⟨rfl, rfl, rfl, rfl, trivial⟩ rfl rfl rfl) (Shift.nilCell (i := .l 3 1) (cs := [IC N, .sc (.slice none 0 0)]) (j := 1) rfl rfl 36 38 4), fun s hs => ?_⟩
  obtain ⟨ls, d, n⟩ := s
  obtain ⟨hd, hls, hn5, hll⟩ := hs
  dsimp only at hd hls hn5 hll ⊢
  have hm := eK_len ls
  have hw1 := wr_succ (i := n) (by omega)
  conv => whnf
  rw [hw1]
  refine Fork.mk (fun h => ?_) (fun h => ?_)
  rotate_left
  · conv => whnf
    refine ⟨by rw [hm]; omega, ?_⟩
    conv => whnf
    rw [List.drop_zero, List.take_of_length_le (by rw [hm]; exact Nat.le_refl _)]
    exact ⟨rfl, rfl, hk ⟨N, ls⟩ d hd (mkRv.of hN hls)⟩
  have hnN : (n : Int) + 1 < N := by simp at h; omega
  clear h
  conv => whnf
  refine ⟨d, rfl, hd, by omega, fun u d hd hu1 hu2 => ?_⟩
  conv => whnf
  refine Fork.mk (fun h => ?_) (fun h => ?_)
  · have e2 : IntKind.i64.wrap (N - n) = N - n := wrap_in (by omega) (by omega)
    have e3 : IntKind.i64.wrap (N - n - 1) = N - n - 1 := wrap_in (by omega) (by omega)
    conv => whnf
    rw [e2, e3]
    refine ⟨d, rfl, hd, by omega, fun x d hd hx1 hx2 => ?_⟩
    have e4 : IntKind.i64.wrap (((n + 1 : Nat) : Int) + x) = ((n + 1 : Nat) : Int) + x := wrap_in (by omega) (by omega)
    conv => whnf
    rw [hw1, e4]
    refine ⟨d, rfl, hd, fun ws den d hd hrk hw5 hww => ?_⟩
    conv => whnf
    refine ⟨by simp, ?_⟩
    conv => whnf
    refine ⟨rfl, ?_⟩
    conv => whnf
    refine ⟨⟨rfl, rfl, rfl, hm.symm, by rw [hm]; simp; omega⟩, ?_⟩
    conv => whnf
    rw [hw1]
    refine ⟨(ls ++ [⟨n, ((n + 1 : Nat) : Int) + x, ws, den⟩], d, n + 1), ⟨hd, ?_, by dsimp only; omega, by dsimp only; simp; omega⟩, Shift.rename [(.l 36 2, .l 36 3)] ⟨rfl, rfl, rfl, rfl, trivial⟩ ⟨rfl, rfl, ?_, ?_, trivial⟩ rfl rfl rfl, by dsimp only; omega⟩
    · have := hls.snoc (x := ⟨n, ((n + 1 : Nat) : Int) + x, ws, den⟩) ⟨by dsimp only; omega, by dsimp only; omega, by dsimp only; omega, hrk⟩ ⟨hw5, hww⟩ rfl
      exact_mod_cast this
    · dsimp only; rw [List.length_append, ← hm]; rfl
    · dsimp only; rw [show eK (ls ++ [⟨n, ((n + 1 : Nat) : Int) + x, ws, den⟩]) = eK ls ++ [lkC ⟨n, ((n + 1 : Nat) : Int) + x, ws, den⟩] from List.map_append]; rfl
  conv => whnf
  rw [hw1]
  exact ⟨(ls, d, n + 1), ⟨hd, hls.mono (by dsimp only; omega), by dsimp only; omega, by dsimp only; omega⟩, Shift.rename [] ⟨rfl, rfl, rfl, rfl, trivial⟩ ⟨rfl, rfl, rfl, rfl, trivial⟩ rfl rfl rfl, by dsimp only; omega⟩
theorem waves_ok : FunB Try.prog 11 R_waves := by
  intro cs args k h
  obtain ⟨d, r, rfl, rfl, hd, hr, hk⟩ := h
  have hm := eK_len r.ls
  have hrl := hr.len
  refine doesB_ex (qc := qc1) (np := []) (CK := ckK [(37, cB R_wave)]) mixed Try.func11 rfl rfl Try.ntmps11 Try.results11 τ_ok (by kernel_rfl) (ckK_ok ⟨cB_ok wave_ok rfl, trivial⟩) (by simp) rfl rfl ?_
  conv => whnf
  refine ⟨List Ls × Dk, fun s => ([(0, .c (.ptr (.x 0) 0)), (5, .c (.view (.l 21 1) 0 s.1.length)), (9, .c (.lst (eK r.ls))), (10, I (eK r.ls).length), (11, I s.1.length)], ⟨[(.x 0, .blk (dkC s.2)), (.l 21 1, .arr 41 1 (eV s.1) false)], 2, []⟩),
    fun s => s.2.ok ∧ s.1.length ≤ r.ls.length ∧ (∀ (i : Nat) l p, r.ls[i]? = some l → s.1[i]? = some p → fitsB l.ws.length p = true) ∧ ∀ p ∈ s.1, p.sum ≤ 24000000, fun s => r.ls.length - s.1.length, ([], d), ⟨hd, Nat.zero_le _, fun i l p _ h => by simp at h, fun p h => by simp at h⟩,
    Shift.trans (Shift.rename [] ⟨rfl, rfl, rfl, rfl, rfl, trivial⟩ ⟨rfl, rfl, trivial⟩ rfl rfl rfl) (Shift.nilArr (t := 5) rfl 21 41 1), fun s hs => ?_⟩
  obtain ⟨w, d⟩ := s
  obtain ⟨hd, hwl, hwf, hws⟩ := hs
  dsimp only at hd hwl hwf hws ⊢
  have hmw := eV_len w
  conv => whnf
  refine Fork.mk (fun h => ?_) (fun h => ?_)
  rotate_left
  · have hle : w.length = r.ls.length := by simp at h; omega
    conv => whnf
    refine ⟨by rw [hmw]; omega, ?_⟩
    conv => whnf
    rw [List.drop_zero, List.take_of_length_le (by rw [hmw]; exact Nat.le_refl _)]
    exact ⟨rfl, rfl, hk w d hd ⟨⟨hle, hwf⟩, hws⟩⟩
  have hlt : w.length < r.ls.length := by simp at h; omega
  clear h
  have hci := List.getElem?_eq_getElem hlt
  have hlo := hr.l _ (List.getElem_mem hlt)
  generalize r.ls[w.length] = l at hci hlo
  have hw1 := wr_succ (i := w.length) (by omega)
  conv => whnf
  refine ⟨by omega, lkC l, by rw [Int.toNat_natCast, List.getElem?_map, hci]; rfl, rfl, ?_⟩
  conv => whnf
  refine ⟨d, l.ws, rfl, rfl, hd, hlo.r, fun ps d hd hps hsum => ?_⟩
  conv => whnf
  refine ⟨by simp, ?_⟩
  conv => whnf
  refine ⟨rfl, ?_⟩
  conv => whnf
  refine ⟨⟨rfl, rfl, rfl, hmw.symm, by rw [hmw]; simp; omega⟩, ?_⟩
  conv => whnf
  rw [hw1]
  refine ⟨(w ++ [ps], d), ⟨hd, by dsimp only; simp; omega, fun i b p e1 e2 => ?_, fun p hp => ?_⟩, Shift.rename [(.l 21 1, .l 21 4)] ⟨rfl, ?_, rfl, rfl, ?_, trivial⟩ ⟨rfl, ?_, trivial⟩ rfl rfl rfl, by dsimp only; simp; omega⟩
  · dsimp only at e2
    rcases Nat.lt_or_ge i w.length with e | e
    · rw [List.getElem?_append_left e] at e2
      exact hwf i b p e1 e2
    · rw [List.getElem?_append_right e] at e2
      rcases Nat.eq_zero_or_pos (i - w.length) with e3 | e3
      · rw [e3] at e2
        simp at e2
        subst e2
        rw [show i = w.length by omega, hci] at e1
        cases e1
        exact hps
      · rw [List.getElem?_eq_none (by simp; omega)] at e2
        cases e2
  · rcases List.mem_append.1 hp with hp | hp
    · exact hws p hp
    · simp at hp; subst hp; exact hsum
  · dsimp only; rw [List.length_append, ← hmw]; rfl
  · dsimp only; rw [List.length_append]; rfl
  · dsimp only; rw [show eV (w ++ [ps]) = eV w ++ [wvC ps] from List.map_append]; rfl
def R_tt : RT := fun args k => args = [] ∧ k (Bo true)
def rvA : Rv := ⟨3, [⟨0, 2, [1], 1⟩, ⟨1, 2, [1], 1⟩]⟩
theorem rvA_ok : rvE rvA = 0 := by decide
theorem rvA_emp : empS rvA = ([[], []], 0) := by rw [empS, if_neg (by rw [rvA_ok]; simp)]; rfl
theorem rvA_fin : rvA.fin := (rvE_ok rvA_ok).fin
theorem rvA_step : stepJ rvA [[], []] [3, 4, 5] = .ok ([[], []], [3, 4, 12]) := by
  have e : wvE rvA [[], []] = 0 := by decide
  rw [stepJ, if_neg (by rw [e]; simp)]
  rfl
theorem awake_ok : FunR Try.prog 17 R_tt := by
  intro args k h
  obtain ⟨rfl, hk⟩ := h
  refine does_ex (qc := qc1) (np := []) (CK := ckK [(19, cPu R_empS), (13, cPu R_stpJ), (16, cSc R_same), (27, cSc R_rvE)]) mixed Try.func17 rfl rfl Try.ntmps17 Try.results17 τ_ok (by kernel_rfl) (ckK_ok ⟨cPu_ok empS_ok rfl, cPu_ok stpJ_ok rfl, cSc_ok same_ok, cSc_ok rvE_ok', trivial⟩) (by simp) ?_
  conv => whnf
  (repeat (refine ⟨by first | exact Nat.le_refl _ | (simp; done), ?_⟩; (conv => whnf)))
  refine ⟨rvA, rfl, rvA_fin, ?_⟩
  rw [rvA_emp]
  conv => whnf
  (repeat (refine ⟨by first | exact Nat.le_refl _ | (simp; done), ?_⟩; (conv => whnf)))
  refine ⟨rvA, [[], []], [3, 4, 5], rfl, rvA_fin, ⟨by decide, by decide⟩, by decide, ?_⟩
  rw [rvA_step]
  conv => whnf
  (repeat ((first | refine fork_t ?_ | refine fork_f ?_); (conv => whnf)))
  (repeat (refine ⟨by first | exact Nat.le_refl _ | (simp; done), ?_⟩; (conv => whnf)))
  refine ⟨[3, 4, 12], [3, 4, 12], rfl, rfl, by decide, ?_⟩
  conv => whnf
  (repeat ((first | refine fork_t ?_ | refine fork_f ?_); (conv => whnf)))
  (repeat (refine ⟨by first | exact Nat.le_refl _ | (simp; done), ?_⟩; (conv => whnf)))
  refine ⟨rvA, rfl, rvA_fin, ?_⟩
  rw [rvA_ok]
  conv => whnf
  exact hk
end Go.Proofs
