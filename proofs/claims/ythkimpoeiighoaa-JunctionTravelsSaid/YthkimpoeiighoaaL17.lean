/- Proved here: what functions of the given program come to, and the plain laws of it; no condition but those in the theorems. -/
import Derived.Test.YthkimpoeiighoaaJ17
import Derived.Test.YthkimpoeiighoaaPRiver4
namespace Go.Proofs
open Go Go.Abs
set_option linter.unusedSimpArgs false
set_option linter.unusedVariables false
set_option maxRecDepth 4000
theorem river_ok : FunB Try.prog 10 R_river := by
  intro cs args k h
  obtain ⟨d, rfl, rfl, hd, hk⟩ := h
  refine doesB_ex (qc := qc1) (np := [(6, [(1, 11), (1, 14), (1, 16)])]) (CK := ckK [(23, cB R_next), (18, cB R_reach)]) mixed Try.func10 rfl rfl Try.ntmps10 Try.results10 τ_ok (by kernel_rfl) (ckK_ok ⟨cB_ok next_ok rfl, cB_ok reach_ok rfl, trivial⟩) (by simp) rfl rfl ?_
  conv => whnf
  refine ⟨d, rfl, hd, by omega, fun v d hd hv1 hv2 => ?_⟩
  have e1 : IntKind.i64.wrap (1 + v) = 1 + v := wrap_in (by omega) (by omega)
  conv => whnf
  rw [e1]
  have hN : 1 ≤ 1 + v ∧ 1 + v ≤ 6 := by omega
  generalize 1 + v = N at hN
  clear hv1 hv2 e1
  refine ⟨List Lk × Dk × Nat, fun s => ([(0, .c (.ptr (.x 0) 0)), (2, .c (.ptr (.l 2 0) 0)), (3, .c (.ptr (.l 3 1) 0)), (4, I s.2.2)], ⟨[(.x 0, .blk (dkC s.2.1)), (.l 2 0, .blk [IC 0, .sc (.slice none 0 0)]), (.l 3 1, .blk [IC N, .view (.l 36 2) 0 s.1.length]), (.l 36 2, .arr 38 4 (eK s.1) false)], 3, []⟩),
    fun s => s.2.1.ok ∧ mkLs N s.1 s.2.2 ∧ s.2.2 ≤ 5 ∧ s.1.length ≤ s.2.2, fun s => 5 - s.2.2, ([], d, 0), ⟨hd, .nil _ _, Nat.zero_le _, Nat.le_refl _⟩,
    Shift.trans (Shift.rename [] ⟨rfl, rfl, rfl, rfl, trivial⟩ ⟨rfl, rfl, rfl, rfl, trivial⟩ rfl rfl rfl) (Shift.nilCell (i := .l 3 1) (cs := [IC N, .sc (.slice none 0 0)]) (j := 1) rfl rfl 36 38 4), fun s hs => ?_⟩
  obtain ⟨ls, d, n⟩ := s
  obtain ⟨hd, hls, hn5, hll⟩ := hs
  dsimp only at hd hls hn5 hll ⊢
  have hm := eK_len ls
  have hw1 := wr_succ (i := n) (by omega)
  conv => whnf
  rw [hw1]
  refine Fork.mk (fun h => ?_) (fun h => ?_)
  rotate_left
  · conv => whnf
    refine ⟨by rw [hm]; omega, ?_⟩
    conv => whnf
    rw [List.drop_zero, List.take_of_length_le (by rw [hm]; exact Nat.le_refl _)]
    exact ⟨rfl, rfl, hk ⟨N, ls⟩ d hd (mkRv.of hN hls)⟩
  have hnN : (n : Int) + 1 < N := by simp at h; omega
  clear h
  conv => whnf
  refine ⟨d, rfl, hd, by omega, fun u d hd hu1 hu2 => ?_⟩
  conv => whnf
  refine Fork.mk (fun h => ?_) (fun h => ?_)
  · have e2 : IntKind.i64.wrap (N - n) = N - n := wrap_in (by omega) (by omega)
    have e3 : IntKind.i64.wrap (N - n - 1) = N - n - 1 := wrap_in (by omega) (by omega)
    conv => whnf
    rw [e2, e3]
    refine ⟨d, rfl, hd, by omega, fun x d hd hx1 hx2 => ?_⟩
    have e4 : IntKind.i64.wrap (((n + 1 : Nat) : Int) + x) = ((n + 1 : Nat) : Int) + x := wrap_in (by omega) (by omega)
    conv => whnf
    rw [hw1, e4]
    refine ⟨d, rfl, hd, fun ws den d hd hrk hw5 hww => ?_⟩
    conv => whnf
    refine ⟨by simp, ?_⟩
    conv => whnf
    refine ⟨rfl, ?_⟩
    conv => whnf
    refine ⟨⟨rfl, rfl, rfl, hm.symm, by rw [hm]; simp; omega⟩, ?_⟩
    conv => whnf
    rw [hw1]
    refine ⟨(ls ++ [⟨n, ((n + 1 : Nat) : Int) + x, ws, den⟩], d, n + 1), ⟨hd, ?_, by dsimp only; omega, by dsimp only; simp; omega⟩, Shift.rename [(.l 36 2, .l 36 3)] ⟨rfl, rfl, rfl, rfl, trivial⟩ ⟨rfl, rfl, ?_, ?_, trivial⟩ rfl rfl rfl, by dsimp only; omega⟩
    · have := hls.snoc (x := ⟨n, ((n + 1 : Nat) : Int) + x, ws, den⟩) ⟨by dsimp only; omega, by dsimp only; omega, by dsimp only; omega, hrk⟩ ⟨hw5, hww⟩ rfl
      exact_mod_cast this
    · dsimp only; rw [List.length_append, ← hm]; rfl
    · dsimp only; rw [show eK (ls ++ [⟨n, ((n + 1 : Nat) : Int) + x, ws, den⟩]) = eK ls ++ [lkC ⟨n, ((n + 1 : Nat) : Int) + x, ws, den⟩] from List.map_append]; rfl
  conv => whnf
  rw [hw1]
  exact ⟨(ls, d, n + 1), ⟨hd, hls.mono (by dsimp only; omega), by dsimp only; omega, by dsimp only; omega⟩, Shift.rename [] ⟨rfl, rfl, rfl, rfl, trivial⟩ ⟨rfl, rfl, rfl, rfl, trivial⟩ rfl rfl rfl, by dsimp only; omega⟩
theorem waves_ok : FunB Try.prog 11 R_waves := by
  intro cs args k h
  obtain ⟨d, r, rfl, rfl, hd, hr, hk⟩ := h
  have hm := eK_len r.ls
  have hrl := hr.len
  refine doesB_ex (qc := qc1) (np := []) (CK := ckK [(37, cB R_wave)]) mixed Try.func11 rfl rfl Try.ntmps11 Try.results11 τ_ok (by kernel_rfl) (ckK_ok ⟨cB_ok wave_ok rfl, trivial⟩) (by simp) rfl rfl ?_
  conv => whnf
  refine ⟨List Ls × Dk, fun s => ([(0, .c (.ptr (.x 0) 0)), (5, .c (.view (.l 21 1) 0 s.1.length)), (9, .c (.lst (eK r.ls))), (10, I (eK r.ls).length), (11, I s.1.length)], ⟨[(.x 0, .blk (dkC s.2)), (.l 21 1, .arr 41 1 (eV s.1) false)], 2, []⟩),
    fun s => s.2.ok ∧ s.1.length ≤ r.ls.length ∧ (∀ (i : Nat) l p, r.ls[i]? = some l → s.1[i]? = some p → fitsB l.ws.length p = true) ∧ ∀ p ∈ s.1, p.sum ≤ 24000000, fun s => r.ls.length - s.1.length, ([], d), ⟨hd, Nat.zero_le _, fun i l p _ h => by simp at h, fun p h => by simp at h⟩,
    Shift.trans (Shift.rename [] ⟨rfl, rfl, rfl, rfl, rfl, trivial⟩ ⟨rfl, rfl, trivial⟩ rfl rfl rfl) (Shift.nilArr (t := 5) rfl 21 41 1), fun s hs => ?_⟩
  obtain ⟨w, d⟩ := s
  obtain ⟨hd, hwl, hwf, hws⟩ := hs
  dsimp only at hd hwl hwf hws ⊢
  have hmw := eV_len w
  conv => whnf
  refine Fork.mk (fun h => ?_) (fun h => ?_)
  rotate_left
  · have hle : w.length = r.ls.length := by simp at h; omega
    conv => whnf
    refine ⟨by rw [hmw]; omega, ?_⟩
    conv => whnf
    rw [List.drop_zero, List.take_of_length_le (by rw [hmw]; exact Nat.le_refl _)]
    exact ⟨rfl, rfl, hk w d hd ⟨⟨hle, hwf⟩, hws⟩⟩
  have hlt : w.length < r.ls.length := by simp at h; omega
  clear h
  have hci := List.getElem?_eq_getElem hlt
  have hlo := hr.l _ (List.getElem_mem hlt)
  generalize r.ls[w.length] = l at hci hlo
  have hw1 := wr_succ (i := w.length) (by omega)
  conv => whnf
  refine ⟨by omega, lkC l, by rw [Int.toNat_natCast, List.getElem?_map, hci]; rfl, rfl, ?_⟩
  conv => whnf
  refine ⟨d, l.ws, rfl, rfl, hd, hlo.r, fun ps d hd hps hsum => ?_⟩
  conv => whnf
  refine ⟨by simp, ?_⟩
  conv => whnf
  refine ⟨rfl, ?_⟩
  conv => whnf
  refine ⟨⟨rfl, rfl, rfl, hmw.symm, by rw [hmw]; simp; omega⟩, ?_⟩
  conv => whnf
  rw [hw1]
  refine ⟨(w ++ [ps], d), ⟨hd, by dsimp only; simp; omega, fun i b p e1 e2 => ?_, fun p hp => ?_⟩, Shift.rename [(.l 21 1, .l 21 4)] ⟨rfl, ?_, rfl, rfl, ?_, trivial⟩ ⟨rfl, ?_, trivial⟩ rfl rfl rfl, by dsimp only; simp; omega⟩
  · dsimp only at e2
    rcases Nat.lt_or_ge i w.length with e | e
    · rw [List.getElem?_append_left e] at e2
      exact hwf i b p e1 e2
    · rw [List.getElem?_append_right e] at e2
      rcases Nat.eq_zero_or_pos (i - w.length) with e3 | e3
      · rw [e3] at e2
        simp at e2
        subst e2
        rw [show i = w.length by omega, hci] at e1
        cases e1
        exact hps
      · rw [List.getElem?_eq_none (by simp; omega)] at e2
        cases e2
  · rcases List.mem_append.1 hp with hp | hp
    · exact hws p hp
    · simp at hp; subst hp; exact hsum
  · dsimp only; rw [List.length_append, ← hmw]; rfl
  · dsimp only; rw [List.length_append]; rfl
  · dsimp only; rw [show eV (w ++ [ps]) = eV w ++ [wvC ps] from List.map_append]; rfl
def R_tt : RT := fun args k => args = [] ∧ k (Bo true)
def rvA : Rv := ⟨3, [⟨0, 2, [1], 1⟩, ⟨1, 2, [1], 1⟩]⟩
theorem rvA_ok : rvE rvA = 0 := by decide
theorem rvA_emp : empS rvA = ([[], []], 0) := by rw [empS, if_neg (by rw [rvA_ok]; simp)]; rfl
theorem rvA_fin : rvA.fin := (rvE_ok rvA_ok).fin
theorem rvA_step : stepJ rvA [[], []] [3, 4, 5] = .ok ([[], []], [3, 4, 12]) := by
  have e : wvE rvA [[], []] = 0 := by decide
  rw [stepJ, if_neg (by rw [e]; simp)]
  rfl
theorem awake_ok : FunR Try.prog 17 R_tt := by
  intro args k h
  obtain ⟨rfl, hk⟩ := h
  refine does_ex (qc := qc1) (np := []) (CK := ckK [(19, cPu R_empS), (13, cPu R_stpJ), (16, cSc R_sameR), (27, cSc R_rvE)]) mixed Try.func17 rfl rfl Try.ntmps17 Try.results17 τ_ok (by kernel_rfl) (ckK_ok ⟨cPu_ok empS_ok rfl, cPu_ok stpJ_ok rfl, cSc_ok same_ok, cSc_ok rvE_ok', trivial⟩) (by simp) ?_
  conv => whnf
  (repeat (refine ⟨by first | exact Nat.le_refl _ | (simp; done), ?_⟩; (conv => whnf)))
  refine ⟨rvA, rfl, rvA_fin, ?_⟩
  rw [rvA_emp]
  conv => whnf
  (repeat (refine ⟨by first | exact Nat.le_refl _ | (simp; done), ?_⟩; (conv => whnf)))
  refine ⟨rvA, [[], []], [3, 4, 5], rfl, rvA_fin, ⟨by decide, by decide⟩, by decide, ?_⟩
  rw [rvA_step]
  conv => whnf
  (repeat ((first | refine fork_t ?_ | refine fork_f ?_); (conv => whnf)))
  (repeat (refine ⟨by first | exact Nat.le_refl _ | (simp; done), ?_⟩; (conv => whnf)))
  refine ⟨[3, 4, 12], [3, 4, 12], rfl, rfl, by decide, ?_⟩
  conv => whnf
  (repeat ((first | refine fork_t ?_ | refine fork_f ?_); (conv => whnf)))
  (repeat (refine ⟨by first | exact Nat.le_refl _ | (simp; done), ?_⟩; (conv => whnf)))
  refine ⟨rvA, rfl, rvA_fin, ?_⟩
  rw [rvA_ok]
  conv => whnf
  exact hk
end Go.Proofs

namespace Go.Proofs
open Go Go.Abs
set_option linter.unusedSimpArgs false
set_option linter.unusedVariables false
set_option maxRecDepth 4000
def R_l17 : RT := fun args k => ∃ l : Ls, args = [.c (.lst (eL l))] ∧ l.length ≤ 9223372036854775807 ∧ k (Bo true)
theorem sum_le {l : Ls} {m : Int} (h : ∀ x ∈ l, x ≤ m) : l.sum ≤ m * l.length := by
  induction l with
  | nil => simp
  | cons x r ih =>
    have h1 := h x (by simp)
    have h2 := ih fun y hy => h y (by simp [hy])
    rw [List.sum_cons, List.length_cons]
    have : m * ((r.length + 1 : Nat) : Int) = m * r.length + m := by rw [Int.natCast_add, Int.mul_add]; simp
    omega
theorem mkWv.vol {r : Rv} {w : List Ls} (hr : RvOk r) (h : mkWv r w) : volOk r.ls w (List.replicate r.ls.length 24000000) := by
  refine ⟨by simp, fun i l p x e1 e2 e3 => ?_⟩
  have hx := List.eq_of_mem_replicate (List.mem_of_getElem? e3)
  subst hx
  have hp := h.s p (List.mem_of_getElem? e2)
  obtain ⟨_, _, _, a4, _⟩ := rk_facts (hr.l l (List.mem_of_getElem? e1)).r
  omega
theorem rep_sum (n : Nat) (c : Int) : (List.replicate n c).sum = c * n := by
  induction n with
  | zero => simp
  | succ n ih => rw [List.replicate_succ, List.sum_cons, ih, Int.natCast_add, Int.mul_add]; omega
/-- A step of a river in which there is not too much water. -/
theorem small_step {r : Rv} {w : List Ls} {loc v : Ls} {K : Int} (hr : RvOk r) (hw : WvOk r w) (hl : (loc.length : Int) = r.n) (hq : ∀ q ∈ loc, 0 ≤ q ∧ q ≤ 1073741824) (hv : volOk r.ls w v) (hK : v.sum + loc.sum ≤ K) (hK2 : K ≤ 1000000000) :
    ∃ x v', stepJ r w loc = .ok x ∧ passX r w loc = .ok x ∧ lkGo r.ls w loc = some x ∧ WvOk r x.1 ∧ x.2.length = loc.length ∧ volOk r.ls x.1 v' ∧ v'.sum ≤ K ∧ (∀ y ∈ x.2, 0 ≤ y) ∧ ∀ j, gN x.2 j ≤ K := by
  obtain ⟨x, v', h1, h2, h3, h4, h5, _⟩ := lkGo_small (K := K) hK2 (n := r.n) 0 (fun l hl => ⟨hr.l l hl, (hr.l l hl).f⟩) hr.p hl.symm hw.l hw.f hv (fun q h => (hq q h).1) (by show (loc.drop 0).sum + v.sum ≤ K; rw [List.drop_zero]; omega)
  have ha : loc.all inQ = true := List.all_eq_true.2 fun q h => by simp [inQ, hq q h]
  have hp := passX_ok hl ha h1
  obtain ⟨f1, f2, _⟩ := passX_fit hr hw hp
  exact ⟨x, v', by rw [stepJ, if_neg (by simp [wvE_of hr hw]), hp], hp, h1, f1, f2, h2, h4, h3, fun j => h5 j (Nat.zero_le _)⟩
theorem keeps17_ok : FunR Try.prog 3 R_l17 := by
  intro args k h
  obtain ⟨l, rfl, hl, hk⟩ := h
  refine does_ex (qc := qc1) (np := []) (CK := ckK [(9, cN R_new), (10, cB R_river), (11, cB R_waves), (12, cB R_flows), (13, cPu R_stpJ), (14, cSc R_held), (15, cSc R_valid), (16, cSc R_sameR), (17, cSc R_tt)]) mixed Try.func3 rfl rfl Try.ntmps3 Try.results3 τ_ok (by kernel_rfl) (ckK_ok ⟨cN_ok new_ok rfl, cB_ok river_ok rfl, cB_ok waves_ok rfl, cB_ok flows_ok rfl, cPu_ok stpJ_ok rfl, cSc_ok rheld_ok, cSc_ok valid_ok, cSc_ok same_ok, cSc_ok awake_ok, trivial⟩) (by simp) ?_
  conv => whnf
  refine ⟨l, rfl, ?_⟩
  conv => whnf
  refine ⟨⟨l, 0⟩, rfl, rfl, ⟨Nat.zero_le _, hl⟩, fun r d hd hr => ?_⟩
  conv => whnf
  refine ⟨d, r, rfl, rfl, hd, hr.ok, fun w d hd hw => ?_⟩
  have hn := hr.n
  have hrl := hr.l
  have hok := hr.ok
  conv => whnf
  refine ⟨Nat × List Ls × Dk, fun s => ([(3, .c (.ptr (.l 15 0) 0)), (4, .c (.ptr (.l 4 1) 0)), (5, .c (.lst (eV s.2.1))), (21, I s.1)], ⟨[(.l 15 0, .blk (dkC s.2.2)), (.l 4 1, .blk (rvC r))], 3, []⟩),
    fun s => s.1 ≤ 5 ∧ s.2.2.ok ∧ WvOk r s.2.1 ∧ ∃ v, volOk r.ls s.2.1 v ∧ v.sum ≤ 200000000 + 1000 * s.1, fun s => 5 - s.1, (0, w, d), ⟨Nat.zero_le _, hd, hw.ok, _, hw.vol hok, by rw [rep_sum]; dsimp only; omega⟩, Shift.rename [] ⟨rfl, rfl, rfl, rfl, trivial⟩ ⟨rfl, rfl, trivial⟩ rfl rfl rfl, fun s hs => ?_⟩
  obtain ⟨t, w, d⟩ := s
  obtain ⟨ht, hd, hw, v, hv, hvs⟩ := hs
  dsimp only at ht hd hw hv hvs ⊢
  conv => whnf
  refine Fork.mk (fun h => ?_) (fun h => ?_)
  rotate_left
  · conv => whnf
    refine ⟨rfl, ?_⟩
    conv => whnf
    exact hk
  have ht5 : t < 5 := by simp at h; omega
  clear h
  have hwt := wr_succ (i := t) (by omega)
  conv => whnf
  refine ⟨d, r.n.toNat, rfl, hd, by omega, by omega, by omega, fun loc d hd hll hlq => ?_⟩
  have hln : (loc.length : Int) = r.n := by omega
  have hls := sum_le (l := loc) (m := 40) (fun x hx => by have := hlq x hx; omega)
  obtain ⟨x, v', p1, p2, p3, p4, p5, p6, p7, p8, p9⟩ := small_step (K := 200000000 + 1000 * (t + 1)) hok hw hln (fun q hq => by have := hlq q hq; omega) hv (by omega) (by omega)
  obtain ⟨hvw, hw40, hw24⟩ := hw.fin hok
  obtain ⟨hvx, hx40, hx24⟩ := p4.fin hok
  have hxl := p4.l
  have hwl := hw.l
  have hml := eL_len loc
  conv => whnf
  refine ⟨r, w, loc, rfl, hok.fin, hvw, by omega, ?_⟩
  rw [p1]
  have hmx := eV_len x.1
  have hmw := eV_len w
  have hma := eL_len x.2
  conv => whnf
  (repeat ((first | refine fork_t ?_ | refine fork_f ?_); (conv => whnf)))
  refine Fork.mk (fun h => ?_) (fun h => ?_)
  · exfalso; simp at h; omega
  clear h
  conv => whnf
  refine Fork.mk (fun h => ?_) (fun h => ?_)
  · exfalso; simp at h; omega
  clear h
  conv => whnf
  refine ⟨eL_all _, ?_⟩
  conv => whnf
  refine ⟨by show (eL loc).length * 8 ≤ _; omega, ?_⟩
  conv => whnf
  have hlo0 : ∀ j, j < loc.length → 0 ≤ gN loc j ∧ gN loc j ≤ 40 := fun j hj => by have := hlq _ (List.mem_of_getElem? (gN_get hj)); omega
  refine ⟨Nat × Ls, fun s => ([(3, .c (.ptr (.l 15 0) 0)), (4, .c (.ptr (.l 4 1) 0)), (5, .c (.lst (eV w))), (7, .c (.lst (eV x.1))), (8, .c (.lst (eL x.2))), (10, .c (.view (.l 52 3) 0 loc.length)), (21, I t), (54, .c (.lst (eK r.ls))), (55, I (eK r.ls).length), (56, I s.1)], ⟨[(.l 15 0, .blk (dkC d)), (.l 4 1, .blk (rvC r)), (.l 52 3, .arr 3 1 (eL s.2) false)], 9, []⟩),
    fun s => s.1 ≤ r.ls.length ∧ s.2.length = loc.length ∧ lkGo (r.ls.drop s.1) (w.drop s.1) s.2 = some (x.1.drop s.1, x.2) ∧ (∀ j, j < s.2.length → 0 ≤ gN s.2 j ∧ gN s.2 j ≤ 1073741824 + 1125899906842624 * (s.1 : Int)), fun s => r.ls.length - s.1, (0, loc), ⟨Nat.zero_le _, rfl, by rw [List.drop_zero, List.drop_zero, List.drop_zero]; exact p3, fun j hj => by have := hlo0 j hj; dsimp only; omega⟩,
    Shift.rename [] ⟨rfl, rfl, rfl, rfl, rfl, by rw [← hml]; rfl, rfl, rfl, rfl, rfl, trivial⟩ ⟨rfl, rfl, rfl, trivial⟩ rfl rfl rfl, fun s hs => ?_⟩
  obtain ⟨i, a⟩ := s
  obtain ⟨hi, hal, hgo, hab⟩ := hs
  dsimp only at hi hal hgo hab ⊢
  have hmk := eK_len r.ls
  conv => whnf
  refine Fork.mk (fun h => ?_) (fun h => ?_)
  rotate_left
  · have hie : i = r.ls.length := by simp at h; omega
    rw [hie, List.drop_length] at hgo
    have hax : a = x.2 := by
      have : some (([] : List Ls), a) = some (x.1.drop r.ls.length, x.2) := by
        rw [← hgo]
        cases w.drop r.ls.length <;> rfl
      simp only [Option.some.injEq, Prod.mk.injEq] at this
      exact this.2
    subst hax
    conv => whnf
    refine ⟨by rw [hma]; omega, ?_⟩
    conv => whnf
    refine ⟨x.2, x.2, ?_, rfl, by omega, ?_⟩
    · rw [List.drop_zero, List.take_of_length_le (by rw [hma]; omega)]
    conv => whnf
    repeat' ((first | refine fork_t ?_ | refine fork_f ?_ | (refine Fork.mk (fun h => ?_) (fun h => ?_); focus (simp at h; done)) | refine ⟨rfl, ?_⟩ | fail) <;> (conv => whnf))
    rw [hwt]
    exact ⟨(t + 1, x.1, d), ⟨ht5, hd, p4, v', p6, by dsimp only; omega⟩, Shift.rename [] ⟨rfl, rfl, rfl, rfl, trivial⟩ ⟨rfl, rfl, trivial⟩ rfl rfl rfl, by dsimp only; omega⟩
  have hil : i < r.ls.length := by simp at h; omega
  clear h
  have hci := List.getElem?_eq_getElem hil
  have hlo := hok.l _ (List.getElem_mem hil)
  have hls' : ∀ y ∈ r.ls.drop (i + 1), LkOk r.n y := fun y hy => hok.l y (List.mem_of_mem_drop hy)
  have hpw := hok.p.drop (i := i)
  generalize r.ls[i] = lk at hci hlo
  have hcw := List.getElem?_eq_getElem (show i < w.length by omega)
  have hpl := hw24 _ (List.getElem_mem (show i < w.length by omega))
  generalize w[i] = p at hcw hpl
  have hcx := List.getElem?_eq_getElem (show i < x.1.length by omega)
  have hql := hx24 _ (List.getElem_mem (show i < x.1.length by omega))
  generalize x.1[i] = p' at hcx hql
  have hfit := hw.f i lk p hci hcw
  have hfit' := p4.f i lk p' hci hcx
  rw [dropC hci] at hpw
  rw [dropC hci, dropC hcw, dropC hcx] at hgo
  obtain ⟨y, q1, q2, q3, q4⟩ := lkGo_head hlo hpw hls' hgo
  simp only [List.cons.injEq] at q2
  obtain ⟨q2, q5⟩ := q2
  obtain ⟨f, hfr⟩ : ∃ f : Nat, lk.fr = f := ⟨lk.fr.toNat, by have := hlo.f; omega⟩
  obtain ⟨g, hto⟩ : ∃ g : Nat, lk.to = g := ⟨lk.to.toNat, by have := hlo.f; have := hlo.o; omega⟩
  have ho := hlo.o
  have htn := hlo.t
  dsimp only at q3 q4
  rw [hfr, hto, gA_nat, gA_nat, Int.toNat_natCast, ← q5] at q3
  rw [hfr, gA_nat, gA_nat] at q4
  rw [hfr, gA_nat] at q1 q2
  have hfa := gN_get (a := x.2) (j := f) (by omega)
  have hga := gN_get (a := a) (j := g) (by omega)
  have hgb := hab g (by omega)
  obtain ⟨s0, s1, s2⟩ := stG_ok q1
  have hsum := step_sum (q := gN a f) hlo.r hfit
  have hout := out_in hlo.r hfit q1
  obtain ⟨b1, b2, b3, b4, b5, b6, _⟩ := rk_facts hlo.r
  obtain ⟨_, _, c3, _⟩ := fits_facts hfit
  obtain ⟨_, _, d3, _⟩ := fits_facts hfit'
  have z1 := fits_sum hfit
  have z2 := fits_sum hfit'
  have y1 := sum_le (l := p) (fun x hx => (c3 x hx).2)
  have y2 := sum_le (l := p') (fun x hx => (d3 x hx).2)
  rw [← q2] at hsum
  rw [q4] at hfa
  have hdq : 0 ≤ lk.den * gN a f ∧ lk.den * gN a f ≤ 240000 * 1073741824 := ⟨Int.mul_nonneg (by omega) s0, Int.mul_le_mul b5 s1 s0 (by omega)⟩
  have hcomm : gN a f * lk.den = lk.den * gN a f := Int.mul_comm _ _
  generalize hO : outF lk.ws lk.den p (gN a f) = o at hsum hout q3
  have hgone : p.sum + lk.den * gN a f - p'.sum = lk.den * o := by omega
  have hw1 := wr_succ (i := i) (by omega)
  have e1 : IntKind.i64.wrap (lk.den * gN a f) = lk.den * gN a f := wrap_in (by omega) (by omega)
  have e2 : IntKind.i64.wrap (p.sum + lk.den * gN a f) = p.sum + lk.den * gN a f := wrap_in (by omega) (by omega)
  have e3 : IntKind.i64.wrap (p.sum + lk.den * gN a f - p'.sum) = lk.den * o := by rw [hgone]; exact wrap_in (by omega) (by omega)
  have e4 : (lk.den * o).tmod lk.den = 0 := Int.mul_tmod_right _ _
  have e5 : (lk.den * o).tdiv lk.den = o := Int.mul_tdiv_cancel_left _ (by omega)
  have e6 : IntKind.i64.wrap o = o := wrap_in (by omega) (by omega)
  have e7 : IntKind.i64.wrap (gN a g + o) = gN a g + o := wrap_in (by omega) (by omega)
  have hdo : 0 ≤ lk.den * o := Int.mul_nonneg (by omega) hout.1
  conv => whnf
  refine ⟨by omega, lkC lk, by rw [Int.toNat_natCast, List.getElem?_map, hci]; rfl, rfl, ?_⟩
  conv => whnf
  refine ⟨by omega, wvC p, by rw [Int.toNat_natCast, List.getElem?_map, hcw]; rfl, rfl, ?_⟩
  conv => whnf
  refine ⟨p, rfl, by omega, fun x hx => by have := c3 x hx; unfold inH; omega, ?_⟩
  conv => whnf
  rw [hfr]
  refine ⟨by omega, eI (gN a f), by rw [Int.toNat_natCast, List.getElem?_map, hfa]; rfl, rfl, ?_⟩
  conv => whnf
  rw [e1, e2]
  refine ⟨by omega, wvC p', by rw [Int.toNat_natCast, List.getElem?_map, hcx]; rfl, rfl, ?_⟩
  conv => whnf
  refine ⟨p', rfl, by omega, fun x hx => by have := d3 x hx; unfold inH; omega, ?_⟩
  conv => whnf
  rw [e3]
  refine ⟨by omega, ?_⟩
  conv => whnf
  rw [e4]
  (repeat ((first | refine fork_t ?_ | refine fork_f ?_); (conv => whnf)))
  refine Fork.mk (fun h => ?_) (fun h => ?_)
  · exfalso; simp at h; omega
  clear h
  conv => whnf
  refine ⟨by omega, wvC p', by rw [Int.toNat_natCast, List.getElem?_map, hcx]; rfl, rfl, ?_⟩
  conv => whnf
  refine ⟨lk.ws, p', rfl, rfl, by omega, by omega, ?_⟩
  rw [show (decide (rkCheck lk.ws lk.den = 0) && fitsB lk.ws.length p') = true by simp [hlo.r, hfit']]
  conv => whnf
  (repeat ((first | refine fork_t ?_ | refine fork_f ?_); (conv => whnf)))
  rw [hto]
  refine ⟨by omega, rfl, ?_⟩
  conv => whnf
  refine ⟨eI (gN a g), by rw [Int.toNat_natCast, Nat.zero_add, List.getElem?_map, hga]; rfl, ?_⟩
  conv => whnf
  refine ⟨by omega, ?_⟩
  conv => whnf
  rw [e5, e6, e7]
  refine ⟨by omega, rfl, ?_⟩
  conv => whnf
  refine ⟨eI (gN a g), by rw [Int.toNat_natCast, Nat.zero_add, List.getElem?_map, hga]; rfl, by show 0 + 1 ≤ 1; omega, ?_⟩
  conv => whnf
  rw [hw1]
  have hset : (eL a).set (0 + (g : Int).toNat) [nrm (Value.int IntKind.i64 (gN a g + o))] = eL (a.set g (gN a g + o)) := by
    rw [Nat.zero_add, Int.toNat_natCast, show [nrm (Value.int IntKind.i64 (gN a g + o))] = eI (gN a g + o) from rfl, eL_set]
  refine ⟨(i + 1, a.set g (gN a g + o)), ⟨hil, by rw [List.length_set]; exact hal, q3, fun j hj => ?_⟩, Shift.rename [] ⟨rfl, rfl, rfl, rfl, rfl, rfl, rfl, rfl, rfl, rfl, trivial⟩ ⟨rfl, rfl, ?_, trivial⟩ rfl rfl rfl, by dsimp only; omega⟩
  · dsimp only at hj ⊢
    rw [List.length_set] at hj
    have := hab j hj
    rw [gN_set (by omega)]
    have e3 : ((i + 1 : Nat) : Int) = (i : Int) + 1 := by omega
    split <;> omega
  · dsimp only; rw [← hset]; rfl
end Go.Proofs
