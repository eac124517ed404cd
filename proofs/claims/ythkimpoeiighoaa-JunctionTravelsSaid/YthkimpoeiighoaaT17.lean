/- Proved here: what functions of the given program come to, for the statements of this chapter; no condition but those in the theorems. -/
import Derived.Test.YthkimpoeiighoaaPJTrv3
import Derived.Test.YthkimpoeiighoaaAbsQ
namespace Go.Proofs
open Go Go.Abs
set_option linter.unusedSimpArgs false
set_option linter.unusedVariables false
set_option maxRecDepth 40000
/-- The elements of the slice of rows: row stands first, i have been put in. -/
def rowC (N M : Nat) (row : Cell) : Nat → List Cell
  | 0 => List.replicate M (.lst [])
  | j + 1 => row :: (List.replicate j (.lst (eL (List.replicate N 0))) ++ List.replicate (M - (j + 1)) (.lst []))
theorem rowC_len {N M : Nat} {row : Cell} : ∀ {i : Nat}, i ≤ M → (rowC N M row i).length = M
  | 0, _ => List.length_replicate
  | j + 1, h => by rw [rowC, List.length_cons, List.length_append, List.length_replicate, List.length_replicate]; omega
theorem rowC_one {N M : Nat} {row : Cell} (h : 0 < M) : (rowC N M row 0).set 0 row = rowC N M row 1 := by
  obtain ⟨m, rfl⟩ : ∃ m, M = m + 1 := ⟨M - 1, by omega⟩
  rw [rowC, rowC, List.replicate_succ]
  simp
theorem rowC_next {N M j : Nat} {row : Cell} (h : j + 1 < M) : (rowC N M row (j + 1)).set (j + 1) (.lst (eL (List.replicate N 0))) = rowC N M row (j + 2) := by
  obtain ⟨m, hm⟩ : ∃ m, M - (j + 1) = m + 1 := ⟨M - (j + 1) - 1, by omega⟩
  rw [rowC, rowC, hm, show M - (j + 1 + 1) = m by omega, List.set_cons_succ, List.set_append_right _ _ (by rw [List.length_replicate]; exact Nat.le_refl _), List.length_replicate, Nat.sub_self, List.replicate_succ, List.set_cons_zero, List.replicate_succ', List.append_assoc]
  rfl
theorem rowC_has {o : List (Abs.Id × MObj)} {N M : Nat} {row : Cell} : ∀ {i : Nat}, (i = 0 ∨ hasC o row = true) → ∀ c ∈ rowC N M row i, hasC o c = true
  | 0, _, c, h => by rw [List.eq_of_mem_replicate h]; rfl
  | j + 1, hr, c, h => by
    rw [rowC] at h
    rcases List.mem_cons.1 h with rfl | h
    · rcases hr with hr | hr
      · omega
      · exact hr
    · rcases List.mem_append.1 h with h | h <;> rw [List.eq_of_mem_replicate h] <;> rfl
theorem hasCs_all {o : List (Abs.Id × MObj)} : ∀ {l : List Cell}, (∀ c ∈ l, hasC o c = true) → hasCs o l = true
  | [], _ => rfl
  | c :: r, h => by simp [hasCs, h c (by simp), hasCs_all (l := r) fun c hc => h c (by simp [hc])]
theorem hasO_x {o : List (Abs.Id × MObj)} {nx n : Nat} {cs : List Cell} {r : List (Abs.Id × MObj)} (h1 : hasCs o cs = true) (h2 : hasO o nx r = true) : hasO o nx ((.x n, .blk cs) :: r) = true := by
  simp [hasO, h1, h2]
theorem purL_rep {m : Mem} {es : List (List Cell)} : ∀ j : Nat, purL m (List.replicate j (.lst es)) = some (List.replicate j (.lst es), m)
  | 0 => rfl
  | j + 1 => by simp [List.replicate_succ, purL, pur, purL_rep j]
theorem pur_all {m : Mem} {i : Abs.Id} {e sz n : Nat} {es : List (List Cell)} {f : Bool} (h : mget m.o i = some (.arr e sz es f)) (hn : n = es.length) : pur m (.view i 0 n) = some (.lst es, { m with o := mset m.o i (.arr e sz es true) }) := by
  simp [pur, h, hn]
theorem rowC_pur {m : Mem} {i : Abs.Id} {e sz n N M j : Nat} {es : List (List Cell)} {f : Bool} (h : mget m.o i = some (.arr e sz es f)) (hn : n = es.length) (hM : M ≤ j + 1) : purL m (rowC N M (.view i 0 n) (j + 1)) = some (.lst es :: List.replicate j (.lst (eL (List.replicate N 0))), { m with o := mset m.o i (.arr e sz es true) }) := by
  rw [rowC, show M - (j + 1) = 0 by omega, List.replicate_zero, List.append_nil, purL, pur_all h hn]
  simp [purL_rep]
theorem rows_eq {N n j : Nat} {q : Int} : (Cell.lst (eL ((List.replicate N 0).set n q)) :: List.replicate j (Cell.lst (eL (List.replicate N 0)))).map (fun c => [c]) = eV (rowsJ N n q j) := by
  rw [rowsJ, List.map_cons, List.map_replicate, eV, List.map_cons, List.map_replicate]
  rfl
def R_tv17 : RT := fun args k => ∃ (l : Ls) (x y : Int), args = [.c (.lst (eL l)), I x, I y] ∧ l.length ≤ 9223372036854775807 ∧ k (Bo true)
set_option maxHeartbeats 8000000 in
theorem travels17_ok : FunR Try.prog 8 R_tv17 := by
  intro args k h
  obtain ⟨l, from_, flow, rfl, hl, hk⟩ := h
  have hCK : ∀ f args d m k, ckK [(9, cN R_new), (10, cB R_river), (34, cSc R_mod), (35, cPu R_pth), (23, cB R_next), (36, cSc R_trv), (19, cPu R_empS), (20, cPu R_runJ), (17, cSc R_tt)] f args d m k → callK Try.prog qc1 f args d m k := ckK_ok ⟨cN_ok new_ok rfl, cB_ok river_ok rfl, cSc_ok mod_ok, cPu_ok pth_ok rfl, cB_ok next_ok rfl, cSc_ok jtrv_ok, cPu_ok empS_ok rfl, cPu_ok runJ_ok rfl, cSc_ok awake_ok, trivial⟩
  refine ⟨_, doesE_of (qc := qc1) (np := []) (CK := ckK [(9, cN R_new), (10, cB R_river), (34, cSc R_mod), (35, cPu R_pth), (23, cB R_next), (36, cSc R_trv), (19, cPu R_empS), (20, cPu R_runJ), (17, cSc R_tt)]) [⟨16, 5, 0, 0⟩, ⟨19, 1, 1, 0⟩, ⟨20, 3, 2, 122⟩] 2 10 mixed Try.func8 rfl rfl Try.ntmps8 Try.results8 τ_ok (by kernel_rfl) hCK (by simp) ?_, hk⟩
  conv => whnf
  refine ⟨l, rfl, ?_⟩
  conv => whnf
  refine ⟨⟨l, 0⟩, rfl, rfl, ⟨Nat.zero_le _, hl⟩, fun r d hd hr => ?_⟩
  have hn := hr.n
  have hrl := hr.l
  have hok := hr.ok
  have hfin := hok.fin
  conv => whnf
  refine ⟨by omega, ?_⟩
  have hx1 := Int.emod_nonneg from_ (show r.n ≠ 0 by omega)
  have hx2 := Int.emod_lt_of_pos from_ (show 0 < r.n by omega)
  obtain ⟨n0, hn0⟩ : ∃ n0 : Nat, from_ % r.n = n0 := ⟨(from_ % r.n).toNat, by omega⟩
  rw [hn0] at hx1 hx2 ⊢
  obtain ⟨N, hN⟩ : ∃ N : Nat, r.n = N := ⟨r.n.toNat, by omega⟩
  have hpth : pthS r n0 = (pathR r n0, 0) := by rw [pthS, if_neg (by simp [rvE_of hok]), if_neg (by simp [inN]; omega)]
  obtain ⟨pf1, pf2, pf3⟩ := path_facts hok (r.n - n0).toNat n0 (Nat.le_refl _) ⟨hx1, hx2⟩
  have hpl : (pathR r n0).length ≤ 41 ∧ 1 ≤ (pathR r n0).length := by rw [pathR, List.length_cons, List.length_map]; have := path_len hok (k := n0) ⟨hx1, hx2⟩; omega
  conv => whnf
  refine ⟨r, n0, rfl, hfin, ?_⟩
  rw [hpth]
  dsimp only
  generalize hP : pathR r n0 = P at pf1 pf2 hpl
  have hmP := eL_len P
  conv => whnf
  refine Fork.mk (fun h => by simp at h) (fun h => ?_)
  clear h
  conv => whnf
  refine Fork.mk (fun h => ?_) (fun h => ?_)
  · exfalso
    have := of_decide_eq_true h
    omega
  clear h
  conv => whnf
  refine ⟨d, rfl, hd, by omega, fun k1 d hd hk0 hk1 => ?_⟩
  obtain ⟨k0, rfl⟩ := Int.eq_ofNat_of_zero_le hk0
  have hk2 : k0 < P.length := by omega
  have hcp := List.getElem?_eq_getElem hk2
  have hpb := pf1 _ (List.getElem_mem hk2)
  generalize P[k0] = p at hcp hpb
  obtain ⟨t0, rfl⟩ := Int.eq_ofNat_of_zero_le (show 0 ≤ p by omega)
  conv => whnf
  refine ⟨by omega, eI (t0 : Int), by rw [Int.toNat_natCast, List.getElem?_map, hcp]; rfl, rfl, ?_⟩
  conv => whnf
  refine ⟨r, n0, t0, rfl, hfin, ?_⟩
  have htrv : trvS r n0 t0 = trvM (lagR r n0 t0) := by rw [trvS, if_neg (by simp [rvE_of hok]), if_neg (by simp [inN]; omega), if_neg (by simp [inN]; omega)]
  rw [htrv]
  conv => whnf
  refine ⟨r, rfl, hfin, ?_⟩
  have hemp : empS r = (List.replicate r.ls.length [], 0) := by unfold empS; rw [if_neg (by simp [rvE_of hok])]
  rw [hemp]
  dsimp only
  generalize hW : List.replicate r.ls.length ([] : Ls) = W
  obtain ⟨z, hz, hz2⟩ := lag_path hok _ (n0 : Int) (Nat.le_refl _) hx1 hx2 (by rw [hP]; exact List.mem_of_getElem? hcp)
  rw [hz]
  dsimp only [trvM]
  conv => whnf
  (repeat ((first | refine fork_t ?_ | refine fork_f ?_); (conv => whnf)))
  refine Fork.mk (fun h => ?_) (fun h => ?_)
  · conv => whnf
    repeat' ((first | refine fork_t ?_ | refine fork_f ?_ | (refine Fork.mk (fun h => ?_) (fun h => ?_); focus (simp at h; done)) | refine ⟨rfl, ?_⟩ | fail) <;> (conv => whnf))
    rfl
  have hz3 : z.2 ≤ 60 := by simp at h; omega
  clear h
  obtain ⟨M, hM⟩ := Int.eq_ofNat_of_zero_le hz2
  have hw5 : IntKind.i64.wrap (z.2 + 5) = ((M + 5 : Nat) : Int) := by rw [wrap_in (by omega) (by omega), hM]; omega
  conv => whnf
  rw [hw5]
  refine ⟨⟨rfl, rfl, by omega, rfl, rfl, rfl⟩, ?_⟩
  conv => whnf
  refine ⟨M + 5, ⟨rfl, rfl, by show (M + 5) * 24 ≤ _; omega⟩, ?_⟩
  conv => whnf
  have hfl : (List.replicate (M + 5) [Cell.lst []]).flatten = List.replicate (M + 5) (Cell.lst []) := by simp
  rw [hfl]
  have hz0 : List.replicate r.n.toNat [Cell.sc (Value.int IntKind.i64 0)] = eL (List.replicate r.n.toNat 0) := by rw [show eL (List.replicate r.n.toNat 0) = (List.replicate r.n.toNat 0).map eI from rfl, List.map_replicate]; rfl
  refine ⟨Nat, fun i => ([(2, I flow), (8, .c (.ptr (.l 8 1) 0)), (9, I n0), (10, .c (.lst (eL P))), (12, I t0), (13, I z.1), (14, I z.2), (17, .c (.lst (eV W))), (19, .c (.view (.x 1) 0 (M + 5))), (100, I ((M + 5 : Nat) : Int)), (101, I i)], match i with
      | 0 => ⟨[(.x 0, .blk (rowC r.n.toNat (M + 5) (.view (.l 108 4) 0 r.n.toNat) 0)), (.l 8 1, .blk (rvC r))], 4, []⟩
      | j + 1 => ⟨[(.x 0, .blk (rowC r.n.toNat (M + 5) (.view (.l 108 4) 0 r.n.toNat) (j + 1))), (.l 8 1, .blk (rvC r)), (.l 108 4, .arr 3 1 (eL (List.replicate r.n.toNat 0)) false)], 9, []⟩),
    fun i => i ≤ M + 5, fun i => M + 5 - i, 0, Nat.zero_le _, Shift.reset ⟨rfl, rfl, rfl, rfl, rfl, rfl, rfl, rfl, rfl, rfl, rfl, trivial⟩ ⟨rfl, rfl, trivial⟩ rfl (hasO_x (hasCs_all (rowC_has (.inl rfl))) rfl), fun i hi => ?_⟩
  have hw1 := wr_succ (i := i) (by omega)
  cases i with
  | zero =>
    dsimp only at hi ⊢
    conv => whnf
    refine Fork.mk (fun h => ?_) (fun h => ?_)
    rotate_left
    · exfalso; simp at h; omega
    clear h
    conv => whnf
    refine ⟨⟨rfl, by omega, by show r.n * 8 ≤ _; omega⟩, ?_⟩
    conv => whnf
    refine ⟨⟨rfl, by omega⟩, ?_⟩
    conv => whnf
    refine ⟨M + 5, 0, ⟨rfl, rfl, by omega⟩, ?_⟩
    conv => whnf
    refine ⟨⟨rfl, rfl⟩, ?_⟩
    conv => whnf
    refine ⟨0, _, _, ⟨rfl, rfl, by rw [rowC_len (Nat.zero_le _)]; omega, rfl⟩, .inl ?_⟩
    rw [hz0, rowC_one (by omega)]
    conv => whnf
    rw [hw1]
    exact ⟨1, by omega, Shift.reset ⟨rfl, rfl, rfl, rfl, rfl, rfl, rfl, rfl, rfl, rfl, rfl, trivial⟩ ⟨rfl, rfl, rfl, trivial⟩ rfl (hasO_x (hasCs_all (rowC_has (.inr rfl))) rfl), by omega⟩
  | succ j =>
  dsimp only at hi ⊢
  conv => whnf
  refine Fork.mk (fun h => ?_) (fun h => ?_)
  · have hj : j + 1 < M + 5 := by simp at h; omega
    clear h
    conv => whnf
    refine ⟨⟨rfl, by omega, by show r.n * 8 ≤ _; omega⟩, ?_⟩
    conv => whnf
    refine ⟨⟨rfl, by omega⟩, ?_⟩
    conv => whnf
    refine ⟨M + 5, j + 1, ⟨rfl, rfl, by omega⟩, ?_⟩
    conv => whnf
    refine ⟨⟨rfl, rfl⟩, ?_⟩
    conv => whnf
    refine ⟨j + 1, _, _, ⟨rfl, rfl, by rw [rowC_len (by omega)]; omega, rfl⟩, .inr ⟨_, _, pur_all rfl (by simp), rfl, ?_⟩⟩
    rw [hz0, rowC_next (by omega)]
    conv => whnf
    rw [hw1]
    exact ⟨j + 2, hj, Shift.reset ⟨rfl, rfl, rfl, rfl, rfl, rfl, rfl, rfl, rfl, rfl, rfl, trivial⟩ ⟨rfl, rfl, rfl, trivial⟩ rfl (hasO_x (hasCs_all (rowC_has (.inr rfl))) rfl), by omega⟩
  have hje : j + 1 = M + 5 := by simp at h; omega
  clear h
  conv => whnf
  refine ⟨by omega, ?_⟩
  have hq1 := Int.emod_nonneg flow (show (5000 : Int) ≠ 0 by omega)
  have hq2 := Int.emod_lt_of_pos flow (show (0 : Int) < 5000 by omega)
  generalize flow % 5000 = q at hq1 hq2
  conv => whnf
  refine ⟨⟨rfl, by omega⟩, ?_⟩
  conv => whnf
  refine ⟨M + 5, 0, ⟨rfl, rfl, by omega⟩, ?_⟩
  conv => whnf
  refine ⟨⟨rfl, rfl, by omega⟩, ?_⟩
  conv => whnf
  refine ⟨0, _, _, ⟨rfl, rfl, rfl⟩, ?_⟩
  conv => whnf
  refine ⟨⟨by omega, by omega⟩, rfl, ?_⟩
  conv => whnf
  have hgz : (eL (List.replicate r.n.toNat 0))[0 + (n0 : Int).toNat]? = some (eI 0) := by
    rw [Nat.zero_add, Int.toNat_natCast, List.getElem?_map, List.getElem?_replicate, if_pos (by omega)]; rfl
  have hsz : (eL (List.replicate r.n.toNat 0)).set (0 + (n0 : Int).toNat) [nrm (Value.int IntKind.i64 q)] = eL ((List.replicate r.n.toNat 0).set n0 q) := by
    rw [Nat.zero_add, Int.toNat_natCast, show [nrm (Value.int IntKind.i64 q)] = eI q from rfl, eL_set]
  refine ⟨eI 0, hgz, by show 0 + 1 ≤ 1; omega, ?_⟩
  conv => whnf
  refine ⟨_, _, _, ⟨by rw [rowC_len (by omega)], rfl, rowC_pur (i := .l 108 4) rfl (by simp) (by omega)⟩, ?_⟩
  rw [hsz, rows_eq]
  have hrl2 : (rowsJ r.n.toNat n0 q j).length = M + 5 := by simp [rowsJ]; omega
  have hWok : WvOk r W := by
    subst hW
    exact ⟨by simp, fun i l p e1 e2 => by rw [List.eq_of_mem_replicate (List.mem_of_getElem? e2)]; exact fits_nil _⟩
  have hvol : volOk r.ls W (List.replicate r.ls.length 0) := by
    refine ⟨by simp, fun i l p x e1 e2 e3 => ?_⟩
    subst hW
    rw [List.eq_of_mem_replicate (List.mem_of_getElem? e2), List.eq_of_mem_replicate (List.mem_of_getElem? e3)]
    simp
  have hrows : ∀ l ∈ rowsJ r.n.toNat n0 q j, (l.length : Int) = r.n ∧ (∀ x ∈ l, 0 ≤ x) ∧ l.sum ≤ 5000 := fun l hl => by
    have hz : (List.replicate r.n.toNat (0 : Int)).sum = 0 := by have := rep_sum r.n.toNat 0; omega
    rcases List.mem_cons.1 hl with rfl | hl
    · refine ⟨by simp; omega, fun x hx => ?_, ?_⟩
      · rcases List.mem_or_eq_of_mem_set hx with hx | rfl
        · rw [List.eq_of_mem_replicate hx]; exact Int.le_refl _
        · exact hq1
      · have := tail_set (a := List.replicate r.n.toNat 0) (t := n0) (v := q) (by rw [List.length_replicate]; omega) 0
        unfold tailS at this
        rw [List.drop_zero, List.drop_zero, if_pos (Nat.zero_le _), gN_rep, Int.zero_add, hz] at this
        omega
    · rw [List.eq_of_mem_replicate hl]
      exact ⟨by simp; omega, fun x hx => by rw [List.eq_of_mem_replicate hx]; exact Int.le_refl _, by omega⟩
  have hv0 : (List.replicate r.ls.length (0 : Int)).sum = 0 := by have := rep_sum r.ls.length 0; omega
  obtain ⟨x, ra1, ra2⟩ := run_small (ls := rowsJ r.n.toNat n0 q j) (K := 1000000) (c := 5000) hok hWok hvol hrows (by omega) (by rw [hv0, hrl2]; omega) (by omega) (by omega)
  have hra : runJ r W (rowsJ r.n.toNat n0 q j) = .ok x := by rw [runJ, if_neg (by simp [wvE_of hok hWok]), if_neg (by omega)]; exact ra1
  obtain ⟨L1, L2, L3⟩ := trv_law hok (by omega) (by omega) hz hz2 (show z.2 ≤ (j : Int) by omega) (by rw [hW]; exact ra1)
  have hfv : vfin (rowsJ r.n.toNat n0 q j) := ⟨by omega, fun l hl => by have := (hrows l hl).1; omega⟩
  have hvw := (hWok.fin hok).1
  have hmx := eV_len x.2
  generalize rowsJ r.n.toNat n0 q j = rows at hra hfv
  conv => whnf
  refine ⟨r, W, rows, rfl, hfin, hvw, hfv, ?_⟩
  rw [hra]
  conv => whnf
  (repeat ((first | refine fork_t ?_ | refine fork_f ?_); (conv => whnf)))
  refine Fork.mk (fun h => ?_) (fun h => ?_)
  · exfalso; simp at h; omega
  clear h
  conv => whnf
  refine Fork.mk (fun h => ?_) (fun h => ?_)
  · exfalso; simp at h; omega
  clear h
  conv => whnf
  refine Fork.mk (fun h => ?_) (fun h => ?_)
  · exfalso; simp at h; omega
  clear h
  conv => whnf
  have hnn := nn_run hok hWok ra1
  have hacc := accJ_in (t := t0) hnn
  rw [L3] at hacc
  have hT : accJ x.2 t0 x.2.length = q := by rw [accJ_all, L3]
  refine ⟨Nat, fun i => ([(8, .c (.ptr (.l 8 1) 0)), (10, .c (.lst (eL P))), (12, I t0), (13, I z.1), (14, I z.2), (21, I q), (25, I (accJ x.2 t0 i)), (146, .c (.lst (eV x.2))), (147, I (eV x.2).length), (148, I i)], ⟨[(.l 8 1, .blk (rvC r))], 9, []⟩),
    fun i => i ≤ x.2.length, fun i => x.2.length - i, 0, Nat.zero_le _, Shift.reset ⟨rfl, rfl, rfl, rfl, rfl, rfl, rfl, rfl, rfl, rfl, trivial⟩ ⟨rfl, trivial⟩ rfl rfl, fun i hi => ?_⟩
  dsimp only
  conv => whnf
  refine Fork.mk (fun h => ?_) (fun h => ?_)
  rotate_left
  · have hie : i = x.2.length := by simp at h; omega
    clear h
    subst hie
    rw [hT]
    have hwq : IntKind.i64.wrap (q - ((eL P).length : Int)) = q - (eL P).length := wrap_in (by omega) (by omega)
    conv => whnf
    refine Fork.mk (fun h => ?_) (fun h => ?_)
    rotate_left
    · exfalso; simp at h
    clear h
    conv => whnf
    rw [hwq]
    refine Fork.mk (fun h => ?_) (fun h => ?_)
    rotate_left
    · exfalso; simp at h; omega
    clear h
    conv => whnf
    repeat' ((first | refine fork_t ?_ | refine fork_f ?_ | (refine Fork.mk (fun h => ?_) (fun h => ?_); focus (simp at h; done)) | refine ⟨rfl, ?_⟩ | fail) <;> (conv => whnf))
    rfl
  have hi2 : i < x.2.length := by simp at h; omega
  clear h
  have hci := List.getElem?_eq_getElem hi2
  generalize x.2[i] = a at hci
  obtain ⟨l1, l2⟩ := L2 i a hci
  have hna := accJ_next (t := t0) hci
  have ha1 := hacc i
  have ha2 := hacc (i + 1)
  have hmo := eL_len a
  have hga := gN_get (a := a) (j := t0) (by omega)
  have hw1 := wr_succ (i := i) (by omega)
  have hwa : IntKind.i64.wrap (accJ x.2 t0 i + gN a t0) = accJ x.2 t0 (i + 1) := by rw [hna, wrap_in (by omega) (by omega)]
  conv => whnf
  refine ⟨by omega, wvC a, by rw [Int.toNat_natCast, List.getElem?_map, hci]; rfl, rfl, ?_⟩
  conv => whnf
  refine Fork.mk (fun h => ?_) (fun h => ?_)
  · exfalso; simp at h; omega
  clear h
  conv => whnf
  have hge : (eL a)[(t0 : Int).toNat]? = some (eI (gN a t0)) := by rw [Int.toNat_natCast, List.getElem?_map, hga]; rfl
  refine Fork.mk (fun h => ?_) (fun h => ?_)
  · have hlt : (i : Int) < z.1 := by simpa using h
    have hz0' := l2 (.inl hlt)
    clear h
    conv => whnf
    refine ⟨by omega, eI (gN a t0), hge, rfl, ?_⟩
    conv => whnf
    refine Fork.mk (fun h => ?_) (fun h => ?_)
    · exfalso; simp at h; omega
    clear h
    conv => whnf
    refine Fork.mk (fun h => ?_) (fun h => ?_)
    · clear h
      conv => whnf
      refine ⟨by omega, eI (gN a t0), hge, rfl, ?_⟩
      conv => whnf
      rw [hwa, hw1]
      exact ⟨i + 1, hi2, Shift.reset ⟨rfl, rfl, rfl, rfl, rfl, rfl, rfl, rfl, rfl, rfl, trivial⟩ ⟨rfl, trivial⟩ rfl rfl, by omega⟩
    · have hgt : z.2 < i := by simp at h; omega
      have h0 := l2 (.inr hgt)
      have he : accJ x.2 t0 (i + 1) = accJ x.2 t0 i := by rw [hna, h0]; omega
      clear h
      conv => whnf
      rw [hw1, ← he]
      exact ⟨i + 1, hi2, Shift.reset ⟨rfl, rfl, rfl, rfl, rfl, rfl, rfl, rfl, rfl, rfl, trivial⟩ ⟨rfl, trivial⟩ rfl rfl, by omega⟩
  clear h
  conv => whnf
  refine fork_f ?_
  conv => whnf
  refine Fork.mk (fun h => ?_) (fun h => ?_)
  · clear h
    conv => whnf
    refine ⟨by omega, eI (gN a t0), hge, rfl, ?_⟩
    conv => whnf
    rw [hwa, hw1]
    exact ⟨i + 1, hi2, Shift.reset ⟨rfl, rfl, rfl, rfl, rfl, rfl, rfl, rfl, rfl, rfl, trivial⟩ ⟨rfl, trivial⟩ rfl rfl, by omega⟩
  · have hgt : z.2 < i := by simp at h; omega
    have h0 := l2 (.inr hgt)
    have he : accJ x.2 t0 (i + 1) = accJ x.2 t0 i := by rw [hna, h0]; omega
    clear h
    conv => whnf
    rw [hw1, ← he]
    exact ⟨i + 1, hi2, Shift.reset ⟨rfl, rfl, rfl, rfl, rfl, rfl, rfl, rfl, rfl, rfl, trivial⟩ ⟨rfl, trivial⟩ rfl rfl, by omega⟩
end Go.Proofs
