/- Proved here: what functions of the given program come to, for the statements of this chapter; no condition but those in the theorems. -/
import Derived.Test.YtagjajmkmambiaaX6b
namespace Go.Proofs
open Go Go.Abs
set_option linter.unusedSimpArgs false
set_option linter.unusedVariables false
set_option maxRecDepth 4000
def rkC (r : Ls × Int) : List Cell := [.lst (eL r.1), IC r.2]
def R_all16 : RT := fun args k => ∃ (ws0 : Ls) (den0 : Int) (pw rq l : Ls) (x : Int), args = [.agg [.lst (eL ws0), IC den0], .agg [.lst (eL pw)], .c (.lst (eL rq)), .c (.lst (eL l)), I x] ∧ ws0.length ≤ 9223372036854775807 ∧ pw.length ≤ 9223372036854775807 ∧ rq.length ≤ 9223372036854775807 ∧ l.length ≤ 9223372036854775807 ∧ k (Bo true)
set_option maxHeartbeats 4000000 in
theorem all_ok : FunR Try.prog 9 R_all16 := by
  intro args k h
  obtain ⟨ws0, den0, pw, rq, l, x, rfl, hw0, hpw, hrq, hl, hk⟩ := h
  have hm1 := eL_len ws0
  have hm2 := eL_len pw
  have hm3 := eL_len rq
  refine does_ex (qc := qc1) (np := [(13, [(0, 4), (1, 4)])]) (CK := ckK [(10, cN R_new), (11, cB R_reach), (12, cB R_wave), (17, cB R_flows), (18, cSc R_mod), (25, cB R_odd16), (20, cB R_next), (24, cSc R_lagE), (26, cSc R_lagE), (27, cSc R_rk), (28, cSc R_rk), (22, cSc R_valid), (29, cSc R_valid), (14, cSc R_held), (30, cSc R_held), (21, cPu R_stepA), (31, cPu R_stepA), (15, cSc R_wsame), (13, cPu R_run), (32, cPu R_run), (19, cSc R_same), (23, cPu R_pulS), (33, cPu R_pulS), (16, cSc R_true)]) mixed Try.func9 rfl rfl Try.ntmps9 Try.results9 τ_ok (by kernel_rfl) (ckK_ok ⟨cN_ok new_ok rfl, cB_ok reach_ok rfl, cB_ok wave_ok rfl, cB_ok flows_ok rfl, cSc_ok mod_ok, cB_ok odd_ok rfl, cB_ok next_ok rfl, cSc_ok lagE_ok, cSc_ok rlagE_ok, cSc_ok rk_ok, cSc_ok rrk_ok, cSc_ok pvalid_ok, cSc_ok valid_ok, cSc_ok held_ok, cSc_ok rheld_ok, cPu_ok stepA_ok rfl, cPu_ok rstepA_ok rfl, cSc_ok wsame_ok, cPu_ok run_ok rfl, cPu_ok rrun_ok rfl, cSc_ok same_ok, cPu_ok pulS_ok rfl, cPu_ok rpulS_ok rfl, cSc_ok awake_ok, trivial⟩) (by simp) ?_
  conv => whnf
  refine Fork.mk (fun h => ?_) (fun h => ?_)
  · conv => whnf
    repeat' ((first | refine fork_t ?_ | refine fork_f ?_ | (refine Fork.mk (fun h => ?_) (fun h => ?_); focus (simp at h; done))  | fail) <;> (conv => whnf))
    exact hk
  have hc0 : ws0.length ≤ 100 := by simp at h; omega
  clear h
  conv => whnf
  refine Fork.mk (fun h => ?_) (fun h => ?_)
  · conv => whnf
    repeat' ((first | refine fork_t ?_ | refine fork_f ?_ | (refine Fork.mk (fun h => ?_) (fun h => ?_); focus (simp at h; done))  | fail) <;> (conv => whnf))
    exact hk
  have hc1 : pw.length ≤ 100 := by simp at h; omega
  clear h
  conv => whnf
  refine Fork.mk (fun h => ?_) (fun h => ?_)
  · conv => whnf
    repeat' ((first | refine fork_t ?_ | refine fork_f ?_ | (refine Fork.mk (fun h => ?_) (fun h => ?_); focus (simp at h; done))  | fail) <;> (conv => whnf))
    exact hk
  have hc2 : rq.length ≤ 100 := by simp at h; omega
  clear h
  conv => whnf
  refine ⟨Nat, fun i => ([(2, .c (.lst (eL rq))), (3, .c (.lst (eL l))), (4, I x), (5, .c (.ptr (.l 5 0) 0)), (6, .c (.ptr (.l 6 1) 0)), (66, .c (.lst (eL pw))), (67, I (eL pw).length), (68, I i)], ⟨[(.l 5 0, .blk [.lst (eL ws0), IC den0]), (.l 6 1, .blk [.lst (eL pw)])], 10, []⟩),
    fun i => i ≤ pw.length ∧ ∀ p ∈ pw.take i, inH p, fun i => pw.length - i, 0, ⟨Nat.zero_le _, fun p hp => by simp at hp⟩,
    Shift.reset ⟨rfl, rfl, rfl, rfl, rfl, rfl, rfl, rfl, trivial⟩ ⟨rfl, rfl, trivial⟩ rfl rfl, fun i hi => ?_⟩
  obtain ⟨hi1, hi2⟩ := hi
  dsimp only
  conv => whnf
  have hi1' := hi1
  refine Fork.mk (fun h => ?_) (fun h => ?_)
  · have hi : i < pw.length := by simp at h; omega
    have hci := List.getElem?_eq_getElem hi
    have htk := List.take_append_getElem hi
    generalize pw[i] = p at hci htk
    have hw1 : IntKind.i64.wrap ((i : Int) + 1) = ((i + 1 : Nat) : Int) := by rw [wrap_in (by omega) (by omega)]; omega
    conv => whnf
    refine ⟨by omega, eI p, by rw [Int.toNat_natCast, List.getElem?_map, hci]; rfl, rfl, ?_⟩
    conv => whnf
    have brk : ∀ ps : Ls, ps = pw.take i → ps.length ≤ 100 ∧ ∀ p ∈ ps, inH p := fun ps e => by subst e; exact ⟨by rw [List.length_take]; omega, hi2⟩
    refine Fork.mk (fun h => ?_) (fun h => ?_)
    · clear h
      conv => whnf
      repeat (refine fork_t ?_; (conv => whnf))
      refine ⟨⟨by omega, by omega⟩, ?_⟩
      conv => whnf
      refine ⟨eL_all pw, ?_⟩
      rw [show List.drop ((0 : Nat) : Int).toNat (List.take ((i : Int)).toNat (eL pw)) = eL (pw.take i) by rw [Int.toNat_natCast, Int.toNat_natCast, eL_take]; rfl]
      obtain ⟨ps, hps⟩ : ∃ ps, ps = pw.take i := ⟨_, rfl⟩
      have hpl := brk ps hps
      rw [← hps]
      clear hps brk hi2 hi1 hi1'
      conv => whnf
      refine ⟨l, rfl, ?_⟩
      conv => whnf
      refine ⟨⟨l, 0⟩, rfl, ⟨Nat.zero_le _, hl⟩, fun ws1 den1 d hd hr1 hrl hrw => ?_⟩
      conv => whnf
      refine ⟨d, ws1, rfl, rfl, hd, hr1, fun w d hd hwf hws => ?_⟩
      conv => whnf
      refine ⟨d, rfl, hd, by omega, fun n0 d hd hn0 hn1 => ?_⟩
      obtain ⟨n0, rfl⟩ : ∃ j : Nat, n0 = j := ⟨n0.toNat, by omega⟩
      conv => whnf
      refine ⟨d, n0, rfl, hd, rfl, by omega, by omega, fun fl d hd hfl hfm => ?_⟩
      conv => whnf
      have hrk := rk_facts hr1
      refine ⟨d, ws1, den1, rfl, rfl, hd, ⟨hrk.1, by omega⟩, fun ws2 den2 d hd hl2 => ?_⟩
      conv => whnf
      obtain ⟨rs, hrs, hrn⟩ : ∃ rs : List (Ls × Int), rs = [(ws1, den1), (ws0, den0), (ws2, den2)] ∧ ∀ r ∈ rs, r.1.length ≤ 101 := ⟨_, rfl, fun z hz => by
        simp at hz
        rcases hz with rfl | rfl | rfl
        · dsimp only; omega
        · dsimp only; omega
        · exact hl2⟩
      have hwl : w.length ≤ 100 ∧ ∀ p ∈ w, inH p := by
        have := fits_facts hwf
        exact ⟨by omega, fun p hp => by have := this.2.2.1 p hp; exact ⟨by omega, by omega⟩⟩
      refine ⟨Nat, fun i => ([(2, .c (.lst (eL rq))), (4, I x), (6, .c (.ptr (.l 6 1) 0)), (15, .c (.ptr (.l 15 12) 0)), (16, .c (.lst (eL fl))), (101, .c (.view (.l 101 13) 0 3)), (102, I 3), (103, I i)], ⟨[(.l 6 1, .blk [.lst (eL ps)]), (.l 15 12, .blk [.lst (eL w)]), (.l 101 13, .arr 26 2 (rs.map rkC) false)], 30, []⟩),
        fun i => i ≤ 3, fun i => 3 - i, 0, Nat.zero_le _, ?_, fun i hi => ?_⟩
      · subst hrs
        exact Shift.reset ⟨rfl, rfl, rfl, rfl, rfl, rfl, rfl, rfl, trivial⟩ ⟨rfl, rfl, rfl, trivial⟩ rfl rfl
      have hrl3 : rs.length = 3 := by rw [hrs]; rfl
      clear hrs
      dsimp only
      conv => whnf
      refine Fork.mk (fun h => ?_) (fun h => ?_)
      rotate_left
      · conv => whnf
        exact hk
      have hi : i < 3 := by simp at h; omega
      clear h
      have hci := List.getElem?_eq_getElem (show i < rs.length by omega)
      have hz := hrn _ (List.getElem_mem (show i < rs.length by omega))
      generalize rs[i] = z at hci hz
      obtain ⟨ws, den⟩ := z
      dsimp only at hz
      have hw1 : IntKind.i64.wrap ((i : Int) + 1) = ((i + 1 : Nat) : Int) := by rw [wrap_in (by omega) (by omega)]; omega
      conv => whnf
      refine ⟨by omega, rfl, ?_⟩
      conv => whnf
      refine ⟨rkC (ws, den), by rw [Nat.zero_add, Int.toNat_natCast, List.getElem?_map, hci]; rfl, ?_⟩
      conv => whnf
      refine ⟨ws, den, rfl, by omega, ?_⟩
      conv => whnf
      refine ⟨ws, den, rfl, by omega, ?_⟩
      conv => whnf
      refine ⟨ws, rfl, by omega, ?_⟩
      conv => whnf
      refine ⟨ws, rfl, by omega, ?_⟩
      conv => whnf
      repeat' ((first | refine fork_t ?_ | refine fork_f ?_ | (refine Fork.mk (fun h => ?_) (fun h => ?_); focus (simp at h; done))  | fail) <;> (conv => whnf))
      obtain ⟨wv, hwv, hwn⟩ : ∃ wv : List Ls, wv = [w, ps, []] ∧ ∀ y ∈ wv, y.length ≤ 100 ∧ ∀ p ∈ y, inH p := ⟨_, rfl, fun y hy => by
        simp at hy
        rcases hy with rfl | rfl | rfl
        · exact hwl
        · exact hpl
        · exact ⟨by simp, fun p hp => by simp at hp⟩⟩
      refine ⟨Nat, fun j => ([(2, .c (.lst (eL rq))), (4, I x), (6, .c (.ptr (.l 6 1) 0)), (15, .c (.ptr (.l 15 12) 0)), (16, .c (.lst (eL fl))), (18, .c (.ptr (.l 18 30) 0)), (101, .c (.view (.l 101 13) 0 3)), (102, I 3), (103, I i), (142, .c (.view (.l 142 31) 0 3)), (143, I 3), (144, I j)], ⟨[(.l 6 1, .blk [.lst (eL ps)]), (.l 15 12, .blk [.lst (eL w)]), (.l 101 13, .arr 26 2 (rs.map rkC) false), (.l 18 30, .blk [.lst (eL ws), IC den]), (.l 142 31, .arr 29 1 (wv.map fun p => [.lst (eL p)]) false)], 60, []⟩),
        fun j => j ≤ 3, fun j => 3 - j, 0, Nat.zero_le _, ?_, fun j hj => ?_⟩
      · subst hwv
        exact Shift.reset ⟨rfl, rfl, rfl, rfl, rfl, rfl, rfl, rfl, rfl, rfl, rfl, rfl, trivial⟩ ⟨rfl, rfl, rfl, rfl, rfl, trivial⟩ rfl rfl
      have hwv3 : wv.length = 3 := by rw [hwv]; rfl
      clear hwv
      dsimp only
      conv => whnf
      refine Fork.mk (fun h => ?_) (fun h => ?_)
      rotate_left
      · conv => whnf
        refine ⟨by omega, ?_⟩
        conv => whnf
        obtain ⟨qs, hqs⟩ : ∃ qs : Ls, qs = [x, x % 100] := ⟨_, rfl⟩
        refine ⟨Nat, fun m => ([(2, .c (.lst (eL rq))), (4, I x), (6, .c (.ptr (.l 6 1) 0)), (15, .c (.ptr (.l 15 12) 0)), (16, .c (.lst (eL fl))), (18, .c (.ptr (.l 18 30) 0)), (101, .c (.view (.l 101 13) 0 3)), (102, I 3), (103, I i), (246, .c (.view (.l 246 60) 0 2)), (247, I 2), (248, I m)], ⟨[(.l 6 1, .blk [.lst (eL ps)]), (.l 15 12, .blk [.lst (eL w)]), (.l 101 13, .arr 26 2 (rs.map rkC) false), (.l 18 30, .blk [.lst (eL ws), IC den]), (.l 246 60, .arr 3 1 (eL qs) false)], 100, []⟩),
          fun m => m ≤ 2, fun m => 2 - m, 0, Nat.zero_le _, ?_, fun m hm => ?_⟩
        · subst hqs
          exact Shift.reset ⟨rfl, rfl, rfl, rfl, rfl, rfl, rfl, rfl, rfl, rfl, rfl, rfl, trivial⟩ ⟨rfl, rfl, rfl, rfl, rfl, trivial⟩ rfl rfl
        have hqn : qs.length = 2 := by rw [hqs]; rfl
        clear hqs
        dsimp only
        conv => whnf
        refine Fork.mk (fun h => ?_) (fun h => ?_)
        rotate_left
        · conv => whnf
          rw [hw1]
          exact ⟨i + 1, hi, Shift.reset ⟨rfl, rfl, rfl, rfl, rfl, rfl, rfl, rfl, trivial⟩ ⟨rfl, rfl, rfl, trivial⟩ rfl rfl, by omega⟩
        have hm' : m < 2 := by simp at h; omega
        clear h
        have hcm := List.getElem?_eq_getElem (show m < qs.length by omega)
        generalize qs[m] = q at hcm
        have hw3 : IntKind.i64.wrap ((m : Int) + 1) = ((m + 1 : Nat) : Int) := by rw [wrap_in (by omega) (by omega)]; omega
        conv => whnf
        refine ⟨by omega, rfl, ?_⟩
        conv => whnf
        refine ⟨eI q, by rw [Nat.zero_add, Int.toNat_natCast, List.getElem?_map, hcm]; rfl, ?_⟩
        conv => whnf
        have hpo : (pulS ws den q).1.length ≤ 9223372036854775807 := Nat.le_trans rkRun_out (by rw [List.length_cons, List.length_replicate]; unfold mx1; split <;> omega)
        refine ⟨ws, den, q, rfl, by omega, ?_⟩
        conv => whnf
        refine ⟨ws, den, q, rfl, by omega, ?_⟩
        conv => whnf
        repeat' ((first | refine fork_t ?_ | refine fork_f ?_ | (refine Fork.mk (fun h => ?_) (fun h => ?_); focus (simp at h; done))  | refine ⟨(pulS ws den q).1, (pulS ws den q).1, rfl, rfl, hpo, ?_⟩ | fail) <;> (conv => whnf))
        rw [hw3]
        exact ⟨m + 1, hm', Shift.reset ⟨rfl, rfl, rfl, rfl, rfl, rfl, rfl, rfl, rfl, rfl, rfl, rfl, trivial⟩ ⟨rfl, rfl, rfl, rfl, rfl, trivial⟩ rfl rfl, by omega⟩
      have hj : j < 3 := by simp at h; omega
      clear h
      have hcj := List.getElem?_eq_getElem (show j < wv.length by omega)
      have hy := hwn _ (List.getElem_mem (show j < wv.length by omega))
      generalize wv[j] = y at hcj hy
      have hw2 : IntKind.i64.wrap ((j : Int) + 1) = ((j + 1 : Nat) : Int) := by rw [wrap_in (by omega) (by omega)]; omega
      conv => whnf
      refine ⟨by omega, rfl, ?_⟩
      conv => whnf
      refine ⟨[.lst (eL y)], by rw [Nat.zero_add, Int.toNat_natCast, List.getElem?_map, hcj]; rfl, ?_⟩
      conv => whnf
      refine ⟨ws, y, rfl, rfl, by omega, by omega, ?_⟩
      conv => whnf
      refine ⟨ws, y, rfl, rfl, by omega, by omega, ?_⟩
      conv => whnf
      repeat' ((first | refine fork_t ?_ | refine fork_f ?_ | (refine Fork.mk (fun h => ?_) (fun h => ?_); focus (simp at h; done))  | refine ⟨y, rfl, by omega, hy.2, ?_⟩ | fail) <;> (conv => whnf))
      refine ⟨by omega, ?_⟩
      conv => whnf
      obtain ⟨qs, hqs⟩ : ∃ qs : Ls, qs = [x, x % 40] := ⟨_, rfl⟩
      refine ⟨Nat, fun m => ([(2, .c (.lst (eL rq))), (4, I x), (6, .c (.ptr (.l 6 1) 0)), (15, .c (.ptr (.l 15 12) 0)), (16, .c (.lst (eL fl))), (18, .c (.ptr (.l 18 30) 0)), (26, .c (.ptr (.l 26 60) 0)), (101, .c (.view (.l 101 13) 0 3)), (102, I 3), (103, I i), (142, .c (.view (.l 142 31) 0 3)), (143, I 3), (144, I j), (165, .c (.view (.l 165 61) 0 2)), (166, I 2), (167, I m)], ⟨[(.l 6 1, .blk [.lst (eL ps)]), (.l 15 12, .blk [.lst (eL w)]), (.l 101 13, .arr 26 2 (rs.map rkC) false), (.l 18 30, .blk [.lst (eL ws), IC den]), (.l 142 31, .arr 29 1 (wv.map fun p => [.lst (eL p)]) false), (.l 26 60, .blk [.lst (eL y)]), (.l 165 61, .arr 3 1 (eL qs) false)], 100, []⟩),
        fun m => m ≤ 2, fun m => 2 - m, 0, Nat.zero_le _, ?_, fun m hm => ?_⟩
      · subst hqs
        exact Shift.reset ⟨rfl, rfl, rfl, rfl, rfl, rfl, rfl, rfl, rfl, rfl, rfl, rfl, rfl, rfl, rfl, rfl, trivial⟩ ⟨rfl, rfl, rfl, rfl, rfl, rfl, rfl, trivial⟩ rfl rfl
      have hqn : qs.length = 2 := by rw [hqs]; rfl
      clear hqs
      dsimp only
      conv => whnf
      refine Fork.mk (fun h => ?_) (fun h => ?_)
      · have hm' : m < 2 := by simp at h; omega
        clear h
        have hcm := List.getElem?_eq_getElem (show m < qs.length by omega)
        generalize qs[m] = q at hcm
        have hw3 : IntKind.i64.wrap ((m : Int) + 1) = ((m + 1 : Nat) : Int) := by rw [wrap_in (by omega) (by omega)]; omega
        have hsp := rkStep_par (ws := ws) (den := den) (ps := y) (q := q)
        conv => whnf
        refine ⟨by omega, rfl, ?_⟩
        conv => whnf
        refine ⟨eI q, by rw [Nat.zero_add, Int.toNat_natCast, List.getElem?_map, hcm]; rfl, ?_⟩
        conv => whnf
        refine ⟨ws, y, rfl, rfl, by omega, by omega, ?_⟩
        conv => whnf
        refine ⟨ws, y, rfl, rfl, by omega, by omega, ?_⟩
        conv => whnf
        repeat' ((first | refine fork_t ?_ | refine fork_f ?_ | (refine Fork.mk (fun h => ?_) (fun h => ?_); focus (simp at h; done))  | refine ⟨(rkStep ws den y q).1, (rkStep ws den y q).1, rfl, rfl, by omega, ?_⟩ | fail) <;> (conv => whnf))
        rw [hw3]
        exact ⟨m + 1, hm', Shift.reset ⟨rfl, rfl, rfl, rfl, rfl, rfl, rfl, rfl, rfl, rfl, rfl, rfl, rfl, rfl, rfl, rfl, trivial⟩ ⟨rfl, rfl, rfl, rfl, rfl, rfl, rfl, trivial⟩ rfl rfl, by omega⟩
      clear h
      conv => whnf
      obtain ⟨zs, hzs, hzn⟩ : ∃ zs : List Ls, zs = [fl, rq] ∧ ∀ z ∈ zs, z.length ≤ 100 := ⟨_, rfl, fun z hz => by
        simp at hz
        rcases hz with rfl | rfl
        · omega
        · exact hc2⟩
      refine ⟨Nat, fun m => ([(2, .c (.lst (eL rq))), (4, I x), (6, .c (.ptr (.l 6 1) 0)), (15, .c (.ptr (.l 15 12) 0)), (16, .c (.lst (eL fl))), (18, .c (.ptr (.l 18 30) 0)), (26, .c (.ptr (.l 26 60) 0)), (101, .c (.view (.l 101 13) 0 3)), (102, I 3), (103, I i), (142, .c (.view (.l 142 31) 0 3)), (143, I 3), (144, I j), (204, .c (.view (.l 204 100) 0 2)), (205, I 2), (206, I m)], ⟨[(.l 6 1, .blk [.lst (eL ps)]), (.l 15 12, .blk [.lst (eL w)]), (.l 101 13, .arr 26 2 (rs.map rkC) false), (.l 18 30, .blk [.lst (eL ws), IC den]), (.l 142 31, .arr 29 1 (wv.map fun p => [.lst (eL p)]) false), (.l 26 60, .blk [.lst (eL y)]), (.l 204 100, .arr 22 1 (zs.map fun p => [.lst (eL p)]) false)], 200, []⟩),
        fun m => m ≤ 2, fun m => 2 - m, 0, Nat.zero_le _, ?_, fun m hm => ?_⟩
      · subst hzs
        exact Shift.reset ⟨rfl, rfl, rfl, rfl, rfl, rfl, rfl, rfl, rfl, rfl, rfl, rfl, rfl, rfl, rfl, rfl, trivial⟩ ⟨rfl, rfl, rfl, rfl, rfl, rfl, rfl, trivial⟩ rfl rfl
      have hzl : zs.length = 2 := by rw [hzs]; rfl
      clear hzs
      dsimp only
      conv => whnf
      refine Fork.mk (fun h => ?_) (fun h => ?_)
      rotate_left
      · conv => whnf
        rw [hw2]
        exact ⟨j + 1, hj, Shift.reset ⟨rfl, rfl, rfl, rfl, rfl, rfl, rfl, rfl, rfl, rfl, rfl, rfl, trivial⟩ ⟨rfl, rfl, rfl, rfl, rfl, trivial⟩ rfl rfl, by omega⟩
      have hm' : m < 2 := by simp at h; omega
      clear h
      have hcm := List.getElem?_eq_getElem (show m < zs.length by omega)
      have hq := hzn _ (List.getElem_mem (show m < zs.length by omega))
      generalize zs[m] = q at hcm hq
      have hw3 : IntKind.i64.wrap ((m : Int) + 1) = ((m + 1 : Nat) : Int) := by rw [wrap_in (by omega) (by omega)]; omega
      have hro := rkRun_out (ws := ws) (den := den) (ps := y) (qs := q)
      have hrp := rkRun_par (ws := ws) (den := den) (ps := y) (qs := q)
      conv => whnf
      refine ⟨by omega, rfl, ?_⟩
      conv => whnf
      refine ⟨[.lst (eL q)], by rw [Nat.zero_add, Int.toNat_natCast, List.getElem?_map, hcm]; rfl, ?_⟩
      conv => whnf
      refine ⟨ws, y, q, rfl, rfl, rfl, by omega, by omega, by omega, ?_⟩
      conv => whnf
      refine ⟨ws, y, q, rfl, rfl, rfl, by omega, by omega, by omega, ?_⟩
      conv => whnf
      repeat' ((first | refine fork_t ?_ | refine fork_f ?_ | (refine Fork.mk (fun h => ?_) (fun h => ?_); focus (simp at h; done))  | refine ⟨(rkRun ws den y q).2.1, (rkRun ws den y q).2.1, rfl, rfl, by omega, ?_⟩ | refine ⟨(rkRun ws den y q).1, (rkRun ws den y q).1, rfl, rfl, by omega, ?_⟩ | fail) <;> (conv => whnf))
      rw [hw3]
      exact ⟨m + 1, hm', Shift.reset ⟨rfl, rfl, rfl, rfl, rfl, rfl, rfl, rfl, rfl, rfl, rfl, rfl, rfl, rfl, rfl, rfl, trivial⟩ ⟨rfl, rfl, rfl, rfl, rfl, rfl, rfl, trivial⟩ rfl rfl, by omega⟩
    have h1 : p ≤ 36028797018963968 := by simp at h; omega
    conv => whnf
    refine Fork.mk (fun h => ?_) (fun h => ?_)
    · clear h
      conv => whnf
      repeat (refine fork_t ?_; (conv => whnf))
      refine ⟨⟨by omega, by omega⟩, ?_⟩
      conv => whnf
      refine ⟨eL_all pw, ?_⟩
      rw [show List.drop ((0 : Nat) : Int).toNat (List.take ((i : Int)).toNat (eL pw)) = eL (pw.take i) by rw [Int.toNat_natCast, Int.toNat_natCast, eL_take]; rfl]
      obtain ⟨ps, hps⟩ : ∃ ps, ps = pw.take i := ⟨_, rfl⟩
      have hpl := brk ps hps
      rw [← hps]
      clear hps brk hi2 hi1 hi1'
      conv => whnf
      refine ⟨l, rfl, ?_⟩
      conv => whnf
      refine ⟨⟨l, 0⟩, rfl, ⟨Nat.zero_le _, hl⟩, fun ws1 den1 d hd hr1 hrl hrw => ?_⟩
      conv => whnf
      refine ⟨d, ws1, rfl, rfl, hd, hr1, fun w d hd hwf hws => ?_⟩
      conv => whnf
      refine ⟨d, rfl, hd, by omega, fun n0 d hd hn0 hn1 => ?_⟩
      obtain ⟨n0, rfl⟩ : ∃ j : Nat, n0 = j := ⟨n0.toNat, by omega⟩
      conv => whnf
      refine ⟨d, n0, rfl, hd, rfl, by omega, by omega, fun fl d hd hfl hfm => ?_⟩
      conv => whnf
      have hrk := rk_facts hr1
      refine ⟨d, ws1, den1, rfl, rfl, hd, ⟨hrk.1, by omega⟩, fun ws2 den2 d hd hl2 => ?_⟩
      conv => whnf
      obtain ⟨rs, hrs, hrn⟩ : ∃ rs : List (Ls × Int), rs = [(ws1, den1), (ws0, den0), (ws2, den2)] ∧ ∀ r ∈ rs, r.1.length ≤ 101 := ⟨_, rfl, fun z hz => by
        simp at hz
        rcases hz with rfl | rfl | rfl
        · dsimp only; omega
        · dsimp only; omega
        · exact hl2⟩
      have hwl : w.length ≤ 100 ∧ ∀ p ∈ w, inH p := by
        have := fits_facts hwf
        exact ⟨by omega, fun p hp => by have := this.2.2.1 p hp; exact ⟨by omega, by omega⟩⟩
      refine ⟨Nat, fun i => ([(2, .c (.lst (eL rq))), (4, I x), (6, .c (.ptr (.l 6 1) 0)), (15, .c (.ptr (.l 15 12) 0)), (16, .c (.lst (eL fl))), (101, .c (.view (.l 101 13) 0 3)), (102, I 3), (103, I i)], ⟨[(.l 6 1, .blk [.lst (eL ps)]), (.l 15 12, .blk [.lst (eL w)]), (.l 101 13, .arr 26 2 (rs.map rkC) false)], 30, []⟩),
        fun i => i ≤ 3, fun i => 3 - i, 0, Nat.zero_le _, ?_, fun i hi => ?_⟩
      · subst hrs
        exact Shift.reset ⟨rfl, rfl, rfl, rfl, rfl, rfl, rfl, rfl, trivial⟩ ⟨rfl, rfl, rfl, trivial⟩ rfl rfl
      have hrl3 : rs.length = 3 := by rw [hrs]; rfl
      clear hrs
      dsimp only
      conv => whnf
      refine Fork.mk (fun h => ?_) (fun h => ?_)
      rotate_left
      · conv => whnf
        exact hk
      have hi : i < 3 := by simp at h; omega
      clear h
      have hci := List.getElem?_eq_getElem (show i < rs.length by omega)
      have hz := hrn _ (List.getElem_mem (show i < rs.length by omega))
      generalize rs[i] = z at hci hz
      obtain ⟨ws, den⟩ := z
      dsimp only at hz
      have hw1 : IntKind.i64.wrap ((i : Int) + 1) = ((i + 1 : Nat) : Int) := by rw [wrap_in (by omega) (by omega)]; omega
      conv => whnf
      refine ⟨by omega, rfl, ?_⟩
      conv => whnf
      refine ⟨rkC (ws, den), by rw [Nat.zero_add, Int.toNat_natCast, List.getElem?_map, hci]; rfl, ?_⟩
      conv => whnf
      refine ⟨ws, den, rfl, by omega, ?_⟩
      conv => whnf
      refine ⟨ws, den, rfl, by omega, ?_⟩
      conv => whnf
      refine ⟨ws, rfl, by omega, ?_⟩
      conv => whnf
      refine ⟨ws, rfl, by omega, ?_⟩
      conv => whnf
      repeat' ((first | refine fork_t ?_ | refine fork_f ?_ | (refine Fork.mk (fun h => ?_) (fun h => ?_); focus (simp at h; done))  | fail) <;> (conv => whnf))
      obtain ⟨wv, hwv, hwn⟩ : ∃ wv : List Ls, wv = [w, ps, []] ∧ ∀ y ∈ wv, y.length ≤ 100 ∧ ∀ p ∈ y, inH p := ⟨_, rfl, fun y hy => by
        simp at hy
        rcases hy with rfl | rfl | rfl
        · exact hwl
        · exact hpl
        · exact ⟨by simp, fun p hp => by simp at hp⟩⟩
      refine ⟨Nat, fun j => ([(2, .c (.lst (eL rq))), (4, I x), (6, .c (.ptr (.l 6 1) 0)), (15, .c (.ptr (.l 15 12) 0)), (16, .c (.lst (eL fl))), (18, .c (.ptr (.l 18 30) 0)), (101, .c (.view (.l 101 13) 0 3)), (102, I 3), (103, I i), (142, .c (.view (.l 142 31) 0 3)), (143, I 3), (144, I j)], ⟨[(.l 6 1, .blk [.lst (eL ps)]), (.l 15 12, .blk [.lst (eL w)]), (.l 101 13, .arr 26 2 (rs.map rkC) false), (.l 18 30, .blk [.lst (eL ws), IC den]), (.l 142 31, .arr 29 1 (wv.map fun p => [.lst (eL p)]) false)], 60, []⟩),
        fun j => j ≤ 3, fun j => 3 - j, 0, Nat.zero_le _, ?_, fun j hj => ?_⟩
      · subst hwv
        exact Shift.reset ⟨rfl, rfl, rfl, rfl, rfl, rfl, rfl, rfl, rfl, rfl, rfl, rfl, trivial⟩ ⟨rfl, rfl, rfl, rfl, rfl, trivial⟩ rfl rfl
      have hwv3 : wv.length = 3 := by rw [hwv]; rfl
      clear hwv
      dsimp only
      conv => whnf
      refine Fork.mk (fun h => ?_) (fun h => ?_)
      rotate_left
      · conv => whnf
        refine ⟨by omega, ?_⟩
        conv => whnf
        obtain ⟨qs, hqs⟩ : ∃ qs : Ls, qs = [x, x % 100] := ⟨_, rfl⟩
        refine ⟨Nat, fun m => ([(2, .c (.lst (eL rq))), (4, I x), (6, .c (.ptr (.l 6 1) 0)), (15, .c (.ptr (.l 15 12) 0)), (16, .c (.lst (eL fl))), (18, .c (.ptr (.l 18 30) 0)), (101, .c (.view (.l 101 13) 0 3)), (102, I 3), (103, I i), (246, .c (.view (.l 246 60) 0 2)), (247, I 2), (248, I m)], ⟨[(.l 6 1, .blk [.lst (eL ps)]), (.l 15 12, .blk [.lst (eL w)]), (.l 101 13, .arr 26 2 (rs.map rkC) false), (.l 18 30, .blk [.lst (eL ws), IC den]), (.l 246 60, .arr 3 1 (eL qs) false)], 100, []⟩),
          fun m => m ≤ 2, fun m => 2 - m, 0, Nat.zero_le _, ?_, fun m hm => ?_⟩
        · subst hqs
          exact Shift.reset ⟨rfl, rfl, rfl, rfl, rfl, rfl, rfl, rfl, rfl, rfl, rfl, rfl, trivial⟩ ⟨rfl, rfl, rfl, rfl, rfl, trivial⟩ rfl rfl
        have hqn : qs.length = 2 := by rw [hqs]; rfl
        clear hqs
        dsimp only
        conv => whnf
        refine Fork.mk (fun h => ?_) (fun h => ?_)
        rotate_left
        · conv => whnf
          rw [hw1]
          exact ⟨i + 1, hi, Shift.reset ⟨rfl, rfl, rfl, rfl, rfl, rfl, rfl, rfl, trivial⟩ ⟨rfl, rfl, rfl, trivial⟩ rfl rfl, by omega⟩
        have hm' : m < 2 := by simp at h; omega
        clear h
        have hcm := List.getElem?_eq_getElem (show m < qs.length by omega)
        generalize qs[m] = q at hcm
        have hw3 : IntKind.i64.wrap ((m : Int) + 1) = ((m + 1 : Nat) : Int) := by rw [wrap_in (by omega) (by omega)]; omega
        conv => whnf
        refine ⟨by omega, rfl, ?_⟩
        conv => whnf
        refine ⟨eI q, by rw [Nat.zero_add, Int.toNat_natCast, List.getElem?_map, hcm]; rfl, ?_⟩
        conv => whnf
        have hpo : (pulS ws den q).1.length ≤ 9223372036854775807 := Nat.le_trans rkRun_out (by rw [List.length_cons, List.length_replicate]; unfold mx1; split <;> omega)
        refine ⟨ws, den, q, rfl, by omega, ?_⟩
        conv => whnf
        refine ⟨ws, den, q, rfl, by omega, ?_⟩
        conv => whnf
        repeat' ((first | refine fork_t ?_ | refine fork_f ?_ | (refine Fork.mk (fun h => ?_) (fun h => ?_); focus (simp at h; done))  | refine ⟨(pulS ws den q).1, (pulS ws den q).1, rfl, rfl, hpo, ?_⟩ | fail) <;> (conv => whnf))
        rw [hw3]
        exact ⟨m + 1, hm', Shift.reset ⟨rfl, rfl, rfl, rfl, rfl, rfl, rfl, rfl, rfl, rfl, rfl, rfl, trivial⟩ ⟨rfl, rfl, rfl, rfl, rfl, trivial⟩ rfl rfl, by omega⟩
      have hj : j < 3 := by simp at h; omega
      clear h
      have hcj := List.getElem?_eq_getElem (show j < wv.length by omega)
      have hy := hwn _ (List.getElem_mem (show j < wv.length by omega))
      generalize wv[j] = y at hcj hy
      have hw2 : IntKind.i64.wrap ((j : Int) + 1) = ((j + 1 : Nat) : Int) := by rw [wrap_in (by omega) (by omega)]; omega
      conv => whnf
      refine ⟨by omega, rfl, ?_⟩
      conv => whnf
      refine ⟨[.lst (eL y)], by rw [Nat.zero_add, Int.toNat_natCast, List.getElem?_map, hcj]; rfl, ?_⟩
      conv => whnf
      refine ⟨ws, y, rfl, rfl, by omega, by omega, ?_⟩
      conv => whnf
      refine ⟨ws, y, rfl, rfl, by omega, by omega, ?_⟩
      conv => whnf
      repeat' ((first | refine fork_t ?_ | refine fork_f ?_ | (refine Fork.mk (fun h => ?_) (fun h => ?_); focus (simp at h; done))  | refine ⟨y, rfl, by omega, hy.2, ?_⟩ | fail) <;> (conv => whnf))
      refine ⟨by omega, ?_⟩
      conv => whnf
      obtain ⟨qs, hqs⟩ : ∃ qs : Ls, qs = [x, x % 40] := ⟨_, rfl⟩
      refine ⟨Nat, fun m => ([(2, .c (.lst (eL rq))), (4, I x), (6, .c (.ptr (.l 6 1) 0)), (15, .c (.ptr (.l 15 12) 0)), (16, .c (.lst (eL fl))), (18, .c (.ptr (.l 18 30) 0)), (26, .c (.ptr (.l 26 60) 0)), (101, .c (.view (.l 101 13) 0 3)), (102, I 3), (103, I i), (142, .c (.view (.l 142 31) 0 3)), (143, I 3), (144, I j), (165, .c (.view (.l 165 61) 0 2)), (166, I 2), (167, I m)], ⟨[(.l 6 1, .blk [.lst (eL ps)]), (.l 15 12, .blk [.lst (eL w)]), (.l 101 13, .arr 26 2 (rs.map rkC) false), (.l 18 30, .blk [.lst (eL ws), IC den]), (.l 142 31, .arr 29 1 (wv.map fun p => [.lst (eL p)]) false), (.l 26 60, .blk [.lst (eL y)]), (.l 165 61, .arr 3 1 (eL qs) false)], 100, []⟩),
        fun m => m ≤ 2, fun m => 2 - m, 0, Nat.zero_le _, ?_, fun m hm => ?_⟩
      · subst hqs
        exact Shift.reset ⟨rfl, rfl, rfl, rfl, rfl, rfl, rfl, rfl, rfl, rfl, rfl, rfl, rfl, rfl, rfl, rfl, trivial⟩ ⟨rfl, rfl, rfl, rfl, rfl, rfl, rfl, trivial⟩ rfl rfl
      have hqn : qs.length = 2 := by rw [hqs]; rfl
      clear hqs
      dsimp only
      conv => whnf
      refine Fork.mk (fun h => ?_) (fun h => ?_)
      · have hm' : m < 2 := by simp at h; omega
        clear h
        have hcm := List.getElem?_eq_getElem (show m < qs.length by omega)
        generalize qs[m] = q at hcm
        have hw3 : IntKind.i64.wrap ((m : Int) + 1) = ((m + 1 : Nat) : Int) := by rw [wrap_in (by omega) (by omega)]; omega
        have hsp := rkStep_par (ws := ws) (den := den) (ps := y) (q := q)
        conv => whnf
        refine ⟨by omega, rfl, ?_⟩
        conv => whnf
        refine ⟨eI q, by rw [Nat.zero_add, Int.toNat_natCast, List.getElem?_map, hcm]; rfl, ?_⟩
        conv => whnf
        refine ⟨ws, y, rfl, rfl, by omega, by omega, ?_⟩
        conv => whnf
        refine ⟨ws, y, rfl, rfl, by omega, by omega, ?_⟩
        conv => whnf
        repeat' ((first | refine fork_t ?_ | refine fork_f ?_ | (refine Fork.mk (fun h => ?_) (fun h => ?_); focus (simp at h; done))  | refine ⟨(rkStep ws den y q).1, (rkStep ws den y q).1, rfl, rfl, by omega, ?_⟩ | fail) <;> (conv => whnf))
        rw [hw3]
        exact ⟨m + 1, hm', Shift.reset ⟨rfl, rfl, rfl, rfl, rfl, rfl, rfl, rfl, rfl, rfl, rfl, rfl, rfl, rfl, rfl, rfl, trivial⟩ ⟨rfl, rfl, rfl, rfl, rfl, rfl, rfl, trivial⟩ rfl rfl, by omega⟩
      clear h
      conv => whnf
      obtain ⟨zs, hzs, hzn⟩ : ∃ zs : List Ls, zs = [fl, rq] ∧ ∀ z ∈ zs, z.length ≤ 100 := ⟨_, rfl, fun z hz => by
        simp at hz
        rcases hz with rfl | rfl
        · omega
        · exact hc2⟩
      refine ⟨Nat, fun m => ([(2, .c (.lst (eL rq))), (4, I x), (6, .c (.ptr (.l 6 1) 0)), (15, .c (.ptr (.l 15 12) 0)), (16, .c (.lst (eL fl))), (18, .c (.ptr (.l 18 30) 0)), (26, .c (.ptr (.l 26 60) 0)), (101, .c (.view (.l 101 13) 0 3)), (102, I 3), (103, I i), (142, .c (.view (.l 142 31) 0 3)), (143, I 3), (144, I j), (204, .c (.view (.l 204 100) 0 2)), (205, I 2), (206, I m)], ⟨[(.l 6 1, .blk [.lst (eL ps)]), (.l 15 12, .blk [.lst (eL w)]), (.l 101 13, .arr 26 2 (rs.map rkC) false), (.l 18 30, .blk [.lst (eL ws), IC den]), (.l 142 31, .arr 29 1 (wv.map fun p => [.lst (eL p)]) false), (.l 26 60, .blk [.lst (eL y)]), (.l 204 100, .arr 22 1 (zs.map fun p => [.lst (eL p)]) false)], 200, []⟩),
        fun m => m ≤ 2, fun m => 2 - m, 0, Nat.zero_le _, ?_, fun m hm => ?_⟩
      · subst hzs
        exact Shift.reset ⟨rfl, rfl, rfl, rfl, rfl, rfl, rfl, rfl, rfl, rfl, rfl, rfl, rfl, rfl, rfl, rfl, trivial⟩ ⟨rfl, rfl, rfl, rfl, rfl, rfl, rfl, trivial⟩ rfl rfl
      have hzl : zs.length = 2 := by rw [hzs]; rfl
      clear hzs
      dsimp only
      conv => whnf
      refine Fork.mk (fun h => ?_) (fun h => ?_)
      rotate_left
      · conv => whnf
        rw [hw2]
        exact ⟨j + 1, hj, Shift.reset ⟨rfl, rfl, rfl, rfl, rfl, rfl, rfl, rfl, rfl, rfl, rfl, rfl, trivial⟩ ⟨rfl, rfl, rfl, rfl, rfl, trivial⟩ rfl rfl, by omega⟩
      have hm' : m < 2 := by simp at h; omega
      clear h
      have hcm := List.getElem?_eq_getElem (show m < zs.length by omega)
      have hq := hzn _ (List.getElem_mem (show m < zs.length by omega))
      generalize zs[m] = q at hcm hq
      have hw3 : IntKind.i64.wrap ((m : Int) + 1) = ((m + 1 : Nat) : Int) := by rw [wrap_in (by omega) (by omega)]; omega
      have hro := rkRun_out (ws := ws) (den := den) (ps := y) (qs := q)
      have hrp := rkRun_par (ws := ws) (den := den) (ps := y) (qs := q)
      conv => whnf
      refine ⟨by omega, rfl, ?_⟩
      conv => whnf
      refine ⟨[.lst (eL q)], by rw [Nat.zero_add, Int.toNat_natCast, List.getElem?_map, hcm]; rfl, ?_⟩
      conv => whnf
      refine ⟨ws, y, q, rfl, rfl, rfl, by omega, by omega, by omega, ?_⟩
      conv => whnf
      refine ⟨ws, y, q, rfl, rfl, rfl, by omega, by omega, by omega, ?_⟩
      conv => whnf
      repeat' ((first | refine fork_t ?_ | refine fork_f ?_ | (refine Fork.mk (fun h => ?_) (fun h => ?_); focus (simp at h; done))  | refine ⟨(rkRun ws den y q).2.1, (rkRun ws den y q).2.1, rfl, rfl, by omega, ?_⟩ | refine ⟨(rkRun ws den y q).1, (rkRun ws den y q).1, rfl, rfl, by omega, ?_⟩ | fail) <;> (conv => whnf))
      rw [hw3]
      exact ⟨m + 1, hm', Shift.reset ⟨rfl, rfl, rfl, rfl, rfl, rfl, rfl, rfl, rfl, rfl, rfl, rfl, rfl, rfl, rfl, rfl, trivial⟩ ⟨rfl, rfl, rfl, rfl, rfl, rfl, rfl, trivial⟩ rfl rfl, by omega⟩
    have h2 : -36028797018963968 ≤ p := by simp at h; omega
    conv => whnf
    rw [hw1]
    refine ⟨i + 1, ⟨hi, fun y hy => ?_⟩, Shift.reset ⟨rfl, rfl, rfl, rfl, rfl, rfl, rfl, rfl, trivial⟩ ⟨rfl, rfl, trivial⟩ rfl rfl, by omega⟩
    rw [← htk] at hy
    rcases List.mem_append.1 hy with hy | hy
    · exact hi2 y hy
    · simp at hy; subst hy; exact ⟨h2, h1⟩
  have hie : i = pw.length := by simp at h; omega
  subst hie
  rw [List.take_length] at hi2
  obtain ⟨ps, hps⟩ : ∃ ps, ps = pw := ⟨_, rfl⟩
  have hpl : ps.length ≤ 100 ∧ ∀ p ∈ ps, inH p := by rw [hps]; exact ⟨hc1, hi2⟩
  rw [← hps]
  clear hps hi2 h hi1 hi1'
  conv => whnf
  refine ⟨l, rfl, ?_⟩
  conv => whnf
  refine ⟨⟨l, 0⟩, rfl, ⟨Nat.zero_le _, hl⟩, fun ws1 den1 d hd hr1 hrl hrw => ?_⟩
  conv => whnf
  refine ⟨d, ws1, rfl, rfl, hd, hr1, fun w d hd hwf hws => ?_⟩
  conv => whnf
  refine ⟨d, rfl, hd, by omega, fun n0 d hd hn0 hn1 => ?_⟩
  obtain ⟨n0, rfl⟩ : ∃ j : Nat, n0 = j := ⟨n0.toNat, by omega⟩
  conv => whnf
  refine ⟨d, n0, rfl, hd, rfl, by omega, by omega, fun fl d hd hfl hfm => ?_⟩
  conv => whnf
  have hrk := rk_facts hr1
  refine ⟨d, ws1, den1, rfl, rfl, hd, ⟨hrk.1, by omega⟩, fun ws2 den2 d hd hl2 => ?_⟩
  conv => whnf
  obtain ⟨rs, hrs, hrn⟩ : ∃ rs : List (Ls × Int), rs = [(ws1, den1), (ws0, den0), (ws2, den2)] ∧ ∀ r ∈ rs, r.1.length ≤ 101 := ⟨_, rfl, fun z hz => by
    simp at hz
    rcases hz with rfl | rfl | rfl
    · dsimp only; omega
    · dsimp only; omega
    · exact hl2⟩
  have hwl : w.length ≤ 100 ∧ ∀ p ∈ w, inH p := by
    have := fits_facts hwf
    exact ⟨by omega, fun p hp => by have := this.2.2.1 p hp; exact ⟨by omega, by omega⟩⟩
  refine ⟨Nat, fun i => ([(2, .c (.lst (eL rq))), (4, I x), (6, .c (.ptr (.l 6 1) 0)), (15, .c (.ptr (.l 15 12) 0)), (16, .c (.lst (eL fl))), (101, .c (.view (.l 101 13) 0 3)), (102, I 3), (103, I i)], ⟨[(.l 6 1, .blk [.lst (eL ps)]), (.l 15 12, .blk [.lst (eL w)]), (.l 101 13, .arr 26 2 (rs.map rkC) false)], 30, []⟩),
    fun i => i ≤ 3, fun i => 3 - i, 0, Nat.zero_le _, ?_, fun i hi => ?_⟩
  · subst hrs
    exact Shift.reset ⟨rfl, rfl, rfl, rfl, rfl, rfl, rfl, rfl, trivial⟩ ⟨rfl, rfl, rfl, trivial⟩ rfl rfl
  have hrl3 : rs.length = 3 := by rw [hrs]; rfl
  clear hrs
  dsimp only
  conv => whnf
  refine Fork.mk (fun h => ?_) (fun h => ?_)
  rotate_left
  · conv => whnf
    exact hk
  have hi : i < 3 := by simp at h; omega
  clear h
  have hci := List.getElem?_eq_getElem (show i < rs.length by omega)
  have hz := hrn _ (List.getElem_mem (show i < rs.length by omega))
  generalize rs[i] = z at hci hz
  obtain ⟨ws, den⟩ := z
  dsimp only at hz
  have hw1 : IntKind.i64.wrap ((i : Int) + 1) = ((i + 1 : Nat) : Int) := by rw [wrap_in (by omega) (by omega)]; omega
  conv => whnf
  refine ⟨by omega, rfl, ?_⟩
  conv => whnf
  refine ⟨rkC (ws, den), by rw [Nat.zero_add, Int.toNat_natCast, List.getElem?_map, hci]; rfl, ?_⟩
  conv => whnf
  refine ⟨ws, den, rfl, by omega, ?_⟩
  conv => whnf
  refine ⟨ws, den, rfl, by omega, ?_⟩
  conv => whnf
  refine ⟨ws, rfl, by omega, ?_⟩
  conv => whnf
  refine ⟨ws, rfl, by omega, ?_⟩
  conv => whnf
  repeat' ((first | refine fork_t ?_ | refine fork_f ?_ | (refine Fork.mk (fun h => ?_) (fun h => ?_); focus (simp at h; done))  | fail) <;> (conv => whnf))
  obtain ⟨wv, hwv, hwn⟩ : ∃ wv : List Ls, wv = [w, ps, []] ∧ ∀ y ∈ wv, y.length ≤ 100 ∧ ∀ p ∈ y, inH p := ⟨_, rfl, fun y hy => by
    simp at hy
    rcases hy with rfl | rfl | rfl
    · exact hwl
    · exact hpl
    · exact ⟨by simp, fun p hp => by simp at hp⟩⟩
  refine ⟨Nat, fun j => ([(2, .c (.lst (eL rq))), (4, I x), (6, .c (.ptr (.l 6 1) 0)), (15, .c (.ptr (.l 15 12) 0)), (16, .c (.lst (eL fl))), (18, .c (.ptr (.l 18 30) 0)), (101, .c (.view (.l 101 13) 0 3)), (102, I 3), (103, I i), (142, .c (.view (.l 142 31) 0 3)), (143, I 3), (144, I j)], ⟨[(.l 6 1, .blk [.lst (eL ps)]), (.l 15 12, .blk [.lst (eL w)]), (.l 101 13, .arr 26 2 (rs.map rkC) false), (.l 18 30, .blk [.lst (eL ws), IC den]), (.l 142 31, .arr 29 1 (wv.map fun p => [.lst (eL p)]) false)], 60, []⟩),
    fun j => j ≤ 3, fun j => 3 - j, 0, Nat.zero_le _, ?_, fun j hj => ?_⟩
  · subst hwv
    exact Shift.reset ⟨rfl, rfl, rfl, rfl, rfl, rfl, rfl, rfl, rfl, rfl, rfl, rfl, trivial⟩ ⟨rfl, rfl, rfl, rfl, rfl, trivial⟩ rfl rfl
  have hwv3 : wv.length = 3 := by rw [hwv]; rfl
  clear hwv
  dsimp only
  conv => whnf
  refine Fork.mk (fun h => ?_) (fun h => ?_)
  rotate_left
  · conv => whnf
    refine ⟨by omega, ?_⟩
    conv => whnf
    obtain ⟨qs, hqs⟩ : ∃ qs : Ls, qs = [x, x % 100] := ⟨_, rfl⟩
    refine ⟨Nat, fun m => ([(2, .c (.lst (eL rq))), (4, I x), (6, .c (.ptr (.l 6 1) 0)), (15, .c (.ptr (.l 15 12) 0)), (16, .c (.lst (eL fl))), (18, .c (.ptr (.l 18 30) 0)), (101, .c (.view (.l 101 13) 0 3)), (102, I 3), (103, I i), (246, .c (.view (.l 246 60) 0 2)), (247, I 2), (248, I m)], ⟨[(.l 6 1, .blk [.lst (eL ps)]), (.l 15 12, .blk [.lst (eL w)]), (.l 101 13, .arr 26 2 (rs.map rkC) false), (.l 18 30, .blk [.lst (eL ws), IC den]), (.l 246 60, .arr 3 1 (eL qs) false)], 100, []⟩),
      fun m => m ≤ 2, fun m => 2 - m, 0, Nat.zero_le _, ?_, fun m hm => ?_⟩
    · subst hqs
      exact Shift.reset ⟨rfl, rfl, rfl, rfl, rfl, rfl, rfl, rfl, rfl, rfl, rfl, rfl, trivial⟩ ⟨rfl, rfl, rfl, rfl, rfl, trivial⟩ rfl rfl
    have hqn : qs.length = 2 := by rw [hqs]; rfl
    clear hqs
    dsimp only
    conv => whnf
    refine Fork.mk (fun h => ?_) (fun h => ?_)
    rotate_left
    · conv => whnf
      rw [hw1]
      exact ⟨i + 1, hi, Shift.reset ⟨rfl, rfl, rfl, rfl, rfl, rfl, rfl, rfl, trivial⟩ ⟨rfl, rfl, rfl, trivial⟩ rfl rfl, by omega⟩
    have hm' : m < 2 := by simp at h; omega
    clear h
    have hcm := List.getElem?_eq_getElem (show m < qs.length by omega)
    generalize qs[m] = q at hcm
    have hw3 : IntKind.i64.wrap ((m : Int) + 1) = ((m + 1 : Nat) : Int) := by rw [wrap_in (by omega) (by omega)]; omega
    conv => whnf
    refine ⟨by omega, rfl, ?_⟩
    conv => whnf
    refine ⟨eI q, by rw [Nat.zero_add, Int.toNat_natCast, List.getElem?_map, hcm]; rfl, ?_⟩
    conv => whnf
    have hpo : (pulS ws den q).1.length ≤ 9223372036854775807 := Nat.le_trans rkRun_out (by rw [List.length_cons, List.length_replicate]; unfold mx1; split <;> omega)
    refine ⟨ws, den, q, rfl, by omega, ?_⟩
    conv => whnf
    refine ⟨ws, den, q, rfl, by omega, ?_⟩
    conv => whnf
    repeat' ((first | refine fork_t ?_ | refine fork_f ?_ | (refine Fork.mk (fun h => ?_) (fun h => ?_); focus (simp at h; done))  | refine ⟨(pulS ws den q).1, (pulS ws den q).1, rfl, rfl, hpo, ?_⟩ | fail) <;> (conv => whnf))
    rw [hw3]
    exact ⟨m + 1, hm', Shift.reset ⟨rfl, rfl, rfl, rfl, rfl, rfl, rfl, rfl, rfl, rfl, rfl, rfl, trivial⟩ ⟨rfl, rfl, rfl, rfl, rfl, trivial⟩ rfl rfl, by omega⟩
  have hj : j < 3 := by simp at h; omega
  clear h
  have hcj := List.getElem?_eq_getElem (show j < wv.length by omega)
  have hy := hwn _ (List.getElem_mem (show j < wv.length by omega))
  generalize wv[j] = y at hcj hy
  have hw2 : IntKind.i64.wrap ((j : Int) + 1) = ((j + 1 : Nat) : Int) := by rw [wrap_in (by omega) (by omega)]; omega
  conv => whnf
  refine ⟨by omega, rfl, ?_⟩
  conv => whnf
  refine ⟨[.lst (eL y)], by rw [Nat.zero_add, Int.toNat_natCast, List.getElem?_map, hcj]; rfl, ?_⟩
  conv => whnf
  refine ⟨ws, y, rfl, rfl, by omega, by omega, ?_⟩
  conv => whnf
  refine ⟨ws, y, rfl, rfl, by omega, by omega, ?_⟩
  conv => whnf
  repeat' ((first | refine fork_t ?_ | refine fork_f ?_ | (refine Fork.mk (fun h => ?_) (fun h => ?_); focus (simp at h; done))  | refine ⟨y, rfl, by omega, hy.2, ?_⟩ | fail) <;> (conv => whnf))
  refine ⟨by omega, ?_⟩
  conv => whnf
  obtain ⟨qs, hqs⟩ : ∃ qs : Ls, qs = [x, x % 40] := ⟨_, rfl⟩
  refine ⟨Nat, fun m => ([(2, .c (.lst (eL rq))), (4, I x), (6, .c (.ptr (.l 6 1) 0)), (15, .c (.ptr (.l 15 12) 0)), (16, .c (.lst (eL fl))), (18, .c (.ptr (.l 18 30) 0)), (26, .c (.ptr (.l 26 60) 0)), (101, .c (.view (.l 101 13) 0 3)), (102, I 3), (103, I i), (142, .c (.view (.l 142 31) 0 3)), (143, I 3), (144, I j), (165, .c (.view (.l 165 61) 0 2)), (166, I 2), (167, I m)], ⟨[(.l 6 1, .blk [.lst (eL ps)]), (.l 15 12, .blk [.lst (eL w)]), (.l 101 13, .arr 26 2 (rs.map rkC) false), (.l 18 30, .blk [.lst (eL ws), IC den]), (.l 142 31, .arr 29 1 (wv.map fun p => [.lst (eL p)]) false), (.l 26 60, .blk [.lst (eL y)]), (.l 165 61, .arr 3 1 (eL qs) false)], 100, []⟩),
    fun m => m ≤ 2, fun m => 2 - m, 0, Nat.zero_le _, ?_, fun m hm => ?_⟩
  · subst hqs
    exact Shift.reset ⟨rfl, rfl, rfl, rfl, rfl, rfl, rfl, rfl, rfl, rfl, rfl, rfl, rfl, rfl, rfl, rfl, trivial⟩ ⟨rfl, rfl, rfl, rfl, rfl, rfl, rfl, trivial⟩ rfl rfl
  have hqn : qs.length = 2 := by rw [hqs]; rfl
  clear hqs
  dsimp only
  conv => whnf
  refine Fork.mk (fun h => ?_) (fun h => ?_)
  · have hm' : m < 2 := by simp at h; omega
    clear h
    have hcm := List.getElem?_eq_getElem (show m < qs.length by omega)
    generalize qs[m] = q at hcm
    have hw3 : IntKind.i64.wrap ((m : Int) + 1) = ((m + 1 : Nat) : Int) := by rw [wrap_in (by omega) (by omega)]; omega
    have hsp := rkStep_par (ws := ws) (den := den) (ps := y) (q := q)
    conv => whnf
    refine ⟨by omega, rfl, ?_⟩
    conv => whnf
    refine ⟨eI q, by rw [Nat.zero_add, Int.toNat_natCast, List.getElem?_map, hcm]; rfl, ?_⟩
    conv => whnf
    refine ⟨ws, y, rfl, rfl, by omega, by omega, ?_⟩
    conv => whnf
    refine ⟨ws, y, rfl, rfl, by omega, by omega, ?_⟩
    conv => whnf
    repeat' ((first | refine fork_t ?_ | refine fork_f ?_ | (refine Fork.mk (fun h => ?_) (fun h => ?_); focus (simp at h; done))  | refine ⟨(rkStep ws den y q).1, (rkStep ws den y q).1, rfl, rfl, by omega, ?_⟩ | fail) <;> (conv => whnf))
    rw [hw3]
    exact ⟨m + 1, hm', Shift.reset ⟨rfl, rfl, rfl, rfl, rfl, rfl, rfl, rfl, rfl, rfl, rfl, rfl, rfl, rfl, rfl, rfl, trivial⟩ ⟨rfl, rfl, rfl, rfl, rfl, rfl, rfl, trivial⟩ rfl rfl, by omega⟩
  clear h
  conv => whnf
  obtain ⟨zs, hzs, hzn⟩ : ∃ zs : List Ls, zs = [fl, rq] ∧ ∀ z ∈ zs, z.length ≤ 100 := ⟨_, rfl, fun z hz => by
    simp at hz
    rcases hz with rfl | rfl
    · omega
    · exact hc2⟩
  refine ⟨Nat, fun m => ([(2, .c (.lst (eL rq))), (4, I x), (6, .c (.ptr (.l 6 1) 0)), (15, .c (.ptr (.l 15 12) 0)), (16, .c (.lst (eL fl))), (18, .c (.ptr (.l 18 30) 0)), (26, .c (.ptr (.l 26 60) 0)), (101, .c (.view (.l 101 13) 0 3)), (102, I 3), (103, I i), (142, .c (.view (.l 142 31) 0 3)), (143, I 3), (144, I j), (204, .c (.view (.l 204 100) 0 2)), (205, I 2), (206, I m)], ⟨[(.l 6 1, .blk [.lst (eL ps)]), (.l 15 12, .blk [.lst (eL w)]), (.l 101 13, .arr 26 2 (rs.map rkC) false), (.l 18 30, .blk [.lst (eL ws), IC den]), (.l 142 31, .arr 29 1 (wv.map fun p => [.lst (eL p)]) false), (.l 26 60, .blk [.lst (eL y)]), (.l 204 100, .arr 22 1 (zs.map fun p => [.lst (eL p)]) false)], 200, []⟩),
    fun m => m ≤ 2, fun m => 2 - m, 0, Nat.zero_le _, ?_, fun m hm => ?_⟩
  · subst hzs
    exact Shift.reset ⟨rfl, rfl, rfl, rfl, rfl, rfl, rfl, rfl, rfl, rfl, rfl, rfl, rfl, rfl, rfl, rfl, trivial⟩ ⟨rfl, rfl, rfl, rfl, rfl, rfl, rfl, trivial⟩ rfl rfl
  have hzl : zs.length = 2 := by rw [hzs]; rfl
  clear hzs
  dsimp only
  conv => whnf
  refine Fork.mk (fun h => ?_) (fun h => ?_)
  rotate_left
  · conv => whnf
    rw [hw2]
    exact ⟨j + 1, hj, Shift.reset ⟨rfl, rfl, rfl, rfl, rfl, rfl, rfl, rfl, rfl, rfl, rfl, rfl, trivial⟩ ⟨rfl, rfl, rfl, rfl, rfl, trivial⟩ rfl rfl, by omega⟩
  have hm' : m < 2 := by simp at h; omega
  clear h
  have hcm := List.getElem?_eq_getElem (show m < zs.length by omega)
  have hq := hzn _ (List.getElem_mem (show m < zs.length by omega))
  generalize zs[m] = q at hcm hq
  have hw3 : IntKind.i64.wrap ((m : Int) + 1) = ((m + 1 : Nat) : Int) := by rw [wrap_in (by omega) (by omega)]; omega
  have hro := rkRun_out (ws := ws) (den := den) (ps := y) (qs := q)
  have hrp := rkRun_par (ws := ws) (den := den) (ps := y) (qs := q)
  conv => whnf
  refine ⟨by omega, rfl, ?_⟩
  conv => whnf
  refine ⟨[.lst (eL q)], by rw [Nat.zero_add, Int.toNat_natCast, List.getElem?_map, hcm]; rfl, ?_⟩
  conv => whnf
  refine ⟨ws, y, q, rfl, rfl, rfl, by omega, by omega, by omega, ?_⟩
  conv => whnf
  refine ⟨ws, y, q, rfl, rfl, rfl, by omega, by omega, by omega, ?_⟩
  conv => whnf
  repeat' ((first | refine fork_t ?_ | refine fork_f ?_ | (refine Fork.mk (fun h => ?_) (fun h => ?_); focus (simp at h; done))  | refine ⟨(rkRun ws den y q).2.1, (rkRun ws den y q).2.1, rfl, rfl, by omega, ?_⟩ | refine ⟨(rkRun ws den y q).1, (rkRun ws den y q).1, rfl, rfl, by omega, ?_⟩ | fail) <;> (conv => whnf))
  rw [hw3]
  exact ⟨m + 1, hm', Shift.reset ⟨rfl, rfl, rfl, rfl, rfl, rfl, rfl, rfl, rfl, rfl, rfl, rfl, rfl, rfl, rfl, rfl, trivial⟩ ⟨rfl, rfl, rfl, rfl, rfl, rfl, rfl, trivial⟩ rfl rfl, by omega⟩
end Go.Proofs
