/- Proved here: what functions of the given program come to, for the statements of this chapter; no condition but those in the theorems. -/
import Derived.Test.YtnaggkcpagbolaaQ18
namespace Go.Proofs
open Go Go.Abs
set_option linter.unusedSimpArgs false
set_option linter.unusedVariables false
set_option maxRecDepth 4000
theorem flS_len (u : Un) (g : Int) : (flS u g).1.length ≤ 200 := by
  unfold flS
  repeat' split
  all_goals first | (simp; done) | (dsimp only; omega)
def R_all18 : RT := fun args k => ∃ (u : Un) (l : Ls) (x y : Int), args = [.agg (unC u), .c (.lst (eL l)), I x, I y] ∧ u.fin ∧ l.length ≤ 9223372036854775807 ∧ k (Bo true)
theorem all_ok : FunR Try.prog 6 R_all18 := by
  intro args k h
  obtain ⟨raw, l, x, y, rfl, hraw, hl, hk⟩ := h
  have hr1 := eP_len raw.rg
  have hr2 := eP_len raw.tb
  refine does_ex (qc := qc1) (np := [(5, [(0, 4), (0, 5), (1, 4), (1, 5)])]) (CK := ckK [(9, cN R_new), (10, cB R_mkU), (16, cSc R_mod), (13, cB R_odd18), (22, cPq R_sU), (12, cB R_next), (23, cSc (R_unI ckU)), (24, cSc (R_unI ckU)), (25, cSc (R_unQ2 powS)), (26, cSc (R_unQ2 powS)), (27, cSc (R_unQB runS)), (28, cSc (R_unQB runS)), (21, cPq R_flS), (29, cPq R_flS), (30, cSc (R_unQ2 bestS)), (31, cSc (R_unQ2 bestS)), (32, cSc R_same), (8, cSc R_tt)]) mixed Try.func6 rfl rfl Try.ntmps6 Try.results6 τ_ok (by kernel_rfl) (ckK_ok ⟨cN_ok new_ok rfl, cB_ok mkU_ok rfl, cSc_ok mod_ok, cB_ok odd_ok rfl, cPq_ok sample_ok, cB_ok next_ok rfl, cSc_ok ckU_prog, cSc_ok rckU_ok, cSc_ok power_ok, cSc_ok rpower_ok, cSc_ok Runs_ok, cSc_ok rRuns_ok, cPq_ok flows_ok, cPq_ok rflows_ok, cSc_ok best_ok, cSc_ok rbest_ok, cSc_ok same_ok, cSc_ok awake_ok, trivial⟩) (by simp) ?_
  conv => whnf
  refine Fork.mk (fun h => ?_) (fun h => ?_)
  · conv => whnf
    repeat' ((first | refine fork_t ?_ | refine fork_f ?_ | (refine Fork.mk (fun h => ?_) (fun h => ?_); focus (simp at h; done))  | refine ⟨rfl, ?_⟩ | fail) <;> (conv => whnf))
    exact hk
  conv => whnf
  refine Fork.mk (fun h => ?_) (fun h => ?_)
  · conv => whnf
    repeat' ((first | refine fork_t ?_ | refine fork_f ?_ | (refine Fork.mk (fun h => ?_) (fun h => ?_); focus (simp at h; done))  | refine ⟨rfl, ?_⟩ | fail) <;> (conv => whnf))
    exact hk
  clear h
  conv => whnf
  refine ⟨l, rfl, ?_⟩
  conv => whnf
  refine ⟨⟨l, 0⟩, rfl, rfl, ⟨Nat.zero_le _, hl⟩, fun u d hd hu => ?_⟩
  conv => whnf
  have hlu := (ckC_ne hu.ok.c).2
  have hru := hu.ok.n
  refine ⟨d, u, rfl, rfl, hd, ⟨by omega, by omega⟩, fun u2 d hd hu2 => ?_⟩
  conv => whnf
  refine ⟨rfl, ?_⟩
  conv => whnf
  obtain ⟨us, hus, hfin⟩ : ∃ us : List Un, us = [u, raw, u2, sU] ∧ ∀ z ∈ us, z.fin := ⟨_, rfl, fun z hz => by
    simp at hz
    rcases hz with rfl | rfl | rfl | rfl
    · exact hu.fin
    · exact hraw
    · exact hu2
    · exact sU_fin⟩
  refine ⟨Nat × Dk, fun s => ([(2, I x), (3, I y), (9, .c (.ptr (.l 41 1) 0)), (50, .c (.view (.l 50 3) 0 4)), (51, I 4), (52, I s.1)], ⟨[(.l 41 1, .blk (dkC s.2)), (.l 50 3, .arr 25 6 (us.map unC) false)], 20, []⟩),
    fun s => s.2.ok ∧ s.1 ≤ 4, fun s => 4 - s.1, (0, d), ⟨hd, by omega⟩, ?_, fun s hs => ?_⟩
  · subst hus
    exact Shift.reset ⟨rfl, rfl, rfl, rfl, rfl, rfl, trivial⟩ ⟨rfl, rfl, trivial⟩ rfl rfl
  have hun : us.length = 4 := by rw [hus]; rfl
  clear hus
  obtain ⟨i, d⟩ := s
  obtain ⟨hd, hi⟩ := hs
  dsimp only at hd hi ⊢
  conv => whnf
  refine Fork.mk (fun h => ?_) (fun h => ?_)
  rotate_left
  · conv => whnf
    repeat' ((first | refine fork_t ?_ | refine fork_f ?_ | (refine Fork.mk (fun h => ?_) (fun h => ?_); focus (simp at h; done))  | refine ⟨rfl, ?_⟩ | fail) <;> (conv => whnf))
    exact hk
  have hi : i < 4 := by simp at h; omega
  clear h
  have hci := List.getElem?_eq_getElem (show i < us.length by omega)
  have hz := hfin _ (List.getElem_mem (show i < us.length by omega))
  generalize us[i] = z at hci hz
  have hw1 := wr_succ (i := i) (by omega)
  conv => whnf
  refine ⟨by omega, rfl, ?_⟩
  conv => whnf
  refine ⟨unC z, by rw [Nat.zero_add, Int.toNat_natCast, List.getElem?_map, hci]; rfl, ?_⟩
  conv => whnf
  refine ⟨z, rfl, hz, ?_⟩
  conv => whnf
  refine ⟨z, rfl, hz, ?_⟩
  conv => whnf
  repeat' ((first | refine fork_t ?_ | refine fork_f ?_ | (refine Fork.mk (fun h => ?_) (fun h => ?_); focus (simp at h; done))  | fail) <;> (conv => whnf))
  refine ⟨by omega, ?_⟩
  conv => whnf
  refine ⟨d, rfl, hd, by omega, fun v d hd hv1 hv2 => ?_⟩
  conv => whnf
  obtain ⟨qs, hqs⟩ : ∃ qs : Ls, qs = [x, x % 32, v, 0] := ⟨_, rfl⟩
  refine ⟨Nat, fun j => ([(2, I x), (3, I y), (9, .c (.ptr (.l 41 1) 0)), (12, .c (.ptr (.l 12 20) 0)), (50, .c (.view (.l 50 3) 0 4)), (51, I 4), (52, I i), (66, .c (.view (.l 66 21) 0 4)), (67, I 4), (68, I j)],
      ⟨[(.l 41 1, .blk (dkC d)), (.l 50 3, .arr 25 6 (us.map unC) false), (.l 12 20, .blk (unC z)), (.l 66 21, .arr 3 1 (eL qs) false)], 100, []⟩),
    fun j => j ≤ 4, fun j => 4 - j, 0, Nat.zero_le _, ?_, fun j hj => ?_⟩
  · subst hqs
    exact Shift.reset ⟨rfl, rfl, rfl, rfl, rfl, rfl, rfl, rfl, rfl, rfl, trivial⟩ ⟨rfl, rfl, rfl, rfl, trivial⟩ rfl rfl
  have hql : qs.length = 4 := by rw [hqs]; rfl
  clear hqs
  dsimp only at hj ⊢
  conv => whnf
  refine Fork.mk (fun h => ?_) (fun h => ?_)
  · have hj : j < 4 := by simp at h; omega
    clear h
    have hcj := List.getElem?_eq_getElem (show j < qs.length by omega)
    generalize qs[j] = q at hcj
    have hw2 := wr_succ (i := j) (by omega)
    conv => whnf
    refine ⟨by omega, rfl, ?_⟩
    conv => whnf
    refine ⟨eI q, by rw [Nat.zero_add, Int.toNat_natCast, List.getElem?_map, hcj]; rfl, ?_⟩
    conv => whnf
    refine ⟨z, q, rfl, hz, ?_⟩
    conv => whnf
    refine ⟨z, q, rfl, hz, ?_⟩
    conv => whnf
    repeat' ((first | refine fork_t ?_ | refine fork_f ?_ | (refine Fork.mk (fun h => ?_) (fun h => ?_); focus (simp at h; done))  | refine ⟨z, q, rfl, hz, ?_⟩ | fail) <;> (conv => whnf))
    rw [hw2]
    exact ⟨j + 1, hj, Shift.reset ⟨rfl, rfl, rfl, rfl, rfl, rfl, rfl, rfl, rfl, rfl, trivial⟩ ⟨rfl, rfl, rfl, rfl, trivial⟩ rfl rfl, by omega⟩
  clear h
  conv => whnf
  refine ⟨by omega, ?_⟩
  conv => whnf
  obtain ⟨gs, hgs⟩ : ∃ gs : Ls, gs = [y, IntKind.i64.wrap (1 + y % 7), 1] := ⟨_, rfl⟩
  refine ⟨Nat, fun j => ([(2, I x), (3, I y), (9, .c (.ptr (.l 41 1) 0)), (12, .c (.ptr (.l 12 20) 0)), (50, .c (.view (.l 50 3) 0 4)), (51, I 4), (52, I i), (106, .c (.view (.l 106 100) 0 3)), (107, I 3), (108, I j)],
      ⟨[(.l 41 1, .blk (dkC d)), (.l 50 3, .arr 25 6 (us.map unC) false), (.l 12 20, .blk (unC z)), (.l 106 100, .arr 3 1 (eL gs) false)], 200, []⟩),
    fun j => j ≤ 3, fun j => 3 - j, 0, Nat.zero_le _, ?_, fun j hj => ?_⟩
  · subst hgs
    exact Shift.reset ⟨rfl, rfl, rfl, rfl, rfl, rfl, rfl, rfl, rfl, rfl, trivial⟩ ⟨rfl, rfl, rfl, rfl, trivial⟩ rfl rfl
  have hgl : gs.length = 3 := by rw [hgs]; rfl
  clear hgs
  dsimp only at hj ⊢
  conv => whnf
  refine Fork.mk (fun h => ?_) (fun h => ?_)
  · have hj : j < 3 := by simp at h; omega
    clear h
    have hcj := List.getElem?_eq_getElem (show j < gs.length by omega)
    generalize gs[j] = q at hcj
    have hw2 := wr_succ (i := j) (by omega)
    have hfl := flS_len z q
    conv => whnf
    refine ⟨by omega, rfl, ?_⟩
    conv => whnf
    refine ⟨eI q, by rw [Nat.zero_add, Int.toNat_natCast, List.getElem?_map, hcj]; rfl, ?_⟩
    conv => whnf
    refine ⟨z, q, rfl, hz, ?_⟩
    conv => whnf
    refine ⟨z, q, rfl, hz, ?_⟩
    conv => whnf
    refine ⟨z, q, rfl, hz, ?_⟩
    conv => whnf
    refine ⟨z, q, rfl, hz, ?_⟩
    conv => whnf
    repeat' ((first | refine fork_t ?_ | refine fork_f ?_ | (refine Fork.mk (fun h => ?_) (fun h => ?_); focus (simp at h; done))  | fail) <;> (conv => whnf))
    refine ⟨(flS z q).1, (flS z q).1, rfl, ⟨by omega, by omega⟩, ?_⟩
    conv => whnf
    repeat' ((first | refine fork_t ?_ | refine fork_f ?_ | (refine Fork.mk (fun h => ?_) (fun h => ?_); focus (simp at h; done))  | fail) <;> (conv => whnf))
    rw [hw2]
    exact ⟨j + 1, hj, Shift.reset ⟨rfl, rfl, rfl, rfl, rfl, rfl, rfl, rfl, rfl, rfl, trivial⟩ ⟨rfl, rfl, rfl, rfl, trivial⟩ rfl rfl, by omega⟩
  clear h
  conv => whnf
  rw [hw1]
  exact ⟨(i + 1, d), ⟨hd, hi⟩, Shift.reset ⟨rfl, rfl, rfl, rfl, rfl, rfl, trivial⟩ ⟨rfl, rfl, trivial⟩ rfl rfl, by dsimp only; omega⟩
end Go.Proofs
