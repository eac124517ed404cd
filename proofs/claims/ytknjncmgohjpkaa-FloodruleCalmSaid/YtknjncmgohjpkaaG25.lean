/- Proved here: what functions of the given program come to, for the statements of this chapter; no condition but those in the theorems. -/
import Derived.Test.YtknjncmgohjpkaaF25
namespace Go.Proofs
open Go Go.Abs
set_option linter.unusedSimpArgs false
set_option linter.unusedVariables false
set_option maxRecDepth 4000
theorem atT_ok : FunR Try.prog 57 R_atT := by
  intro args k h
  obtain ⟨t, x, y, rfl, ht, hk⟩ := h
  obtain ⟨r, c1, c2⟩ := atT_at ht x y
  have h1 := lstI_lt (x := x) ht.l.1
  have h2 := lstI_lt (x := y) ht.i.1
  have hl := ht.l
  have hi := ht.i
  have hr := ht.r
  have hw := ht.w r (List.mem_of_getElem? c1)
  have hmr := eW_len t.rel
  have hm := eL_len r
  refine does_ex (qc := qc1) (np := [(1, [(1, 5), (1, 11), (5, 9), (6, 11), (7, 11)])]) (CK := ckK [(69, cSc R_place)]) mixed Try.func57 rfl rfl Try.ntmps57 Try.results57 τ_ok (by kernel_rfl) (ckK_ok ⟨cSc_ok place_ok, trivial⟩) (by simp) ?_
  conv => whnf
  refine ⟨t.lv, x, rfl, by omega, ht.lp, ?_⟩
  conv => whnf
  refine ⟨by omega, rwC r, by rw [Int.toNat_natCast, List.getElem?_map, c1]; rfl, rfl, ?_⟩
  conv => whnf
  refine ⟨t.inf, y, rfl, by omega, ht.ip, ?_⟩
  conv => whnf
  refine ⟨by omega, eI (atT t x y), by rw [Int.toNat_natCast, List.getElem?_map, c2]; rfl, rfl, ?_⟩
  conv => whnf
  exact hk
theorem relT_ok : FunR Try.prog 37 R_relT := by
  intro args k h
  obtain ⟨t, x, y, rfl, hf, hk⟩ := h
  refine does_ex (qc := qc1) (np := []) (CK := ckK [(34, cSc R_ckT), (57, cSc R_atT)]) mixed Try.func37 rfl rfl Try.ntmps37 Try.results37 τ_ok (by kernel_rfl) (ckK_ok ⟨cSc_ok ckT_ok, cSc_ok atT_ok, trivial⟩) (by simp) ?_
  conv => whnf
  refine ⟨t, rfl, hf, ?_⟩
  conv => whnf
  refine Fork.mk (fun h => ?_) (fun h => ?_)
  · have h1 : ckT t ≠ 0 := by simpa using h
    conv => whnf
    exact kI2 hk (by rw [relT, if_pos h1])
  have h1 : ckT t = 0 := by simpa using h
  have ht := ckT_ok' h1
  clear h
  have bad : (inB 0 16777216 x && inB 0 1073741824 y) = false → k (.tup [I 0, I 1]) := fun e => kI2 hk (by rw [relT, if_neg (by simp [h1]), if_pos e])
  conv => whnf
  refine Fork.mk (fun g1 => ?_) (fun g1 => ?_)
  · conv => whnf
    (repeat (refine fork_t ?_; (conv => whnf)))
    exact bad (by simp [inB] at g1 ⊢; omega)
  conv => whnf
  refine Fork.mk (fun g2 => ?_) (fun g2 => ?_)
  · conv => whnf
    (repeat (refine fork_t ?_; (conv => whnf)))
    exact bad (by simp [inB] at g1 g2 ⊢; omega)
  conv => whnf
  refine Fork.mk (fun g3 => ?_) (fun g3 => ?_)
  · conv => whnf
    (repeat (refine fork_t ?_; (conv => whnf)))
    exact bad (by simp [inB] at g1 g2 g3 ⊢; omega)
  conv => whnf
  refine Fork.mk (fun g4 => ?_) (fun g4 => ?_)
  · conv => whnf
    exact bad (by simp [inB] at g1 g2 g3 g4 ⊢; omega)
  conv => whnf
  refine ⟨t, x, y, rfl, ht, ?_⟩
  conv => whnf
  exact kI2 hk (by rw [relT, if_neg (by simp [h1]), if_neg (by simp [inB] at g1 g2 g3 g4 ⊢; omega)])
theorem relF_ok : FunR Try.prog 19 R_relF := by
  intro args k h
  obtain ⟨f, s, x, y, rfl, hf, hk⟩ := h
  refine does_ex (qc := qc1) (np := []) (CK := ckK [(37, cSc R_relT)]) mixed Try.func19 rfl rfl Try.ntmps19 Try.results19 τ_ok (by kernel_rfl) (ckK_ok ⟨cSc_ok relT_ok, trivial⟩) (by simp) ?_
  conv => whnf
  refine Fork.mk (fun h => ?_) (fun h => ?_)
  · conv => whnf
    exact kIB hk (by rw [relF, if_pos (by simpa using h)])
  have h1 : ¬ s.on = false := by simpa using h
  clear h
  conv => whnf
  refine ⟨f.t, x, y, rfl, hf, ?_⟩
  conv => whnf
  refine Fork.mk (fun h => ?_) (fun h => ?_)
  · have h2 : (relT f.t x y).2 ≠ 0 := by simpa using h
    have h3 : (relT f.t x y).1 = 0 := by
      unfold relT at h2 ⊢
      split
      · rfl
      · rename_i e
        rw [if_neg e] at h2
        split
        · rfl
        · rename_i e2
          rw [if_neg e2] at h2
          exact absurd rfl h2
    conv => whnf
    exact kIB hk (by rw [relF, if_neg h1, h3])
  conv => whnf
  exact kIB hk (by rw [relF, if_neg h1])
end Go.Proofs
