/- Proved here: what functions of the given program come to, and the plain laws of it; no condition but those in the theorems. -/
import Derived.Test.YtfhnicamjcfddaaGreatDoorA9m
import Derived.Test.YtfhnicamjcfddaaGreatDoorA9l
import Derived.Test.YtfhnicamjcfddaaGreatDoorPReach
namespace Go.Proofs
open Go Go.Abs
set_option linter.unusedSimpArgs false
set_option linter.unusedVariables false
set_option maxRecDepth 20000
def R_cin9 : RT := fun args k => args = [.agg [IC 0, IC 364], I 0] ∧ k (Bo true)
theorem cin9_ok : FunR Tryz.prog 135 R_cin9 := by
  intro args k h
  obtain ⟨rfl, hk⟩ := h
  refine does_ex (qc := qc1) (np := []) (CK := ckK [(73, cSc R_cval), (105, cSc R_is9)]) mixed Tryz.func135 rfl rfl Tryz.ntmps135 Tryz.results135 τ_ok (by kernel_rfl) (ckK_ok ⟨cSc_ok cval_ok, cSc_ok is9_ok, trivial⟩) (by simp) ?_
  conv => whnf
  repeat ((first | refine fork_t' rfl ?_ | refine fork_f' rfl ?_ | refine ⟨by decide, _, rfl, rfl, ?_⟩ | refine ⟨by decide, ?_⟩ | refine ⟨rfl, ?_⟩ | refine ⟨⟨rfl, rfl, rfl, rfl, by decide⟩, ?_⟩ | refine ⟨.inl rfl, ?_⟩ | refine ⟨.inr rfl, ?_⟩ | refine .inl ⟨rfl, ?_⟩ | refine .inr ⟨rfl, ?_⟩ | refine ⟨_, _, Shift.refl _, ?_⟩ | refine ⟨_, _, _, rfl, rfl, by decide, ?_⟩ | refine ⟨_, rfl, ?_⟩); (conv => whnf))
  exact kQ hk (by kernel_rfl)
theorem apl1_ok {k : AV → Prop} (hk : k (Bo true)) : ∃ r, Does Tryz.prog 111 [.agg (cnC 1 2 30), I 0, I 150] r ∧ k r := by
  refine doesU_ex (n := 4) (qc := qc1) (np := []) (CK := ckK [(49, cSc R_cn0), (135, cSc R_cin9)]) mixed Tryz.func111 rfl rfl Tryz.ntmps111 Tryz.results111 τ_ok (by kernel_rfl) (ckK_ok ⟨cSc_ok one_ok, cSc_ok cin9_ok, trivial⟩) (by simp) ?_
  conv => whnf
  repeat ((first | refine fork_t' rfl ?_ | refine fork_f' rfl ?_ | refine ⟨by decide, _, rfl, rfl, ?_⟩ | refine ⟨by decide, ?_⟩ | refine ⟨rfl, ?_⟩ | refine ⟨⟨rfl, rfl, rfl, rfl, by decide⟩, ?_⟩ | refine ⟨.inl rfl, ?_⟩ | refine ⟨.inr rfl, ?_⟩ | refine .inl ⟨rfl, ?_⟩ | refine .inr ⟨rfl, ?_⟩ | refine ⟨_, _, Shift.refl _, ?_⟩ | refine ⟨_, _, _, rfl, rfl, by decide, ?_⟩ | refine ⟨_, rfl, ?_⟩); (conv => whnf))
  exact kQ hk (by kernel_rfl)
theorem apl2_ok {k : AV → Prop} (hk : k (Bo true)) : ∃ r, Does Tryz.prog 111 [.agg (cnC 2 1 50), I 0, I 150] r ∧ k r := by
  refine doesU_ex (n := 4) (qc := qc1) (np := []) (CK := ckK [(49, cSc R_cn0), (135, cSc R_cin9)]) mixed Tryz.func111 rfl rfl Tryz.ntmps111 Tryz.results111 τ_ok (by kernel_rfl) (ckK_ok ⟨cSc_ok one_ok, cSc_ok cin9_ok, trivial⟩) (by simp) ?_
  conv => whnf
  repeat ((first | refine fork_t' rfl ?_ | refine fork_f' rfl ?_ | refine ⟨by decide, _, rfl, rfl, ?_⟩ | refine ⟨by decide, ?_⟩ | refine ⟨rfl, ?_⟩ | refine ⟨⟨rfl, rfl, rfl, rfl, by decide⟩, ?_⟩ | refine ⟨.inl rfl, ?_⟩ | refine ⟨.inr rfl, ?_⟩ | refine .inl ⟨rfl, ?_⟩ | refine .inr ⟨rfl, ?_⟩ | refine ⟨_, _, Shift.refl _, ?_⟩ | refine ⟨_, _, _, rfl, rfl, by decide, ?_⟩ | refine ⟨_, rfl, ?_⟩); (conv => whnf))
  exact kQ hk (by kernel_rfl)
def R_apl9 : RT := fun args k => ∃ c, args = [.agg c, I 0, I 150] ∧ isCn c ∧ k (Bo true)
theorem apl9_ok : FunR Tryz.prog 111 R_apl9 := by
  intro args k h
  obtain ⟨c, rfl, hc, hk⟩ := h
  rcases hc with rfl | rfl
  · exact apl1_ok hk
  · exact apl2_ok hk
def osA : List MObj := [.blk [.lst cnds], .blk [IC 0], .blk [IC 150]]
def R_act1 : RG := fun args os k => ∃ i : Int, args = [I i, .c (.ptr (.x 0) 0), .c (.ptr (.x 1) 0), .c (.ptr (.x 2) 0)] ∧ os = osA ∧ (i = 0 ∨ i = 1) ∧ k (Bo false) osA
theorem act0_ok {k : AV → List MObj → Prop} (hk : k (Bo false) osA) : ∃ r os', DoesG Tryz.prog 110 [I 0, .c (.ptr (.x 0) 0), .c (.ptr (.x 1) 0), .c (.ptr (.x 2) 0)] osA r os' ∧ k r os' := by
  refine doesGU_ex (n := 4) (qc := qc1) (np := []) (CK := ckK [(111, cSc R_apl9)]) mixed Tryz.func110 rfl rfl Tryz.ntmps110 Tryz.results110 τ_ok (by kernel_rfl) (ckK_ok ⟨cSc_ok apl9_ok, trivial⟩) (by simp) rfl rfl ?_
  conv => whnf
  repeat ((first | refine fork_t' rfl ?_ | refine fork_f' rfl ?_ | refine ⟨by decide, _, rfl, rfl, ?_⟩ | refine ⟨by decide, ?_⟩ | refine ⟨rfl, ?_⟩ | refine ⟨⟨rfl, rfl, rfl, rfl, by decide⟩, ?_⟩ | refine ⟨.inl rfl, ?_⟩ | refine ⟨.inr rfl, ?_⟩ | refine .inl ⟨rfl, ?_⟩ | refine .inr ⟨rfl, ?_⟩ | refine ⟨_, _, Shift.refl _, ?_⟩ | refine ⟨_, _, _, rfl, rfl, by decide, ?_⟩ | refine ⟨_, rfl, ?_⟩); (conv => whnf))
  exact kQG hk (by kernel_rfl) rfl
theorem act1_ok {k : AV → List MObj → Prop} (hk : k (Bo false) osA) : ∃ r os', DoesG Tryz.prog 110 [I 1, .c (.ptr (.x 0) 0), .c (.ptr (.x 1) 0), .c (.ptr (.x 2) 0)] osA r os' ∧ k r os' := by
  refine doesGU_ex (n := 4) (qc := qc1) (np := []) (CK := ckK [(111, cSc R_apl9)]) mixed Tryz.func110 rfl rfl Tryz.ntmps110 Tryz.results110 τ_ok (by kernel_rfl) (ckK_ok ⟨cSc_ok apl9_ok, trivial⟩) (by simp) rfl rfl ?_
  conv => whnf
  repeat ((first | refine fork_t' rfl ?_ | refine fork_f' rfl ?_ | refine ⟨by decide, _, rfl, rfl, ?_⟩ | refine ⟨by decide, ?_⟩ | refine ⟨rfl, ?_⟩ | refine ⟨⟨rfl, rfl, rfl, rfl, by decide⟩, ?_⟩ | refine ⟨.inl rfl, ?_⟩ | refine ⟨.inr rfl, ?_⟩ | refine .inl ⟨rfl, ?_⟩ | refine .inr ⟨rfl, ?_⟩ | refine ⟨_, _, Shift.refl _, ?_⟩ | refine ⟨_, _, _, rfl, rfl, by decide, ?_⟩ | refine ⟨_, rfl, ?_⟩); (conv => whnf))
  exact kQG hk (by kernel_rfl) rfl
theorem act9_ok : FunG Tryz.prog 110 R_act1 := by
  intro args os k h
  obtain ⟨i, rfl, rfl, hi, hk⟩ := h
  rcases hi with rfl | rfl
  · exact act0_ok hk
  · exact act1_ok hk
def R_ix9 : RG := fun args os k => args = [.c (.lst ord9), .c (.fn 110 [.ptr (.x 0) 0, .ptr (.x 1) 0, .ptr (.x 2) 0])] ∧ os = osA ∧ k (I (-1)) osA
theorem ix9_ok : FunG Tryz.prog 40 R_ix9 := by
  intro args os k h
  obtain ⟨rfl, rfl, hk⟩ := h
  refine doesGU_ex (n := 4) (qc := qc1) (np := []) (CK := ckK [(110, cGr R_act1)]) mixed Tryz.func40 rfl rfl Tryz.ntmps40 Tryz.results40 τ_ok (by kernel_rfl) (ckK_ok ⟨cGr_ok act9_ok, trivial⟩) (by simp) rfl rfl ?_
  conv => whnf
  repeat ((first | refine fork_t' rfl ?_ | refine fork_f' rfl ?_ | refine ⟨by decide, _, rfl, rfl, ?_⟩ | refine ⟨by decide, ?_⟩ | refine ⟨rfl, ?_⟩ | refine ⟨⟨rfl, rfl, rfl, rfl, by decide⟩, ?_⟩ | refine ⟨.inl rfl, ?_⟩ | refine ⟨.inr rfl, ?_⟩ | refine .inl ⟨rfl, ?_⟩ | refine .inr ⟨rfl, ?_⟩ | refine ⟨_, _, Shift.refl _, ?_⟩ | refine ⟨_, _, _, rfl, rfl, by decide, ?_⟩ | refine ⟨_, rfl, ?_⟩); (conv => whnf))
  refine ⟨[.x 0, .x 1, .x 2], rfl, ?_⟩
  conv => whnf
  repeat ((first | refine fork_t' rfl ?_ | refine fork_f' rfl ?_ | refine ⟨by decide, _, rfl, rfl, ?_⟩ | refine ⟨by decide, ?_⟩ | refine ⟨rfl, ?_⟩ | refine ⟨⟨rfl, rfl, rfl, rfl, by decide⟩, ?_⟩ | refine ⟨.inl rfl, ?_⟩ | refine ⟨.inr rfl, ?_⟩ | refine .inl ⟨rfl, ?_⟩ | refine .inr ⟨rfl, ?_⟩ | refine ⟨_, _, Shift.refl _, ?_⟩ | refine ⟨_, _, _, rfl, rfl, by decide, ?_⟩ | refine ⟨_, rfl, ?_⟩); (conv => whnf))
  refine ⟨[.x 0, .x 1, .x 2], rfl, ?_⟩
  conv => whnf
  repeat ((first | refine fork_t' rfl ?_ | refine fork_f' rfl ?_ | refine ⟨by decide, _, rfl, rfl, ?_⟩ | refine ⟨by decide, ?_⟩ | refine ⟨rfl, ?_⟩ | refine ⟨⟨rfl, rfl, rfl, rfl, by decide⟩, ?_⟩ | refine ⟨.inl rfl, ?_⟩ | refine ⟨.inr rfl, ?_⟩ | refine .inl ⟨rfl, ?_⟩ | refine .inr ⟨rfl, ?_⟩ | refine ⟨_, _, Shift.refl _, ?_⟩ | refine ⟨_, _, _, rfl, rfl, by decide, ?_⟩ | refine ⟨_, rfl, ?_⟩); (conv => whnf))
  exact kQG hk rfl rfl
def R_del9 : RG := fun args os k => args = [.c (.lst ord9), .c (.fn 110 [.ptr (.x 0) 0, .ptr (.x 1) 0, .ptr (.x 2) 0])] ∧ os = osA ∧ k (.c (.lst ord9)) osA
theorem del9_ok : FunG Tryz.prog 108 R_del9 := by
  intro args os k h
  obtain ⟨rfl, rfl, hk⟩ := h
  refine doesGU_ex (n := 4) (qc := qc1) (np := []) (CK := ckK [(40, cGr R_ix9)]) mixed Tryz.func108 rfl rfl Tryz.ntmps108 Tryz.results108 τ_ok (by kernel_rfl) (ckK_ok ⟨cGr_ok ix9_ok, trivial⟩) (by simp) rfl rfl ?_
  conv => whnf
  repeat ((first | refine fork_t' rfl ?_ | refine fork_f' rfl ?_ | refine ⟨by decide, _, rfl, rfl, ?_⟩ | refine ⟨by decide, ?_⟩ | refine ⟨rfl, ?_⟩ | refine ⟨⟨rfl, rfl, rfl, rfl, by decide⟩, ?_⟩ | refine ⟨.inl rfl, ?_⟩ | refine ⟨.inr rfl, ?_⟩ | refine .inl ⟨rfl, ?_⟩ | refine .inr ⟨rfl, ?_⟩ | refine ⟨_, _, Shift.refl _, ?_⟩ | refine ⟨_, _, _, rfl, rfl, by decide, ?_⟩ | refine ⟨_, rfl, ?_⟩); (conv => whnf))
  refine ⟨[.x 0, .x 1, .x 2], rfl, ?_⟩
  conv => whnf
  repeat ((first | refine fork_t' rfl ?_ | refine fork_f' rfl ?_ | refine ⟨by decide, _, rfl, rfl, ?_⟩ | refine ⟨by decide, ?_⟩ | refine ⟨rfl, ?_⟩ | refine ⟨⟨rfl, rfl, rfl, rfl, by decide⟩, ?_⟩ | refine ⟨.inl rfl, ?_⟩ | refine ⟨.inr rfl, ?_⟩ | refine .inl ⟨rfl, ?_⟩ | refine .inr ⟨rfl, ?_⟩ | refine ⟨_, _, Shift.refl _, ?_⟩ | refine ⟨_, _, _, rfl, rfl, by decide, ?_⟩ | refine ⟨_, rfl, ?_⟩); (conv => whnf))
  exact kQG hk rfl rfl
def R_acv9 : RT := fun args k => args = [.c (.lst cnds), I 0, I 150] ∧ k (.tup [.c (.lst ord9), I 0])
theorem acv9_ok : FunR Tryz.prog 75 R_acv9 := by
  intro args k h
  obtain ⟨rfl, hk⟩ := h
  refine doesU_ex (n := 4) (qc := qc1) (np := []) (CK := ckK [(74, cSc R_lask), (109, cPu R_ord9), (108, cG R_del9)]) mixed Tryz.func75 rfl rfl Tryz.ntmps75 Tryz.results75 τ_ok (by kernel_rfl) (ckK_ok ⟨cSc_ok lask_ok, cPu_ok ord9_ok rfl, cG_ok del9_ok rfl, trivial⟩) (by simp) ?_
  conv => whnf
  repeat ((first | refine fork_t' rfl ?_ | refine fork_f' rfl ?_ | refine ⟨by decide, _, rfl, rfl, ?_⟩ | refine ⟨by decide, ?_⟩ | refine ⟨rfl, ?_⟩ | refine ⟨⟨rfl, rfl, rfl, rfl, by decide⟩, ?_⟩ | refine ⟨.inl rfl, ?_⟩ | refine ⟨.inr rfl, ?_⟩ | refine .inl ⟨rfl, ?_⟩ | refine .inr ⟨rfl, ?_⟩ | refine ⟨_, _, Shift.refl _, ?_⟩ | refine ⟨_, _, _, rfl, rfl, by decide, ?_⟩ | refine ⟨_, rfl, ?_⟩); (conv => whnf))
  refine ⟨[], rfl, by decide, rfl, ?_⟩
  conv => whnf
  repeat ((first | refine fork_t' rfl ?_ | refine fork_f' rfl ?_ | refine ⟨by decide, _, rfl, rfl, ?_⟩ | refine ⟨by decide, ?_⟩ | refine ⟨rfl, ?_⟩ | refine ⟨⟨rfl, rfl, rfl, rfl, by decide⟩, ?_⟩ | refine ⟨.inl rfl, ?_⟩ | refine ⟨.inr rfl, ?_⟩ | refine .inl ⟨rfl, ?_⟩ | refine .inr ⟨rfl, ?_⟩ | refine ⟨_, _, Shift.refl _, ?_⟩ | refine ⟨_, _, _, rfl, rfl, by decide, ?_⟩ | refine ⟨_, rfl, ?_⟩); (conv => whnf))
  refine ⟨[.l 3 0, .l 4 1, .l 5 2], rfl, ?_⟩
  conv => whnf
  repeat ((first | refine fork_t' rfl ?_ | refine fork_f' rfl ?_ | refine ⟨by decide, _, rfl, rfl, ?_⟩ | refine ⟨by decide, ?_⟩ | refine ⟨rfl, ?_⟩ | refine ⟨⟨rfl, rfl, rfl, rfl, by decide⟩, ?_⟩ | refine ⟨.inl rfl, ?_⟩ | refine ⟨.inr rfl, ?_⟩ | refine .inl ⟨rfl, ?_⟩ | refine .inr ⟨rfl, ?_⟩ | refine ⟨_, _, Shift.refl _, ?_⟩ | refine ⟨_, _, _, rfl, rfl, by decide, ?_⟩ | refine ⟨_, rfl, ?_⟩); (conv => whnf))
  exact kQ hk (by kernel_rfl)
theorem prm1_ok {k : AV → Prop} (hk : k (.agg [IC 0, IC 30])) : ∃ r, Does Tryz.prog 112 [.agg (cnC 1 2 30), I 0] r ∧ k r := by
  refine doesU_ex (n := 4) (qc := qc1) (np := []) (CK := ckK []) mixed Tryz.func112 rfl rfl Tryz.ntmps112 Tryz.results112 τ_ok (by kernel_rfl) (ckK_ok trivial) (by simp) ?_
  conv => whnf
  repeat ((first | refine fork_t' rfl ?_ | refine fork_f' rfl ?_ | refine ⟨by decide, _, rfl, rfl, ?_⟩ | refine ⟨by decide, ?_⟩ | refine ⟨rfl, ?_⟩ | refine ⟨⟨rfl, rfl, rfl, rfl, by decide⟩, ?_⟩ | refine ⟨.inl rfl, ?_⟩ | refine ⟨.inr rfl, ?_⟩ | refine .inl ⟨rfl, ?_⟩ | refine .inr ⟨rfl, ?_⟩ | refine ⟨_, _, Shift.refl _, ?_⟩ | refine ⟨_, _, _, rfl, rfl, by decide, ?_⟩ | refine ⟨_, rfl, ?_⟩); (conv => whnf))
  exact kQ hk (by kernel_rfl)
theorem prm2_ok {k : AV → Prop} (hk : k (.agg [IC 50, IC 1073741824])) : ∃ r, Does Tryz.prog 112 [.agg (cnC 2 1 50), I 0] r ∧ k r := by
  refine doesU_ex (n := 4) (qc := qc1) (np := []) (CK := ckK []) mixed Tryz.func112 rfl rfl Tryz.ntmps112 Tryz.results112 τ_ok (by kernel_rfl) (ckK_ok trivial) (by simp) ?_
  conv => whnf
  repeat ((first | refine fork_t' rfl ?_ | refine fork_f' rfl ?_ | refine ⟨by decide, _, rfl, rfl, ?_⟩ | refine ⟨by decide, ?_⟩ | refine ⟨rfl, ?_⟩ | refine ⟨⟨rfl, rfl, rfl, rfl, by decide⟩, ?_⟩ | refine ⟨.inl rfl, ?_⟩ | refine ⟨.inr rfl, ?_⟩ | refine .inl ⟨rfl, ?_⟩ | refine .inr ⟨rfl, ?_⟩ | refine ⟨_, _, Shift.refl _, ?_⟩ | refine ⟨_, _, _, rfl, rfl, by decide, ?_⟩ | refine ⟨_, rfl, ?_⟩); (conv => whnf))
  exact kQ hk (by kernel_rfl)
def R_prm9 : RT := fun args k => (args = [.agg (cnC 1 2 30), I 0] ∧ k (.agg [IC 0, IC 30])) ∨ (args = [.agg (cnC 2 1 50), I 0] ∧ k (.agg [IC 50, IC 1073741824]))
theorem prm9_ok : FunR Tryz.prog 112 R_prm9 := by
  intro args k h
  rcases h with ⟨rfl, hk⟩ | ⟨rfl, hk⟩
  · exact prm1_ok hk
  · exact prm2_ok hk
theorem bnd1_ok {k : AV → Prop} (hk : k (.tup [.agg [IC 0, IC 30], Bo true])) : ∃ r, Does Tryz.prog 76 [.agg (cnC 1 2 30), I 0] r ∧ k r := by
  refine doesU_ex (n := 4) (qc := qc1) (np := []) (CK := ckK [(49, cSc R_cn0), (25, cSc R_within), (112, cSc R_prm9)]) mixed Tryz.func76 rfl rfl Tryz.ntmps76 Tryz.results76 τ_ok (by kernel_rfl) (ckK_ok ⟨cSc_ok one_ok, cSc_ok within_ok, cSc_ok prm9_ok, trivial⟩) (by simp) ?_
  conv => whnf
  repeat ((first | refine fork_t' rfl ?_ | refine fork_f' rfl ?_ | refine ⟨by decide, _, rfl, rfl, ?_⟩ | refine ⟨by decide, ?_⟩ | refine ⟨rfl, ?_⟩ | refine ⟨⟨rfl, rfl, rfl, rfl, by decide⟩, ?_⟩ | refine ⟨.inl rfl, ?_⟩ | refine ⟨.inr rfl, ?_⟩ | refine .inl ⟨rfl, ?_⟩ | refine .inr ⟨rfl, ?_⟩ | refine ⟨_, _, Shift.refl _, ?_⟩ | refine ⟨_, _, _, rfl, rfl, by decide, ?_⟩ | refine ⟨_, rfl, ?_⟩); (conv => whnf))
  exact kQ hk (by kernel_rfl)
theorem bnd2_ok {k : AV → Prop} (hk : k (.tup [.agg [IC 50, IC 1073741824], Bo true])) : ∃ r, Does Tryz.prog 76 [.agg (cnC 2 1 50), I 0] r ∧ k r := by
  refine doesU_ex (n := 4) (qc := qc1) (np := []) (CK := ckK [(49, cSc R_cn0), (25, cSc R_within), (112, cSc R_prm9)]) mixed Tryz.func76 rfl rfl Tryz.ntmps76 Tryz.results76 τ_ok (by kernel_rfl) (ckK_ok ⟨cSc_ok one_ok, cSc_ok within_ok, cSc_ok prm9_ok, trivial⟩) (by simp) ?_
  conv => whnf
  repeat ((first | refine fork_t' rfl ?_ | refine fork_f' rfl ?_ | refine ⟨by decide, _, rfl, rfl, ?_⟩ | refine ⟨by decide, ?_⟩ | refine ⟨rfl, ?_⟩ | refine ⟨⟨rfl, rfl, rfl, rfl, by decide⟩, ?_⟩ | refine ⟨.inl rfl, ?_⟩ | refine ⟨.inr rfl, ?_⟩ | refine .inl ⟨rfl, ?_⟩ | refine .inr ⟨rfl, ?_⟩ | refine ⟨_, _, Shift.refl _, ?_⟩ | refine ⟨_, _, _, rfl, rfl, by decide, ?_⟩ | refine ⟨_, rfl, ?_⟩); (conv => whnf))
  exact kQ hk (by kernel_rfl)
def R_bnd9 : RT := fun args k => (args = [.agg (cnC 1 2 30), I 0] ∧ k (.tup [.agg [IC 0, IC 30], Bo true])) ∨ (args = [.agg (cnC 2 1 50), I 0] ∧ k (.tup [.agg [IC 50, IC 1073741824], Bo true]))
theorem bnd9_ok : FunR Tryz.prog 76 R_bnd9 := by
  intro args k h
  rcases h with ⟨rfl, hk⟩ | ⟨rfl, hk⟩
  · exact bnd1_ok hk
  · exact bnd2_ok hk
def R_clm9 : RT := fun args k => args = [I 90, .agg [IC 0, IC 30]] ∧ k (I 30)
theorem clm9_ok : FunR Tryz.prog 77 R_clm9 := by
  intro args k h
  obtain ⟨rfl, hk⟩ := h
  refine doesU_ex (n := 4) (qc := qc1) (np := []) (CK := ckK []) mixed Tryz.func77 rfl rfl Tryz.ntmps77 Tryz.results77 τ_ok (by kernel_rfl) (ckK_ok trivial) (by simp) ?_
  conv => whnf
  repeat ((first | refine fork_t' rfl ?_ | refine fork_f' rfl ?_ | refine ⟨by decide, _, rfl, rfl, ?_⟩ | refine ⟨by decide, ?_⟩ | refine ⟨rfl, ?_⟩ | refine ⟨⟨rfl, rfl, rfl, rfl, by decide⟩, ?_⟩ | refine ⟨.inl rfl, ?_⟩ | refine ⟨.inr rfl, ?_⟩ | refine .inl ⟨rfl, ?_⟩ | refine .inr ⟨rfl, ?_⟩ | refine ⟨_, _, Shift.refl _, ?_⟩ | refine ⟨_, _, _, rfl, rfl, by decide, ?_⟩ | refine ⟨_, rfl, ?_⟩); (conv => whnf))
  exact kQ hk (by kernel_rfl)
def R_rask : RT := fun args k => args = [.c (.lst cnds), I 0, I 150, I 0, .agg [IC 0, IC 1073741824], I 90] ∧ k (I 0)
theorem rask_ok : FunR Tryz.prog 50 R_rask := by
  intro args k h
  obtain ⟨rfl, hk⟩ := h
  refine doesU_ex (n := 4) (qc := qc1) (np := []) (CK := ckK [(74, cSc R_lask)]) mixed Tryz.func50 rfl rfl Tryz.ntmps50 Tryz.results50 τ_ok (by kernel_rfl) (ckK_ok ⟨cSc_ok lask_ok, trivial⟩) (by simp) ?_
  conv => whnf
  repeat ((first | refine fork_t' rfl ?_ | refine fork_f' rfl ?_ | refine ⟨by decide, _, rfl, rfl, ?_⟩ | refine ⟨by decide, ?_⟩ | refine ⟨rfl, ?_⟩ | refine ⟨⟨rfl, rfl, rfl, rfl, by decide⟩, ?_⟩ | refine ⟨.inl rfl, ?_⟩ | refine ⟨.inr rfl, ?_⟩ | refine .inl ⟨rfl, ?_⟩ | refine .inr ⟨rfl, ?_⟩ | refine ⟨_, _, Shift.refl _, ?_⟩ | refine ⟨_, _, _, rfl, rfl, by decide, ?_⟩ | refine ⟨_, rfl, ?_⟩); (conv => whnf))
  refine ⟨[0, 90, 0, 1073741824], rfl, by decide, rfl, ?_⟩
  conv => whnf
  repeat ((first | refine fork_t' rfl ?_ | refine fork_f' rfl ?_ | refine ⟨by decide, _, rfl, rfl, ?_⟩ | refine ⟨by decide, ?_⟩ | refine ⟨rfl, ?_⟩ | refine ⟨⟨rfl, rfl, rfl, rfl, by decide⟩, ?_⟩ | refine ⟨.inl rfl, ?_⟩ | refine ⟨.inr rfl, ?_⟩ | refine .inl ⟨rfl, ?_⟩ | refine .inr ⟨rfl, ?_⟩ | refine ⟨_, _, Shift.refl _, ?_⟩ | refine ⟨_, _, _, rfl, rfl, by decide, ?_⟩ | refine ⟨_, rfl, ?_⟩); (conv => whnf))
  exact kQ hk (by kernel_rfl)
def chz9 : List Cell := [IC 30, IC 0, IC 30, .lst [[IC 1, IC 0]]]
def R_chz : RT := fun args k => args = [.c (.lst cnds), I 0, I 150, I 0, .agg [IC 0, IC 1073741824], I 90] ∧ k (.agg chz9)
theorem chz_ok : FunR Tryz.prog 51 R_chz := by
  intro args k h
  obtain ⟨rfl, hk⟩ := h
  refine doesU_ex (n := 4) (qc := qc1) (np := [(1, [(1, 6), (1, 7), (4, 6), (4, 7), (4, 8), (6, 7)])]) (CK := ckK [(75, cPu R_acv9), (76, cSc R_bnd9), (77, cSc R_clm9)]) mixed Tryz.func51 rfl rfl Tryz.ntmps51 Tryz.results51 τ_ok (by kernel_rfl) (ckK_ok ⟨cPu_ok acv9_ok rfl, cSc_ok bnd9_ok, cSc_ok clm9_ok, trivial⟩) (by simp) ?_
  conv => whnf
  repeat ((first | refine fork_t' rfl ?_ | refine fork_f' rfl ?_ | refine ⟨by decide, _, rfl, rfl, ?_⟩ | refine ⟨by decide, ?_⟩ | refine ⟨rfl, ?_⟩ | refine ⟨⟨rfl, rfl, rfl, rfl, by decide⟩, ?_⟩ | refine ⟨.inl rfl, ?_⟩ | refine ⟨.inr rfl, ?_⟩ | refine .inl ⟨rfl, ?_⟩ | refine .inr ⟨rfl, ?_⟩ | refine ⟨_, _, Shift.refl _, ?_⟩ | refine ⟨_, _, _, rfl, rfl, by decide, ?_⟩ | refine ⟨_, rfl, ?_⟩); (conv => whnf))
  exact kQ hk (by kernel_rfl)
def R_chs9 : RT := fun args k => args = [.c (.lst cnds), I 0, I 150, I 0, .agg [IC 0, IC 1073741824], I 90] ∧ k (.tup [.agg chz9, I 0])
theorem chs9_ok : FunR Tryz.prog 29 R_chs9 := by
  intro args k h
  obtain ⟨rfl, hk⟩ := h
  refine doesU_ex (n := 4) (qc := qc1) (np := []) (CK := ckK [(50, cSc R_rask), (51, cPu R_chz)]) mixed Tryz.func29 rfl rfl Tryz.ntmps29 Tryz.results29 τ_ok (by kernel_rfl) (ckK_ok ⟨cSc_ok rask_ok, cPu_ok chz_ok rfl, trivial⟩) (by simp) ?_
  conv => whnf
  repeat ((first | refine fork_t' rfl ?_ | refine fork_f' rfl ?_ | refine ⟨by decide, _, rfl, rfl, ?_⟩ | refine ⟨by decide, ?_⟩ | refine ⟨rfl, ?_⟩ | refine ⟨⟨rfl, rfl, rfl, rfl, by decide⟩, ?_⟩ | refine ⟨.inl rfl, ?_⟩ | refine ⟨.inr rfl, ?_⟩ | refine .inl ⟨rfl, ?_⟩ | refine .inr ⟨rfl, ?_⟩ | refine ⟨_, _, Shift.refl _, ?_⟩ | refine ⟨_, _, _, rfl, rfl, by decide, ?_⟩ | refine ⟨_, rfl, ?_⟩); (conv => whnf))
  exact kQ hk (by kernel_rfl)
end Go.Proofs

/- A dam and a day, as the watching test has them. No program. -/
namespace Go.Proofs
open Go Go.Abs Go.RowKit
set_option linter.unusedSimpArgs false
set_option linter.unusedVariables false
set_option maxRecDepth 100000
def dX : Dm := ⟨⟨[(100, 0), (200, 1000)], 100, 120, 150, 180, 200⟩, [], [⟨[(0, [(0, 0), (10, 100)])], 10, 10⟩], 1⟩
def sX : Dt := ⟨500, 0, [], [⟨0, false⟩]⟩
theorem vX : validD dX sX = true := by kernel_rfl
theorem fX : dX.fin := ⟨by decide, by decide, by decide, fun u h => by simp [dX] at h, fun g h => by
  simp [dX] at h
  subst h
  exact ⟨by decide, fun r h => by simp at h; subst h; decide⟩⟩
theorem inX : stIn dX sX 10 0 30 := ⟨vX, fX, ⟨by decide, by decide⟩, by decide, by decide, by decide⟩
def xX : Wk := wk1 dX sX 10 0 30 (hgt dX.r.st sX.vol)
theorem hX1 : (stS xX [] 0 0 0).vol = 480 := by kernel_rfl
theorem hX2 : (stR xX 0 0 0).tur = 0 ∧ (stR xX 0 0 0).spi = 30 ∧ (stR xX 0 0 0).ovr = 0 := ⟨by kernel_rfl, by kernel_rfl, by kernel_rfl⟩
theorem hX3 : rkStep [1] 1 [] 30 = ([], 30, 0) := by kernel_rfl
end Go.Proofs

namespace Go.Proofs
open Go Go.Abs
set_option linter.unusedSimpArgs false
set_option linter.unusedVariables false
set_option maxRecDepth 20000
theorem awake_ok : FunR Tryz.prog 14 R_true := by
  intro args k h
  unfold R_true at h
  split at h
  case h_2 => exact h.elim
  have hk := h
  refine doesU_ex (n := 4) (qc := qc1) (np := [(5, [(0, 1), (0, 10), (0, 11), (1, 4), (1, 10), (1, 11), (4, 10), (4, 11), (5, 10), (5, 11), (10, 11)])]) (CK := ckK [(28, cPu R_parse), (29, cPu R_chs9), (10, cPu R_dst9), (12, cSc R_dfl), (11, cPu R_stepA)]) mixed Tryz.func14 rfl rfl Tryz.ntmps14 Tryz.results14 τ_ok (by kernel_rfl) (ckK_ok ⟨cPu_ok parse_ok rfl, cPu_ok chs9_ok rfl, cPu_ok step9_ok rfl, cSc_ok flow9_ok, cPu_ok stepA_ok rfl, trivial⟩) (by simp) ?_
  conv => whnf
  repeat ((first | refine fork_t' rfl ?_ | refine fork_f' rfl ?_ | refine ⟨by decide, _, rfl, rfl, ?_⟩ | refine ⟨by decide, ?_⟩ | refine ⟨rfl, ?_⟩ | refine ⟨⟨rfl, rfl, rfl, rfl, by decide⟩, ?_⟩ | refine ⟨.inl rfl, ?_⟩ | refine ⟨.inr rfl, ?_⟩ | refine .inl ⟨rfl, ?_⟩ | refine .inr ⟨rfl, ?_⟩ | refine ⟨_, _, Shift.refl _, ?_⟩ | refine ⟨_, _, _, rfl, rfl, by decide, ?_⟩ | refine ⟨_, rfl, ?_⟩); (conv => whnf))
  refine ⟨dX, sX, 10, 0, 30, rfl, inX, fun us' q p c hu => ?_⟩
  obtain ⟨rfl, rfl, rfl⟩ := hu.z rfl
  obtain rfl : us' = [] := List.length_eq_zero_iff.1 hu.l
  clear hu
  generalize hS : stS (wk1 dX sX 10 0 30 (hgt dX.r.st sX.vol)) [] 0 0 0 = S
  generalize hR : stR (wk1 dX sX 10 0 30 (hgt dX.r.st sX.vol)) 0 0 0 = R
  conv => whnf
  obtain ⟨r1, r2, r3⟩ := hX2
  rw [show xX = wk1 dX sX 10 0 30 (hgt dX.r.st sX.vol) from rfl, hR] at r1 r2 r3
  have hv := hX1
  rw [show xX = wk1 dX sX 10 0 30 (hgt dX.r.st sX.vol) from rfl, hS] at hv
  have hf : floR R = 30 := by unfold floR; omega
  refine ⟨R, rfl, ⟨by omega, by omega, by omega⟩, by omega, ?_⟩
  rw [hf]
  conv => whnf
  ((first | refine fork_t' rfl ?_ | refine fork_f' rfl ?_ | refine ⟨by decide, _, rfl, rfl, ?_⟩ | refine ⟨by decide, ?_⟩ | refine ⟨rfl, ?_⟩ | refine ⟨⟨rfl, rfl, rfl, rfl, by decide⟩, ?_⟩ | refine ⟨.inl rfl, ?_⟩ | refine ⟨.inr rfl, ?_⟩ | refine .inl ⟨rfl, ?_⟩ | refine .inr ⟨rfl, ?_⟩ | refine ⟨_, _, Shift.refl _, ?_⟩ | refine ⟨_, _, _, rfl, rfl, by decide, ?_⟩ | refine ⟨_, rfl, ?_⟩); (conv => whnf))
  refine ⟨[1], [], rfl, rfl, by decide, by decide, ?_⟩
  rw [hX3]
  conv => whnf
  repeat (first | ((first | refine fork_t' rfl ?_ | refine fork_f' rfl ?_ | refine ⟨by decide, _, rfl, rfl, ?_⟩ | refine ⟨by decide, ?_⟩ | refine ⟨rfl, ?_⟩ | refine ⟨⟨rfl, rfl, rfl, rfl, by decide⟩, ?_⟩ | refine ⟨.inl rfl, ?_⟩ | refine ⟨.inr rfl, ?_⟩ | refine .inl ⟨rfl, ?_⟩ | refine .inr ⟨rfl, ?_⟩ | refine ⟨_, _, Shift.refl _, ?_⟩ | refine ⟨_, _, _, rfl, rfl, by decide, ?_⟩ | refine ⟨_, rfl, ?_⟩); (conv => whnf)) | (refine fork_t' (by rw [hv]; rfl) ?_; (conv => whnf)))
  exact kQ hk (by kernel_rfl)
end Go.Proofs

/- Water on its way: a dam's steps and a reach's, added up. No program. -/
namespace Go.Proofs
open Go Go.Abs
set_option linter.unusedSimpArgs false
set_option linter.unusedVariables false
/-- What a step of a dam comes to. -/
structure dsOk (d : Dm) (s : Dt) (inf los : Int) (s' : Dt) (r : Rc) : Prop where
  v : validD d s' = true
  w : s'.vol = s.vol + inf - r.los - (r.tur + r.spi + r.ovr)
  i : r.inf = inf
  l : 0 ≤ r.los ∧ r.los ≤ los
  t : 0 ≤ r.tur
  sp : 0 ≤ r.spi
  o : 0 ≤ r.ovr
def R_dst10 : RT := fun args k => ∃ (d : Dm) (s : Dt) (inf los rel : Int), args = [.agg (dmC d), .agg (dtC s), I inf, I los, I rel] ∧ stIn d s inf los rel ∧ ∀ (s' : Dt) (r : Rc), dsOk d s inf los s' r → k (.tup [.agg (dtC s'), .agg (rcC r), I 0])
theorem dst10 {args : List AV} {k : AV → Prop} (h : R_dst10 args k) : R_dst9 args k := by
  obtain ⟨d, s, inf, los, rel, rfl, hin, hk⟩ := h
  refine ⟨d, s, inf, los, rel, rfl, hin, fun us' q p c hu => hk _ _ ?_⟩
  have ho := hin.ok (levD_in hin.v) hu
  have hl := hin.los
  exact ⟨ho.v, ho.w, rfl, ⟨hl.1, hl.2.2⟩, ho.tur.1, ho.spi.1, ho.o⟩
def R_rst10 : RT := fun args k => ∃ (ws ps : Ls) (den q : Int), args = [.agg [.lst (eL ws), IC den], .agg [.lst (eL ps)], I q] ∧ rkCheck ws den = 0 ∧ fitsB ws.length ps = true ∧ (0 ≤ q ∧ q ≤ 1073741824) ∧ ps.sum + den * q ≤ 1125899906842624 ∧
  ∀ (ps' : Ls) (o : Int), fitsB ws.length ps' = true → ps'.sum + den * o = ps.sum + den * q → 0 ≤ o → k (.tup [.agg [.lst (eL ps')], I o, I 0])
theorem rst10 {args : List AV} {k : AV → Prop} (h : R_rst10 args k) : R_stepA args k := by
  obtain ⟨ws, ps, den, q, rfl, hr, hf, hq, hb, hk⟩ := h
  obtain ⟨p, o, r1, r2, r3, r4, r5⟩ := runGo_ok hr [q] ps hf (fun x hx => by simp at hx; subst hx; exact hq) (by simpa using hb)
  have e := rkRun_ok hr hf (by simp) r1
  have hs : rkStep ws den ps q = (p, o.headD 0, 0) := by simp [rkStep, e]
  obtain ⟨x, rfl⟩ : ∃ x, o = [x] := by
    match o, r2 with
    | [x], _ => exact ⟨x, rfl⟩
  have a := rk_facts hr
  have b := fits_facts hf
  refine ⟨ws, ps, rfl, rfl, by omega, by omega, ?_⟩
  rw [hs]
  exact hk p x r3 (by simpa using r4) (r5 x (by simp))
theorem mul_bd {a b A B : Int} (h0 : 0 ≤ a) (h1 : a ≤ A) (h2 : -B ≤ b) (h3 : b ≤ B) : -(A * B) ≤ a * b ∧ a * b ≤ A * B := by
  have hB : 0 ≤ B := by omega
  have e1 : a * b ≤ a * B := Int.mul_le_mul_of_nonneg_left h3 h0
  have e2 : a * B ≤ A * B := Int.mul_le_mul_of_nonneg_right h1 hB
  have e3 : a * (-B) ≤ a * b := Int.mul_le_mul_of_nonneg_left h2 h0
  rw [Int.mul_neg] at e3
  omega
/-- Where the water is, after some steps. -/
structure wtAt (d : Dm) (ws : Ls) (den v0 h0 : Int) (i : Nat) (s : Dt) (ps : Ls) (came lost gone : Int) : Prop where
  hi : i ≤ 8
  v : validD d s = true
  f : fitsB ws.length ps = true
  b : ps.sum ≤ 24000000 + 300000000 * (i : Int)
  c : 0 ≤ came ∧ came ≤ 120 * (i : Int)
  lo : 0 ≤ lost ∧ lost ≤ 20 * (i : Int)
  g : 0 ≤ gone ∧ gone ≤ 3000000000 * (i : Int)
  e : den * s.vol + ps.sum + den * lost + den * gone = den * v0 + h0 + den * came
/-- A step's flow is small. -/
theorem wtAt.flow {d : Dm} {ws : Ls} {den v0 h0 : Int} {i : Nat} {s : Dt} {ps : Ls} {came lost gone : Int} (h : wtAt d ws den v0 h0 i s ps came lost gone) (hc : valC d.r.st d.r.crest ≤ 1000) {inf los : Int} (hi : 0 ≤ inf ∧ inf < 120) (hl : 0 ≤ los ∧ los < 20) {s' : Dt} {r : Rc} (hs : dsOk d s inf los s' r) :
    0 ≤ floR r ∧ floR r ≤ 1120 ∧ (0 ≤ s.vol ∧ s.vol ≤ 1000) ∧ (0 ≤ s'.vol ∧ s'.vol ≤ 1000) := by
  have a := (validD_at h.v).2.1
  have b := (validD_at hs.v).2.1
  have := hs.w
  have := hs.l
  have := hs.t
  have := hs.sp
  have := hs.o
  unfold floR
  omega
theorem wtAt.small {d : Dm} {ws : Ls} {den v0 h0 : Int} {i : Nat} {s : Dt} {ps : Ls} {came lost gone : Int} (h : wtAt d ws den v0 h0 i s ps came lost gone) (hr : rkCheck ws den = 0) (hi8 : i < 8) {q : Int} (hq : 0 ≤ q ∧ q ≤ 1120) : 0 ≤ den * q ∧ den * q ≤ 268800000 ∧ ps.sum + den * q ≤ 1125899906842624 := by
  obtain ⟨a1, a2, _, a4, a5, a6, _⟩ := rk_facts hr
  have h1 := Int.mul_nonneg (show 0 ≤ den by omega) hq.1
  have h2 := (mul_bd (a := den) (b := q) (A := 240000) (B := 1120) (by omega) a5 (by omega) hq.2).2
  have := h.b
  omega
theorem wtAt.step {d : Dm} {ws : Ls} {den v0 h0 : Int} {i : Nat} {s : Dt} {ps : Ls} {came lost gone : Int} (h : wtAt d ws den v0 h0 i s ps came lost gone) (hr : rkCheck ws den = 0) (hi8 : i < 8) (hc : valC d.r.st d.r.crest ≤ 1000) {inf los : Int} (hi : 0 ≤ inf ∧ inf < 120) (hl : 0 ≤ los ∧ los < 20) {s' : Dt} {r : Rc} (hs : dsOk d s inf los s' r)
    {ps' : Ls} {o : Int} (h1 : fitsB ws.length ps' = true) (h2 : ps'.sum + den * o = ps.sum + den * floR r) (h3 : 0 ≤ o) : wtAt d ws den v0 h0 (i + 1) s' ps' (came + inf) (lost + r.los) (gone + o) ∧ o ≤ 3000000000 := by
  obtain ⟨q1, q2, _, _⟩ := h.flow hc hi hl hs
  obtain ⟨p1, p2, p3⟩ := h.small hr hi8 ⟨q1, q2⟩
  obtain ⟨a1, a2, _, a4, a5, a6, _⟩ := rk_facts hr
  have hs0 := fits_sum h1
  have hb := h.b
  have hog : o ≤ den * o := by
    have := Int.mul_le_mul_of_nonneg_right (show (1 : Int) ≤ den by omega) h3
    omega
  have hdo : 0 ≤ den * o := Int.mul_nonneg (by omega) h3
  have hll := hs.l
  have hlo := h.lo
  have hca := h.c
  have hgo := h.g
  have e := h.e
  have hw := hs.w
  have hfl : r.tur + r.spi + r.ovr = floR r := rfl
  refine ⟨⟨by omega, hs.v, h1, by omega, by omega, by omega, by omega, ?_⟩, by omega⟩
  rw [hw, hfl]
  have x1 : den * (s.vol + inf - r.los - floR r) = den * s.vol + den * inf - den * r.los - den * floR r := by rw [Int.mul_sub, Int.mul_sub, Int.mul_add]
  rw [x1, Int.mul_add, Int.mul_add, Int.mul_add]
  omega
/-- The balance at the end. -/
theorem wtAt.fin {d : Dm} {ws : Ls} {den v0 h0 : Int} {i : Nat} {s : Dt} {ps : Ls} {came lost gone : Int} (h : wtAt d ws den v0 h0 i s ps came lost gone) : den * (s.vol - v0) + ps.sum - h0 = den * (came - lost - gone) := by
  have e := h.e
  rw [Int.mul_sub, Int.mul_sub, Int.mul_sub]
  omega
end Go.Proofs
