/- Proved here: what functions of the given program come to, for the statements of this chapter; no condition but those in the theorems. -/
import Derived.Test.YtfhnicamjcfddaaGreatDoorA9l
namespace Go.Proofs
open Go Go.Abs
set_option linter.unusedSimpArgs false
set_option linter.unusedVariables false
set_option maxRecDepth 20000
theorem w24_ok : FunR Tryz.prog 72 R_w24 := by
  intro args k h
  obtain ⟨x, rfl, hk⟩ := h
  refine does_ex (qc := qc1) (np := []) (CK := ckK [(25, cSc R_within)]) mixed Tryz.func72 rfl rfl Tryz.ntmps72 Tryz.results72 τ_ok (by kernel_rfl) (ckK_ok ⟨cSc_ok within_ok, trivial⟩) (by simp) ?_
  conv => whnf
  exact hk
def R_is9 : RT := fun args k => ∃ x : Int, args = [I x] ∧ k (Bo (decide (0 ≤ x) && decide (x ≤ 364)))
theorem is9_ok : FunR Tryz.prog 105 R_is9 := by
  intro args k h
  obtain ⟨x, rfl, hk⟩ := h
  refine does_ex (qc := qc1) (np := []) (CK := ckK [(25, cSc R_within)]) mixed Tryz.func105 rfl rfl Tryz.ntmps105 Tryz.results105 τ_ok (by kernel_rfl) (ckK_ok ⟨cSc_ok within_ok, trivial⟩) (by simp) ?_
  conv => whnf
  exact hk
def R_cval : RT := fun args k => args = [.agg [IC 0, IC 364]] ∧ k (Bo true)
theorem cval_ok : FunR Tryz.prog 73 R_cval := by
  intro args k h
  obtain ⟨rfl, hk⟩ := h
  refine does_ex (qc := qc1) (np := []) (CK := ckK [(105, cSc R_is9)]) mixed Tryz.func73 rfl rfl Tryz.ntmps73 Tryz.results73 τ_ok (by kernel_rfl) (ckK_ok ⟨cSc_ok is9_ok, trivial⟩) (by simp) ?_
  conv => whnf
  repeat ((first | refine fork_t' rfl ?_ | refine fork_f' rfl ?_ | refine ⟨by decide, _, rfl, rfl, ?_⟩ | refine ⟨by decide, ?_⟩ | refine ⟨rfl, ?_⟩ | refine ⟨⟨rfl, rfl, rfl, rfl, by decide⟩, ?_⟩ | refine ⟨.inl rfl, ?_⟩ | refine ⟨.inr rfl, ?_⟩ | refine .inl ⟨rfl, ?_⟩ | refine .inr ⟨rfl, ?_⟩ | refine ⟨_, _, Shift.refl _, ?_⟩ | refine ⟨_, _, _, rfl, rfl, by decide, ?_⟩ | refine ⟨_, rfl, ?_⟩); (conv => whnf))
  exact kQ hk (by kernel_rfl)
theorem one1_ok {k : AV → Prop} (hk : k (I 0)) : ∃ r, Does Tryz.prog 49 [.agg (cnC 1 2 30)] r ∧ k r := by
  refine doesU_ex (n := 4) (qc := qc1) (np := []) (CK := ckK [(25, cSc R_within), (73, cSc R_cval), (72, cSc R_w24)]) mixed Tryz.func49 rfl rfl Tryz.ntmps49 Tryz.results49 τ_ok (by kernel_rfl) (ckK_ok ⟨cSc_ok within_ok, cSc_ok cval_ok, cSc_ok w24_ok, trivial⟩) (by simp) ?_
  conv => whnf
  repeat ((first | refine fork_t' rfl ?_ | refine fork_f' rfl ?_ | refine ⟨by decide, _, rfl, rfl, ?_⟩ | refine ⟨by decide, ?_⟩ | refine ⟨rfl, ?_⟩ | refine ⟨⟨rfl, rfl, rfl, rfl, by decide⟩, ?_⟩ | refine ⟨.inl rfl, ?_⟩ | refine ⟨.inr rfl, ?_⟩ | refine .inl ⟨rfl, ?_⟩ | refine .inr ⟨rfl, ?_⟩ | refine ⟨_, _, Shift.refl _, ?_⟩ | refine ⟨_, _, _, rfl, rfl, by decide, ?_⟩ | refine ⟨_, rfl, ?_⟩); (conv => whnf))
  exact kQ hk (by kernel_rfl)
theorem one2_ok {k : AV → Prop} (hk : k (I 0)) : ∃ r, Does Tryz.prog 49 [.agg (cnC 2 1 50)] r ∧ k r := by
  refine doesU_ex (n := 4) (qc := qc1) (np := []) (CK := ckK [(25, cSc R_within), (73, cSc R_cval), (72, cSc R_w24)]) mixed Tryz.func49 rfl rfl Tryz.ntmps49 Tryz.results49 τ_ok (by kernel_rfl) (ckK_ok ⟨cSc_ok within_ok, cSc_ok cval_ok, cSc_ok w24_ok, trivial⟩) (by simp) ?_
  conv => whnf
  repeat ((first | refine fork_t' rfl ?_ | refine fork_f' rfl ?_ | refine ⟨by decide, _, rfl, rfl, ?_⟩ | refine ⟨by decide, ?_⟩ | refine ⟨rfl, ?_⟩ | refine ⟨⟨rfl, rfl, rfl, rfl, by decide⟩, ?_⟩ | refine ⟨.inl rfl, ?_⟩ | refine ⟨.inr rfl, ?_⟩ | refine .inl ⟨rfl, ?_⟩ | refine .inr ⟨rfl, ?_⟩ | refine ⟨_, _, Shift.refl _, ?_⟩ | refine ⟨_, _, _, rfl, rfl, by decide, ?_⟩ | refine ⟨_, rfl, ?_⟩); (conv => whnf))
  exact kQ hk (by kernel_rfl)
theorem one_ok : FunR Tryz.prog 49 R_cn0 := by
  intro args k h
  obtain ⟨c, rfl, hc, hk⟩ := h
  rcases hc with rfl | rfl
  · exact one1_ok hk
  · exact one2_ok hk
theorem parse_ok : FunR Tryz.prog 28 R_parse := by
  intro args k h
  obtain ⟨rfl, hk⟩ := h
  refine doesU_ex (n := 4) (qc := qc1) (np := []) (CK := ckK [(47, cPu R_lines), (48, cSc R_cond), (49, cSc R_cn0)]) mixed Tryz.func28 rfl rfl Tryz.ntmps28 Tryz.results28 τ_ok (by kernel_rfl) (ckK_ok ⟨cPu_ok lines_ok rfl, cSc_ok cond_ok, cSc_ok one_ok, trivial⟩) (by simp) ?_
  conv => whnf
  repeat ((first | refine fork_t' rfl ?_ | refine fork_f' rfl ?_ | refine ⟨by decide, _, rfl, rfl, ?_⟩ | refine ⟨by decide, ?_⟩ | refine ⟨rfl, ?_⟩ | refine ⟨⟨rfl, rfl, rfl, rfl, by decide⟩, ?_⟩ | refine ⟨.inl rfl, ?_⟩ | refine ⟨.inr rfl, ?_⟩ | refine .inl ⟨rfl, ?_⟩ | refine .inr ⟨rfl, ?_⟩ | refine ⟨_, _, Shift.refl _, ?_⟩ | refine ⟨_, _, _, rfl, rfl, by decide, ?_⟩ | refine ⟨_, rfl, ?_⟩); (conv => whnf))
  exact kQ hk (by kernel_rfl)
theorem lck_ok : FunR Tryz.prog 106 R_lck := by
  intro args k h
  obtain ⟨rfl, hk⟩ := h
  refine doesU_ex (n := 4) (qc := qc1) (np := []) (CK := ckK [(49, cSc R_cn0)]) mixed Tryz.func106 rfl rfl Tryz.ntmps106 Tryz.results106 τ_ok (by kernel_rfl) (ckK_ok ⟨cSc_ok one_ok, trivial⟩) (by simp) ?_
  conv => whnf
  repeat ((first | refine fork_t' rfl ?_ | refine fork_f' rfl ?_ | refine ⟨by decide, _, rfl, rfl, ?_⟩ | refine ⟨by decide, ?_⟩ | refine ⟨rfl, ?_⟩ | refine ⟨⟨rfl, rfl, rfl, rfl, by decide⟩, ?_⟩ | refine ⟨.inl rfl, ?_⟩ | refine ⟨.inr rfl, ?_⟩ | refine .inl ⟨rfl, ?_⟩ | refine .inr ⟨rfl, ?_⟩ | refine ⟨_, _, Shift.refl _, ?_⟩ | refine ⟨_, _, _, rfl, rfl, by decide, ?_⟩ | refine ⟨_, rfl, ?_⟩); (conv => whnf))
  exact kQ hk (by kernel_rfl)
def R_lask : RT := fun args k => ∃ l : Ls, args = [.c (.lst cnds), I 0, I 150, .c (.lst (eL l))] ∧ l.length ≤ 1000 ∧ l.any badN = false ∧ k (I 0)
theorem lask_ok : FunR Tryz.prog 74 R_lask := by
  intro args k h
  obtain ⟨l, rfl, hl, hb, hk⟩ := h
  refine doesU_ex (n := 4) (qc := qc1) (np := []) (CK := ckK [(106, cSc R_lck), (105, cSc R_is9), (25, cSc R_within), (23, cSc (R_cnN 24 107))]) mixed Tryz.func74 rfl rfl Tryz.ntmps74 Tryz.results74 τ_ok (by kernel_rfl) (ckK_ok ⟨cSc_ok lck_ok, cSc_ok is9_ok, cSc_ok within_ok, cSc_ok cnN_ok, trivial⟩) (by simp) ?_
  conv => whnf
  repeat ((first | refine fork_t' rfl ?_ | refine fork_f' rfl ?_ | refine ⟨by decide, _, rfl, rfl, ?_⟩ | refine ⟨by decide, ?_⟩ | refine ⟨rfl, ?_⟩ | refine ⟨⟨rfl, rfl, rfl, rfl, by decide⟩, ?_⟩ | refine ⟨.inl rfl, ?_⟩ | refine ⟨.inr rfl, ?_⟩ | refine .inl ⟨rfl, ?_⟩ | refine .inr ⟨rfl, ?_⟩ | refine ⟨_, _, Shift.refl _, ?_⟩ | refine ⟨_, _, _, rfl, rfl, by decide, ?_⟩ | refine ⟨_, rfl, ?_⟩); (conv => whnf))
  refine ⟨l, _, rfl, .inr rfl, by omega, ?_⟩
  rw [hb]
  conv => whnf
  repeat ((first | refine fork_t' rfl ?_ | refine fork_f' rfl ?_ | refine ⟨by decide, _, rfl, rfl, ?_⟩ | refine ⟨by decide, ?_⟩ | refine ⟨rfl, ?_⟩ | refine ⟨⟨rfl, rfl, rfl, rfl, by decide⟩, ?_⟩ | refine ⟨.inl rfl, ?_⟩ | refine ⟨.inr rfl, ?_⟩ | refine .inl ⟨rfl, ?_⟩ | refine .inr ⟨rfl, ?_⟩ | refine ⟨_, _, Shift.refl _, ?_⟩ | refine ⟨_, _, _, rfl, rfl, by decide, ?_⟩ | refine ⟨_, rfl, ?_⟩); (conv => whnf))
  exact kQ hk (by kernel_rfl)
def R_nan : RT := fun args k => ∃ x : Int, args = [I x] ∧ k (Bo false)
theorem nan_ok : FunR Tryz.prog 154 R_nan := by
  intro args k h
  obtain ⟨x, rfl, hk⟩ := h
  refine does_ex (qc := qc1) (np := []) (CK := ckK []) mixed Tryz.func154 rfl rfl Tryz.ntmps154 Tryz.results154 τ_ok (by kernel_rfl) (ckK_ok trivial) (by simp) ?_
  conv => whnf
  exact kQ hk (by simp; rfl)
def R_cmp21 : RT := fun args k => args = [I 2, I 1] ∧ k (I 1)
theorem cmp21_ok : FunR Tryz.prog 134 R_cmp21 := by
  intro args k h
  obtain ⟨rfl, hk⟩ := h
  refine does_ex (qc := qc1) (np := []) (CK := ckK [(154, cSc R_nan)]) mixed Tryz.func134 rfl rfl Tryz.ntmps134 Tryz.results134 τ_ok (by kernel_rfl) (ckK_ok ⟨cSc_ok nan_ok, trivial⟩) (by simp) ?_
  conv => whnf
  repeat ((first | refine fork_t' rfl ?_ | refine fork_f' rfl ?_ | refine ⟨by decide, _, rfl, rfl, ?_⟩ | refine ⟨by decide, ?_⟩ | refine ⟨rfl, ?_⟩ | refine ⟨⟨rfl, rfl, rfl, rfl, by decide⟩, ?_⟩ | refine ⟨.inl rfl, ?_⟩ | refine ⟨.inr rfl, ?_⟩ | refine .inl ⟨rfl, ?_⟩ | refine .inr ⟨rfl, ?_⟩ | refine ⟨_, _, Shift.refl _, ?_⟩ | refine ⟨_, _, _, rfl, rfl, by decide, ?_⟩ | refine ⟨_, rfl, ?_⟩); (conv => whnf))
  exact kQ hk (by kernel_rfl)
def R_ord1 : RG := fun args os k => args = [I 1, I 0, .c (.ptr (.x 0) 0)] ∧ os = [.blk [.lst cnds]] ∧ k (I 1) [.blk [.lst cnds]]
theorem ord1_ok : FunG Tryz.prog 133 R_ord1 := by
  intro args os k h
  obtain ⟨rfl, rfl, hk⟩ := h
  refine doesGU_ex (n := 4) (qc := qc1) (np := []) (CK := ckK [(134, cSc R_cmp21)]) mixed Tryz.func133 rfl rfl Tryz.ntmps133 Tryz.results133 τ_ok (by kernel_rfl) (ckK_ok ⟨cSc_ok cmp21_ok, trivial⟩) (by simp) rfl rfl ?_
  conv => whnf
  repeat ((first | refine fork_t' rfl ?_ | refine fork_f' rfl ?_ | refine ⟨by decide, _, rfl, rfl, ?_⟩ | refine ⟨by decide, ?_⟩ | refine ⟨rfl, ?_⟩ | refine ⟨⟨rfl, rfl, rfl, rfl, by decide⟩, ?_⟩ | refine ⟨.inl rfl, ?_⟩ | refine ⟨.inr rfl, ?_⟩ | refine .inl ⟨rfl, ?_⟩ | refine .inr ⟨rfl, ?_⟩ | refine ⟨_, _, Shift.refl _, ?_⟩ | refine ⟨_, _, _, rfl, rfl, by decide, ?_⟩ | refine ⟨_, rfl, ?_⟩); (conv => whnf))
  exact kQG hk (by kernel_rfl) rfl
def osS : List MObj := [.arr 3 1 [[IC 0], [IC 1]] false, .blk [.lst cnds]]
def R_ins9 : RG := fun args os k => args = [.c (.view (.x 0) 0 2), I 0, I 2, .c (.fn 133 [.ptr (.x 1) 0])] ∧ os = osS ∧ k (.tup []) osS
theorem ins9_ok : FunG Tryz.prog 168 R_ins9 := by
  intro args os k h
  obtain ⟨rfl, rfl, hk⟩ := h
  refine doesGU_ex (n := 4) (qc := qc1) (np := []) (CK := ckK [(133, cGr R_ord1)]) mixed Tryz.func168 rfl rfl Tryz.ntmps168 Tryz.results168 τ_ok (by kernel_rfl) (ckK_ok ⟨cGr_ok ord1_ok, trivial⟩) (by simp) rfl rfl ?_
  conv => whnf
  repeat ((first | refine fork_t' rfl ?_ | refine fork_f' rfl ?_ | refine ⟨by decide, _, rfl, rfl, ?_⟩ | refine ⟨by decide, ?_⟩ | refine ⟨rfl, ?_⟩ | refine ⟨⟨rfl, rfl, rfl, rfl, by decide⟩, ?_⟩ | refine ⟨.inl rfl, ?_⟩ | refine ⟨.inr rfl, ?_⟩ | refine .inl ⟨rfl, ?_⟩ | refine .inr ⟨rfl, ?_⟩ | refine ⟨_, _, Shift.refl _, ?_⟩ | refine ⟨_, _, _, rfl, rfl, by decide, ?_⟩ | refine ⟨_, rfl, ?_⟩); (conv => whnf))
  refine ⟨[.x 1], rfl, ?_⟩
  conv => whnf
  repeat ((first | refine fork_t' rfl ?_ | refine fork_f' rfl ?_ | refine ⟨by decide, _, rfl, rfl, ?_⟩ | refine ⟨by decide, ?_⟩ | refine ⟨rfl, ?_⟩ | refine ⟨⟨rfl, rfl, rfl, rfl, by decide⟩, ?_⟩ | refine ⟨.inl rfl, ?_⟩ | refine ⟨.inr rfl, ?_⟩ | refine .inl ⟨rfl, ?_⟩ | refine .inr ⟨rfl, ?_⟩ | refine ⟨_, _, Shift.refl _, ?_⟩ | refine ⟨_, _, _, rfl, rfl, by decide, ?_⟩ | refine ⟨_, rfl, ?_⟩); (conv => whnf))
  exact kQG hk rfl rfl
def R_stb9 : RG := fun args os k => args = [.c (.view (.x 0) 0 2), I 2, .c (.fn 133 [.ptr (.x 1) 0])] ∧ os = osS ∧ k (.tup []) osS
theorem stb9_ok : FunG Tryz.prog 153 R_stb9 := by
  intro args os k h
  obtain ⟨rfl, rfl, hk⟩ := h
  refine doesGU_ex (n := 4) (qc := qc1) (np := []) (CK := ckK [(168, cG R_ins9)]) mixed Tryz.func153 rfl rfl Tryz.ntmps153 Tryz.results153 τ_ok (by kernel_rfl) (ckK_ok ⟨cG_ok ins9_ok rfl, trivial⟩) (by simp) rfl rfl ?_
  conv => whnf
  repeat ((first | refine fork_t' rfl ?_ | refine fork_f' rfl ?_ | refine ⟨by decide, _, rfl, rfl, ?_⟩ | refine ⟨by decide, ?_⟩ | refine ⟨rfl, ?_⟩ | refine ⟨⟨rfl, rfl, rfl, rfl, by decide⟩, ?_⟩ | refine ⟨.inl rfl, ?_⟩ | refine ⟨.inr rfl, ?_⟩ | refine .inl ⟨rfl, ?_⟩ | refine .inr ⟨rfl, ?_⟩ | refine ⟨_, _, Shift.refl _, ?_⟩ | refine ⟨_, _, _, rfl, rfl, by decide, ?_⟩ | refine ⟨_, rfl, ?_⟩); (conv => whnf))
  refine ⟨[.x 0, .x 1], rfl, ?_⟩
  conv => whnf
  repeat ((first | refine fork_t' rfl ?_ | refine fork_f' rfl ?_ | refine ⟨by decide, _, rfl, rfl, ?_⟩ | refine ⟨by decide, ?_⟩ | refine ⟨rfl, ?_⟩ | refine ⟨⟨rfl, rfl, rfl, rfl, by decide⟩, ?_⟩ | refine ⟨.inl rfl, ?_⟩ | refine ⟨.inr rfl, ?_⟩ | refine .inl ⟨rfl, ?_⟩ | refine .inr ⟨rfl, ?_⟩ | refine ⟨_, _, Shift.refl _, ?_⟩ | refine ⟨_, _, _, rfl, rfl, by decide, ?_⟩ | refine ⟨_, rfl, ?_⟩); (conv => whnf))
  exact kQG hk rfl rfl
def R_sst9 : RG := fun args os k => args = [.c (.view (.x 0) 0 2), .c (.fn 133 [.ptr (.x 1) 0])] ∧ os = osS ∧ k (.tup []) osS
theorem sst9_ok : FunG Tryz.prog 132 R_sst9 := by
  intro args os k h
  obtain ⟨rfl, rfl, hk⟩ := h
  refine doesGU_ex (n := 4) (qc := qc1) (np := []) (CK := ckK [(153, cG R_stb9)]) mixed Tryz.func132 rfl rfl Tryz.ntmps132 Tryz.results132 τ_ok (by kernel_rfl) (ckK_ok ⟨cG_ok stb9_ok rfl, trivial⟩) (by simp) rfl rfl ?_
  conv => whnf
  repeat ((first | refine fork_t' rfl ?_ | refine fork_f' rfl ?_ | refine ⟨by decide, _, rfl, rfl, ?_⟩ | refine ⟨by decide, ?_⟩ | refine ⟨rfl, ?_⟩ | refine ⟨⟨rfl, rfl, rfl, rfl, by decide⟩, ?_⟩ | refine ⟨.inl rfl, ?_⟩ | refine ⟨.inr rfl, ?_⟩ | refine .inl ⟨rfl, ?_⟩ | refine .inr ⟨rfl, ?_⟩ | refine ⟨_, _, Shift.refl _, ?_⟩ | refine ⟨_, _, _, rfl, rfl, by decide, ?_⟩ | refine ⟨_, rfl, ?_⟩); (conv => whnf))
  refine ⟨[.x 0, .x 1], rfl, ?_⟩
  conv => whnf
  repeat ((first | refine fork_t' rfl ?_ | refine fork_f' rfl ?_ | refine ⟨by decide, _, rfl, rfl, ?_⟩ | refine ⟨by decide, ?_⟩ | refine ⟨rfl, ?_⟩ | refine ⟨⟨rfl, rfl, rfl, rfl, by decide⟩, ?_⟩ | refine ⟨.inl rfl, ?_⟩ | refine ⟨.inr rfl, ?_⟩ | refine .inl ⟨rfl, ?_⟩ | refine .inr ⟨rfl, ?_⟩ | refine ⟨_, _, Shift.refl _, ?_⟩ | refine ⟨_, _, _, rfl, rfl, by decide, ?_⟩ | refine ⟨_, rfl, ?_⟩); (conv => whnf))
  exact kQG hk rfl rfl
abbrev ord9 : List (List Cell) := [[IC 0], [IC 1]]
def R_ord9 : RT := fun args k => args = [.c (.lst cnds)] ∧ k (.c (.lst ord9))
theorem ord9_ok : FunR Tryz.prog 109 R_ord9 := by
  intro args k h
  obtain ⟨rfl, hk⟩ := h
  refine doesU_ex (n := 4) (qc := qc1) (np := []) (CK := ckK [(132, cG R_sst9)]) mixed Tryz.func109 rfl rfl Tryz.ntmps109 Tryz.results109 τ_ok (by kernel_rfl) (ckK_ok ⟨cG_ok sst9_ok rfl, trivial⟩) (by simp) ?_
  conv => whnf
  repeat ((first | refine fork_t' rfl ?_ | refine fork_f' rfl ?_ | refine ⟨by decide, _, rfl, rfl, ?_⟩ | refine ⟨by decide, ?_⟩ | refine ⟨rfl, ?_⟩ | refine ⟨⟨rfl, rfl, rfl, rfl, by decide⟩, ?_⟩ | refine ⟨.inl rfl, ?_⟩ | refine ⟨.inr rfl, ?_⟩ | refine .inl ⟨rfl, ?_⟩ | refine .inr ⟨rfl, ?_⟩ | refine ⟨_, _, Shift.refl _, ?_⟩ | refine ⟨_, _, _, rfl, rfl, by decide, ?_⟩ | refine ⟨_, rfl, ?_⟩); (conv => whnf))
  refine ⟨[.l 13 4, .l 1 0], rfl, ?_⟩
  conv => whnf
  repeat ((first | refine fork_t' rfl ?_ | refine fork_f' rfl ?_ | refine ⟨by decide, _, rfl, rfl, ?_⟩ | refine ⟨by decide, ?_⟩ | refine ⟨rfl, ?_⟩ | refine ⟨⟨rfl, rfl, rfl, rfl, by decide⟩, ?_⟩ | refine ⟨.inl rfl, ?_⟩ | refine ⟨.inr rfl, ?_⟩ | refine .inl ⟨rfl, ?_⟩ | refine .inr ⟨rfl, ?_⟩ | refine ⟨_, _, Shift.refl _, ?_⟩ | refine ⟨_, _, _, rfl, rfl, by decide, ?_⟩ | refine ⟨_, rfl, ?_⟩); (conv => whnf))
  exact kQ hk (by kernel_rfl)
end Go.Proofs
