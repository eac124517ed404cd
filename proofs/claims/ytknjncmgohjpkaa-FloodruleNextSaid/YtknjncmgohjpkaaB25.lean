/- Proved here: what functions of the given program come to, for the statements of this chapter; no condition but those in the theorems. -/
import Derived.Test.YtknjncmgohjpkaaPBase
import Derived.Test.YtknjncmgohjpkaaProg
namespace Go.Proofs
open Go Go.Abs
set_option linter.unusedSimpArgs false
set_option linter.unusedVariables false
set_option maxRecDepth 4000
def τ : List (Nat × TI) := [
 (3, { agg := false, size := 1, bytes := 8, zero := [.int .i64 0], d := .int .i64 }),
 (4, { agg := false, size := 1, bytes := 1, zero := [.bool false], d := .bool }),
 (5, { agg := false, size := 1, bytes := 1, zero := [.int .u8 0], d := .int .u8 }),
 (22, { agg := false, size := 1, bytes := 24, zero := [.slice none 0 0], d := .slice 3 }),
 (25, { agg := false, size := 1, bytes := 8, zero := [.pointer none], d := .other }),
 (27, { agg := false, size := 1, bytes := 24, zero := [.slice none 0 0], d := .slice 22 }),
 (29, { agg := true, size := 3, bytes := 72, zero := [.slice none 0 0, .slice none 0 0, .slice none 0 0], d := .struct [(0, 22), (1, 22), (2, 27)] }),
 (31, { agg := true, size := 6, bytes := 96, zero := [.slice none 0 0, .slice none 0 0, .slice none 0 0, .int .i64 0, .int .i64 0, .int .i64 0], d := .struct [(0, 29), (3, 3), (4, 3), (5, 3)] }),
 (33, { agg := false, size := 1, bytes := 24, zero := [.slice none 0 0], d := .slice 54 }),
 (35, { agg := true, size := 6, bytes := 64, zero := [.slice none 0 0, .int .i64 0, .int .i64 0, .int .i64 0, .int .i64 0, .int .i64 0], d := .struct [(0, 33), (1, 3), (2, 3), (3, 3), (4, 3), (5, 3)] }),
 (38, { agg := true, size := 2, bytes := 16, zero := [.bool false, .int .i64 0], d := .struct [(0, 4), (1, 3)], eq := [false, true] }),
 (42, { agg := false, size := 1, bytes := 24, zero := [.slice none 0 0], d := .slice 31 }),
 (43, { agg := false, size := 1, bytes := 24, zero := [.slice none 0 0], d := .slice 35 }),
 (44, { agg := false, size := 1, bytes := 8, zero := [.int .i64 0], d := .int .i64 }),
 (54, { agg := true, size := 2, bytes := 16, zero := [.int .i64 0, .int .i64 0], d := .struct [(0, 3), (1, 3)], eq := [true, true] }),
 (59, { agg := false, size := 1, bytes := 24, zero := [.slice none 0 0], d := .slice 38 }),
 (65, { agg := true, size := 2, bytes := 32, zero := [.slice none 0 0, .int .i64 0], d := .struct [(0, 22), (1, 3)] }),
 (68, { agg := true, size := 5, bytes := 40, zero := [.int .i64 0, .int .i64 0, .int .i64 0, .int .i64 0, .int .i64 0], d := .array 5 3 }),
 (77, { agg := false, size := 1, bytes := 8, zero := [.nilFunc], d := .other }),
 (78, { agg := false, size := 1, bytes := 8, zero := [.pointer none], d := .other }),
 (80, { agg := true, size := 15, bytes := 184, zero := [.slice none 0 0, .slice none 0 0, .slice none 0 0, .int .i64 0, .int .i64 0, .int .i64 0, .slice none 0 0, .int .i64 0, .int .i64 0, .int .i64 0, .int .i64 0, .int .i64 0, .bool false, .int .i64 0, .int .i64 0], d := .struct [(0, 31), (6, 35), (12, 38), (14, 3)] }),
 (86, { agg := true, size := 7, bytes := 56, zero := [.int .i64 0, .int .i64 0, .int .i64 0, .int .i64 0, .int .i64 0, .int .i64 0, .int .i64 0], d := .array 7 3 }),
 (99, { agg := false, size := 1, bytes := 8, zero := [.int .u64 0], d := .int .u64 })]
theorem τ_ok : TyOk Try.prog τ := ⟨by kernel_rfl, by kernel_rfl, by kernel_rfl, by kernel_rfl, by kernel_rfl, by kernel_rfl, by kernel_rfl, by kernel_rfl, by kernel_rfl, by kernel_rfl, by kernel_rfl, by kernel_rfl, by kernel_rfl, by kernel_rfl, by kernel_rfl, by kernel_rfl, by kernel_rfl, by kernel_rfl, by kernel_rfl, by kernel_rfl, by kernel_rfl, by kernel_rfl, by kernel_rfl, trivial⟩
theorem mixed : Try.prog.follows .mixedOrders = true := by kernel_rfl
def qc1 : Nat → Bool := fun f => match f with
  | 59 | 70 | 67 | 13 | 14 | 18 | 52 | 55 | 56 | 53 | 34 | 36 | 68 | 51 | 66 | 74 | 33 | 65 | 48 | 71 | 63 | 54 | 41 | 60 | 64 | 35 | 40 | 25 | 47 | 57 | 69 | 37 | 19 | 21 | 15 | 58 | 38 | 20 | 39 | 22 | 16 | 8 => true
  | _ => false
theorem within_ok : FunR Try.prog 67 R_within := by
  intro args k h
  unfold R_within at h
  split at h
  case h_2 => exact h.elim
  rename_i x most
  refine does_ex (qc := qc1) (np := []) (CK := ckK []) mixed Try.func67 rfl rfl Try.ntmps67 Try.results67 τ_ok (by kernel_rfl) (ckK_ok trivial) (by simp) ?_
  conv => whnf
  repeat' (refine Fork.mk (fun h => ?_) (fun h => ?_) <;> first | (cases h; done) | (conv => whnf))
  all_goals simp_all [oneOf, nrm]
theorem rin_ok : FunR Try.prog 70 R_within := by
  intro args k h
  unfold R_within at h
  split at h
  case h_2 => exact h.elim
  rename_i x most
  refine does_ex (qc := qc1) (np := []) (CK := ckK []) mixed Try.func70 rfl rfl Try.ntmps70 Try.results70 τ_ok (by kernel_rfl) (ckK_ok trivial) (by simp) ?_
  conv => whnf
  repeat' (refine Fork.mk (fun h => ?_) (fun h => ?_) <;> first | (cases h; done) | (conv => whnf))
  all_goals simp_all [oneOf, nrm]
theorem rIn_ok : FunR Try.prog 59 R_within := by
  intro args k h
  unfold R_within at h
  split at h
  case h_2 => exact h.elim
  rename_i x most
  refine does_ex (qc := qc1) (np := []) (CK := ckK [(70, cSc R_within)]) mixed Try.func59 rfl rfl Try.ntmps59 Try.results59 τ_ok (by kernel_rfl) (ckK_ok ⟨cSc_ok rin_ok, trivial⟩) (by simp) ?_
  conv => whnf
  exact h
theorem mod_ok : FunR Try.prog 13 R_mod := by
  intro args k h
  unfold R_mod at h
  split at h
  case h_2 => exact h.elim
  rename_i x n
  obtain ⟨⟨h1, h2⟩, h⟩ := h
  refine does_ex (qc := qc1) (np := []) (CK := ckK []) mixed Try.func13 rfl rfl Try.ntmps13 Try.results13 τ_ok (by kernel_rfl) (ckK_ok trivial) (by simp) ?_
  conv => whnf
  refine ⟨by omega, ?_⟩
  conv => whnf
  refine ⟨by omega, ?_⟩
  conv => whnf
  rw [mod_val x h1 h2]
  exact h
theorem next_ok : FunB Try.prog 23 R_next := by
  intro cs args k h
  unfold R_next at h
  split at h
  case h_2 => exact h.elim
  rename_i n
  obtain ⟨d, rfl, ⟨hd1, hd2⟩, hn, hk⟩ := h
  refine doesB_ex (qc := qc1) (np := []) (CK := ckK [(13, cSc R_mod)]) mixed Try.func23 rfl rfl Try.ntmps23 Try.results23 τ_ok (by kernel_rfl) (ckK_ok ⟨cSc_ok mod_ok, trivial⟩) (by simp) rfl rfl ?_
  conv => whnf
  repeat' (refine Fork.mk (fun h => ?_) (fun h => ?_) <;> first | (cases h; done) | (conv => whnf))
  · exact ⟨rfl, rfl, hk 0 d ⟨hd1, hd2⟩ (by omega) (.inr rfl)⟩
  · exact ⟨rfl, rfl, hk 0 d ⟨hd1, hd2⟩ (by omega) (.inr rfl)⟩
  · rename_i h0
    simp at h h0
    refine ⟨by omega, [IC d.L[d.at_]], by simp [h, eI], rfl, ?_⟩
    conv => whnf
    refine ⟨⟨by omega, hn⟩, ?_⟩
    conv => whnf
    refine ⟨rfl, rfl, ?_⟩
    have e : IntKind.i64.wrap ((d.at_ : Int) + 1) = ((d.at_ + 1 : Nat) : Int) := by rw [wrap_in (by omega) (by omega)]; omega
    have := hk (d.L[d.at_] % n) ⟨d.L, d.at_ + 1⟩ ⟨h, hd2⟩ (Int.emod_nonneg _ (by omega)) (.inl (Int.emod_lt_of_pos _ (by omega)))
    unfold dkC at this
    rw [← e] at this
    exact this
theorem new_ok : FunN Try.prog 10 R_new := by
  intro args k h
  unfold R_new at h
  split at h
  case h_2 => exact h.elim
  obtain ⟨l, rfl, hk⟩ := h
  refine ⟨_, ?_, hk⟩
  refine doesN_of (qc := qc1) (np := []) (CK := ckK []) mixed Try.func10 rfl rfl Try.ntmps10 Try.results10 τ_ok (by kernel_rfl) (ckK_ok trivial) (by simp) ⟨rfl, rfl⟩ ?_
  conv => whnf
  rfl
end Go.Proofs
