/- Proved here: what functions of the given program come to, for the statements of this chapter; no condition but those in the theorems. -/
import Derived.Test.YtnaggkcpagbolaaPBase
import Derived.Test.YtnaggkcpagbolaaProg
namespace Go.Proofs
open Go Go.Abs
set_option linter.unusedSimpArgs false
set_option linter.unusedVariables false
set_option maxRecDepth 4000
def τ : List (Nat × TI) := [
 (3, { agg := false, size := 1, bytes := 8, zero := [.int .i64 0], d := .int .i64 }),
 (4, { agg := false, size := 1, bytes := 1, zero := [.bool false], d := .bool }),
 (22, { agg := false, size := 1, bytes := 24, zero := [.slice none 0 0], d := .slice 63 }),
 (23, { agg := false, size := 1, bytes := 24, zero := [.slice none 0 0], d := .slice 61 }),
 (25, { agg := true, size := 6, bytes := 80, zero := [.slice none 0 0, .int .i64 0, .int .i64 0, .slice none 0 0, .int .i64 0, .int .i64 0], d := .struct [(0, 22), (1, 3), (2, 3), (3, 23), (4, 3), (5, 3)] }),
 (27, { agg := true, size := 3, bytes := 24, zero := [.int .i64 0, .int .i64 0, .bool false], d := .struct [(0, 3), (1, 3), (2, 4)], eq := [true, true, false] }),
 (28, { agg := false, size := 1, bytes := 24, zero := [.slice none 0 0], d := .slice 3 }),
 (30, { agg := false, size := 1, bytes := 8, zero := [.pointer none], d := .other }),
 (36, { agg := false, size := 1, bytes := 24, zero := [.slice none 0 0], d := .slice 25 }),
 (37, { agg := false, size := 1, bytes := 24, zero := [.slice none 0 0], d := .slice 27 }),
 (40, { agg := false, size := 1, bytes := 8, zero := [.int .i64 0], d := .int .i64 }),
 (58, { agg := true, size := 2, bytes := 32, zero := [.slice none 0 0, .int .i64 0], d := .struct [(0, 28), (1, 3)] }),
 (61, { agg := true, size := 2, bytes := 16, zero := [.int .i64 0, .int .i64 0], d := .struct [(0, 3), (1, 3)], eq := [true, true] }),
 (63, { agg := true, size := 2, bytes := 16, zero := [.int .i64 0, .int .i64 0], d := .struct [(0, 3), (1, 3)], eq := [true, true] }),
 (71, { agg := false, size := 1, bytes := 8, zero := [.int .u64 0], d := .int .u64 })]
theorem τ_ok : TyOk Try.prog τ := ⟨by kernel_rfl, by kernel_rfl, by kernel_rfl, by kernel_rfl, by kernel_rfl, by kernel_rfl, by kernel_rfl, by kernel_rfl, by kernel_rfl, by kernel_rfl, by kernel_rfl, by kernel_rfl, by kernel_rfl, by kernel_rfl, by kernel_rfl, trivial⟩
theorem mixed : Try.prog.follows .mixedOrders = true := by kernel_rfl
def qc1 : Nat → Bool := fun f => match f with
  | 40 | 36 | 47 | 16 | 48 | 39 | 43 | 41 | 33 | 46 | 23 | 38 | 42 | 27 | 25 | 35 | 14 | 37 | 19 | 17 | 45 | 30 | 49 | 24 | 44 | 28 | 15 | 26 | 20 | 18 | 31 | 8 => true
  | _ => false
theorem within_ok : FunR Try.prog 40 R_within := by
  intro args k h
  unfold R_within at h
  split at h
  case h_2 => exact h.elim
  rename_i x most
  refine does_ex (qc := qc1) (np := []) (CK := ckK []) mixed Try.func40 rfl rfl Try.ntmps40 Try.results40 τ_ok (by kernel_rfl) (ckK_ok trivial) (by simp) ?_
  conv => whnf
  repeat' (refine Fork.mk (fun h => ?_) (fun h => ?_) <;> first | (cases h; done) | (conv => whnf))
  all_goals simp_all [oneOf, nrm]
theorem rin_ok : FunR Try.prog 47 R_within := by
  intro args k h
  unfold R_within at h
  split at h
  case h_2 => exact h.elim
  rename_i x most
  refine does_ex (qc := qc1) (np := []) (CK := ckK []) mixed Try.func47 rfl rfl Try.ntmps47 Try.results47 τ_ok (by kernel_rfl) (ckK_ok trivial) (by simp) ?_
  conv => whnf
  repeat' (refine Fork.mk (fun h => ?_) (fun h => ?_) <;> first | (cases h; done) | (conv => whnf))
  all_goals simp_all [oneOf, nrm]
theorem rIn_ok : FunR Try.prog 36 R_within := by
  intro args k h
  unfold R_within at h
  split at h
  case h_2 => exact h.elim
  rename_i x most
  refine does_ex (qc := qc1) (np := []) (CK := ckK [(47, cSc R_within)]) mixed Try.func36 rfl rfl Try.ntmps36 Try.results36 τ_ok (by kernel_rfl) (ckK_ok ⟨cSc_ok rin_ok, trivial⟩) (by simp) ?_
  conv => whnf
  exact h
theorem mod_ok : FunR Try.prog 16 R_mod := by
  intro args k h
  unfold R_mod at h
  split at h
  case h_2 => exact h.elim
  rename_i x n
  obtain ⟨⟨h1, h2⟩, h⟩ := h
  refine does_ex (qc := qc1) (np := []) (CK := ckK []) mixed Try.func16 rfl rfl Try.ntmps16 Try.results16 τ_ok (by kernel_rfl) (ckK_ok trivial) (by simp) ?_
  conv => whnf
  refine ⟨by omega, ?_⟩
  conv => whnf
  refine ⟨by omega, ?_⟩
  conv => whnf
  rw [mod_val x h1 h2]
  exact h
theorem next_ok : FunB Try.prog 12 R_next := by
  intro cs args k h
  unfold R_next at h
  split at h
  case h_2 => exact h.elim
  rename_i n
  obtain ⟨d, rfl, ⟨hd1, hd2⟩, hn, hk⟩ := h
  refine doesB_ex (qc := qc1) (np := []) (CK := ckK [(16, cSc R_mod)]) mixed Try.func12 rfl rfl Try.ntmps12 Try.results12 τ_ok (by kernel_rfl) (ckK_ok ⟨cSc_ok mod_ok, trivial⟩) (by simp) rfl rfl ?_
  conv => whnf
  repeat' (refine Fork.mk (fun h => ?_) (fun h => ?_) <;> first | (cases h; done) | (conv => whnf))
  · exact ⟨rfl, rfl, hk 0 d ⟨hd1, hd2⟩ (by omega) (.inr rfl)⟩
  · exact ⟨rfl, rfl, hk 0 d ⟨hd1, hd2⟩ (by omega) (.inr rfl)⟩
  · rename_i h0
    simp at h h0
    refine ⟨by omega, [IC d.L[d.at_]], by simp [h, eI], rfl, ?_⟩
    conv => whnf
    refine ⟨⟨by omega, hn⟩, ?_⟩
    conv => whnf
    refine ⟨rfl, rfl, ?_⟩
    have e : IntKind.i64.wrap ((d.at_ : Int) + 1) = ((d.at_ + 1 : Nat) : Int) := by rw [wrap_in (by omega) (by omega)]; omega
    have := hk (d.L[d.at_] % n) ⟨d.L, d.at_ + 1⟩ ⟨h, hd2⟩ (Int.emod_nonneg _ (by omega)) (.inl (Int.emod_lt_of_pos _ (by omega)))
    unfold dkC at this
    rw [← e] at this
    exact this
theorem new_ok : FunN Try.prog 9 R_new := by
  intro args k h
  unfold R_new at h
  split at h
  case h_2 => exact h.elim
  obtain ⟨l, rfl, hk⟩ := h
  refine ⟨_, ?_, hk⟩
  refine doesN_of (qc := qc1) (np := []) (CK := ckK []) mixed Try.func9 rfl rfl Try.ntmps9 Try.results9 τ_ok (by kernel_rfl) (ckK_ok trivial) (by simp) ⟨rfl, rfl⟩ ?_
  conv => whnf
  rfl
end Go.Proofs
