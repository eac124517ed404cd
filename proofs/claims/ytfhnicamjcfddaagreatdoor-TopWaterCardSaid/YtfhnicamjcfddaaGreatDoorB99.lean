/- Proved here: what functions of the given program come to, for the statements of this chapter; no condition but those in the theorems. -/
import Derived.Test.YtfhnicamjcfddaaGreatDoorPCurve
import Derived.Test.YtfhnicamjcfddaaGreatDoorProg
namespace Go.Proofs
open Go Go.Abs
set_option linter.unusedSimpArgs false
set_option linter.unusedVariables false
set_option maxRecDepth 4000
def τ : List (Nat × TI) := [
 (3, { agg := false, size := 1, bytes := 8, zero := [.int .i64 0], d := .int .i64 }),
 (4, { agg := false, size := 1, bytes := 1, zero := [.bool false], d := .bool }),
 (5, { agg := false, size := 1, bytes := 1, zero := [.int .u8 0], d := .int .u8 }),
 (9, { agg := false, size := 1, bytes := 16, zero := [.string { data := { toList := [] } }], d := .str }),
 (21, { agg := false, size := 1, bytes := 4, zero := [.int .i32 0], d := .int .i32 }),
 (22, { agg := false, size := 1, bytes := 24, zero := [.slice none 0 0], d := .slice 3 }),
 (23, { agg := false, size := 1, bytes := 8, zero := [.pointer none], d := .other }),
 (25, { agg := false, size := 1, bytes := 24, zero := [.slice none 0 0], d := .slice 79 }),
 (27, { agg := true, size := 6, bytes := 64, zero := [.slice none 0 0, .int .i64 0, .int .i64 0, .int .i64 0, .int .i64 0, .int .i64 0], d := .struct [(0, 25), (1, 3), (2, 3), (3, 3), (4, 3), (5, 3)] }),
 (28, { agg := false, size := 1, bytes := 24, zero := [.slice none 0 0], d := .slice 99 }),
 (29, { agg := false, size := 1, bytes := 24, zero := [.slice none 0 0], d := .slice 84 }),
 (31, { agg := true, size := 9, bytes := 120, zero := [.slice none 0 0, .int .i64 0, .int .i64 0, .int .i64 0, .int .i64 0, .int .i64 0, .slice none 0 0, .slice none 0 0, .int .i64 0], d := .struct [(0, 27), (6, 28), (7, 29), (8, 3)] }),
 (32, { agg := false, size := 1, bytes := 24, zero := [.slice none 0 0], d := .slice 102 }),
 (33, { agg := false, size := 1, bytes := 24, zero := [.slice none 0 0], d := .slice 106 }),
 (35, { agg := true, size := 4, bytes := 64, zero := [.int .i64 0, .int .i64 0, .slice none 0 0, .slice none 0 0], d := .struct [(0, 3), (1, 3), (2, 32), (3, 33)] }),
 (39, { agg := true, size := 2, bytes := 32, zero := [.slice none 0 0, .int .i64 0], d := .struct [(0, 22), (1, 3)] }),
 (42, { agg := true, size := 1, bytes := 24, zero := [.slice none 0 0], d := .struct [(0, 22)] }),
 (47, { agg := true, size := 7, bytes := 56, zero := [.int .i64 0, .int .i64 0, .int .i64 0, .int .i64 0, .int .i64 0, .int .i64 0, .int .i64 0], d := .struct [(0, 3), (1, 3), (2, 3), (3, 3), (4, 3), (5, 3), (6, 3)], eq := [true, true, true, true, true, true, true] }),
 (48, { agg := false, size := 1, bytes := 8, zero := [.int .i64 0], d := .int .i64 }),
 (58, { agg := true, size := 2, bytes := 32, zero := [.slice none 0 0, .int .i64 0], d := .struct [(0, 22), (1, 3)] }),
 (69, { agg := false, size := 1, bytes := 8, zero := [.nilFunc], d := .other }),
 (73, { agg := false, size := 1, bytes := 8, zero := [.nilFunc], d := .other }),
 (74, { agg := false, size := 1, bytes := 8, zero := [.pointer none], d := .other }),
 (76, { agg := true, size := 27, bytes := 328, zero := [.slice none 0 0, .int .i64 0, .int .i64 0, .int .i64 0, .int .i64 0, .int .i64 0, .slice none 0 0, .slice none 0 0, .int .i64 0, .int .i64 0, .int .i64 0, .slice none 0 0, .slice none 0 0, .int .i64 0, .int .i64 0, .slice none 0 0, .slice none 0 0, .int .i64 0, .int .i64 0, .int .i64 0, .int .i64 0, .int .i64 0, .int .i64 0, .int .i64 0, .int .i64 0, .int .i64 0, .int .i64 0], d := .struct [(0, 31), (9, 35), (13, 35), (17, 47), (24, 3), (25, 3), (26, 3)] }),
 (77, { agg := true, size := 7, bytes := 56, zero := [.int .i64 0, .int .i64 0, .int .i64 0, .int .i64 0, .int .i64 0, .int .i64 0, .int .i64 0], d := .array 7 3 }),
 (79, { agg := true, size := 2, bytes := 16, zero := [.int .i64 0, .int .i64 0], d := .struct [(0, 3), (1, 3)], eq := [true, true] }),
 (81, { agg := true, size := 2, bytes := 32, zero := [.int .i64 0, .slice none 0 0], d := .struct [(0, 3), (1, 25)] }),
 (82, { agg := false, size := 1, bytes := 24, zero := [.slice none 0 0], d := .slice 81 }),
 (84, { agg := true, size := 3, bytes := 40, zero := [.slice none 0 0, .int .i64 0, .int .i64 0], d := .struct [(0, 82), (1, 3), (2, 3)] }),
 (85, { agg := false, size := 1, bytes := 24, zero := [.slice none 0 0], d := .slice 125 }),
 (89, { agg := true, size := 2, bytes := 16, zero := [.int .i64 0, .int .i64 0], d := .struct [(0, 3), (1, 3)], eq := [true, true] }),
 (90, { agg := false, size := 1, bytes := 24, zero := [.slice none 0 0], d := .slice 164 }),
 (92, { agg := true, size := 4, bytes := 48, zero := [.int .i64 0, .int .i64 0, .int .i64 0, .slice none 0 0], d := .struct [(0, 3), (1, 89), (3, 90)] }),
 (96, { agg := true, size := 5, bytes := 40, zero := [.int .i64 0, .int .i64 0, .int .i64 0, .int .i64 0, .int .i64 0], d := .array 5 3 }),
 (97, { agg := false, size := 1, bytes := 24, zero := [.slice none 0 0], d := .slice 89 }),
 (99, { agg := true, size := 6, bytes := 80, zero := [.slice none 0 0, .int .i64 0, .int .i64 0, .slice none 0 0, .int .i64 0, .int .i64 0], d := .struct [(0, 25), (1, 3), (2, 3), (3, 97), (4, 3), (5, 3)] }),
 (102, { agg := true, size := 3, bytes := 24, zero := [.int .i64 0, .int .i64 0, .bool false], d := .struct [(0, 3), (1, 3), (2, 4)], eq := [true, true, false] }),
 (106, { agg := true, size := 2, bytes := 16, zero := [.int .i64 0, .bool false], d := .struct [(0, 3), (1, 4)], eq := [true, false] }),
 (117, { agg := false, size := 1, bytes := 24, zero := [.slice none 0 0], d := .slice 121 }),
 (119, { agg := false, size := 1, bytes := 24, zero := [.slice none 0 0], d := .slice 9 }),
 (121, { agg := true, size := 2, bytes := 32, zero := [.int .i64 0, .slice none 0 0], d := .struct [(0, 3), (1, 119)] }),
 (123, { agg := true, size := 2, bytes := 16, zero := [.int .i64 0, .int .i64 0], d := .struct [(0, 3), (1, 3)], eq := [true, true] }),
 (125, { agg := true, size := 7, bytes := 56, zero := [.int .i64 0, .int .i64 0, .int .i64 0, .int .i64 0, .int .i64 0, .int .i64 0, .int .i64 0], d := .struct [(0, 3), (1, 3), (2, 3), (3, 123), (5, 3), (6, 3)] }),
 (150, { agg := false, size := 1, bytes := 8, zero := [.pointer none], d := .other }),
 (152, { agg := true, size := 2, bytes := 32, zero := [.slice none 0 0, .bool false], d := .struct [(0, 119), (1, 4)] }),
 (153, { agg := false, size := 1, bytes := 8, zero := [.map none], d := .map 9 4 }),
 (155, { agg := true, size := 5, bytes := 80, zero := [.string { data := { toList := [] } }, .string { data := { toList := [] } }, .string { data := { toList := [] } }, .string { data := { toList := [] } }, .string { data := { toList := [] } }], d := .array 5 9 }),
 (159, { agg := true, size := 2, bytes := 16, zero := [.int .i64 0, .int .i64 0], d := .struct [(0, 3), (1, 3)], eq := [true, true] }),
 (164, { agg := true, size := 2, bytes := 16, zero := [.int .i64 0, .int .i64 0], d := .struct [(0, 3), (1, 3)], eq := [true, true] }),
 (173, { agg := false, size := 1, bytes := 8, zero := [.nilFunc], d := .other }),
 (175, { agg := true, size := 2, bytes := 32, zero := [.slice none 0 0, .int .i64 0], d := .struct [(0, 25), (1, 3)] }),
 (179, { agg := false, size := 1, bytes := 24, zero := [.slice none 0 0], d := .slice 188 }),
 (182, { agg := false, size := 1, bytes := 8, zero := [.map none], d := .map 184 186 }),
 (183, { agg := false, size := 1, bytes := 8, zero := [.nilFunc], d := .other }),
 (184, { agg := true, size := 2, bytes := 16, zero := [.int .i64 0, .int .i64 0], d := .array 2 3 }),
 (186, { agg := true, size := 4, bytes := 32, zero := [.bool false, .int .i64 0, .int .i64 0, .int .i64 0], d := .struct [(0, 4), (1, 184), (3, 3)] }),
 (188, { agg := false, size := 1, bytes := 24, zero := [.slice none 0 0], d := .slice 190 }),
 (190, { agg := true, size := 3, bytes := 24, zero := [.int .i64 0, .int .i64 0, .int .i64 0], d := .struct [(0, 3), (1, 3), (2, 3)], eq := [true, true, true] }),
 (196, { agg := false, size := 1, bytes := 8, zero := [.nilFunc], d := .other }),
 (229, { agg := true, size := 2, bytes := 2, zero := [.bool false, .bool false], d := .struct [(0, 4), (1, 4)], eq := [false, false] }),
 (230, { agg := true, size := 10, bytes := 10, zero := [.bool false, .bool false, .bool false, .bool false, .bool false, .bool false, .bool false, .bool false, .bool false, .bool false], d := .array 5 229 }),
 (232, { agg := false, size := 1, bytes := 8, zero := [.int .u64 0], d := .int .u64 })]
theorem τ_ok : TyOk Tryz.prog τ := ⟨by kernel_rfl, by kernel_rfl, by kernel_rfl, by kernel_rfl, by kernel_rfl, by kernel_rfl, by kernel_rfl, by kernel_rfl, by kernel_rfl, by kernel_rfl, by kernel_rfl, by kernel_rfl, by kernel_rfl, by kernel_rfl, by kernel_rfl, by kernel_rfl, by kernel_rfl, by kernel_rfl, by kernel_rfl, by kernel_rfl, by kernel_rfl, by kernel_rfl, by kernel_rfl, by kernel_rfl, by kernel_rfl, by kernel_rfl, by kernel_rfl, by kernel_rfl, by kernel_rfl, by kernel_rfl, by kernel_rfl, by kernel_rfl, by kernel_rfl, by kernel_rfl, by kernel_rfl, by kernel_rfl, by kernel_rfl, by kernel_rfl, by kernel_rfl, by kernel_rfl, by kernel_rfl, by kernel_rfl, by kernel_rfl, by kernel_rfl, by kernel_rfl, by kernel_rfl, by kernel_rfl, by kernel_rfl, by kernel_rfl, by kernel_rfl, by kernel_rfl, by kernel_rfl, by kernel_rfl, by kernel_rfl, by kernel_rfl, by kernel_rfl, by kernel_rfl, by kernel_rfl, by kernel_rfl, by kernel_rfl, by kernel_rfl, by kernel_rfl, trivial⟩
theorem mixed : Tryz.prog.follows .mixedOrders = true := by kernel_rfl
def qc1 : Nat → Bool := fun f => match f with
  | 21 | 25 | 54 | 80 | 44 | 57 | 45 | 58 | 8 | 36 | 113 | 85 | 86 | 61 | 81 | 39 | 55 | 35 | 56 | 53 | 34 | 18 | 82 | 84 | 97 | 99 | 119 | 98 | 140 | 67 | 78 | 79 | 83 | 136 | 114 | 59 | 60 | 62 | 38 | 12 | 13 | 22 | 64 | 23 | 40 | 105 | 73 | 135 | 49 | 72 | 106 | 74 | 107 | 111 | 112 | 76 | 134 | 154 | 50 | 77 | 96 | 118 | 14 | 24 | 102 | 133 | 110 => true
  | _ => false
theorem within_ok : FunR Tryz.prog 25 R_within := by
  intro args k h
  unfold R_within at h
  split at h
  case h_2 => exact h.elim
  rename_i x most
  refine does_ex (qc := qc1) (np := []) (CK := ckK []) mixed Tryz.func25 rfl rfl Tryz.ntmps25 Tryz.results25 τ_ok (by kernel_rfl) (ckK_ok trivial) (by simp) ?_
  conv => whnf
  repeat' (refine Fork.mk (fun h => ?_) (fun h => ?_) <;> first | (cases h; done) | (conv => whnf))
  all_goals simp_all [oneOf, nrm]
theorem rin_ok : FunR Tryz.prog 80 R_within := by
  intro args k h
  unfold R_within at h
  split at h
  case h_2 => exact h.elim
  rename_i x most
  refine does_ex (qc := qc1) (np := []) (CK := ckK []) mixed Tryz.func80 rfl rfl Tryz.ntmps80 Tryz.results80 τ_ok (by kernel_rfl) (ckK_ok trivial) (by simp) ?_
  conv => whnf
  repeat' (refine Fork.mk (fun h => ?_) (fun h => ?_) <;> first | (cases h; done) | (conv => whnf))
  all_goals simp_all [oneOf, nrm]
theorem rIn_ok : FunR Tryz.prog 54 R_within := by
  intro args k h
  unfold R_within at h
  split at h
  case h_2 => exact h.elim
  rename_i x most
  refine does_ex (qc := qc1) (np := []) (CK := ckK [(80, cSc R_within)]) mixed Tryz.func54 rfl rfl Tryz.ntmps54 Tryz.results54 τ_ok (by kernel_rfl) (ckK_ok ⟨cSc_ok rin_ok, trivial⟩) (by simp) ?_
  conv => whnf
  exact h
theorem mod_ok : FunR Tryz.prog 21 R_mod := by
  intro args k h
  unfold R_mod at h
  split at h
  case h_2 => exact h.elim
  rename_i x n
  obtain ⟨⟨h1, h2⟩, h⟩ := h
  refine does_ex (qc := qc1) (np := []) (CK := ckK []) mixed Tryz.func21 rfl rfl Tryz.ntmps21 Tryz.results21 τ_ok (by kernel_rfl) (ckK_ok trivial) (by simp) ?_
  conv => whnf
  refine ⟨by omega, ?_⟩
  conv => whnf
  refine ⟨by omega, ?_⟩
  conv => whnf
  rw [mod_val x h1 h2]
  exact h
theorem next_ok : FunB Tryz.prog 9 R_next := by
  intro cs args k h
  unfold R_next at h
  split at h
  case h_2 => exact h.elim
  rename_i n
  obtain ⟨d, rfl, ⟨hd1, hd2⟩, hn, hk⟩ := h
  refine doesB_ex (qc := qc1) (np := []) (CK := ckK [(21, cSc R_mod)]) mixed Tryz.func9 rfl rfl Tryz.ntmps9 Tryz.results9 τ_ok (by kernel_rfl) (ckK_ok ⟨cSc_ok mod_ok, trivial⟩) (by simp) rfl rfl ?_
  conv => whnf
  repeat' (refine Fork.mk (fun h => ?_) (fun h => ?_) <;> first | (cases h; done) | (conv => whnf))
  · exact ⟨rfl, rfl, hk 0 d ⟨hd1, hd2⟩ (by omega) (.inr rfl)⟩
  · exact ⟨rfl, rfl, hk 0 d ⟨hd1, hd2⟩ (by omega) (.inr rfl)⟩
  · rename_i h0
    simp at h h0
    refine ⟨by omega, [IC d.L[d.at_]], by simp [h, eI], rfl, ?_⟩
    conv => whnf
    refine ⟨⟨by omega, hn⟩, ?_⟩
    conv => whnf
    refine ⟨rfl, rfl, ?_⟩
    have e : IntKind.i64.wrap ((d.at_ : Int) + 1) = ((d.at_ + 1 : Nat) : Int) := by rw [wrap_in (by omega) (by omega)]; omega
    have := hk (d.L[d.at_] % n) ⟨d.L, d.at_ + 1⟩ ⟨h, hd2⟩ (Int.emod_nonneg _ (by omega)) (.inl (Int.emod_lt_of_pos _ (by omega)))
    unfold dkC at this
    rw [← e] at this
    exact this
theorem new_ok : FunN Tryz.prog 4 R_new := by
  intro args k h
  unfold R_new at h
  split at h
  case h_2 => exact h.elim
  obtain ⟨l, rfl, hk⟩ := h
  refine ⟨_, ?_, hk⟩
  refine doesN_of (qc := qc1) (np := []) (CK := ckK []) mixed Tryz.func4 rfl rfl Tryz.ntmps4 Tryz.results4 τ_ok (by kernel_rfl) (ckK_ok trivial) (by simp) ⟨rfl, rfl⟩ ?_
  conv => whnf
  rfl
end Go.Proofs
