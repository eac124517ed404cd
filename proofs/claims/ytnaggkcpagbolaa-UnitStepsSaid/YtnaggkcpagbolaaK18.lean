/- Proved here: what functions of the given program come to, for the statements of this chapter; no condition but those in the theorems. -/
import Derived.Test.YtnaggkcpagbolaaJ18
namespace Go.Proofs
open Go Go.Abs
set_option linter.unusedSimpArgs false
set_option linter.unusedVariables false
set_option maxRecDepth 4000
theorem mkU_ok : FunB Try.prog 10 R_mkU := by
  intro cs args k h
  obtain ⟨d, rfl, rfl, hd, hk⟩ := h
  refine doesB_ex (qc := qc1) (np := [(2, [(1, 3)]), (7, [(1, 6), (1, 9)])]) (CK := ckK [(12, cB R_next), (34, cB R_curve)]) mixed Try.func10 rfl rfl Try.ntmps10 Try.results10 τ_ok (by kernel_rfl) (ckK_ok ⟨cB_ok next_ok rfl, cB_ok mkcurve_ok rfl, trivial⟩) (by simp) rfl rfl ?_
  conv => whnf
  refine ⟨d, rfl, hd, by omega, by omega, by omega, by omega, fun r d hd hr1 hr2 hch => ?_⟩
  conv => whnf
  refine ⟨d, rfl, hd, by omega, fun lo d hd hl1 hl2 => ?_⟩
  conv => whnf
  refine ⟨d, rfl, hd, by omega, fun up d hd hp1 hp2 => ?_⟩
  conv => whnf
  refine ⟨d, rfl, hd, by omega, fun dn d hd hn1 hn2 => ?_⟩
  conv => whnf
  refine ⟨d, rfl, hd, by omega, fun w d hd hw1 hw2 => ?_⟩
  conv => whnf
  refine ⟨d, rfl, hd, by omega, fun k0 d hd hk1 hk2 => ?_⟩
  conv => whnf
  have e1 : IntKind.i64.wrap (1 + lo) = 1 + lo := wrap_in (by omega) (by omega)
  have e2 : IntKind.i64.wrap (1 + lo + w) = 1 + lo + w := wrap_in (by omega) (by omega)
  refine ⟨List Pt × Dk × Int, fun s => ([(0, .c (.ptr (.x 0) 0)), (2, .c (.ptr (.l 2 0) 0)), (3, .c (.ptr (.l 3 1) 0)), (4, I s.2.2)], ⟨[(.x 0, .blk (dkC s.2.1)), (.l 2 0, .blk [.sc (.slice none 0 0), IC 0, IC 0, .sc (.slice none 0 0), IC 0, IC 0]), (.l 3 1, .blk [.lst (eP ((0, 0) :: r)), IC (1 + lo), IC (1 + lo + w), .view (.l 40 2) 0 s.1.length, IC up, IC dn]), (.l 40 2, .arr 61 2 (eP s.1) false)], 3, []⟩),
    fun s => s.2.1.ok ∧ (0 ≤ s.2.2 ∧ s.1.length + s.2.2 ≤ 2) ∧ ∀ z ∈ s.1, 0 ≤ z.1 ∧ z.1 < z.2 ∧ z.2 ≤ 20, fun s => s.2.2.toNat, ([], d, k0),
    ⟨hd, by dsimp only; simp; omega, by simp⟩,
    Shift.trans (Shift.rename [] ⟨rfl, rfl, rfl, rfl, trivial⟩ ⟨rfl, rfl, by rw [e1, e2]; rfl, rfl, trivial⟩ rfl rfl rfl) (Shift.nilCell (i := .l 3 1) (cs := [.lst (eP ((0, 0) :: r)), IC (IntKind.i64.wrap (1 + lo)), IC (IntKind.i64.wrap (IntKind.i64.wrap (1 + lo) + w)), .sc (.slice none 0 0), IC up, IC dn]) (j := 3) rfl rfl 40 61 2), fun s hs => ?_⟩
  obtain ⟨rg, d, kk⟩ := s
  obtain ⟨hd, ⟨hk3, hk4⟩, hz⟩ := hs
  dsimp only at hd hk3 hk4 hz ⊢
  have hm := eP_len rg
  conv => whnf
  refine Fork.mk (fun h => ?_) (fun h => ?_)
  · have hkk : 0 < kk := by simpa using h
    conv => whnf
    refine ⟨d, rfl, hd, by omega, fun a d hd ha1 ha2 => ?_⟩
    conv => whnf
    refine ⟨d, rfl, hd, by omega, fun b d hd hb1 hb2 => ?_⟩
    conv => whnf
    rw [show IntKind.i64.wrap (a + 1) = a + 1 from wrap_in (by omega) (by omega), show IntKind.i64.wrap (a + 1 + b) = a + 1 + b from wrap_in (by omega) (by omega)]
    refine ⟨by simp, ?_⟩
    conv => whnf
    refine ⟨rfl, ?_⟩
    conv => whnf
    refine ⟨⟨rfl, rfl, rfl, hm.symm, by rw [hm]; simp; omega⟩, ?_⟩
    conv => whnf
    rw [show IntKind.i64.wrap (kk - 1) = kk - 1 from wrap_in (by omega) (by omega)]
    refine ⟨(rg ++ [(a, a + 1 + b)], d, kk - 1), ⟨hd, ⟨by dsimp only; omega, by simp; omega⟩, fun z hz' => ?_⟩, Shift.rename [(.l 40 2, .l 40 3)] ⟨rfl, rfl, rfl, rfl, trivial⟩ ⟨rfl, rfl, ?_, ?_, trivial⟩ rfl rfl rfl, ?_⟩
    · rcases List.mem_append.1 hz' with h | h
      · exact hz z h
      · simp at h; subst h; dsimp only; omega
    · dsimp only; rw [List.length_append, ← hm]; rfl
    · dsimp only; rw [← eP_snoc]; rfl
    · show (kk - 1).toNat < kk.toNat
      omega
  have hkk : ¬ 0 < kk := by simpa using h
  conv => whnf
  refine ⟨by rw [hm]; omega, ?_⟩
  conv => whnf
  rw [List.drop_zero, List.take_of_length_le (by rw [hm]; exact Nat.le_refl _)]
  exact ⟨rfl, rfl, hk ⟨(0, 0) :: r, 1 + lo, 1 + lo + w, rg, up, dn⟩ d hd (mkU_of hr1 hr2 hch (by omega) (by omega) (by omega) hz (by omega) (by omega))⟩
theorem mkS_ok : FunB Try.prog 11 R_mkS := by
  intro cs args k h
  obtain ⟨d, u, rfl, rfl, hd, hu, hk⟩ := h
  have hf := flS_mk (g := 1) hu (by omega) (by omega)
  refine doesB_ex (qc := qc1) (np := []) (CK := ckK [(12, cB R_next), (29, cPq R_flS)]) mixed Try.func11 rfl rfl Try.ntmps11 Try.results11 τ_ok (by kernel_rfl) (ckK_ok ⟨cB_ok next_ok rfl, cPq_ok rflows_ok, trivial⟩) (by simp) rfl rfl ?_
  conv => whnf
  refine ⟨d, rfl, hd, by omega, fun si d hd hs1 hs2 => ?_⟩
  conv => whnf
  refine ⟨d, rfl, hd, by omega, fun o d hd ho1 ho2 => ?_⟩
  conv => whnf
  refine ⟨u, 1, rfl, hu.fin, ?_⟩
  have hmem : ∀ q ∈ (flS u 1).1, runB u q = true := fun q hq => (flS_mem (by rw [hf]) hq).2.1
  have hln : (flS u 1).1.length ≤ 200 := by rw [hf]; have := flT_mk (g := 1) hu; dsimp only; omega
  have hm := eL_len (flS u 1).1
  conv => whnf
  have fin : ∀ (fl : Int) (d' : Dk) (b : Bool), d'.ok → (fl = 0 ∨ (b = false ∧ runB u fl = true)) → noA (AV.agg [IC fl, IC si, BC b]) = true ∧ noCs (dkC d') = true ∧ k (AV.agg [IC fl, IC si, BC b]) (dkC d') := fun fl d' b hd' h => ⟨rfl, rfl, hk ⟨fl, si, b⟩ d' hd' ⟨by
    rcases h with rfl | ⟨rfl, h⟩
    · simp [fitB, inB]; omega
    · simp [fitB, inB, h]; omega, by dsimp only; omega⟩⟩
  refine Fork.mk (fun h => ?_) (fun h => ?_)
  · have h1 : 0 < (flS u 1).1.length := by simp at h; omega
    conv => whnf
    refine Fork.mk (fun h => ?_) (fun h => ?_)
    · have h2 : o ≠ 6 := by simpa using h
      conv => whnf
      refine ⟨d, rfl, hd, by omega, fun x d hd hx1 hx2 => ?_⟩
      conv => whnf
      refine Fork.mk (fun h => ?_) (fun h => ?_)
      · conv => whnf
        refine ⟨d, rfl, hd, by omega, fun i d hd hi1 hi2 => ?_⟩
        obtain ⟨j, rfl⟩ : ∃ j : Nat, i = j := ⟨i.toNat, by omega⟩
        have hj : j < (flS u 1).1.length := by omega
        have hci := List.getElem?_eq_getElem hj
        have hq := hmem _ (List.getElem_mem hj)
        generalize (flS u 1).1[j] = q at hci hq
        conv => whnf
        refine ⟨by omega, eI q, by rw [Int.toNat_natCast, List.getElem?_map, hci]; rfl, rfl, ?_⟩
        conv => whnf
        exact fin q d _ hd (.inr ⟨by simpa using h2, hq⟩)
      conv => whnf
      exact fin 0 d _ hd (.inl rfl)
    conv => whnf
    repeat (refine fork_f ?_; (conv => whnf))
    exact fin 0 d _ hd (.inl rfl)
  conv => whnf
  repeat (refine fork_f ?_; (conv => whnf))
  exact fin 0 d _ hd (.inl rfl)
end Go.Proofs
