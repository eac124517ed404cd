/- Proved here: what functions of the given program come to, and the plain laws of it; no condition but those in the theorems. -/
import Derived.Test.YtfhnicamjcfddaaGreatDoorQ99
import Derived.Test.YtfhnicamjcfddaaGreatDoorPGate
namespace Go.Proofs
open Go Go.Abs
set_option linter.unusedSimpArgs false
set_option linter.unusedVariables false
set_option maxRecDepth 4000
theorem mkU_ok : FunB Tryz.prog 31 R_mkU := by
  intro cs args k h
  obtain ⟨d, rfl, rfl, hd, hk⟩ := h
  refine doesB_ex (qc := qc1) (np := [(2, [(1, 3)]), (7, [(1, 6), (1, 9)])]) (CK := ckK [(9, cB R_next), (30, cB R_curve)]) mixed Tryz.func31 rfl rfl Tryz.ntmps31 Tryz.results31 τ_ok (by kernel_rfl) (ckK_ok ⟨cB_ok next_ok rfl, cB_ok mkcurve_ok rfl, trivial⟩) (by simp) rfl rfl ?_
  conv => whnf
  refine ⟨d, rfl, hd, by omega, by omega, by omega, by omega, fun r d hd hr1 hr2 hch => ?_⟩
  conv => whnf
  refine ⟨d, rfl, hd, by omega, fun lo d hd hl1 hl2 => ?_⟩
  conv => whnf
  refine ⟨d, rfl, hd, by omega, fun up d hd hp1 hp2 => ?_⟩
  conv => whnf
  refine ⟨d, rfl, hd, by omega, fun dn d hd hn1 hn2 => ?_⟩
  conv => whnf
  refine ⟨d, rfl, hd, by omega, fun w d hd hw1 hw2 => ?_⟩
  conv => whnf
  refine ⟨d, rfl, hd, by omega, fun k0 d hd hk1 hk2 => ?_⟩
  conv => whnf
  have e1 : IntKind.i64.wrap (1 + lo) = 1 + lo := wrap_in (by omega) (by omega)
  have e2 : IntKind.i64.wrap (1 + lo + w) = 1 + lo + w := wrap_in (by omega) (by omega)
  refine ⟨List Pt × Dk × Int, fun s => ([(0, .c (.ptr (.x 0) 0)), (2, .c (.ptr (.l 2 0) 0)), (3, .c (.ptr (.l 3 1) 0)), (4, I s.2.2)], ⟨[(.x 0, .blk (dkC s.2.1)), (.l 2 0, .blk [.sc (.slice none 0 0), IC 0, IC 0, .sc (.slice none 0 0), IC 0, IC 0]), (.l 3 1, .blk [.lst (eP ((0, 0) :: r)), IC (1 + lo), IC (1 + lo + w), .view (.l 40 2) 0 s.1.length, IC up, IC dn]), (.l 40 2, .arr 89 2 (eP s.1) false)], 3, []⟩),
    fun s => s.2.1.ok ∧ (0 ≤ s.2.2 ∧ s.1.length + s.2.2 ≤ 2) ∧ ∀ z ∈ s.1, 0 ≤ z.1 ∧ z.1 < z.2 ∧ z.2 ≤ 20, fun s => s.2.2.toNat, ([], d, k0),
    ⟨hd, by dsimp only; simp; omega, by simp⟩,
    Shift.trans (Shift.rename [] ⟨rfl, rfl, rfl, rfl, trivial⟩ ⟨rfl, rfl, by rw [e1, e2]; rfl, rfl, trivial⟩ rfl rfl rfl) (Shift.nilCell (i := .l 3 1) (cs := [.lst (eP ((0, 0) :: r)), IC (IntKind.i64.wrap (1 + lo)), IC (IntKind.i64.wrap (IntKind.i64.wrap (1 + lo) + w)), .sc (.slice none 0 0), IC up, IC dn]) (j := 3) rfl rfl 40 89 2), fun s hs => ?_⟩
  obtain ⟨rg, d, kk⟩ := s
  obtain ⟨hd, ⟨hk3, hk4⟩, hz⟩ := hs
  dsimp only at hd hk3 hk4 hz ⊢
  have hm := eP_len rg
  conv => whnf
  refine Fork.mk (fun h => ?_) (fun h => ?_)
  · have hkk : 0 < kk := by simpa using h
    conv => whnf
    refine ⟨d, rfl, hd, by omega, fun a d hd ha1 ha2 => ?_⟩
    conv => whnf
    refine ⟨d, rfl, hd, by omega, fun b d hd hb1 hb2 => ?_⟩
    conv => whnf
    rw [show IntKind.i64.wrap (a + 1) = a + 1 from wrap_in (by omega) (by omega), show IntKind.i64.wrap (a + 1 + b) = a + 1 + b from wrap_in (by omega) (by omega)]
    refine ⟨by simp, ?_⟩
    conv => whnf
    refine ⟨rfl, ?_⟩
    conv => whnf
    refine ⟨⟨rfl, rfl, rfl, hm.symm, by rw [hm]; simp; omega⟩, ?_⟩
    conv => whnf
    rw [show IntKind.i64.wrap (kk - 1) = kk - 1 from wrap_in (by omega) (by omega)]
    refine ⟨(rg ++ [(a, a + 1 + b)], d, kk - 1), ⟨hd, ⟨by dsimp only; omega, by simp; omega⟩, fun z hz' => ?_⟩, Shift.rename [(.l 40 2, .l 40 3)] ⟨rfl, rfl, rfl, rfl, trivial⟩ ⟨rfl, rfl, ?_, ?_, trivial⟩ rfl rfl rfl, ?_⟩
    · rcases List.mem_append.1 hz' with h | h
      · exact hz z h
      · simp at h; subst h; dsimp only; omega
    · dsimp only; rw [List.length_append, ← hm]; rfl
    · dsimp only; rw [← eP_snoc]; rfl
    · show (kk - 1).toNat < kk.toNat
      omega
  have hkk : ¬ 0 < kk := by simpa using h
  conv => whnf
  refine ⟨by rw [hm]; omega, ?_⟩
  conv => whnf
  rw [List.drop_zero, List.take_of_length_le (by rw [hm]; exact Nat.le_refl _)]
  exact ⟨rfl, rfl, hk ⟨(0, 0) :: r, 1 + lo, 1 + lo + w, rg, up, dn⟩ d hd (mkU_of hr1 hr2 hch (by omega) (by omega) (by omega) hz (by omega) (by omega))⟩
theorem mkS_ok : FunB Tryz.prog 32 R_mkS := by
  intro cs args k h
  obtain ⟨d, u, rfl, rfl, hd, hu, hk⟩ := h
  have hf := flS_mk (g := 1) hu (by omega) (by omega)
  refine doesB_ex (qc := qc1) (np := []) (CK := ckK [(9, cB R_next), (52, cPq R_flS)]) mixed Tryz.func32 rfl rfl Tryz.ntmps32 Tryz.results32 τ_ok (by kernel_rfl) (ckK_ok ⟨cB_ok next_ok rfl, cPq_ok rflows_ok, trivial⟩) (by simp) rfl rfl ?_
  conv => whnf
  refine ⟨d, rfl, hd, by omega, fun si d hd hs1 hs2 => ?_⟩
  conv => whnf
  refine ⟨d, rfl, hd, by omega, fun o d hd ho1 ho2 => ?_⟩
  conv => whnf
  refine ⟨u, 1, rfl, hu.fin, ?_⟩
  have hmem : ∀ q ∈ (flS u 1).1, runB u q = true := fun q hq => (flS_mem (by rw [hf]) hq).2.1
  have hln : (flS u 1).1.length ≤ 200 := by rw [hf]; have := flT_mk (g := 1) hu; dsimp only; omega
  have hm := eL_len (flS u 1).1
  conv => whnf
  have fin : ∀ (fl : Int) (d' : Dk) (b : Bool), d'.ok → (fl = 0 ∨ (b = false ∧ runB u fl = true)) → noA (AV.agg [IC fl, IC si, BC b]) = true ∧ noCs (dkC d') = true ∧ k (AV.agg [IC fl, IC si, BC b]) (dkC d') := fun fl d' b hd' h => ⟨rfl, rfl, hk ⟨fl, si, b⟩ d' hd' ⟨by
    rcases h with rfl | ⟨rfl, h⟩
    · simp [fitB, inB]; omega
    · simp [fitB, inB, h]; omega, by dsimp only; omega⟩⟩
  refine Fork.mk (fun h => ?_) (fun h => ?_)
  · have h1 : 0 < (flS u 1).1.length := by simp at h; omega
    conv => whnf
    refine Fork.mk (fun h => ?_) (fun h => ?_)
    · have h2 : o ≠ 6 := by simpa using h
      conv => whnf
      refine ⟨d, rfl, hd, by omega, fun x d hd hx1 hx2 => ?_⟩
      conv => whnf
      refine Fork.mk (fun h => ?_) (fun h => ?_)
      · conv => whnf
        refine ⟨d, rfl, hd, by omega, fun i d hd hi1 hi2 => ?_⟩
        obtain ⟨j, rfl⟩ : ∃ j : Nat, i = j := ⟨i.toNat, by omega⟩
        have hj : j < (flS u 1).1.length := by omega
        have hci := List.getElem?_eq_getElem hj
        have hq := hmem _ (List.getElem_mem hj)
        generalize (flS u 1).1[j] = q at hci hq
        conv => whnf
        refine ⟨by omega, eI q, by rw [Int.toNat_natCast, List.getElem?_map, hci]; rfl, rfl, ?_⟩
        conv => whnf
        exact fin q d _ hd (.inr ⟨by simpa using h2, hq⟩)
      conv => whnf
      exact fin 0 d _ hd (.inl rfl)
    conv => whnf
    repeat (refine fork_f ?_; (conv => whnf))
    exact fin 0 d _ hd (.inl rfl)
  conv => whnf
  repeat (refine fork_f ?_; (conv => whnf))
  exact fin 0 d _ hd (.inl rfl)
end Go.Proofs

namespace Go.Proofs
open Go Go.Abs
set_option linter.unusedSimpArgs false
set_option linter.unusedVariables false
set_option maxRecDepth 4000
theorem ckG_prog : FunR Tryz.prog 83 (R_gI ckG) := by
  intro args k h
  obtain ⟨g, rfl, hg, hk⟩ := h
  have hm : (g.rt.map rtC).length = g.rt.length := List.length_map _
  have hgn := hg.n
  refine does_ex (qc := qc1) (np := []) (CK := ckK [(85, cSc R_ckC), (25, cSc R_within)]) mixed Tryz.func83 rfl rfl Tryz.ntmps83 Tryz.results83 τ_ok (by kernel_rfl) (ckK_ok ⟨cSc_ok ckC_ok', cSc_ok within_ok, trivial⟩) (by simp) ?_
  conv => whnf
  refine Fork.mk (fun h => ?_) (fun h => ?_)
  · have h1 : g.rt.length = 0 := by simp at h; simp [h]
    rw [show ckG g = 3 from if_pos h1] at hk
    conv => whnf
    exact hk
  have h1 : ¬ g.rt.length = 0 := by simp at h; simpa using h
  conv => whnf
  refine Fork.mk (fun h => ?_) (fun h => ?_)
  · have h2 : 10 < g.rt.length := by simp at h; omega
    rw [show ckG g = 10 by rw [ckG, if_neg h1, if_pos h2]] at hk
    conv => whnf
    exact hk
  have h2 : ¬ 10 < g.rt.length := by simp at h; omega
  have e1 : ckG g = if rE none g.rt ≠ 0 then rE none g.rt else if (inB 0 1000 g.mo && inB 0 1000 g.mv) = false then 1 else 0 := by rw [ckG, if_neg h1, if_neg h2]
  conv => whnf
  refine ⟨Nat, fun i => ([(1, .c (.ptr (.l 1 0) 0)), (17, .c (.lst (g.rt.map rtC))), (18, I (g.rt.map rtC).length), (19, I i)], ⟨[(.l 1 0, .blk (gtC g))], 5, []⟩),
    fun i => i ≤ g.rt.length ∧ rE none g.rt = rE (if i = 0 then none else (g.rt[i - 1]?).map (·.1)) (g.rt.drop i), fun i => g.rt.length - i, 0, ⟨Nat.zero_le _, rfl⟩,
    Shift.reset ⟨rfl, rfl, rfl, rfl, trivial⟩ ⟨rfl, trivial⟩ rfl rfl, fun i hi => ?_⟩
  obtain ⟨hi1, hi2⟩ := hi
  dsimp only
  conv => whnf
  refine Fork.mk (fun h => ?_) (fun h => ?_)
  · have hi : i < g.rt.length := by simp at h; omega
    clear h
    have hci := List.getElem?_eq_getElem hi
    have hcl := hg.c _ (List.getElem_mem hi)
    generalize g.rt[i] = r at hci hcl
    rw [drop_of hci, rE_cons] at hi2
    have hw1 := wr_succ (i := i) (by omega)
    have hcm := eP_len r.2
    conv => whnf
    refine ⟨by omega, rtC r, by rw [Int.toNat_natCast, List.getElem?_map, hci]; rfl, rfl, ?_⟩
    conv => whnf
    refine Fork.mk (fun h => ?_) (fun h => ?_)
    · rw [if_pos (by simp at h; simp [inB]; omega)] at hi2
      rw [e1, if_pos (by omega), hi2] at hk
      conv => whnf
      ((repeat (refine fork_t ?_; (conv => whnf))); exact hk)
    have h3 : 0 ≤ r.1 ∧ r.1 ≤ 16777216 := by simp at h; omega
    rw [if_neg (by simp [inB, h3])] at hi2
    clear h
    conv => whnf
    rcases Nat.eq_zero_or_pos i with hi0 | hi0
    · subst hi0
      refine Fork.mk (fun h => ?_) (fun h => ?_)
      · exfalso; simp at h
      clear h
      rw [if_neg (by simp [qle])] at hi2
      conv => whnf
      repeat (refine fork_f ?_; (conv => whnf))
      refine ⟨r.2, rfl, hcl, ?_⟩
      conv => whnf
      refine Fork.mk (fun h => ?_) (fun h => ?_)
      · have h5 : ckC r.2 ≠ 0 := by simpa using h
        rw [if_pos h5] at hi2
        rw [e1, if_pos (by omega), hi2] at hk
        conv => whnf
        exact hk
      have h5 : ckC r.2 = 0 := by simpa using h
      rw [if_neg (by simp [h5])] at hi2
      clear h
      obtain ⟨hc0, hc1⟩ := ckC_ne h5
      have hc2 : 0 < r.2.length := List.length_pos_iff.2 hc0
      have hh := head_at hc0
      have hla := lastP_at hc0
      have hw2 : IntKind.i64.wrap (((eP r.2).length : Int) - 1) = ((r.2.length - 1 : Nat) : Int) := by rw [eP_len, wrap_in (by omega) (by omega)]; omega
      conv => whnf
      refine ⟨by omega, ePt (r.2.headD (0, 0)), eP_at r.2 hh, rfl, ?_⟩
      conv => whnf
      refine Fork.mk (fun h => ?_) (fun h => ?_)
      · have h6 : r.2.headD (0, 0) ≠ (0, 0) := fun e => by rw [e] at h; simp at h
        rw [if_pos h6] at hi2
        rw [e1, if_pos (by omega), hi2] at hk
        conv => whnf
        exact hk
      have h6 : r.2.headD (0, 0) = (0, 0) := by
        generalize r.2.headD (0, 0) = z at h ⊢
        simp at h
        exact Prod.ext h.1 h.2
      rw [if_neg (fun e => e h6)] at hi2
      clear h
      conv => whnf
      rw [hw2]
      refine ⟨by omega, ePt (lastP r.2), by rw [Int.toNat_natCast]; exact eP_at r.2 hla, rfl, ?_⟩
      conv => whnf
      refine Fork.mk (fun h => ?_) (fun h => ?_)
      · have h7 : 1073741824 < (lastP r.2).2 := by simpa using h
        rw [if_pos h7] at hi2
        rw [e1, if_pos (by omega), hi2] at hk
        conv => whnf
        exact hk
      have h7 : ¬ 1073741824 < (lastP r.2).2 := by simpa using h
      rw [if_neg h7] at hi2
      clear h
      conv => whnf
      rw [hw1]
      exact ⟨_, ⟨hi, by rw [hi2, if_neg (Nat.succ_ne_zero _), show ∀ n, Nat.succ n - 1 = n from fun _ => rfl, hci]; rfl⟩, Shift.reset ⟨rfl, rfl, rfl, rfl, trivial⟩ ⟨rfl, trivial⟩ rfl rfl, by omega⟩
    have hcj := List.getElem?_eq_getElem (show i - 1 < g.rt.length by omega)
    generalize g.rt[i - 1] = q at hcj
    rw [if_neg (by omega : ¬ i = 0), hcj] at hi2
    refine Fork.mk (fun h => ?_) (fun h => ?_)
    rotate_left
    · exfalso; simp at h; omega
    clear h
    have hw3 : IntKind.i64.wrap ((i : Int) - 1) = ((i - 1 : Nat) : Int) := by rw [wrap_in (by omega) (by omega)]; omega
    conv => whnf
    rw [hw3]
    refine ⟨by omega, rtC q, by rw [Int.toNat_natCast, List.getElem?_map, hcj]; rfl, rfl, ?_⟩
    conv => whnf
    refine Fork.mk (fun h => ?_) (fun h => ?_)
    · rw [if_pos (by simpa [qle] using h)] at hi2
      rw [e1, if_pos (by omega), hi2] at hk
      conv => whnf
      exact hk
    rw [if_neg (by simpa [qle] using h)] at hi2
    clear h
    conv => whnf
    refine ⟨r.2, rfl, hcl, ?_⟩
    conv => whnf
    refine Fork.mk (fun h => ?_) (fun h => ?_)
    · have h5 : ckC r.2 ≠ 0 := by simpa using h
      rw [if_pos h5] at hi2
      rw [e1, if_pos (by omega), hi2] at hk
      conv => whnf
      exact hk
    have h5 : ckC r.2 = 0 := by simpa using h
    rw [if_neg (by simp [h5])] at hi2
    clear h
    obtain ⟨hc0, hc1⟩ := ckC_ne h5
    have hc2 : 0 < r.2.length := List.length_pos_iff.2 hc0
    have hh := head_at hc0
    have hla := lastP_at hc0
    have hw2 : IntKind.i64.wrap (((eP r.2).length : Int) - 1) = ((r.2.length - 1 : Nat) : Int) := by rw [eP_len, wrap_in (by omega) (by omega)]; omega
    conv => whnf
    refine ⟨by omega, ePt (r.2.headD (0, 0)), eP_at r.2 hh, rfl, ?_⟩
    conv => whnf
    refine Fork.mk (fun h => ?_) (fun h => ?_)
    · have h6 : r.2.headD (0, 0) ≠ (0, 0) := fun e => by rw [e] at h; simp at h
      rw [if_pos h6] at hi2
      rw [e1, if_pos (by omega), hi2] at hk
      conv => whnf
      exact hk
    have h6 : r.2.headD (0, 0) = (0, 0) := by
      generalize r.2.headD (0, 0) = z at h ⊢
      simp at h
      exact Prod.ext h.1 h.2
    rw [if_neg (fun e => e h6)] at hi2
    clear h
    conv => whnf
    rw [hw2]
    refine ⟨by omega, ePt (lastP r.2), by rw [Int.toNat_natCast]; exact eP_at r.2 hla, rfl, ?_⟩
    conv => whnf
    refine Fork.mk (fun h => ?_) (fun h => ?_)
    · have h7 : 1073741824 < (lastP r.2).2 := by simpa using h
      rw [if_pos h7] at hi2
      rw [e1, if_pos (by omega), hi2] at hk
      conv => whnf
      exact hk
    have h7 : ¬ 1073741824 < (lastP r.2).2 := by simpa using h
    rw [if_neg h7] at hi2
    clear h
    conv => whnf
    rw [hw1]
    exact ⟨_, ⟨hi, by rw [hi2, if_neg (Nat.succ_ne_zero _), show ∀ n, Nat.succ n - 1 = n from fun _ => rfl, hci]; rfl⟩, Shift.reset ⟨rfl, rfl, rfl, rfl, trivial⟩ ⟨rfl, trivial⟩ rfl rfl, by omega⟩
  have hie : i = g.rt.length := by simp at h; omega
  subst hie
  rw [List.drop_length] at hi2
  rw [if_neg (by simp [hi2, rE])] at e1
  clear hi2 hi1 h
  conv => whnf
  refine Fork.mk (fun h => ?_) (fun h => ?_)
  · rw [e1, if_pos (by simp [inB] at h ⊢; omega)] at hk
    conv => whnf
    ((repeat (refine fork_t ?_; (conv => whnf))); exact hk)
  have h7 : 0 ≤ g.mo ∧ g.mo ≤ 1000 := by simp at h; omega
  conv => whnf
  refine Fork.mk (fun h => ?_) (fun h => ?_)
  · rw [e1, if_pos (by simp [inB] at h ⊢; omega)] at hk
    conv => whnf
    exact hk
  have h8 : 0 ≤ g.mv ∧ g.mv ≤ 1000 := by simp at h; omega
  rw [e1, if_neg (by simp [inB, h7, h8])] at hk
  conv => whnf
  exact hk
theorem at_ok : FunR Tryz.prog 89 R_atG := by
  intro args k h
  obtain ⟨g, lv, rfl, hg, hk⟩ := h
  have hm : (g.rt.map rtC).length = g.rt.length := List.length_map _
  have hgn := hg.n
  refine does_ex (qc := qc1) (np := []) (CK := ckK []) mixed Tryz.func89 rfl rfl Tryz.ntmps89 Tryz.results89 τ_ok (by kernel_rfl) (ckK_ok trivial) (by simp) ?_
  conv => whnf
  refine ⟨Nat × List Pt, fun s => ([(1, I lv), (4, .c (.ptr (.l 4 1) 0)), (5, .c (.ptr (.l 5 2) 0)), (9, .c (.lst (g.rt.map rtC))), (10, I (g.rt.map rtC).length), (11, I s.1)], ⟨[(.l 4 1, .blk [.sc (.slice none 0 0), IC 0]), (.l 5 2, .blk [.lst (eP s.2), IC 0])], 10, []⟩),
    fun s => s.1 ≤ g.rt.length ∧ atL [] g.rt lv = atL s.2 (g.rt.drop s.1) lv, fun s => g.rt.length - s.1, (0, []), ⟨Nat.zero_le _, rfl⟩,
    Shift.trans (Shift.reset ⟨rfl, rfl, rfl, rfl, rfl, rfl, trivial⟩ ⟨rfl, rfl, trivial⟩ rfl rfl) (Shift.purCell (i := .l 5 2) (cs := [.sc (.slice none 0 0), IC 0]) (j := 0) (c' := .lst []) rfl rfl rfl), fun s hs => ?_⟩
  obtain ⟨i, a⟩ := s
  obtain ⟨hi1, hi2⟩ := hs
  dsimp only at hi1 hi2 ⊢
  conv => whnf
  refine Fork.mk (fun h => ?_) (fun h => ?_)
  · have hi : i < g.rt.length := by simp at h; omega
    clear h
    have hci := List.getElem?_eq_getElem hi
    generalize g.rt[i] = r at hci
    rw [drop_of hci] at hi2
    have hw1 := wr_succ (i := i) (by omega)
    conv => whnf
    refine ⟨by omega, rtC r, by rw [Int.toNat_natCast, List.getElem?_map, hci]; rfl, rfl, ?_⟩
    conv => whnf
    refine Fork.mk (fun h => ?_) (fun h => ?_)
    · have h1 : r.1 ≤ lv := by simpa using h
      conv => whnf
      rw [hw1]
      exact ⟨(i + 1, r.2), ⟨hi, by rw [hi2]; exact congrArg (fun z => atL z _ _) (if_pos h1)⟩, Shift.reset ⟨rfl, rfl, rfl, rfl, rfl, rfl, trivial⟩ ⟨rfl, rfl, trivial⟩ rfl rfl, by dsimp only; omega⟩
    have h1 : ¬ r.1 ≤ lv := by simpa using h
    conv => whnf
    rw [hw1]
    exact ⟨(i + 1, a), ⟨hi, by rw [hi2]; exact congrArg (fun z => atL z _ _) (if_neg h1)⟩, Shift.reset ⟨rfl, rfl, rfl, rfl, rfl, rfl, trivial⟩ ⟨rfl, rfl, trivial⟩ rfl rfl, by dsimp only; omega⟩
  have hie : i = g.rt.length := by simp at h; omega
  subst hie
  rw [List.drop_length] at hi2
  have hi3 : atG g lv = a := hi2
  rw [hi3] at hk
  conv => whnf
  exact hk
theorem vflow_ok : FunR Tryz.prog 91 R_vflow := by
  intro args k h
  obtain ⟨c, w, x, rfl, hc, hk⟩ := h
  refine does_ex (qc := qc1) (np := []) (CK := ckK [(86, cSc R_val)]) mixed Tryz.func91 rfl rfl Tryz.ntmps91 Tryz.results91 τ_ok (by kernel_rfl) (ckK_ok ⟨cSc_ok val_ok, trivial⟩) (by simp) ?_
  conv => whnf
  refine Fork.mk (fun h => ?_) (fun h => ?_)
  · have h1 : c = [] := by simpa using h
    subst h1
    conv => whnf
    exact hk
  have h1 : c ≠ [] := fun e => by subst e; simp at h
  conv => whnf
  refine ⟨c, rfl, (hc.resolve_left h1).c, ?_⟩
  rw [gfl_ne h1] at hk
  conv => whnf
  exact hk
theorem enough_ok : FunR Tryz.prog 88 R_enough := by
  intro args k h
  obtain ⟨c, w, x, rfl, hc, hk⟩ := h
  refine does_ex (qc := qc1) (np := [(1, [(2, 4)])]) (CK := ckK [(91, cSc R_vflow)]) mixed Tryz.func88 rfl rfl Tryz.ntmps88 Tryz.results88 τ_ok (by kernel_rfl) (ckK_ok ⟨cSc_ok vflow_ok, trivial⟩) (by simp) ?_
  conv => whnf
  refine ⟨c, w, x, rfl, hc, ?_⟩
  conv => whnf
  exact hk
theorem okS_ok : FunR Tryz.prog 136 R_okS := by
  intro args k h
  obtain ⟨g, s, rfl, hk⟩ := h
  refine does_ex (qc := qc1) (np := []) (CK := ckK [(25, cSc R_within)]) mixed Tryz.func136 rfl rfl Tryz.ntmps136 Tryz.results136 τ_ok (by kernel_rfl) (ckK_ok ⟨cSc_ok within_ok, trivial⟩) (by simp) ?_
  conv => whnf
  exact hk
end Go.Proofs
