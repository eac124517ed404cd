/- Proved here: what functions of the given program come to, and the plain laws of it; no condition but those in the theorems. -/
import Derived.Test.YtknjncmgohjpkaaV25
import Derived.Test.YtknjncmgohjpkaaPFlood2
import Derived.Test.YtknjncmgohjpkaaAbsRv
namespace Go.Proofs
open Go Go.Abs
set_option linter.unusedSimpArgs false
set_option linter.unusedVariables false
set_option maxRecDepth 4000
def R_state : RB := fun cs args k => ∃ (d : Dk) (f : Fr), args = [.agg (frC f)] ∧ cs = dkC d ∧ d.ok ∧ (1 ≤ f.cm ∧ f.cm ≤ 1000) ∧ ∀ (s : Fs) d', Dk.ok d' → (0 ≤ s.cm ∧ s.cm < f.cm) → (s.on = false → s.cm = 0) → k (.agg (fsC s)) (dkC d')
theorem state_ok : FunB Try.prog 17 R_state := by
  intro cs args k h
  obtain ⟨d, f, rfl, rfl, hd, hc, hk⟩ := h
  refine doesB_ex (qc := qc1) (np := []) (CK := ckK [(23, cB R_next)]) mixed Try.func17 rfl rfl Try.ntmps17 Try.results17 τ_ok (by kernel_rfl) (ckK_ok ⟨cB_ok next_ok rfl, trivial⟩) (by simp) rfl rfl ?_
  conv => whnf
  refine ⟨d, rfl, hd, by omega, fun v d hd hv1 hv2 => ?_⟩
  conv => whnf
  refine Fork.mk (fun h => ?_) (fun h => ?_)
  · conv => whnf
    exact ⟨rfl, rfl, hk ⟨false, 0⟩ d hd (by dsimp only; omega) (fun _ => rfl)⟩
  conv => whnf
  refine ⟨d, rfl, hd, by omega, fun w d hd hw1 hw2 => ?_⟩
  conv => whnf
  exact ⟨rfl, rfl, hk ⟨true, w⟩ d hd (by dsimp only; omega) (fun e => by cases e)⟩
def R_next25 : RT := fun args k => ∃ (l : Ls) (raw : Fr) (r : Rs) (x y z : Int), args = [.c (.lst (eL l)), .agg (frC raw), .agg (rsC r), I x, I y, I z] ∧ l.length ≤ 9223372036854775807 ∧ raw.t.fin ∧ r.st.length ≤ 9223372036854775807 ∧ k (Bo true)
theorem next25_ok : FunR Try.prog 4 R_next25 := by
  intro args k h
  obtain ⟨l, raw, r0, level, inflow, most, rfl, hl, hraw, hr0, hk⟩ := h
  refine does_ex (qc := qc1) (np := [(24, [(0, 8), (0, 9), (1, 8), (1, 9), (3, 8), (3, 9), (4, 8), (4, 9), (5, 8), (5, 9), (7, 8), (7, 9), (8, 9)])]) (CK := ckK [(8, cSc R_tt), (9, cSc R_few), (10, cN R_new), (12, cB R_resv), (11, cB R_mkF), (17, cB R_state), (13, cSc R_mod), (15, cSc R_fck), (16, cSc R_fck), (14, cSc R_nextF), (18, cSc R_nextF), (19, cSc R_relF), (20, cSc R_relF), (21, cSc R_turnT), (22, cSc R_rturn)]) mixed Try.func4 rfl rfl Try.ntmps4 Try.results4 τ_ok (by kernel_rfl) (ckK_ok ⟨cSc_ok sane_ok, cSc_ok few_ok, cN_ok new_ok rfl, cB_ok resv_ok rfl, cB_ok rule_ok rfl, cB_ok state_ok rfl, cSc_ok mod_ok, cSc_ok fck_ok, cSc_ok rfck_ok, cSc_ok next_okF, cSc_ok rnext_okF, cSc_ok relF_ok, cSc_ok rrelF_ok, cSc_ok turn_ok, cSc_ok rturn_ok, trivial⟩) (by simp) ?_
  conv => whnf
  refine ⟨rfl, ?_⟩
  conv => whnf
  refine fork_f ?_
  conv => whnf
  refine ⟨l, rfl, ?_⟩
  conv => whnf
  refine Fork.mk (fun h => ?_) (fun h => ?_)
  · conv => whnf
    repeat' ((first | refine fork_t ?_ | refine fork_f ?_ | (refine Fork.mk (fun h => ?_) (fun h => ?_); focus (simp at h; done)) | fail) <;> (conv => whnf))
    exact hk
  clear h
  conv => whnf
  refine Fork.mk (fun h => ?_) (fun h => ?_)
  · conv => whnf
    repeat' ((first | refine fork_t ?_ | refine fork_f ?_ | (refine Fork.mk (fun h => ?_) (fun h => ?_); focus (simp at h; done)) | fail) <;> (conv => whnf))
    exact hk
  clear h
  conv => whnf
  refine ⟨l, rfl, ?_⟩
  conv => whnf
  refine ⟨⟨l, 0⟩, rfl, ⟨Nat.zero_le _, hl⟩, fun res d hd hres hresl => ?_⟩
  have hrl := hres.lv
  have hrh := hres.hi
  have hrz := hres.lo
  conv => whnf
  refine ⟨d, res, rfl, rfl, hd, by omega, fun f d hd hf => ?_⟩
  have hfb := hf.b
  have hfe := hf.e
  have hfc := hf.c
  have hft := hf.t.e
  have hff := hf.t.fin
  have hres2 : res.st.length ≤ 9223372036854775807 := by omega
  clear hrl hrh hrz hresl hres
  conv => whnf
  obtain ⟨fs, hfs, hfin⟩ : ∃ fs : List Fr, fs = [raw, f, ⟨f.t, level, f.en, most⟩] ∧ ∀ g ∈ fs, g.t.fin := ⟨_, rfl, fun g hg => by
    simp at hg
    rcases hg with rfl | rfl | rfl
    · exact hraw
    · exact hff
    · exact hff⟩
  refine ⟨Nat, fun i => ([(3, I level), (4, I inflow), (5, I most), (8, .c (.ptr (.l 8 1) 0)), (13, .c (.ptr (.l 59 2) 0)), (14, .c (.ptr (.l 14 3) 0)), (15, .c (.ptr (.l 15 4) 0)), (73, .c (.view (.l 73 6) 0 3)), (74, I 3), (75, I i)], ⟨[(.l 8 1, .blk (rsC r0)), (.l 59 2, .blk (dkC d)), (.l 14 3, .blk (rsC res)), (.l 15 4, .blk (frC f)), (.l 73 6, .arr 31 6 (fs.map frC) false)], 20, []⟩),
    fun i => i ≤ 3, fun i => 3 - i, 0, by omega, ?_, fun i hi => ?_⟩
  · subst hfs
    exact Shift.reset ⟨rfl, rfl, rfl, rfl, rfl, rfl, rfl, rfl, rfl, rfl, trivial⟩ ⟨rfl, rfl, rfl, rfl, rfl, trivial⟩ rfl rfl
  have hfn : fs.length = 3 := by rw [hfs]; rfl
  clear hfs
  dsimp only
  conv => whnf
  refine Fork.mk (fun h => ?_) (fun h => ?_)
  · have hi : i < 3 := by simp at h; omega
    clear h
    have hci := List.getElem?_eq_getElem (show i < fs.length by omega)
    have hz := hfin _ (List.getElem_mem (show i < fs.length by omega))
    generalize fs[i] = g at hci hz
    have hw1 := wr_succ (i := i) (by omega)
    conv => whnf
    refine ⟨by omega, rfl, ?_⟩
    conv => whnf
    refine ⟨frC g, by rw [Nat.zero_add, Int.toNat_natCast, List.getElem?_map, hci]; rfl, ?_⟩
    conv => whnf
    obtain ⟨rs, hrs, hrf⟩ : ∃ rs : List Rs, rs = [r0, res] ∧ ∀ r ∈ rs, r.st.length ≤ 9223372036854775807 := ⟨_, rfl, fun r hr => by
      simp at hr
      rcases hr with rfl | rfl
      · exact hr0
      · exact hres2⟩
    refine ⟨Nat, fun j => ([(3, I level), (4, I inflow), (5, I most), (8, .c (.ptr (.l 8 1) 0)), (13, .c (.ptr (.l 59 2) 0)), (14, .c (.ptr (.l 14 3) 0)), (15, .c (.ptr (.l 15 4) 0)), (18, .c (.ptr (.l 18 20) 0)), (73, .c (.view (.l 73 6) 0 3)), (74, I 3), (75, I i), (81, .c (.view (.l 81 21) 0 2)), (82, I 2), (83, I j)], ⟨[(.l 8 1, .blk (rsC r0)), (.l 59 2, .blk (dkC d)), (.l 14 3, .blk (rsC res)), (.l 15 4, .blk (frC f)), (.l 73 6, .arr 31 6 (fs.map frC) false), (.l 18 20, .blk (frC g)), (.l 81 21, .arr 35 6 (rs.map rsC) false)], 40, []⟩),
      fun j => j ≤ 2, fun j => 2 - j, 0, by omega, ?_, fun j hj => ?_⟩
    · subst hrs
      exact Shift.reset ⟨rfl, rfl, rfl, rfl, rfl, rfl, rfl, rfl, rfl, rfl, rfl, rfl, rfl, rfl, trivial⟩ ⟨rfl, rfl, rfl, rfl, rfl, rfl, rfl, trivial⟩ rfl rfl
    have hrn : rs.length = 2 := by rw [hrs]; rfl
    clear hrs
    dsimp only
    conv => whnf
    refine Fork.mk (fun h => ?_) (fun h => ?_)
    · have hj : j < 2 := by simp at h; omega
      clear h
      have hcj := List.getElem?_eq_getElem (show j < rs.length by omega)
      have hrz := hrf _ (List.getElem_mem (show j < rs.length by omega))
      generalize rs[j] = r at hcj hrz
      have hw2 := wr_succ (i := j) (by omega)
      conv => whnf
      refine ⟨by omega, rfl, ?_⟩
      conv => whnf
      refine ⟨rsC r, by rw [Nat.zero_add, Int.toNat_natCast, List.getElem?_map, hcj]; rfl, ?_⟩
      conv => whnf
      refine ⟨g, r, rfl, hz, hrz, ?_⟩
      conv => whnf
      refine ⟨g, r, rfl, hz, hrz, ?_⟩
      conv => whnf
      repeat' ((first | refine fork_t ?_ | refine fork_f ?_ | (refine Fork.mk (fun h => ?_) (fun h => ?_); focus (simp at h; done)) | fail) <;> (conv => whnf))
      rw [hw2]
      exact ⟨j + 1, by omega, Shift.reset ⟨rfl, rfl, rfl, rfl, rfl, rfl, rfl, rfl, rfl, rfl, rfl, rfl, rfl, rfl, trivial⟩ ⟨rfl, rfl, rfl, rfl, rfl, rfl, rfl, trivial⟩ rfl rfl, by omega⟩
    conv => whnf
    rw [hw1]
    exact ⟨i + 1, by omega, Shift.reset ⟨rfl, rfl, rfl, rfl, rfl, rfl, rfl, rfl, rfl, rfl, trivial⟩ ⟨rfl, rfl, rfl, rfl, rfl, trivial⟩ rfl rfl, by omega⟩
  clear h
  have e1 : IntKind.i64.wrap (f.en - 1) = f.en - 1 := wrap_in (by omega) (by omega)
  have e2 : IntKind.i64.wrap (f.bg - 1) = f.bg - 1 := wrap_in (by omega) (by omega)
  conv => whnf
  refine ⟨d, f, rfl, rfl, hd, by omega, fun s d hd hs _ => ?_⟩
  conv => whnf
  rw [e1, e2]
  obtain ⟨ls, hls⟩ : ∃ ls : Ls, ls = [level, f.bg, f.en, f.en - 1, f.bg - 1] := ⟨_, rfl⟩
  refine ⟨Nat, fun i => ([(4, I inflow), (5, I most), (15, .c (.ptr (.l 15 4) 0)), (21, .c (.ptr (.l 21 20) 0)), (110, .c (.view (.l 110 21) 0 5)), (111, I 5), (112, I i)], ⟨[(.l 15 4, .blk (frC f)), (.l 21 20, .blk (fsC s)), (.l 110 21, .arr 3 1 (eL ls) false)], 40, []⟩),
    fun i => i ≤ 5, fun i => 5 - i, 0, by omega, ?_, fun i hi => ?_⟩
  · subst hls
    exact Shift.reset ⟨rfl, rfl, rfl, rfl, rfl, rfl, rfl, trivial⟩ ⟨rfl, rfl, rfl, trivial⟩ rfl rfl
  have hln : ls.length = 5 := by rw [hls]; rfl
  clear hls
  dsimp only
  conv => whnf
  refine Fork.mk (fun h => ?_) (fun h => ?_)
  · have hi : i < 5 := by simp at h; omega
    clear h
    have hci := List.getElem?_eq_getElem (show i < ls.length by omega)
    generalize ls[i] = x at hci
    have hw1 := wr_succ (i := i) (by omega)
    conv => whnf
    refine ⟨by omega, rfl, ?_⟩
    conv => whnf
    refine ⟨eI x, by rw [Nat.zero_add, Int.toNat_natCast, List.getElem?_map, hci]; rfl, ?_⟩
    conv => whnf
    refine ⟨f, s, x, rfl, by omega, ?_⟩
    conv => whnf
    refine ⟨f, s, x, rfl, by omega, ?_⟩
    generalize nextF f s x = n
    conv => whnf
    refine ⟨f, n, x, inflow, rfl, hff, ?_⟩
    conv => whnf
    refine ⟨f, n, x, inflow, rfl, hff, ?_⟩
    conv => whnf
    repeat' ((first | refine fork_t ?_ | refine fork_f ?_ | (refine Fork.mk (fun h => ?_) (fun h => ?_); focus (simp at h; done)) | fail) <;> (conv => whnf))
    rw [hw1]
    exact ⟨i + 1, by omega, Shift.reset ⟨rfl, rfl, rfl, rfl, rfl, rfl, rfl, trivial⟩ ⟨rfl, rfl, rfl, trivial⟩ rfl rfl, by omega⟩
  clear h
  conv => whnf
  refine ⟨by omega, ?_⟩
  conv => whnf
  obtain ⟨qs, hqs⟩ : ∃ qs : Ls, qs = [most, most % 30] := ⟨_, rfl⟩
  refine ⟨Nat, fun i => ([(15, .c (.ptr (.l 15 4) 0)), (157, .c (.view (.l 157 40) 0 2)), (158, I 2), (159, I i)], ⟨[(.l 15 4, .blk (frC f)), (.l 157 40, .arr 3 1 (eL qs) false)], 60, []⟩),
    fun i => i ≤ 2, fun i => 2 - i, 0, by omega, ?_, fun i hi => ?_⟩
  · subst hqs
    exact Shift.reset ⟨rfl, rfl, rfl, rfl, trivial⟩ ⟨rfl, rfl, trivial⟩ rfl rfl
  have hqn : qs.length = 2 := by rw [hqs]; rfl
  clear hqs
  dsimp only
  conv => whnf
  refine Fork.mk (fun h => ?_) (fun h => ?_)
  · have hi : i < 2 := by simp at h; omega
    clear h
    have hci := List.getElem?_eq_getElem (show i < qs.length by omega)
    generalize qs[i] = x at hci
    have hw1 := wr_succ (i := i) (by omega)
    conv => whnf
    refine ⟨by omega, rfl, ?_⟩
    conv => whnf
    refine ⟨eI x, by rw [Nat.zero_add, Int.toNat_natCast, List.getElem?_map, hci]; rfl, ?_⟩
    conv => whnf
    refine ⟨f, x, rfl, hff, ?_⟩
    conv => whnf
    refine ⟨f, x, rfl, hft, ?_⟩
    conv => whnf
    repeat' ((first | refine fork_t ?_ | refine fork_f ?_ | (refine Fork.mk (fun h => ?_) (fun h => ?_); focus (simp at h; done)) | fail) <;> (conv => whnf))
    rw [hw1]
    exact ⟨i + 1, by omega, Shift.reset ⟨rfl, rfl, rfl, rfl, trivial⟩ ⟨rfl, rfl, trivial⟩ rfl rfl, by omega⟩
  conv => whnf
  exact hk
end Go.Proofs

namespace Go.Proofs
open Go Go.Abs
set_option linter.unusedSimpArgs false
set_option linter.unusedVariables false
set_option maxRecDepth 4000
theorem asked_ok : FunR Try.prog 65 R_asked := by
  intro args k h
  unfold R_asked at h
  split at h
  case h_2 => exact h.elim
  rename_i a b cc d e x y
  obtain ⟨c, rfl, hl, hk⟩ := h
  refine does_ex (qc := qc1) (np := []) (CK := ckK [(33, cSc (R_rs ckS)), (67, cSc R_within)]) mixed Try.func65 rfl rfl Try.ntmps65 Try.results65 τ_ok (by kernel_rfl) (ckK_ok ⟨cSc_ok ckS_ok', cSc_ok within_ok, trivial⟩) (by simp) ?_
  conv => whnf
  refine ⟨c, rfl, hl, ?_⟩
  conv => whnf
  refine Fork.mk (fun h => ?_) (fun h => ?_)
  · have h1 : ckS ⟨c, a, b, cc, d, e⟩ ≠ 0 := by simpa using h
    rw [show askS ⟨c, a, b, cc, d, e⟩ x y = ckS ⟨c, a, b, cc, d, e⟩ from if_pos h1] at hk
    conv => whnf
    exact hk
  have h1 : ckS ⟨c, a, b, cc, d, e⟩ = 0 := by simpa using h
  have f1 : askS ⟨c, a, b, cc, d, e⟩ x y = if inB 0 274877906944 x = true ∧ inB 0 16777216 y = true then 0 else 1 := by unfold askS; rw [if_neg (by rw [h1]; simp)]
  have bad : ¬ (inB 0 274877906944 x = true ∧ inB 0 16777216 y = true) → askS ⟨c, a, b, cc, d, e⟩ x y = 1 := fun h => by rw [f1, if_neg h]
  have good : (inB 0 274877906944 x = true ∧ inB 0 16777216 y = true) → askS ⟨c, a, b, cc, d, e⟩ x y = 0 := fun h => by rw [f1, if_pos h]
  conv => whnf
  refine Fork.mk (fun h => ?_) (fun h => ?_)
  · rw [bad (by simp [inB] at h ⊢; omega)] at hk
    conv => whnf
    refine fork_t ?_
    conv => whnf
    exact hk
  have h2 : 0 ≤ x ∧ x ≤ 274877906944 := by simp at h; omega
  conv => whnf
  refine Fork.mk (fun h => ?_) (fun h => ?_)
  · rw [bad (by simp [inB] at h ⊢; omega)] at hk
    conv => whnf
    exact hk
  · rw [good (by simp [inB] at h ⊢; omega)] at hk
    conv => whnf
    exact hk
theorem volS_ok : FunR Try.prog 48 (R_rs1 volS) := by
  intro args k h
  unfold R_rs1 at h
  split at h
  case h_2 => exact h.elim
  rename_i a b cc d e x
  obtain ⟨c, rfl, hl, hk⟩ := h
  refine does_ex (qc := qc1) (np := []) (CK := ckK [(65, cSc R_asked), (66, cSc R_val)]) mixed Try.func48 rfl rfl Try.ntmps48 Try.results48 τ_ok (by kernel_rfl) (ckK_ok ⟨cSc_ok asked_ok, cSc_ok val_ok, trivial⟩) (by simp) ?_
  conv => whnf
  refine ⟨c, rfl, hl, ?_⟩
  conv => whnf
  refine Fork.mk (fun h => ?_) (fun h => ?_)
  · have h1 : askS ⟨c, a, b, cc, d, e⟩ 0 x ≠ 0 := by simpa using h
    rw [show volS ⟨c, a, b, cc, d, e⟩ x = (0, askS ⟨c, a, b, cc, d, e⟩ 0 x) from if_pos h1] at hk
    conv => whnf
    exact hk
  have h1 : askS ⟨c, a, b, cc, d, e⟩ 0 x = 0 := by simpa using h
  obtain ⟨hck, hv, hx⟩ := askS_ok h1
  obtain ⟨hc, hlen, hlast, hrise, hsrt⟩ := ckS_ok hck
  dsimp only at hc hlen hlast hrise
  rw [show volS ⟨c, a, b, cc, d, e⟩ x = (valC c x, 0) by unfold volS; exact if_neg (by rw [h1]; simp)] at hk
  conv => whnf
  refine ⟨c, rfl, hc, ?_⟩
  conv => whnf
  exact hk
theorem hgt_ok : FunR Try.prog 71 R_hgt := by
  intro args k h
  unfold R_hgt at h
  split at h
  case h_2 => exact h.elim
  rename_i a b cc d e y
  obtain ⟨c, rfl, hl, ⟨hc, hr⟩, hk⟩ := h
  obtain ⟨hc0, hcl⟩ := ckC_ne hc
  have hm := eP_len c
  have hh := head_at hc0
  refine does_ex (qc := qc1) (np := []) (CK := ckK [(74, cSc R_last)]) mixed Try.func71 rfl rfl Try.ntmps71 Try.results71 τ_ok (by kernel_rfl) (ckK_ok ⟨cSc_ok last_ok, trivial⟩) (by simp) ?_
  conv => whnf
  refine ⟨c, rfl, hl, ?_⟩
  rw [lastV_ok hc]
  by_cases h1 : y < (c.headD (0, 0)).2
  · rw [if_pos h1]
    rw [hgt_lo h1] at hk
    conv => whnf
    refine fork_t ?_
    conv => whnf
    refine ⟨by omega, ePt (c.headD (0, 0)), eP_at c hh, rfl, ?_⟩
    conv => whnf
    exact hk
  · rw [if_neg h1]
    conv => whnf
    refine fork_f ?_
    conv => whnf
    exact hk
theorem levS_ok : FunR Try.prog 63 (R_rs1 levS) := by
  intro args k h
  unfold R_rs1 at h
  split at h
  case h_2 => exact h.elim
  rename_i a b cc d e x
  obtain ⟨c, rfl, hl, hk⟩ := h
  refine does_ex (qc := qc1) (np := []) (CK := ckK [(65, cSc R_asked), (71, cSc R_hgt)]) mixed Try.func63 rfl rfl Try.ntmps63 Try.results63 τ_ok (by kernel_rfl) (ckK_ok ⟨cSc_ok asked_ok, cSc_ok hgt_ok, trivial⟩) (by simp) ?_
  conv => whnf
  refine ⟨c, rfl, hl, ?_⟩
  conv => whnf
  refine Fork.mk (fun h => ?_) (fun h => ?_)
  · have h1 : askS ⟨c, a, b, cc, d, e⟩ x 0 ≠ 0 := by simpa using h
    rw [show levS ⟨c, a, b, cc, d, e⟩ x = (0, askS ⟨c, a, b, cc, d, e⟩ x 0) from if_pos h1] at hk
    conv => whnf
    exact hk
  have h1 : askS ⟨c, a, b, cc, d, e⟩ x 0 = 0 := by simpa using h
  obtain ⟨hck, hv, hx⟩ := askS_ok h1
  obtain ⟨hc, hlen, hlast, hrise, hsrt⟩ := ckS_ok hck
  dsimp only at hc hlen hlast hrise
  rw [show levS ⟨c, a, b, cc, d, e⟩ x = (hgt c x, 0) by unfold levS; exact if_neg (by rw [h1]; simp)] at hk
  conv => whnf
  refine ⟨c, rfl, hl, ⟨hc, hrise⟩, ?_⟩
  conv => whnf
  exact hk
end Go.Proofs

/- What the flood rule alone does with a reservoir, step by step. No program. -/
namespace Go.Proofs
open Go Go.Abs
set_option linter.unusedSimpArgs false
set_option linter.unusedVariables false
theorem rwE_b : ∀ {l : Ls} {q : Option Int} {ab : Option Ls}, rwE q ab l = 0 → ∀ x ∈ l, 0 ≤ x ∧ x ≤ 1073741824
  | [], _, _, _, x, h => by simp at h
  | a :: l, q, ab, h, x, hx => by
    rw [rwE_cons] at h
    split at h
    · omega
    rename_i h1
    split at h
    · omega
    simp [inB] at h1
    rcases List.mem_cons.1 hx with rfl | hx
    · exact h1
    · exact rwE_b h x hx
theorem rlE_b {n : Int} : ∀ {l : List Ls} {ab : Option Ls}, rlE n ab l = 0 → ∀ r ∈ l, ∀ x ∈ r, 0 ≤ x ∧ x ≤ 1073741824
  | [], _, _, r, h => by simp at h
  | a :: l, ab, h, r, hr => by
    rw [rlE] at h
    split at h
    · rename_i e; exact absurd h e
    rename_i e
    rcases List.mem_cons.1 hr with rfl | hr
    · have e : rowE r ab n = 0 := by omega
      unfold rowE at e
      split at e
      · cases e
      · exact rwE_b e
    · exact rlE_b h r hr
theorem relT_b (t : Ft) (x y : Int) : 0 ≤ (relT t x y).1 ∧ (relT t x y).1 ≤ 1073741824 := by
  unfold relT
  split
  · exact ⟨Int.le_refl _, by dsimp only; omega⟩
  rename_i h
  have h : ckT t = 0 := by omega
  split
  · exact ⟨Int.le_refl _, by dsimp only; omega⟩
  obtain ⟨r, c1, c2⟩ := atT_at (ckT_ok' h) x y
  unfold ckT at h
  split at h
  · omega
  split at h
  · omega
  split at h
  · rename_i e; exact absurd h e
  split at h
  · rename_i e; exact absurd h e
  split at h
  · omega
  exact rlE_b h r (List.mem_of_getElem? c1) _ (List.mem_of_getElem? c2)
theorem relF_b (f : Fr) (s : Fs) (x y : Int) : 0 ≤ (relF f s x y).1 ∧ (relF f s x y).1 ≤ 1073741824 := by
  unfold relF
  split
  · exact ⟨Int.le_refl _, by dsimp only; omega⟩
  · exact relT_b _ _ _
theorem nextF_cm {f : Fr} {s : Fs} {x : Int} (h : 0 ≤ s.cm ∧ s.cm ≤ 100) (hc : f.cm ≤ 96) : 0 ≤ (nextF f s x).cm ∧ (nextF f s x).cm ≤ 100 := by
  unfold nextF
  split
  · decide
  split
  · decide
  split
  · decide
  split
  · decide
  · dsimp only; omega
/-- The rule, the state, the volume: one step. -/
def stS (f : Fr) (r : Rs) (s : Fs) (v : Int) : Fs := nextF f s (levS r v).1
def outS (f : Fr) (r : Rs) (s : Fs) (v x : Int) : Int := if v + x < (relF f (stS f r s v) (levS r v).1 x).1 then v + x else (relF f (stS f r s v) (levS r v).1 x).1
def volN (f : Fr) (r : Rs) (s : Fs) (v x : Int) : Int := v + (x - outS f r s v x)
def runG (f : Fr) (r : Rs) : Fs → Int → Ls → Option (Ls × Ls × Fs)
  | s, _, [] => some ([], [], s)
  | s, v, x :: l => if 274877906944 < volN f r s v x then none else match runG f r (stS f r s v) (volN f r s v x) l with
    | none => none
    | some (vs, os, e) => some (volN f r s v x :: vs, outS f r s v x :: os, e)
theorem outS_b {f : Fr} {r : Rs} {s : Fs} {v x : Int} (hv : 0 ≤ v) (hx : 0 ≤ x) : 0 ≤ outS f r s v x ∧ outS f r s v x ≤ v + x ∧ outS f r s v x ≤ 1073741824 := by
  have := relF_b f (stS f r s v) (levS r v).1 x
  unfold outS
  split <;> omega
def badX (x : Int) : Bool := decide (x < 0) || decide (1073741824 < x)
def soundF (f : Fr) (s : Fs) : Bool := decide (0 ≤ s.cm) && decide (s.cm < f.cm) && (s.on || decide (s.cm = 0))
def runC' (f : Fr) (r : Rs) (s : Fs) (v : Int) (l : Ls) : (Ls × Ls) × Fs × Int := match runG f r s v l with
  | none => (([], []), ⟨false, 0⟩, 10)
  | some (vs, os, e) => ((v :: vs, os), e, 0)
def mxG : Int → Ls → Int
  | m, [] => m
  | m, x :: l => mxG (if m < x then x else m) l
theorem optId {α β γ : Type} (x : Option (List α × List β × γ)) : x = x.map (fun z => ([] ++ z.1, [] ++ z.2.1, z.2.2)) := by cases x <;> rfl
end Go.Proofs

namespace Go.Proofs
open Go Go.Abs
set_option linter.unusedSimpArgs false
set_option linter.unusedVariables false
set_option maxRecDepth 4000
def R_bez : RT := fun args k => ∃ x : Int, args = [I x] ∧ k (Bo (badX x))
theorem bey_ok : FunR Try.prog 44 R_bez := by
  intro args k h
  obtain ⟨x, rfl, hk⟩ := h
  refine does_ex (qc := qc1) (np := []) (CK := ckK []) mixed Try.func44 rfl rfl Try.ntmps44 Try.results44 τ_ok (by kernel_rfl) (ckK_ok trivial) (by simp) ?_
  conv => whnf
  unfold badX at hk
  refine Fork.mk (fun h => ?_) (fun h => ?_)
  · rw [h] at hk
    conv => whnf
    repeat' ((first | refine fork_t ?_ | refine fork_f ?_ | (refine Fork.mk (fun h => ?_) (fun h => ?_); focus (simp at h; done)) | fail) <;> (conv => whnf))
    exact hk
  rw [h] at hk
  conv => whnf
  exact hk
def ixG : Nat → Ls → Int
  | _, [] => -1
  | i, x :: r => if badX x = true then i else ixG (i + 1) r
def R_ixF : RT := fun args k => ∃ l : Ls, args = [.c (.lst (eL l)), .c (.fn 44 [])] ∧ l.length ≤ 9223372036854775807 ∧ k (I (ixG 0 l))
theorem ixF_ok : FunR Try.prog 61 R_ixF := by
  intro args k h
  obtain ⟨l, rfl, hl, hk⟩ := h
  have hm := eL_len l
  refine does_ex (qc := qc1) (np := []) (CK := ckK [(44, cSc R_bez)]) mixed Try.func61 rfl rfl Try.ntmps61 Try.results61 τ_ok (by kernel_rfl) (ckK_ok ⟨cSc_ok bey_ok, trivial⟩) (by simp) ?_
  conv => whnf
  refine ⟨Nat, fun i => ([(0, .c (.lst (eL l))), (1, .c (.fn 44 [])), (7, I (eL l).length), (8, I i)], ⟨[], 9, []⟩),
    fun i => i ≤ l.length ∧ ixG 0 l = ixG i (l.drop i), fun i => l.length - i, 0, ⟨Nat.zero_le _, rfl⟩, Shift.reset ⟨rfl, rfl, rfl, rfl, trivial⟩ trivial rfl rfl, fun i hi => ?_⟩
  obtain ⟨hi1, hi2⟩ := hi
  dsimp only
  conv => whnf
  refine Fork.mk (fun h => ?_) (fun h => ?_)
  rotate_left
  · have hie : i = l.length := by simp at h; omega
    rw [hie, List.drop_length] at hi2
    rw [hi2] at hk
    conv => whnf
    exact hk
  have hi : i < l.length := by simp at h; omega
  clear h
  have hci := List.getElem?_eq_getElem hi
  generalize l[i] = x at hci
  rw [drop_of hci, ixG] at hi2
  have hw1 := wr_succ (i := i) (by omega)
  conv => whnf
  refine ⟨by omega, eI x, by rw [Int.toNat_natCast, List.getElem?_map, hci]; rfl, rfl, ?_⟩
  conv => whnf
  refine ⟨x, rfl, ?_⟩
  conv => whnf
  refine Fork.mk (fun h => ?_) (fun h => ?_)
  · rw [if_pos h] at hi2
    rw [hi2] at hk
    conv => whnf
    exact hk
  rw [if_neg (by simp [h])] at hi2
  conv => whnf
  rw [hw1]
  exact ⟨i + 1, ⟨hi, hi2⟩, Shift.reset ⟨rfl, rfl, rfl, rfl, trivial⟩ trivial rfl rfl, by omega⟩
theorem ixG_any : ∀ {l : Ls} {i : Nat}, (0 ≤ ixG i l ↔ l.any badX = true)
  | [], i => by simp [ixG]
  | x :: r, i => by
    rw [ixG, List.any_cons]
    split
    · rename_i h; simp [h]
    · rename_i h; rw [ixG_any (l := r)]; simp [h]
def R_cnF : RT := fun args k => ∃ l : Ls, args = [.c (.lst (eL l)), .c (.fn 44 [])] ∧ l.length ≤ 9223372036854775807 ∧ k (Bo (l.any badX))
theorem cnF_ok : FunR Try.prog 43 R_cnF := by
  intro args k h
  obtain ⟨l, rfl, hl, hk⟩ := h
  refine does_ex (qc := qc1) (np := []) (CK := ckK [(61, cSc R_ixF)]) mixed Try.func43 rfl rfl Try.ntmps43 Try.results43 τ_ok (by kernel_rfl) (ckK_ok ⟨cSc_ok ixF_ok, trivial⟩) (by simp) ?_
  conv => whnf
  refine ⟨l, rfl, hl, ?_⟩
  conv => whnf
  have e : l.any badX = decide (0 ≤ ixG 0 l) := by
    have := ixG_any (l := l) (i := 0)
    cases h : l.any badX <;> simp_all
  rw [e] at hk
  exact hk
def R_sound : RT := fun args k => ∃ (f : Fr) (s : Fs), args = [.agg (frC f), .agg (fsC s)] ∧ k (Bo (soundF f s))
theorem sound_ok : FunR Try.prog 42 R_sound := by
  intro args k h
  obtain ⟨f, s, rfl, hk⟩ := h
  refine does_ex (qc := qc1) (np := []) (CK := ckK []) mixed Try.func42 rfl rfl Try.ntmps42 Try.results42 τ_ok (by kernel_rfl) (ckK_ok trivial) (by simp) ?_
  conv => whnf
  obtain ⟨on, cm⟩ := s
  unfold soundF at hk
  cases on <;> (conv => whnf) <;> (
    (repeat' ((first | refine fork_t ?_ | refine fork_f ?_ | refine Fork.mk (fun h => ?_) (fun h => ?_)) <;> (conv => whnf)))
    all_goals first
      | (refine kBo hk ?_; simp_all; done)
      | (exfalso; simp_all; done)
      | (refine kBo hk ?_; simp at *; omega)
      | (exfalso; simp at *; omega))
def opC (f : Fr) (r : Rs) (s : Fs) (v : Int) : List Cell := [.lst (eL f.t.lv), .lst (eL f.t.inf), .lst (eW f.t.rel), IC f.bg, IC f.en, IC f.cm, .lst (eP r.st), IC r.dead, IC r.low, IC r.full, IC r.sur, IC r.crest, BC s.on, IC s.cm, IC v]
def R_steps : RG := fun args os k => ∃ (f : Fr) (r : Rs) (s : Fs) (v : Int) (l : Ls), args = [.c (.ptr (.x 0) 0), .c (.lst (eL l))] ∧ os = [.blk (opC f r s v)] ∧ k (.c (.fn 62 [.ptr (.x 2) 0, .ptr (.x 1) 0])) [.blk (opC f r s v), .blk [.ptr (.x 0) 0], .blk [.lst (eL l)]]
theorem steps_ok : FunH Try.prog 45 R_steps := by
  intro args os k h
  obtain ⟨f, r, s, v, l, rfl, rfl, hk⟩ := h
  refine doesH_ex (qc := qc1) (np := []) (CK := ckK []) mixed Try.func45 rfl rfl Try.ntmps45 Try.results45 τ_ok (by kernel_rfl) (ckK_ok trivial) (by simp) ?_
  conv => whnf
  exact ⟨.l 2 0, .l 3 1, rfl, rfl, rfl, rfl, rfl, hk⟩
end Go.Proofs
