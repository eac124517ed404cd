/- Proved here: what functions of the given program come to, for the statements of this chapter; no condition but those in the theorems. -/
import Derived.Test.YtknjncmgohjpkaaV25
namespace Go.Proofs
open Go Go.Abs
set_option linter.unusedSimpArgs false
set_option linter.unusedVariables false
set_option maxRecDepth 4000
def R_state : RB := fun cs args k => ∃ (d : Dk) (f : Fr), args = [.agg (frC f)] ∧ cs = dkC d ∧ d.ok ∧ (1 ≤ f.cm ∧ f.cm ≤ 1000) ∧ ∀ (s : Fs) d', Dk.ok d' → (0 ≤ s.cm ∧ s.cm < f.cm) → (s.on = false → s.cm = 0) → k (.agg (fsC s)) (dkC d')
theorem state_ok : FunB Try.prog 17 R_state := by
  intro cs args k h
  obtain ⟨d, f, rfl, rfl, hd, hc, hk⟩ := h
  refine doesB_ex (qc := qc1) (np := []) (CK := ckK [(23, cB R_next)]) mixed Try.func17 rfl rfl Try.ntmps17 Try.results17 τ_ok (by kernel_rfl) (ckK_ok ⟨cB_ok next_ok rfl, trivial⟩) (by simp) rfl rfl ?_
  conv => whnf
  refine ⟨d, rfl, hd, by omega, fun v d hd hv1 hv2 => ?_⟩
  conv => whnf
  refine Fork.mk (fun h => ?_) (fun h => ?_)
  · conv => whnf
    exact ⟨rfl, rfl, hk ⟨false, 0⟩ d hd (by dsimp only; omega) (fun _ => rfl)⟩
  conv => whnf
  refine ⟨d, rfl, hd, by omega, fun w d hd hw1 hw2 => ?_⟩
  conv => whnf
  exact ⟨rfl, rfl, hk ⟨true, w⟩ d hd (by dsimp only; omega) (fun e => by cases e)⟩
def R_next25 : RT := fun args k => ∃ (l : Ls) (raw : Fr) (r : Rs) (x y z : Int), args = [.c (.lst (eL l)), .agg (frC raw), .agg (rsC r), I x, I y, I z] ∧ l.length ≤ 9223372036854775807 ∧ raw.t.fin ∧ r.st.length ≤ 9223372036854775807 ∧ k (Bo true)
theorem next25_ok : FunR Try.prog 4 R_next25 := by
  intro args k h
  obtain ⟨l, raw, r0, level, inflow, most, rfl, hl, hraw, hr0, hk⟩ := h
  refine does_ex (qc := qc1) (np := [(24, [(0, 8), (0, 9), (1, 8), (1, 9), (3, 8), (3, 9), (4, 8), (4, 9), (5, 8), (5, 9), (7, 8), (7, 9), (8, 9)])]) (CK := ckK [(8, cSc R_tt), (9, cSc R_few), (10, cN R_new), (12, cB R_resv), (11, cB R_mkF), (17, cB R_state), (13, cSc R_mod), (15, cSc R_fck), (16, cSc R_fck), (14, cSc R_nextF), (18, cSc R_nextF), (19, cSc R_relF), (20, cSc R_relF), (21, cSc R_turnT), (22, cSc R_rturn)]) mixed Try.func4 rfl rfl Try.ntmps4 Try.results4 τ_ok (by kernel_rfl) (ckK_ok ⟨cSc_ok sane_ok, cSc_ok few_ok, cN_ok new_ok rfl, cB_ok resv_ok rfl, cB_ok rule_ok rfl, cB_ok state_ok rfl, cSc_ok mod_ok, cSc_ok fck_ok, cSc_ok rfck_ok, cSc_ok next_okF, cSc_ok rnext_okF, cSc_ok relF_ok, cSc_ok rrelF_ok, cSc_ok turn_ok, cSc_ok rturn_ok, trivial⟩) (by simp) ?_
  conv => whnf
  refine ⟨rfl, ?_⟩
  conv => whnf
  refine fork_f ?_
  conv => whnf
  refine ⟨l, rfl, ?_⟩
  conv => whnf
  refine Fork.mk (fun h => ?_) (fun h => ?_)
  · conv => whnf
    repeat' ((first | refine fork_t ?_ | refine fork_f ?_ | (refine Fork.mk (fun h => ?_) (fun h => ?_); focus (simp at h; done)) | fail) <;> (conv => whnf))
    exact hk
  clear h
  conv => whnf
  refine Fork.mk (fun h => ?_) (fun h => ?_)
  · conv => whnf
    repeat' ((first | refine fork_t ?_ | refine fork_f ?_ | (refine Fork.mk (fun h => ?_) (fun h => ?_); focus (simp at h; done)) | fail) <;> (conv => whnf))
    exact hk
  clear h
  conv => whnf
  refine ⟨l, rfl, ?_⟩
  conv => whnf
  refine ⟨⟨l, 0⟩, rfl, ⟨Nat.zero_le _, hl⟩, fun res d hd hres hresl => ?_⟩
  have hrl := hres.lv
  have hrh := hres.hi
  have hrz := hres.lo
  conv => whnf
  refine ⟨d, res, rfl, rfl, hd, by omega, fun f d hd hf => ?_⟩
  have hfb := hf.b
  have hfe := hf.e
  have hfc := hf.c
  have hft := hf.t.e
  have hff := hf.t.fin
  have hres2 : res.st.length ≤ 9223372036854775807 := by omega
  clear hrl hrh hrz hresl hres
  conv => whnf
  obtain ⟨fs, hfs, hfin⟩ : ∃ fs : List Fr, fs = [raw, f, ⟨f.t, level, f.en, most⟩] ∧ ∀ g ∈ fs, g.t.fin := ⟨_, rfl, fun g hg => by
    simp at hg
    rcases hg with rfl | rfl | rfl
    · exact hraw
    · exact hff
    · exact hff⟩
  refine ⟨Nat, fun i => ([(3, I level), (4, I inflow), (5, I most), (8, .c (.ptr (.l 8 1) 0)), (13, .c (.ptr (.l 59 2) 0)), (14, .c (.ptr (.l 14 3) 0)), (15, .c (.ptr (.l 15 4) 0)), (73, .c (.view (.l 73 6) 0 3)), (74, I 3), (75, I i)], ⟨[(.l 8 1, .blk (rsC r0)), (.l 59 2, .blk (dkC d)), (.l 14 3, .blk (rsC res)), (.l 15 4, .blk (frC f)), (.l 73 6, .arr 31 6 (fs.map frC) false)], 20, []⟩),
    fun i => i ≤ 3, fun i => 3 - i, 0, by omega, ?_, fun i hi => ?_⟩
  · subst hfs
    exact Shift.reset ⟨rfl, rfl, rfl, rfl, rfl, rfl, rfl, rfl, rfl, rfl, trivial⟩ ⟨rfl, rfl, rfl, rfl, rfl, trivial⟩ rfl rfl
  have hfn : fs.length = 3 := by rw [hfs]; rfl
  clear hfs
  dsimp only
  conv => whnf
  refine Fork.mk (fun h => ?_) (fun h => ?_)
  · have hi : i < 3 := by simp at h; omega
    clear h
    have hci := List.getElem?_eq_getElem (show i < fs.length by omega)
    have hz := hfin _ (List.getElem_mem (show i < fs.length by omega))
    generalize fs[i] = g at hci hz
    have hw1 := wr_succ (i := i) (by omega)
    conv => whnf
    refine ⟨by omega, rfl, ?_⟩
    conv => whnf
    refine ⟨frC g, by rw [Nat.zero_add, Int.toNat_natCast, List.getElem?_map, hci]; rfl, ?_⟩
    conv => whnf
    obtain ⟨rs, hrs, hrf⟩ : ∃ rs : List Rs, rs = [r0, res] ∧ ∀ r ∈ rs, r.st.length ≤ 9223372036854775807 := ⟨_, rfl, fun r hr => by
      simp at hr
      rcases hr with rfl | rfl
      · exact hr0
      · exact hres2⟩
    refine ⟨Nat, fun j => ([(3, I level), (4, I inflow), (5, I most), (8, .c (.ptr (.l 8 1) 0)), (13, .c (.ptr (.l 59 2) 0)), (14, .c (.ptr (.l 14 3) 0)), (15, .c (.ptr (.l 15 4) 0)), (18, .c (.ptr (.l 18 20) 0)), (73, .c (.view (.l 73 6) 0 3)), (74, I 3), (75, I i), (81, .c (.view (.l 81 21) 0 2)), (82, I 2), (83, I j)], ⟨[(.l 8 1, .blk (rsC r0)), (.l 59 2, .blk (dkC d)), (.l 14 3, .blk (rsC res)), (.l 15 4, .blk (frC f)), (.l 73 6, .arr 31 6 (fs.map frC) false), (.l 18 20, .blk (frC g)), (.l 81 21, .arr 35 6 (rs.map rsC) false)], 40, []⟩),
      fun j => j ≤ 2, fun j => 2 - j, 0, by omega, ?_, fun j hj => ?_⟩
    · subst hrs
      exact Shift.reset ⟨rfl, rfl, rfl, rfl, rfl, rfl, rfl, rfl, rfl, rfl, rfl, rfl, rfl, rfl, trivial⟩ ⟨rfl, rfl, rfl, rfl, rfl, rfl, rfl, trivial⟩ rfl rfl
    have hrn : rs.length = 2 := by rw [hrs]; rfl
    clear hrs
    dsimp only
    conv => whnf
    refine Fork.mk (fun h => ?_) (fun h => ?_)
    · have hj : j < 2 := by simp at h; omega
      clear h
      have hcj := List.getElem?_eq_getElem (show j < rs.length by omega)
      have hrz := hrf _ (List.getElem_mem (show j < rs.length by omega))
      generalize rs[j] = r at hcj hrz
      have hw2 := wr_succ (i := j) (by omega)
      conv => whnf
      refine ⟨by omega, rfl, ?_⟩
      conv => whnf
      refine ⟨rsC r, by rw [Nat.zero_add, Int.toNat_natCast, List.getElem?_map, hcj]; rfl, ?_⟩
      conv => whnf
      refine ⟨g, r, rfl, hz, hrz, ?_⟩
      conv => whnf
      refine ⟨g, r, rfl, hz, hrz, ?_⟩
      conv => whnf
      repeat' ((first | refine fork_t ?_ | refine fork_f ?_ | (refine Fork.mk (fun h => ?_) (fun h => ?_); focus (simp at h; done)) | fail) <;> (conv => whnf))
      rw [hw2]
      exact ⟨j + 1, by omega, Shift.reset ⟨rfl, rfl, rfl, rfl, rfl, rfl, rfl, rfl, rfl, rfl, rfl, rfl, rfl, rfl, trivial⟩ ⟨rfl, rfl, rfl, rfl, rfl, rfl, rfl, trivial⟩ rfl rfl, by omega⟩
    conv => whnf
    rw [hw1]
    exact ⟨i + 1, by omega, Shift.reset ⟨rfl, rfl, rfl, rfl, rfl, rfl, rfl, rfl, rfl, rfl, trivial⟩ ⟨rfl, rfl, rfl, rfl, rfl, trivial⟩ rfl rfl, by omega⟩
  clear h
  have e1 : IntKind.i64.wrap (f.en - 1) = f.en - 1 := wrap_in (by omega) (by omega)
  have e2 : IntKind.i64.wrap (f.bg - 1) = f.bg - 1 := wrap_in (by omega) (by omega)
  conv => whnf
  refine ⟨d, f, rfl, rfl, hd, by omega, fun s d hd hs _ => ?_⟩
  conv => whnf
  rw [e1, e2]
  obtain ⟨ls, hls⟩ : ∃ ls : Ls, ls = [level, f.bg, f.en, f.en - 1, f.bg - 1] := ⟨_, rfl⟩
  refine ⟨Nat, fun i => ([(4, I inflow), (5, I most), (15, .c (.ptr (.l 15 4) 0)), (21, .c (.ptr (.l 21 20) 0)), (110, .c (.view (.l 110 21) 0 5)), (111, I 5), (112, I i)], ⟨[(.l 15 4, .blk (frC f)), (.l 21 20, .blk (fsC s)), (.l 110 21, .arr 3 1 (eL ls) false)], 40, []⟩),
    fun i => i ≤ 5, fun i => 5 - i, 0, by omega, ?_, fun i hi => ?_⟩
  · subst hls
    exact Shift.reset ⟨rfl, rfl, rfl, rfl, rfl, rfl, rfl, trivial⟩ ⟨rfl, rfl, rfl, trivial⟩ rfl rfl
  have hln : ls.length = 5 := by rw [hls]; rfl
  clear hls
  dsimp only
  conv => whnf
  refine Fork.mk (fun h => ?_) (fun h => ?_)
  · have hi : i < 5 := by simp at h; omega
    clear h
    have hci := List.getElem?_eq_getElem (show i < ls.length by omega)
    generalize ls[i] = x at hci
    have hw1 := wr_succ (i := i) (by omega)
    conv => whnf
    refine ⟨by omega, rfl, ?_⟩
    conv => whnf
    refine ⟨eI x, by rw [Nat.zero_add, Int.toNat_natCast, List.getElem?_map, hci]; rfl, ?_⟩
    conv => whnf
    refine ⟨f, s, x, rfl, by omega, ?_⟩
    conv => whnf
    refine ⟨f, s, x, rfl, by omega, ?_⟩
    generalize nextF f s x = n
    conv => whnf
    refine ⟨f, n, x, inflow, rfl, hff, ?_⟩
    conv => whnf
    refine ⟨f, n, x, inflow, rfl, hff, ?_⟩
    conv => whnf
    repeat' ((first | refine fork_t ?_ | refine fork_f ?_ | (refine Fork.mk (fun h => ?_) (fun h => ?_); focus (simp at h; done)) | fail) <;> (conv => whnf))
    rw [hw1]
    exact ⟨i + 1, by omega, Shift.reset ⟨rfl, rfl, rfl, rfl, rfl, rfl, rfl, trivial⟩ ⟨rfl, rfl, rfl, trivial⟩ rfl rfl, by omega⟩
  clear h
  conv => whnf
  refine ⟨by omega, ?_⟩
  conv => whnf
  obtain ⟨qs, hqs⟩ : ∃ qs : Ls, qs = [most, most % 30] := ⟨_, rfl⟩
  refine ⟨Nat, fun i => ([(15, .c (.ptr (.l 15 4) 0)), (157, .c (.view (.l 157 40) 0 2)), (158, I 2), (159, I i)], ⟨[(.l 15 4, .blk (frC f)), (.l 157 40, .arr 3 1 (eL qs) false)], 60, []⟩),
    fun i => i ≤ 2, fun i => 2 - i, 0, by omega, ?_, fun i hi => ?_⟩
  · subst hqs
    exact Shift.reset ⟨rfl, rfl, rfl, rfl, trivial⟩ ⟨rfl, rfl, trivial⟩ rfl rfl
  have hqn : qs.length = 2 := by rw [hqs]; rfl
  clear hqs
  dsimp only
  conv => whnf
  refine Fork.mk (fun h => ?_) (fun h => ?_)
  · have hi : i < 2 := by simp at h; omega
    clear h
    have hci := List.getElem?_eq_getElem (show i < qs.length by omega)
    generalize qs[i] = x at hci
    have hw1 := wr_succ (i := i) (by omega)
    conv => whnf
    refine ⟨by omega, rfl, ?_⟩
    conv => whnf
    refine ⟨eI x, by rw [Nat.zero_add, Int.toNat_natCast, List.getElem?_map, hci]; rfl, ?_⟩
    conv => whnf
    refine ⟨f, x, rfl, hff, ?_⟩
    conv => whnf
    refine ⟨f, x, rfl, hft, ?_⟩
    conv => whnf
    repeat' ((first | refine fork_t ?_ | refine fork_f ?_ | (refine Fork.mk (fun h => ?_) (fun h => ?_); focus (simp at h; done)) | fail) <;> (conv => whnf))
    rw [hw1]
    exact ⟨i + 1, by omega, Shift.reset ⟨rfl, rfl, rfl, rfl, trivial⟩ ⟨rfl, rfl, trivial⟩ rfl rfl, by omega⟩
  conv => whnf
  exact hk
end Go.Proofs
