/- Proved here: what functions of the given program come to, and the plain laws of it; no condition but those in the theorems. -/
import Derived.Test.YtfhnicamjcfddaaGreatDoorT99
import Derived.Test.YtfhnicamjcfddaaGreatDoorAbsS
namespace Go.Proofs
open Go Go.Abs
set_option linter.unusedSimpArgs false
set_option linter.unusedVariables false
set_option maxRecDepth 4000
theorem asked_ok : FunR Tryz.prog 114 R_askG := by
  intro args k h
  obtain ⟨gs, ss, lv, rfl, hf, hk⟩ := h
  have hm := eG_len gs
  have hn := eS_len ss
  have hg1 := hf.g
  have hs1 := hf.s
  refine does_ex (qc := qc1) (np := []) (CK := ckK [(136, cSc R_okS), (83, cSc (R_gI ckG)), (25, cSc R_within)]) mixed Tryz.func114 rfl rfl Tryz.ntmps114 Tryz.results114 τ_ok (by kernel_rfl) (ckK_ok ⟨cSc_ok okS_ok, cSc_ok ckG_prog, cSc_ok within_ok, trivial⟩) (by simp) ?_
  conv => whnf
  refine Fork.mk (fun h => ?_) (fun h => ?_)
  · have h1 : 8 < gs.length := by simp at h; omega
    conv => whnf
    exact kI hk (by rw [askG, if_pos h1])
  have h1 : ¬ 8 < gs.length := by simp at h; omega
  clear h
  conv => whnf
  refine Fork.mk (fun h => ?_) (fun h => ?_)
  · have h2 : gs.length ≠ ss.length := by simp at h; omega
    conv => whnf
    exact kI hk (by rw [askG, if_neg h1, if_pos h2])
  have h2 : gs.length = ss.length := by simp at h; omega
  clear h
  conv => whnf
  refine ⟨Nat, fun i => ([(0, .c (.lst (eG gs))), (1, .c (.lst (eS ss))), (2, I lv), (22, .c (.lst (eG gs))), (23, I (eG gs).length), (24, I i)], ⟨[], 40, []⟩), fun i => i ≤ gs.length ∧ badS gs ss = badS (gs.drop i) (ss.drop i), fun i => gs.length - i, 0, ⟨Nat.zero_le _, rfl⟩, Shift.reset ⟨rfl, rfl, rfl, rfl, rfl, rfl, trivial⟩ trivial rfl rfl, fun i hi => ?_⟩
  obtain ⟨hi1, hi2⟩ := hi
  dsimp only
  conv => whnf
  refine Fork.mk (fun h => ?_) (fun h => ?_)
  · have hi : i < gs.length := by simp at h; omega
    clear h
    have hci := List.getElem?_eq_getElem hi
    have hdi := List.getElem?_eq_getElem (show i < ss.length by omega)
    generalize gs[i] = g at hci
    generalize ss[i] = z at hdi
    rw [drop_of hci, drop_of hdi, badS] at hi2
    have hw1 := wr_succ (i := i) (by omega)
    conv => whnf
    refine ⟨by omega, gtC g, by rw [Int.toNat_natCast, List.getElem?_map, hci]; rfl, rfl, ?_⟩
    conv => whnf
    refine ⟨by omega, gsC z, by rw [Int.toNat_natCast, List.getElem?_map, hdi]; rfl, rfl, ?_⟩
    conv => whnf
    refine ⟨g, z, rfl, ?_⟩
    conv => whnf
    refine Fork.mk (fun h => ?_) (fun h => ?_)
    · have h3 : okS g z = false := by simpa using h
      rw [if_pos h3] at hi2
      conv => whnf
      exact kI hk (by rw [askG, if_neg h1, if_neg (by omega), if_pos hi2])
    have h3 : ¬ okS g z = false := by simpa using h
    rw [if_neg h3] at hi2
    conv => whnf
    rw [hw1]
    exact ⟨_, ⟨hi, hi2⟩, Shift.reset ⟨rfl, rfl, rfl, rfl, rfl, rfl, trivial⟩ trivial rfl rfl, by omega⟩
  have hie : i = gs.length := by simp at h; omega
  have hb : badS gs ss = false := by
    rw [hi2, hie, List.drop_length]
    cases ss.drop gs.length <;> rfl
  clear h hi1 hi2 hie
  conv => whnf
  refine ⟨Nat, fun i => ([(2, I lv), (37, .c (.lst (eG gs))), (38, I (eG gs).length), (39, I i)], ⟨[], 80, []⟩), fun i => i ≤ gs.length ∧ ckGs gs = ckGs (gs.drop i), fun i => gs.length - i, 0, ⟨Nat.zero_le _, rfl⟩, Shift.reset ⟨rfl, rfl, rfl, rfl, trivial⟩ trivial rfl rfl, fun i hi => ?_⟩
  obtain ⟨hi1, hi2⟩ := hi
  dsimp only
  conv => whnf
  refine Fork.mk (fun h => ?_) (fun h => ?_)
  · have hi : i < gs.length := by simp at h; omega
    clear h
    have hci := List.getElem?_eq_getElem hi
    have hcf := hf.f _ (List.getElem_mem hi)
    generalize gs[i] = g at hci hcf
    rw [drop_of hci, ckGs] at hi2
    have hw1 := wr_succ (i := i) (by omega)
    conv => whnf
    refine ⟨by omega, gtC g, by rw [Int.toNat_natCast, List.getElem?_map, hci]; rfl, rfl, ?_⟩
    conv => whnf
    refine ⟨g, rfl, hcf, ?_⟩
    conv => whnf
    refine Fork.mk (fun h => ?_) (fun h => ?_)
    · have h3 : ckG g ≠ 0 := by simpa using h
      rw [if_pos h3] at hi2
      conv => whnf
      exact kI hk (by rw [askG, if_neg h1, if_neg (by omega), if_neg (by simp [hb]), if_pos (by rw [hi2]; exact h3), hi2])
    have h3 : ¬ ckG g ≠ 0 := by simpa using h
    rw [if_neg h3] at hi2
    conv => whnf
    rw [hw1]
    exact ⟨_, ⟨hi, hi2⟩, Shift.reset ⟨rfl, rfl, rfl, rfl, trivial⟩ trivial rfl rfl, by omega⟩
  have hie : i = gs.length := by simp at h; omega
  have hc : ckGs gs = 0 := by
    rw [hi2, hie, List.drop_length]
    rfl
  clear h hi1 hi2 hie
  conv => whnf
  refine Fork.mk (fun h => ?_) (fun h => ?_)
  · conv => whnf
    exact kI hk (by rw [askG, if_neg h1, if_neg (by omega), if_neg (by simp [hb]), if_neg (by simp [hc]), if_pos (by simp [inB] at h ⊢; omega)])
  have h3 : 0 ≤ lv ∧ lv ≤ 16777216 := by simp at h; omega
  conv => whnf
  exact kI hk (by rw [askG, if_neg h1, if_neg (by omega), if_neg (by simp [hb]), if_neg (by simp [hc]), if_neg (by simp [inB, h3])])
theorem greach_ok : FunR Tryz.prog 90 R_rch := by
  intro args k h
  obtain ⟨g, z, rfl, hg, hz, hk⟩ := h
  have ho := (ckG_ok hg).o
  have hv := (ckG_ok hg).v
  have hz1 := hz
  simp [okS, inB] at hz1
  have hw1 : IntKind.i64.wrap (z.op - g.mv) = z.op - g.mv := wrap_in (by omega) (by omega)
  have hw2 : IntKind.i64.wrap (z.op + g.mv) = z.op + g.mv := wrap_in (by omega) (by omega)
  refine does_ex (qc := qc1) (np := []) (CK := ckK []) mixed Tryz.func90 rfl rfl Tryz.ntmps90 Tryz.results90 τ_ok (by kernel_rfl) (ckK_ok trivial) (by simp) ?_
  conv => whnf
  refine Fork.mk (fun h => ?_) (fun h => ?_)
  · have h1 : rch g z = (z.op, z.op) := if_pos (by simpa using h)
    conv => whnf
    rw [h1] at hk
    exact hk
  have h1 : rch g z = (mx (z.op - g.mv) 0, mnG (z.op + g.mv) g.mo) := if_neg (by simpa using h)
  conv => whnf
  rw [hw1, hw2]
  rw [h1] at hk
  exact hk
theorem kRch {k : AV → Prop} {r : Int × Int × Int} {a b c : Int} (h : k (.tup [.agg [IC r.1, IC r.2.1], I r.2.2])) (e : r = (a, b, c)) : k (.tup [.agg [IC a, IC b], I c]) := by subst e; exact h
theorem rng_ok : FunR Tryz.prog 87 R_rngS := by
  intro args k h
  obtain ⟨gs, ss, lv, rfl, hf, hk⟩ := h
  have hm := eG_len gs
  have hn := eS_len ss
  refine does_ex (qc := qc1) (np := [(8, [(0, 9), (0, 10), (2, 3), (2, 6), (2, 7), (2, 9), (2, 10), (3, 9), (3, 10), (6, 9), (6, 10), (7, 9), (7, 10), (8, 9), (8, 10), (9, 10)]), (9, [(1, 5), (1, 12), (5, 8), (5, 9), (5, 11), (8, 12)])]) (CK := ckK [(114, cSc R_askG), (89, cPq R_atG), (90, cPq R_rch), (91, cSc R_vflow)]) mixed Tryz.func87 rfl rfl Tryz.ntmps87 Tryz.results87 τ_ok (by kernel_rfl) (ckK_ok ⟨cSc_ok asked_ok, cPq_ok at_ok, cPq_ok greach_ok, cSc_ok vflow_ok, trivial⟩) (by simp) ?_
  conv => whnf
  refine ⟨gs, ss, lv, rfl, hf, ?_⟩
  conv => whnf
  refine Fork.mk (fun h => ?_) (fun h => ?_)
  · have h1 : askG gs ss lv ≠ 0 := by simpa using h
    conv => whnf
    exact kRch hk (by rw [rngS, if_pos h1])
  have h1 : askG gs ss lv = 0 := by simpa using h
  have hA := askG_ok h1
  have hAn := hA.n
  have hAl := hA.l
  have hAv := hA.lv
  have hAg := hA.g
  clear h
  conv => whnf
  refine ⟨Nat × Int × Int, fun s => ([(1, .c (.lst (eS ss))), (2, I lv), (6, .c (.ptr (.l 6 0) 0)), (9, .c (.ptr (.l 9 1) 0)), (22, .c (.lst (eG gs))), (23, I (eG gs).length), (24, I s.1)], ⟨[(.l 6 0, .blk [IC 0, IC 0]), (.l 9 1, .blk [IC s.2.1, IC s.2.2])], 40, []⟩), fun s => s.1 ≤ gs.length ∧ (totL gs (losL gs ss) lv = s.2.1 + totL (gs.drop s.1) (losL (gs.drop s.1) (ss.drop s.1)) lv ∧ totL gs (hisL gs ss) lv = s.2.2 + totL (gs.drop s.1) (hisL (gs.drop s.1) (ss.drop s.1)) lv ∧ badS (gs.drop s.1) (ss.drop s.1) = false) ∧ (0 ≤ s.2.1 ∧ s.2.1 ≤ 1073741824 * s.1) ∧ (0 ≤ s.2.2 ∧ s.2.2 ≤ 1073741824 * s.1), fun s => gs.length - s.1, (0, 0, 0), ⟨Nat.zero_le _, ⟨by simp, by simp, hA.s⟩, ⟨Int.le_refl _, by simp⟩, Int.le_refl _, by simp⟩, Shift.reset ⟨rfl, rfl, rfl, rfl, rfl, rfl, rfl, trivial⟩ ⟨rfl, rfl, trivial⟩ rfl rfl, fun s hi => ?_⟩
  obtain ⟨i, s, t⟩ := s
  obtain ⟨hi1, hi2, hi3, hi4⟩ := hi
  dsimp only at hi1 hi2 hi3 hi4 ⊢
  conv => whnf
  refine Fork.mk (fun h => ?_) (fun h => ?_)
  · have hi : i < gs.length := by simp at h; omega
    clear h
    have hci := List.getElem?_eq_getElem hi
    have hcf := hAg _ (List.getElem_mem hi)
    have hcn := hf.f _ (List.getElem_mem hi)
    have hdi := List.getElem?_eq_getElem (show i < ss.length by omega)
    generalize gs[i] = g at hci hcf hcn
    generalize ss[i] = z at hdi
    rw [drop_of hci, drop_of hdi, losL, hisL, totL, totL, badS] at hi2
    have hz : okS g z = true := by
      cases e : okS g z
      · rw [if_pos e] at hi2; simp at hi2
      · rfl
    rw [if_neg (by simp [hz])] at hi2
    have hw1 := wr_succ (i := i) (by omega)
    conv => whnf
    refine ⟨by omega, gtC g, by rw [Int.toNat_natCast, List.getElem?_map, hci]; rfl, rfl, ?_⟩
    conv => whnf
    refine ⟨g, lv, rfl, hcn, ?_⟩
    conv => whnf
    refine ⟨by omega, gsC z, by rw [Int.toNat_natCast, List.getElem?_map, hdi]; rfl, rfl, ?_⟩
    conv => whnf
    refine ⟨g, z, rfl, hcf, hz, ?_⟩
    conv => whnf
    have hfl := gfl_in (atG_ok hcf lv) (rch g z).1
    have hfh := gfl_in (atG_ok hcf lv) (rch g z).2
    have hw2 : IntKind.i64.wrap (s + gfl (atG g lv) (rch g z).1) = s + gfl (atG g lv) (rch g z).1 := wrap_in (by omega) (by omega)
    have hw3 : IntKind.i64.wrap (t + gfl (atG g lv) (rch g z).2) = t + gfl (atG g lv) (rch g z).2 := wrap_in (by omega) (by omega)
    refine ⟨atG g lv, 0, (rch g z).1, rfl, atG_ok hcf lv, ?_⟩
    conv => whnf
    refine ⟨atG g lv, 0, (rch g z).2, rfl, atG_ok hcf lv, ?_⟩
    conv => whnf
    rw [hw1, hw2, hw3]
    exact ⟨(i + 1, s + gfl (atG g lv) (rch g z).1, t + gfl (atG g lv) (rch g z).2), ⟨hi, ⟨by dsimp only; omega, by dsimp only; omega, hi2.2.2⟩, by dsimp only; omega, by dsimp only; omega⟩, Shift.reset ⟨rfl, rfl, rfl, rfl, rfl, rfl, rfl, trivial⟩ ⟨rfl, rfl, trivial⟩ rfl rfl, by dsimp only; omega⟩
  have hie : i = gs.length := by simp at h; omega
  subst hie
  conv => whnf
  refine kRch hk ?_
  rw [List.drop_length] at hi2
  have e1 : ∀ x, totL [] x lv = 0 := fun x => by cases x <;> rfl
  rw [e1, e1] at hi2
  rw [rngS, if_neg (by simp [h1]), hi2.1, hi2.2.1, Int.add_zero, Int.add_zero]
end Go.Proofs

namespace Go.Proofs
open Go Go.Abs
set_option linter.unusedSimpArgs false
set_option linter.unusedVariables false
set_option maxRecDepth 4000
theorem set1_ok : FunG Tryz.prog 93 (R_set1 88) := by
  intro args os k h
  obtain ⟨c, w, x, rfl, rfl, hc, hk⟩ := h
  refine doesG_ex (qc := qc1) (np := []) (CK := ckK [(88, cSc R_enough)]) mixed Tryz.func93 rfl rfl Tryz.ntmps93 Tryz.results93 τ_ok (by kernel_rfl) (ckK_ok ⟨cSc_ok enough_ok, trivial⟩) (by simp) rfl rfl ?_
  conv => whnf
  refine ⟨c, w, x, rfl, hc, ?_⟩
  conv => whnf
  refine ⟨rfl, rfl, ?_⟩
  exact hk
theorem least1_ok : FunG Tryz.prog 116 (R_least1 88 93) := by
  intro args os k h
  obtain ⟨c, w, x, lo, hi, rfl, rfl, hc, hb, hk⟩ := h
  have hw : IntKind.i64.wrap (lo + x) = lo + x := wrap_in (by omega) (by omega)
  refine doesG_ex (qc := qc1) (np := []) (CK := ckK [(93, cG (R_set1 88))]) mixed Tryz.func116 rfl rfl Tryz.ntmps116 Tryz.results116 τ_ok (by kernel_rfl) (ckK_ok ⟨cG_ok set1_ok rfl, trivial⟩) (by simp) rfl rfl ?_
  conv => whnf
  rw [hw]
  refine ⟨[.x 2, .x 3], rfl, ?_⟩
  conv => whnf
  refine ⟨rfl, ?_⟩
  conv => whnf
  refine ⟨rfl, ?_⟩
  conv => whnf
  refine ⟨c, w, lo + x, rfl, rfl, hc, ?_⟩
  conv => whnf
  refine ⟨rfl, rfl, ?_⟩
  exact hk
theorem search_ok : FunG Tryz.prog 115 (R_search 88 93 116) := by
  intro args os k h
  obtain ⟨c, w, n, lo, hi, rfl, rfl, hc, hb, hk⟩ := h
  refine doesG_ex (qc := qc1) (np := []) (CK := ckK [(116, cG (R_least1 88 93))]) mixed Tryz.func115 rfl rfl Tryz.ntmps115 Tryz.results115 τ_ok (by kernel_rfl) (ckK_ok ⟨cG_ok least1_ok rfl, trivial⟩) (by simp) rfl rfl ?_
  conv => whnf
  refine ⟨Int × Int, fun s => ([(1, .c (.fn 116 [.ptr (.x 0) 0, .ptr (.x 1) 0])), (5, I s.1), (6, I s.2)], ⟨[(.x 0, .blk [.fn 93 [.ptr (.x 2) 0, .ptr (.x 3) 0]]), (.x 1, .blk [IC lo, IC hi]), (.x 2, .blk [.fn 88 []]), (.x 3, .blk [.lst (eP c), IC w])], 0, []⟩),
    fun s => (0 ≤ s.1 ∧ s.1 ≤ s.2 ∧ s.2 ≤ n) ∧ (∀ x, 0 ≤ x → x < s.1 → gfl c (lo + x) < w) ∧ (s.2 = n ∨ w ≤ gfl c (lo + s.2)), fun s => (s.2 - s.1).toNat, (0, n), ⟨⟨Int.le_refl _, by omega, Int.le_refl _⟩, fun x h1 h2 => by omega, .inl rfl⟩,
    Shift.reset ⟨rfl, rfl, rfl, trivial⟩ ⟨rfl, rfl, rfl, rfl, trivial⟩ rfl rfl, fun s hs => ?_⟩
  obtain ⟨i, j⟩ := s
  obtain ⟨⟨a1, a2, a3⟩, a4, a5⟩ := hs
  dsimp only at a1 a2 a3 a4 a5 ⊢
  conv => whnf
  refine Fork.mk (fun h => ?_) (fun h => ?_)
  · have hlt : i < j := by simpa using h
    clear h
    conv => whnf
    have hw : IntKind.i64.wrap (shrI IntKind.u64 (IntKind.u64.wrap (IntKind.i64.wrap (i + j))) 1) = (i + j) / 2 := by
      rw [show IntKind.i64.wrap (i + j) = i + j from wrap_in (by omega) (by omega), Go.IntWalk.u64_in (i + j) ⟨by omega, by omega⟩]
      have e : shrI IntKind.u64 (i + j) 1 = (i + j) / 2 := Int.fdiv_eq_ediv_of_nonneg _ (show (0 : Int) ≤ 2 by omega)
      rw [e]
      exact wrap_in (by omega) (by omega)
    refine ⟨by omega, ?_⟩
    conv => whnf
    rw [hw]
    have b1 : i ≤ (i + j) / 2 := by omega
    have b2 : (i + j) / 2 < j := by omega
    clear hw
    generalize (i + j) / 2 = m at b1 b2 ⊢
    conv => whnf
    refine ⟨[.x 0, .x 1, .x 2, .x 3], rfl, ?_⟩
    conv => whnf
    refine ⟨rfl, ?_⟩
    conv => whnf
    refine ⟨rfl, ?_⟩
    conv => whnf
    refine ⟨c, w, m, lo, hi, rfl, rfl, hc, ⟨hb.1, by omega, by omega⟩, ?_⟩
    conv => whnf
    refine Fork.mk (fun h => ?_) (fun h => ?_)
    · have h1 : gfl c (lo + m) < w := by simpa using h
      have hw : IntKind.i64.wrap (m + 1) = m + 1 := wrap_in (by omega) (by omega)
      conv => whnf
      rw [hw]
      refine ⟨(m + 1, j), ⟨⟨by dsimp only; omega, by dsimp only; omega, a3⟩, fun x h2 h3 => ?_, a5⟩, Shift.reset ⟨rfl, rfl, rfl, trivial⟩ ⟨rfl, rfl, rfl, rfl, trivial⟩ rfl rfl, by dsimp only; omega⟩
      have := gfl_mono hc (show lo + x ≤ lo + m by dsimp only at h3; omega)
      omega
    have h1 : w ≤ gfl c (lo + m) := by simpa using h
    conv => whnf
    exact ⟨(i, m), ⟨⟨a1, b1, by dsimp only; omega⟩, a4, .inr h1⟩, Shift.reset ⟨rfl, rfl, rfl, trivial⟩ ⟨rfl, rfl, rfl, rfl, trivial⟩ rfl rfl, by dsimp only; omega⟩
  have hij : i = j := by simp at h; omega
  subst hij
  conv => whnf
  refine ⟨rfl, rfl, ?_⟩
  exact hk i ⟨⟨a1, a3⟩, a4, a5⟩
end Go.Proofs

namespace Go.Proofs
open Go Go.Abs
set_option linter.unusedSimpArgs false
set_option linter.unusedVariables false
set_option maxRecDepth 4000
end Go.Proofs

namespace Go.Proofs
open Go Go.Abs
set_option linter.unusedSimpArgs false
set_option linter.unusedVariables false
set_option maxRecDepth 4000
theorem kSg {k : AV → Prop} {r : List Gs × Int × Int} {l : List Gs} {b c : Int} (h : k (.tup [.c (.lst (eS r.1)), I r.2.1, I r.2.2])) (e : r = (l, b, c)) : k (.tup [.c (.lst (eS l)), I b, I c]) := by subst e; exact h
theorem least_ok : FunG Tryz.prog 92 (R_least 88 93) := by
  intro args os k h
  obtain ⟨c, w, lo, hi, rfl, rfl, hc, ⟨⟨hb1, hb2⟩, hb3⟩, hk⟩ := h
  have hw1 : IntKind.i64.wrap (hi - lo) = hi - lo := wrap_in (by omega) (by omega)
  have hw2 : IntKind.i64.wrap (hi - lo + 1) = hi - lo + 1 := wrap_in (by omega) (by omega)
  refine doesG_ex (qc := qc1) (np := [(1, [(1, 9), (9, 12)])]) (CK := ckK [(115, cGr (R_search 88 93 116))]) mixed Tryz.func92 rfl rfl Tryz.ntmps92 Tryz.results92 τ_ok (by kernel_rfl) (ckK_ok ⟨cGr_ok search_ok, trivial⟩) (by simp) rfl rfl ?_
  conv => whnf
  rw [hw1, hw2]
  refine ⟨[.l 3 1, .l 2 0, .x 0, .x 1], rfl, rfl, ?_⟩
  conv => whnf
  refine ⟨rfl, ?_⟩
  conv => whnf
  refine ⟨c, w, hi - lo + 1, lo, hi, rfl, rfl, hc, ⟨⟨by omega, by omega⟩, by omega, by omega⟩, fun j hj => ?_⟩
  have hw3 : IntKind.i64.wrap (lo + j) = lo + j := wrap_in (by have := hj.1; omega) (by have := hj.1; omega)
  have hr := isSr_fst hj hb2
  conv => whnf
  refine ⟨rfl, ?_⟩
  conv => whnf
  rw [hw3]
  refine ⟨rfl, rfl, ?_⟩
  exact hk _ hr
theorem set_ok : FunR Tryz.prog 63 R_setS := by
  intro args k h
  obtain ⟨gs, ss, lv, w, rfl, hf, hk⟩ := h
  have hm := eG_len gs
  have hn := eS_len ss
  refine does_ex (qc := qc1) (np := [(12, [(0, 9), (0, 10), (2, 3), (2, 6), (2, 7), (2, 9), (2, 10), (3, 9), (3, 10), (6, 9), (6, 10), (7, 9), (7, 10), (8, 9), (8, 10), (9, 10)])]) (CK := ckK [(87, cSc R_rngS), (25, cSc R_within), (89, cPq R_atG), (90, cPq R_rch), (91, cSc R_vflow), (92, cGr (R_least 88 93))]) mixed Tryz.func63 rfl rfl Tryz.ntmps63 Tryz.results63 τ_ok (by kernel_rfl) (ckK_ok ⟨cSc_ok rng_ok, cSc_ok within_ok, cPq_ok at_ok, cPq_ok greach_ok, cSc_ok vflow_ok, cGr_ok least_ok, trivial⟩) (by simp) ?_
  conv => whnf
  refine ⟨gs, ss, lv, rfl, hf, ?_⟩
  conv => whnf
  refine Fork.mk (fun h => ?_) (fun h => ?_)
  · have h1 : askG gs ss lv ≠ 0 := fun e => by
      rw [rngS, if_neg (by simp [e])] at h
      simp at h
    conv => whnf
    rw [show (rngS gs ss lv).2.2 = askG gs ss lv by rw [rngS, if_pos h1]]
    exact kSg hk (by rw [setS, if_pos h1])
  have h1 : askG gs ss lv = 0 := Classical.byContradiction fun e => by
    rw [rngS, if_pos e] at h
    simp [e] at h
  have hA := askG_ok h1
  have hAn := hA.n
  have hAl := hA.l
  have hAv := hA.lv
  have hAg := hA.g
  clear h
  have htot := totL_in (gs := gs) (lv := lv) (os := losL gs ss) hAg
  conv => whnf
  refine Fork.mk (fun h => ?_) (fun h => ?_)
  · conv => whnf
    exact kSg hk (by rw [setS, if_neg (by simp [h1]), if_pos (by simp [inB] at h ⊢; omega)])
  have hw : 0 ≤ w ∧ w ≤ 1073741824 := by simp at h; omega
  have e1 : setS gs ss lv w = ((setL w lv (totL gs (losL gs ss) lv) gs ss).1, (setL w lv (totL gs (losL gs ss) lv) gs ss).2, 0) := by
    rw [setS, if_neg (by simp [h1]), if_neg (by simp [inB, hw])]
  clear h
  rw [show (rngS gs ss lv).1 = totL gs (losL gs ss) lv by rw [rngS, if_neg (by simp [h1])]]
  generalize totL gs (losL gs ss) lv = T at htot e1 ⊢
  conv => whnf
  refine ⟨Nat × List Gs × Int, fun s => ([(1, .c (.lst (eS ss))), (2, I lv), (3, I w), (13, I s.2.2), (14, .c (.ptr (.l 14 1) 0)), (15, .c (.view (.l 83 2) 0 s.2.1.length)), (36, .c (.lst (eG gs))), (37, I (eG gs).length), (38, I s.1)], ⟨[(.l 14 1, .blk [.fn 88 []]), (.l 83 2, .arr 106 2 (eS s.2.1) false)], 3, []⟩),
    fun s => s.1 ≤ gs.length ∧ (setL w lv T gs ss = (s.2.1 ++ (setL w lv s.2.2 (gs.drop s.1) (ss.drop s.1)).1, (setL w lv s.2.2 (gs.drop s.1) (ss.drop s.1)).2) ∧ badS (gs.drop s.1) (ss.drop s.1) = false ∧ s.2.1.length = s.1) ∧ -(1073741824 * (8 + s.1)) ≤ s.2.2 ∧ s.2.2 ≤ 1073741824 * (8 + s.1), fun s => gs.length - s.1, (0, [], T), ⟨Nat.zero_le _, ⟨rfl, hA.s, rfl⟩, by dsimp only; omega, by dsimp only; omega⟩,
    Shift.trans (Shift.rename [] ⟨rfl, rfl, rfl, rfl, rfl, rfl, rfl, rfl, rfl, trivial⟩ ⟨rfl, rfl, trivial⟩ rfl rfl rfl) (Shift.nilArr (t := 15) rfl 83 106 2), fun s hi => ?_⟩
  obtain ⟨i, out, s⟩ := s
  obtain ⟨hi1, hi2, hi3, hi4⟩ := hi
  dsimp only at hi1 hi2 hi3 hi4 ⊢
  have hol := eS_len out
  conv => whnf
  refine Fork.mk (fun h => ?_) (fun h => ?_)
  · have hi : i < gs.length := by simp at h; omega
    clear h
    have hci := List.getElem?_eq_getElem hi
    have hcf := hAg _ (List.getElem_mem hi)
    have hcn := hf.f _ (List.getElem_mem hi)
    have hdi := List.getElem?_eq_getElem (show i < ss.length by omega)
    generalize gs[i] = g at hci hcf hcn
    generalize ss[i] = z at hdi
    rw [drop_of hci, drop_of hdi, setL_cons, badS] at hi2
    have hz : okS g z = true := by
      cases e : okS g z
      · rw [if_pos e] at hi2; simp at hi2
      · rfl
    rw [if_neg (by simp [hz])] at hi2
    have hw1 := wr_succ (i := i) (by omega)
    conv => whnf
    refine ⟨by omega, gtC g, by rw [Int.toNat_natCast, List.getElem?_map, hci]; rfl, rfl, ?_⟩
    conv => whnf
    refine ⟨g, lv, rfl, hcn, ?_⟩
    conv => whnf
    refine ⟨by omega, gsC z, by rw [Int.toNat_natCast, List.getElem?_map, hdi]; rfl, rfl, ?_⟩
    conv => whnf
    refine ⟨g, z, rfl, hcf, hz, ?_⟩
    conv => whnf
    have hfl := gfl_in (atG_ok hcf lv) (rch g z).1
    have hrc := rch_in hcf hz
    refine Fork.mk (fun h => ?_) (fun h => ?_)
    · have hlt : s < w := by simpa using h
      have hw2 : IntKind.i64.wrap (s - gfl (atG g lv) (rch g z).1) = s - gfl (atG g lv) (rch g z).1 := wrap_in (by omega) (by omega)
      have hw3 : IntKind.i64.wrap (w - (s - gfl (atG g lv) (rch g z).1)) = w - (s - gfl (atG g lv) (rch g z).1) := wrap_in (by omega) (by omega)
      conv => whnf
      refine ⟨atG g lv, 0, (rch g z).1, rfl, atG_ok hcf lv, ?_⟩
      conv => whnf
      rw [hw2, hw3]
      refine ⟨[.l 14 1, .l 18 4], rfl, rfl, ?_⟩
      conv => whnf
      refine ⟨rfl, ?_⟩
      conv => whnf
      refine ⟨atG g lv, w - (s - gfl (atG g lv) (rch g z).1), (rch g z).1, (rch g z).2, rfl, rfl, atG_ok hcf lv, ⟨hrc.1, by omega⟩, fun o ho => ?_⟩
      have ho := isFst_one ho (opO_is hrc.1.2 hlt)
      subst ho
      have hfo := gfl_in (atG_ok hcf lv) (opO (atG g lv) w s (rch g z).1 (rch g z).2)
      have hw4 : IntKind.i64.wrap (s - gfl (atG g lv) (rch g z).1 + gfl (atG g lv) (opO (atG g lv) w s (rch g z).1 (rch g z).2)) = s - gfl (atG g lv) (rch g z).1 + gfl (atG g lv) (opO (atG g lv) w s (rch g z).1 (rch g z).2) := wrap_in (by omega) (by omega)
      conv => whnf
      refine ⟨rfl, ?_⟩
      conv => whnf
      refine ⟨atG g lv, w - (s - gfl (atG g lv) (rch g z).1), opO (atG g lv) w s (rch g z).1 (rch g z).2, rfl, atG_ok hcf lv, ?_⟩
      conv => whnf
      rw [hw4]
      refine ⟨by omega, gsC z, by rw [Int.toNat_natCast, List.getElem?_map, hdi]; rfl, rfl, ?_⟩
      conv => whnf
      refine ⟨by simp, ?_⟩
      conv => whnf
      refine ⟨rfl, ?_⟩
      conv => whnf
      refine ⟨⟨rfl, rfl, rfl, by simp, by simp; omega⟩, ?_⟩
      conv => whnf
      rw [hw1]
      refine ⟨(i + 1, out ++ [⟨opO (atG g lv) w s (rch g z).1 (rch g z).2, z.jm⟩], sNx w lv s g z), ⟨hi, ⟨hi2.1.trans (by simp only [List.append_assoc, List.singleton_append]), hi2.2.1, by simp; omega⟩, by dsimp only [sNx]; omega, by dsimp only [sNx]; omega⟩, Shift.rename [(.l 83 2, .l 83 6)] ⟨rfl, rfl, rfl, rfl, rfl, ?_, rfl, rfl, rfl, trivial⟩ ⟨rfl, ?_, trivial⟩ rfl rfl rfl, by dsimp only; omega⟩
      · dsimp only; simp; rfl
      · dsimp only; rw [show eS (out ++ [⟨opO (atG g lv) w s (rch g z).1 (rch g z).2, z.jm⟩]) = eS out ++ [gsC ⟨opO (atG g lv) w s (rch g z).1 (rch g z).2, z.jm⟩] from List.map_append]; rfl
    have hlt : ¬ s < w := by simpa using h
    have ho : opO (atG g lv) w s (rch g z).1 (rch g z).2 = (rch g z).1 := by rw [opO, if_neg hlt]
    have hs : sNx w lv s g z = s := by unfold sNx; rw [ho]; omega
    rw [hs, ho] at hi2
    conv => whnf
    refine ⟨by omega, gsC z, by rw [Int.toNat_natCast, List.getElem?_map, hdi]; rfl, rfl, ?_⟩
    conv => whnf
    refine ⟨by simp, ?_⟩
    conv => whnf
    refine ⟨rfl, ?_⟩
    conv => whnf
    refine ⟨⟨rfl, rfl, rfl, by simp, by simp; omega⟩, ?_⟩
    conv => whnf
    rw [hw1]
    refine ⟨(i + 1, out ++ [⟨(rch g z).1, z.jm⟩], s), ⟨hi, ⟨hi2.1.trans (by simp only [List.append_assoc, List.singleton_append]), hi2.2.1, by simp; omega⟩, by dsimp only [sNx]; omega, by dsimp only [sNx]; omega⟩, Shift.rename [(.l 83 2, .l 83 6)] ⟨rfl, rfl, rfl, rfl, rfl, ?_, rfl, rfl, rfl, trivial⟩ ⟨rfl, ?_, trivial⟩ rfl rfl rfl, by dsimp only; omega⟩
    · dsimp only; simp; rfl
    · dsimp only; rw [show eS (out ++ [⟨(rch g z).1, z.jm⟩]) = eS out ++ [gsC ⟨(rch g z).1, z.jm⟩] from List.map_append]; rfl
  have hie : i = gs.length := by simp at h; omega
  subst hie
  rw [List.drop_length, setL_nil, List.append_nil] at hi2
  have htl : List.take out.length (List.drop 0 (eS out)) = eS out := by rw [List.drop_zero, List.take_of_length_le (by omega)]
  rw [hi2.1] at e1
  conv => whnf
  refine ⟨by omega, ?_⟩
  conv => whnf
  rw [htl]
  exact kSg hk e1
end Go.Proofs
