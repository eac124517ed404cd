/- Proved here: what functions of the given program come to, and the plain laws of it; no condition but those in the theorems. -/
import Derived.Test.YtfhnicamjcfddaaGreatDoorC99
import Derived.Test.YtfhnicamjcfddaaGreatDoorPCurve
import Derived.Test.YtfhnicamjcfddaaGreatDoorPCurve2
import Derived.Test.YtfhnicamjcfddaaGreatDoorPStorage2
namespace Go.Proofs
open Go Go.Abs
set_option linter.unusedSimpArgs false
set_option linter.unusedVariables false
set_option maxRecDepth 4000
theorem steep_ok : FunR Tryz.prog 113 R_steep := by
  intro args k h
  unfold R_steep at h
  split at h
  case h_2 => exact h.elim
  rename_i dx dy
  refine does_ex (qc := qc1) (np := []) (CK := ckK []) mixed Tryz.func113 rfl rfl Tryz.ntmps113 Tryz.results113 τ_ok (by kernel_rfl) (ckK_ok trivial) (by simp) ?_
  conv => whnf
  refine Fork.mk (fun h1 => ?_) (fun h1 => ?_)
  · have h1 : 0 < dx := by simpa using h1
    conv => whnf
    refine ⟨by omega, ?_⟩
    conv => whnf
    have e : IntKind.i64.wrap ((4611686018427387904 : Int).tdiv dx) = 4611686018427387904 / dx := by
      rw [Int.tdiv_eq_ediv_of_nonneg (by omega)]
      have h2 := Int.ediv_nonneg (show (0 : Int) ≤ 4611686018427387904 by omega) (show 0 ≤ dx by omega)
      have h3 := Int.ediv_le_self dx (show (0 : Int) ≤ 4611686018427387904 by omega)
      exact wrap_in (by omega) (by omega)
    rw [e]
    have hb : steepB dx dy = decide (4611686018427387904 / dx < dy) := by simp [steepB, h1]
    rw [hb] at h
    exact h
  · have h1 : ¬ 0 < dx := by simpa using h1
    conv => whnf
    have hb : steepB dx dy = false := by simp [steepB]; intro h; exact absurd h h1
    rw [hb] at h
    exact h
theorem ckC_ok' : FunR Tryz.prog 85 R_ckC := by
  intro args k h
  unfold R_ckC at h
  split at h
  case h_2 => exact h.elim
  obtain ⟨c, rfl, hl, hk⟩ := h
  have hm := eP_len c
  refine does_ex (qc := qc1) (np := []) (CK := ckK [(25, cSc R_within), (113, cSc R_steep)]) mixed Tryz.func85 rfl rfl Tryz.ntmps85 Tryz.results85 τ_ok (by kernel_rfl) (ckK_ok ⟨cSc_ok within_ok, cSc_ok steep_ok, trivial⟩) (by simp) ?_
  conv => whnf
  refine Fork.mk (fun h => ?_) (fun h => ?_)
  · have h0 : c = [] := by simpa using h
    subst h0
    conv => whnf
    exact hk
  have h0 : c ≠ [] := fun e => by subst e; simp at h
  conv => whnf
  refine Fork.mk (fun h => ?_) (fun h => ?_)
  · have h1 : 100 < c.length := by simp at h; omega
    conv => whnf
    have e : ckC c = 10 := by
      cases c with
      | nil => exact absurd rfl h0
      | cons p r => rw [ckC_eq, if_pos h1]
    rw [e] at hk
    exact hk
  have h1 : c.length ≤ 100 := by simp at h; omega
  conv => whnf
  refine ⟨Nat, fun i => ([(0, .c (.lst (eP c))), (2, I 0), (14, .c (.lst (eP c))), (15, I (eP c).length), (16, I i)], ⟨[], 5, []⟩), fun i => i ≤ c.length ∧ ckAt c i, fun i => c.length - i, 0, ⟨Nat.zero_le _, .inl rfl⟩,
    Shift.reset ⟨rfl, rfl, rfl, rfl, rfl, trivial⟩ trivial rfl rfl, fun i hi => ?_⟩
  obtain ⟨hi1, hi2⟩ := hi
  dsimp only
  conv => whnf
  refine Fork.mk (fun h => ?_) (fun h => ?_)
  · have hi : i < c.length := by simp at h; omega
    have hci := List.getElem?_eq_getElem hi
    generalize c[i] = p at hci
    have hat : (eP c)[(i : Int).toNat]? = some (ePt p) := by rw [Int.toNat_natCast]; exact eP_at c hci
    have hw1 := wr_succ (i := i) (by omega)
    have next : okPt p = true → ckC c = ckGo p (c.drop (i + 1)) → ckAt c (i + 1) := fun a b => .inr ⟨p, by rw [Nat.add_sub_cancel]; exact hci, a, b⟩
    have first : i = 0 → ckC c = if okPt p = false then 1 else ckGo p (c.drop (i + 1)) := fun e => by
      subst e
      have : c = p :: c.drop 1 := by have := drop_of hci; rwa [List.drop_zero] at this
      rw [this, ckC_eq, if_neg (by rw [← this]; omega)]
      simp
    have later : ∀ q, ckC c = ckGo q (c.drop i) → ckC c = if okPt p = false then 1 else if p.1 ≤ q.1 ∨ p.2 < q.2 then 4 else if steepB (p.1 - q.1) (p.2 - q.2) = true then 1 else ckGo p (c.drop (i + 1)) := fun q e => by
      rw [e, drop_of hci, ckGo_eq]
    have bad : okPt p = false → ckC c = 1 := fun e => by
      rcases hi2 with h | ⟨q, _, _, h⟩
      · rw [first h, if_pos e]
      · rw [later q h, if_pos e]
    conv => whnf
    refine ⟨by omega, ePt p, hat, rfl, ?_⟩
    conv => whnf
    refine Fork.mk (fun h => ?_) (fun h => ?_)
    · have e : okPt p = false := by simp at h; simp [okPt]; omega
      rw [bad e] at hk
      conv => whnf
      refine fork_t ?_
      conv => whnf
      exact hk
    conv => whnf
    have h2 : 0 ≤ p.1 ∧ p.1 ≤ 1073741824 := by simp at h; omega
    refine Fork.mk (fun h => ?_) (fun h => ?_)
    · have e : okPt p = false := by simp at h; simp [okPt]; omega
      rw [bad e] at hk
      conv => whnf
      exact hk
    have h3 : 0 ≤ p.2 ∧ p.2 ≤ 274877906944 := by simp at h; omega
    have hok : okPt p = true := okPt_of ⟨h2, h3⟩
    conv => whnf
    refine Fork.mk (fun h => ?_) (fun h => ?_)
    · have hi0 : i = 0 := by simp at h; omega
      have e := first hi0
      rw [if_neg (by rw [hok]; simp)] at e
      conv => whnf
      rw [hw1]
      refine ⟨i + 1, ⟨hi, next hok e⟩, Shift.reset ⟨rfl, rfl, rfl, rfl, rfl, trivial⟩ trivial rfl rfl, ?_⟩
      show c.length - (i + 1) < c.length - i
      omega
    have hi0 : i ≠ 0 := by simp at h; omega
    rcases hi2 with e | ⟨q, hq, hqo, hqe⟩
    · exact absurd e hi0
    have e := later q hqe
    rw [if_neg (by rw [hok]; simp)] at e
    have hq' := okPt_in hqo
    conv => whnf
    have hw2 : IntKind.i64.wrap ((i : Int) - 1) = ((i - 1 : Nat) : Int) := by rw [wrap_in (by omega) (by omega)]; omega
    rw [hw2]
    refine ⟨by omega, ePt q, by rw [Int.toNat_natCast]; exact eP_at c hq, rfl, ?_⟩
    conv => whnf
    refine Fork.mk (fun h => ?_) (fun h => ?_)
    · have h4 : p.1 ≤ q.1 := by simpa using h
      rw [if_pos (.inl h4)] at e
      rw [e] at hk
      conv => whnf
      refine Fork.mk (fun h => ?_) (fun h => (by simp at h))
      conv => whnf
      exact hk
    have h4 : ¬ p.1 ≤ q.1 := by simpa using h
    conv => whnf
    refine Fork.mk (fun h => ?_) (fun h => ?_)
    · have h5 : p.2 < q.2 := by simpa using h
      rw [if_pos (.inr h5)] at e
      rw [e] at hk
      conv => whnf
      exact hk
    have h5 : ¬ p.2 < q.2 := by simpa using h
    rw [if_neg (by omega)] at e
    conv => whnf
    rw [show IntKind.i64.wrap (p.1 - q.1) = p.1 - q.1 from wrap_in (by omega) (by omega), show IntKind.i64.wrap (p.2 - q.2) = p.2 - q.2 from wrap_in (by omega) (by omega)]
    refine Fork.mk (fun h => ?_) (fun h => ?_)
    · rw [if_pos (by simpa using h)] at e
      rw [e] at hk
      conv => whnf
      exact hk
    rw [if_neg (by rw [show steepB (p.1 - q.1) (p.2 - q.2) = false by simpa using h]; simp)] at e
    conv => whnf
    rw [hw1]
    refine ⟨i + 1, ⟨hi, next hok e⟩, Shift.reset ⟨rfl, rfl, rfl, rfl, rfl, trivial⟩ trivial rfl rfl, ?_⟩
    show c.length - (i + 1) < c.length - i
    omega
  · have hie : i = c.length := by simp at h; omega
    subst hie
    rcases hi2 with e | ⟨q, _, _, e⟩
    · exact absurd (List.eq_nil_of_length_eq_zero e) h0
    rw [e, List.drop_length] at hk
    conv => whnf
    exact hk
theorem val_ok : FunR Tryz.prog 86 R_val := by
  intro args k h
  unfold R_val at h
  split at h
  case h_2 => exact h.elim
  rename_i x
  obtain ⟨c, rfl, hv, hk⟩ := h
  obtain ⟨h0, hl⟩ := ckC_ne hv
  have hm := eP_len c
  refine does_ex (qc := qc1) (np := []) (CK := ckK []) mixed Tryz.func86 rfl rfl Tryz.ntmps86 Tryz.results86 τ_ok (by kernel_rfl) (ckK_ok trivial) (by simp) ?_
  conv => whnf
  refine ⟨Nat, fun i => ([(0, .c (.lst (eP c))), (1, I x), (4, I 0), (8, .c (.lst (eP c))), (9, I (eP c).length), (10, I i)], ⟨[], 5, []⟩), fun i => i ≤ c.length ∧ vAt c x i, fun i => c.length - i, 0, ⟨Nat.zero_le _, .inl rfl⟩,
    Shift.reset ⟨rfl, rfl, rfl, rfl, rfl, rfl, trivial⟩ trivial rfl rfl, fun i hi => ?_⟩
  obtain ⟨hi1, hi2⟩ := hi
  dsimp only
  conv => whnf
  refine Fork.mk (fun h => ?_) (fun h => ?_)
  · have hi : i < c.length := by simp at h; omega
    have hci := List.getElem?_eq_getElem hi
    have hpo := okPt_in (ckC_ok hv _ (List.getElem_mem hi))
    have hpo' := ckC_ok hv _ (List.getElem_mem hi)
    generalize c[i] = p at hci hpo hpo'
    have hat : (eP c)[(i : Int).toNat]? = some (ePt p) := by rw [Int.toNat_natCast]; exact eP_at c hci
    have hw1 := wr_succ (i := i) (by omega)
    have hdr := drop_of hci
    have first : i = 0 → c = p :: c.drop (i + 1) := fun e => by subst e; rwa [List.drop_zero] at hdr
    conv => whnf
    refine ⟨by omega, ePt p, hat, rfl, ?_⟩
    conv => whnf
    refine Fork.mk (fun h => ?_) (fun h => ?_)
    · have hx : x ≤ p.1 := by simpa using h
      conv => whnf
      refine Fork.mk (fun h => ?_) (fun h => ?_)
      · have hi0 : i = 0 := by simp at h; omega
        have e : valC c x = p.2 := by rw [first hi0, valC_eq, if_pos hx]
        rw [e] at hk
        conv => whnf
        exact hk
      have hi0 : i ≠ 0 := by simp at h; omega
      rcases hi2 with e | ⟨q, hq, hqx, hqe, hqc, hqo⟩
      · exact absurd e hi0
      rw [hdr] at hqe hqc
      obtain ⟨c1, c2, c3, c4, c5⟩ := ckGo_cons.1 hqc
      have hq' := okPt_in hqo
      have e : valC c x = q.2 + (p.2 - q.2) * (x - q.1) / (p.1 - q.1) := by rw [hqe]; exact if_pos hx
      rw [e] at hk
      obtain ⟨s1, s2, s3, s4⟩ := seg_in c2 c3 (show q.1 ≤ x by omega) hx
      conv => whnf
      refine Fork.mk (fun h => ?_) (fun h => (by simp at h; omega))
      conv => whnf
      have hw2 : IntKind.i64.wrap ((i : Int) - 1) = ((i - 1 : Nat) : Int) := by rw [wrap_in (by omega) (by omega)]; omega
      rw [hw2]
      refine ⟨by omega, ePt q, by rw [Int.toNat_natCast]; exact eP_at c hq, rfl, ?_⟩
      conv => whnf
      rw [show IntKind.i64.wrap (p.2 - q.2) = p.2 - q.2 from wrap_in (by omega) (by omega), show IntKind.i64.wrap (x - q.1) = x - q.1 from wrap_in (by omega) (by omega), show IntKind.i64.wrap (p.1 - q.1) = p.1 - q.1 from wrap_in (by omega) (by omega)]
      rw [show IntKind.i64.wrap ((p.2 - q.2) * (x - q.1)) = (p.2 - q.2) * (x - q.1) from wrap_in (by omega) (by omega)]
      refine ⟨by omega, ?_⟩
      conv => whnf
      rw [show IntKind.i64.wrap (((p.2 - q.2) * (x - q.1)).tdiv (p.1 - q.1)) = (p.2 - q.2) * (x - q.1) / (p.1 - q.1) by rw [Int.tdiv_eq_ediv_of_nonneg s1]; exact wrap_in (by omega) (by omega)]
      rw [show IntKind.i64.wrap (q.2 + (p.2 - q.2) * (x - q.1) / (p.1 - q.1)) = q.2 + (p.2 - q.2) * (x - q.1) / (p.1 - q.1) from wrap_in (by omega) (by omega)]
      exact hk
    have hx : ¬ x ≤ p.1 := by simpa using h
    conv => whnf
    refine Fork.mk (fun h => (by simp at h)) (fun h => ?_)
    conv => whnf
    refine Fork.mk (fun h => (by simp at h; omega)) (fun h => ?_)
    conv => whnf
    rw [hw1]
    refine ⟨i + 1, ⟨hi, .inr ⟨p, by rw [Nat.add_sub_cancel]; exact hci, by omega, ?_, ?_, hpo'⟩⟩, Shift.reset ⟨rfl, rfl, rfl, rfl, rfl, rfl, trivial⟩ trivial rfl rfl, ?_⟩
    · rcases hi2 with e | ⟨q, hq, hqx, hqe, hqc, hqo⟩
      · rw [first e, valC_eq, if_neg hx]
        subst e
        rfl
      · rw [hqe, hdr]
        exact if_neg hx
    · rcases hi2 with e | ⟨q, hq, hqx, hqe, hqc, hqo⟩
      · have hv' := hv
        rw [first e] at hv'
        exact (ckC_cons.1 hv').2.2
      · rw [hdr] at hqc
        exact (ckGo_cons.1 hqc).2.2.2.2
    · show c.length - (i + 1) < c.length - i
      omega
  · have hie : i = c.length := by simp at h; omega
    subst hie
    rcases hi2 with e | ⟨q, hq, hqx, hqe, hqc, hqo⟩
    · exact absurd (List.eq_nil_of_length_eq_zero e) h0
    rw [hqe, List.drop_length] at hk
    have hlen : c.length ≠ 0 := fun e => h0 (List.eq_nil_of_length_eq_zero e)
    conv => whnf
    have hw2 : IntKind.i64.wrap (((eP c).length : Int) - 1) = ((c.length - 1 : Nat) : Int) := by rw [hm, wrap_in (by omega) (by omega)]; omega
    rw [hw2]
    refine ⟨by omega, ePt q, by rw [Int.toNat_natCast]; exact eP_at c hq, rfl, ?_⟩
    conv => whnf
    exact hk
end Go.Proofs

namespace Go.Proofs
open Go Go.Abs
set_option linter.unusedSimpArgs false
set_option linter.unusedVariables false
set_option maxRecDepth 4000
theorem mkcurve_ok : FunB Tryz.prog 30 R_curve := by
  intro cs args k h
  unfold R_curve at h
  split at h
  case h_2 => exact h.elim
  rename_i x0 y0 dx dy b
  obtain ⟨d, rfl, hd, hx0, hy0, hdx, hdy, hk⟩ := h
  refine doesB_ex (qc := qc1) (np := []) (CK := ckK [(9, cB R_next)]) mixed Tryz.func30 rfl rfl Tryz.ntmps30 Tryz.results30 τ_ok (by kernel_rfl) (ckK_ok ⟨cB_ok next_ok rfl, trivial⟩) (by simp) rfl rfl ?_
  conv => whnf
  refine Fork.mk (fun h => ?_) (fun h => ?_)
  · subst h
    conv => whnf
    refine ⟨d, rfl, hd, by omega, fun v d hd hv1 hv2 => ?_⟩
    conv => whnf
    rw [show IntKind.i64.wrap (1 + v) = 1 + v from wrap_in (by omega) (by omega)]
    have hk : ∀ (r : List Pt) (d' : Dk), d'.ok → 1 ≤ r.length → r.length ≤ 4 → chainP dx 1 (1 + dy - 1) (x0, y0) r → k (AV.c (Cell.lst (eP ((x0, y0) :: r)))) (dkC d') := hk
    refine ⟨List Pt × Dk × Int, fun s => ([(0, .c (.ptr (.x 0) 0)), (1, I (endP (x0, y0) s.1).1), (2, I (endP (x0, y0) s.1).2), (3, I dx), (4, I dy), (13, I 1), (14, .c (.view (.l 46 3) 0 (s.1.length + 1))), (15, I s.2.2)],
        ⟨[(.x 0, .blk (dkC s.2.1)), (.l 46 3, .arr 79 2 (eP ((x0, y0) :: s.1)) false)], 4, []⟩),
      fun s => s.2.1.ok ∧ chainP dx 1 (1 + dy - 1) (x0, y0) s.1 ∧ 0 ≤ s.2.2 ∧ (1 ≤ s.2.2 + s.1.length ∧ s.2.2 + s.1.length ≤ 4), fun s => s.2.2.toNat, ([], d, 1 + v), ⟨hd, trivial, by dsimp only; omega, by dsimp only; simp; omega⟩,
      Shift.rename [(.l 46 3, .l 20 0)] ⟨rfl, rfl, rfl, rfl, rfl, rfl, rfl, rfl, trivial⟩ ⟨rfl, rfl, trivial⟩ rfl rfl rfl, fun s hs => ?_⟩
    obtain ⟨r, d, kk⟩ := s
    obtain ⟨hd, hch, hk0, hk1⟩ := hs
    dsimp only at hd hch hk0 hk1 ⊢
    have hin := end_in (by omega) (by omega) (by omega) hch
    have hdl : dx * (r.length : Int) ≤ 10000 * 4 := Int.mul_le_mul hdx.2 (by omega) (by omega) (by omega)
    have hyl : (1 + dy - 1) * (r.length : Int) ≤ 10000 * 4 := Int.mul_le_mul (by omega) (by omega) (by omega) (by omega)
    dsimp only at hin
    generalize hE : endP (x0, y0) r = E at *
    conv => whnf
    refine Fork.mk (fun h => ?_) (fun h => ?_)
    · have hkk : 0 < kk := by simpa using h
      conv => whnf
      refine ⟨d, rfl, hd, by omega, fun u d hd hu1 hu2 => ?_⟩
      conv => whnf
      refine ⟨d, rfl, hd, by omega, fun w d hd hw1 hw2 => ?_⟩
      conv => whnf
      rw [show IntKind.i64.wrap (E.1 + 1) = E.1 + 1 from wrap_in (by omega) (by omega), show IntKind.i64.wrap (E.2 + 1) = E.2 + 1 from wrap_in (by omega) (by omega), show IntKind.i64.wrap (E.1 + 1 + u) = E.1 + 1 + u from wrap_in (by omega) (by omega), show IntKind.i64.wrap (E.2 + 1 + w) = E.2 + 1 + w from wrap_in (by omega) (by omega)]
      refine ⟨by simp, ?_⟩
      conv => whnf
      refine ⟨rfl, ?_⟩
      conv => whnf
      refine ⟨⟨rfl, rfl, rfl, by simp, by simp; omega⟩, ?_⟩
      conv => whnf
      rw [show IntKind.i64.wrap (kk - 1) = kk - 1 from wrap_in (by omega) (by omega)]
      refine ⟨(r ++ [(E.1 + 1 + u, E.2 + 1 + w)], d, kk - 1), ⟨hd, chain_snoc hch (by rw [hE]; dsimp only; omega) (by rw [hE]; dsimp only; omega), by dsimp only; omega, by dsimp only; simp; omega⟩, Shift.rename [(.l 46 3, .l 46 5)] ⟨rfl, ?_, ?_, rfl, rfl, rfl, ?_, rfl, trivial⟩ ⟨rfl, ?_, trivial⟩ rfl rfl rfl, ?_⟩
      · dsimp only; rw [endP_snoc]; rfl
      · dsimp only; rw [endP_snoc]; rfl
      · dsimp only; simp; rfl
      · dsimp only; rw [show (x0, y0) :: (r ++ [(E.1 + 1 + u, E.2 + 1 + w)]) = ((x0, y0) :: r) ++ [(E.1 + 1 + u, E.2 + 1 + w)] from rfl, ← eP_snoc]; rfl
      · show (kk - 1).toNat < kk.toNat
        omega
    · have hkk : ¬ 0 < kk := by simpa using h
      conv => whnf
      refine ⟨by simp, ?_⟩
      conv => whnf
      exact leaf_p _ (by simp) rfl (hk r d hd (by omega) (by omega) hch)
  · subst h
    conv => whnf
    refine ⟨d, rfl, hd, by omega, fun v d hd hv1 hv2 => ?_⟩
    conv => whnf
    rw [show IntKind.i64.wrap (1 + v) = 1 + v from wrap_in (by omega) (by omega)]
    have hk : ∀ (r : List Pt) (d' : Dk), d'.ok → 1 ≤ r.length → r.length ≤ 4 → chainP dx 0 (0 + dy - 1) (x0, y0) r → k (AV.c (Cell.lst (eP ((x0, y0) :: r)))) (dkC d') := hk
    refine ⟨List Pt × Dk × Int, fun s => ([(0, .c (.ptr (.x 0) 0)), (1, I (endP (x0, y0) s.1).1), (2, I (endP (x0, y0) s.1).2), (3, I dx), (4, I dy), (13, I 0), (14, .c (.view (.l 46 3) 0 (s.1.length + 1))), (15, I s.2.2)],
        ⟨[(.x 0, .blk (dkC s.2.1)), (.l 46 3, .arr 79 2 (eP ((x0, y0) :: s.1)) false)], 4, []⟩),
      fun s => s.2.1.ok ∧ chainP dx 0 (0 + dy - 1) (x0, y0) s.1 ∧ 0 ≤ s.2.2 ∧ (1 ≤ s.2.2 + s.1.length ∧ s.2.2 + s.1.length ≤ 4), fun s => s.2.2.toNat, ([], d, 1 + v), ⟨hd, trivial, by dsimp only; omega, by dsimp only; simp; omega⟩,
      Shift.rename [(.l 46 3, .l 20 0)] ⟨rfl, rfl, rfl, rfl, rfl, rfl, rfl, rfl, trivial⟩ ⟨rfl, rfl, trivial⟩ rfl rfl rfl, fun s hs => ?_⟩
    obtain ⟨r, d, kk⟩ := s
    obtain ⟨hd, hch, hk0, hk1⟩ := hs
    dsimp only at hd hch hk0 hk1 ⊢
    have hin := end_in (by omega) (by omega) (by omega) hch
    have hdl : dx * (r.length : Int) ≤ 10000 * 4 := Int.mul_le_mul hdx.2 (by omega) (by omega) (by omega)
    have hyl : (0 + dy - 1) * (r.length : Int) ≤ 10000 * 4 := Int.mul_le_mul (by omega) (by omega) (by omega) (by omega)
    dsimp only at hin
    generalize hE : endP (x0, y0) r = E at *
    conv => whnf
    refine Fork.mk (fun h => ?_) (fun h => ?_)
    · have hkk : 0 < kk := by simpa using h
      conv => whnf
      refine ⟨d, rfl, hd, by omega, fun u d hd hu1 hu2 => ?_⟩
      conv => whnf
      refine ⟨d, rfl, hd, by omega, fun w d hd hw1 hw2 => ?_⟩
      conv => whnf
      rw [show IntKind.i64.wrap (E.1 + 1) = E.1 + 1 from wrap_in (by omega) (by omega), show IntKind.i64.wrap (E.2 + 0) = E.2 + 0 from wrap_in (by omega) (by omega), show IntKind.i64.wrap (E.1 + 1 + u) = E.1 + 1 + u from wrap_in (by omega) (by omega), show IntKind.i64.wrap (E.2 + 0 + w) = E.2 + 0 + w from wrap_in (by omega) (by omega)]
      refine ⟨by simp, ?_⟩
      conv => whnf
      refine ⟨rfl, ?_⟩
      conv => whnf
      refine ⟨⟨rfl, rfl, rfl, by simp, by simp; omega⟩, ?_⟩
      conv => whnf
      rw [show IntKind.i64.wrap (kk - 1) = kk - 1 from wrap_in (by omega) (by omega)]
      refine ⟨(r ++ [(E.1 + 1 + u, E.2 + 0 + w)], d, kk - 1), ⟨hd, chain_snoc hch (by rw [hE]; dsimp only; omega) (by rw [hE]; dsimp only; omega), by dsimp only; omega, by dsimp only; simp; omega⟩, Shift.rename [(.l 46 3, .l 46 5)] ⟨rfl, ?_, ?_, rfl, rfl, rfl, ?_, rfl, trivial⟩ ⟨rfl, ?_, trivial⟩ rfl rfl rfl, ?_⟩
      · dsimp only; rw [endP_snoc]; rfl
      · dsimp only; rw [endP_snoc]; rfl
      · dsimp only; simp; rfl
      · dsimp only; rw [show (x0, y0) :: (r ++ [(E.1 + 1 + u, E.2 + 0 + w)]) = ((x0, y0) :: r) ++ [(E.1 + 1 + u, E.2 + 0 + w)] from rfl, ← eP_snoc]; rfl
      · show (kk - 1).toNat < kk.toNat
        omega
    · have hkk : ¬ 0 < kk := by simpa using h
      conv => whnf
      refine ⟨by simp, ?_⟩
      conv => whnf
      exact leaf_p _ (by simp) rfl (hk r d hd (by omega) (by omega) hch)
end Go.Proofs

namespace Go.Proofs
open Go Go.Abs
set_option linter.unusedSimpArgs false
set_option linter.unusedVariables false
set_option maxRecDepth 4000
theorem quo_in {a n : Int} (h : 0 ≤ a) (h2 : a ≤ 1000000) (hn : 0 < n) : 0 ≤ a.tdiv n ∧ a.tdiv n ≤ a := by
  rw [Int.tdiv_eq_ediv_of_nonneg h]
  exact ⟨Int.ediv_nonneg h (by omega), Int.ediv_le_self _ h⟩
theorem resv_ok : FunB Tryz.prog 15 R_resv := by
  intro cs args k h
  unfold R_resv at h
  split at h
  case h_2 => exact h.elim
  obtain ⟨d, rfl, hd, hk⟩ := h
  refine doesB_ex (qc := qc1) (np := [(11, [(2, 11), (3, 11), (4, 11), (4, 13), (5, 11), (5, 13), (6, 11), (6, 13), (6, 15), (7, 11), (7, 13), (7, 15), (8, 11), (8, 13), (8, 15), (8, 17), (9, 11), (9, 13), (9, 15), (9, 17)])]) (CK := ckK [(9, cB R_next), (30, cB R_curve)]) mixed Tryz.func15 rfl rfl Tryz.ntmps15 Tryz.results15 τ_ok (by kernel_rfl) (ckK_ok ⟨cB_ok next_ok rfl, cB_ok mkcurve_ok rfl, trivial⟩) (by simp) rfl rfl ?_
  conv => whnf
  refine ⟨d, rfl, hd, by omega, fun x d hd hx1 hx2 => ?_⟩
  conv => whnf
  refine ⟨d, rfl, hd, by omega, fun y d hd hy1 hy2 => ?_⟩
  conv => whnf
  rw [show IntKind.i64.wrap (100 + x) = 100 + x from wrap_in (by omega) (by omega)]
  refine ⟨d, rfl, hd, by omega, by omega, by omega, by omega, fun r d hd hr1 hr2 hch => ?_⟩
  rw [show loB true = 1 from rfl] at hch
  conv => whnf
  refine ⟨by omega, ePt (100 + x, y), rfl, rfl, ?_⟩
  conv => whnf
  have hw2 : IntKind.i64.wrap (((eP ((100 + x, y) :: r)).length : Int) - 1) = (r.length : Int) := by rw [eP_len, List.length_cons, wrap_in (by omega) (by omega)]; omega
  rw [hw2]
  have hend := end_in (by omega) (by omega) (by omega) hch
  dsimp only at hend
  refine ⟨by omega, ePt (endP (100 + x, y) r), by rw [Int.toNat_natCast]; exact eP_at _ (endP_at _ _), rfl, ?_⟩
  conv => whnf
  have hE : (endP (100 + x, y) r).1 ≤ 1000000 := by omega
  have hk : ∀ (a b c e f : Int) (d' : Dk), d'.ok → (100 + x ≤ a ∧ a ≤ b ∧ b ≤ c ∧ c ≤ e ∧ e ≤ f ∧ f ≤ (endP (100 + x, y) r).1) → k (AV.agg [.lst (eP ((100 + x, y) :: r)), IC a, IC b, IC c, IC e, IC f]) (dkC d') := fun a b c e f d' hd' h =>
    hk ⟨(100 + x, y) :: r, a, b, c, e, f⟩ d' hd' (made_of (by dsimp only; omega) (by dsimp only; omega) ⟨hr1, hr2⟩ hch h) (by simp; omega)
  have hE0 : 100 + x ≤ (endP (100 + x, y) r).1 := hend.1
  generalize (endP (100 + x, y) r).1 = E at *
  generalize (100 + x, y) :: r = c at *
  generalize hx0 : 100 + x = x0 at *
  refine ⟨Nat × (Int × Int × Int × Int × Int) × Int × Dk, fun s => ([(0, .c (.ptr (.x 0) 0)), (2, .c (.ptr (.l 2 0) 0)), (3, .c (.ptr (.l 3 3) 0)), (4, I s.2.2.1), (5, I E), (6, .c (.ptr (.l 6 6) 0)), (30, I s.1)],
      ⟨[(.x 0, .blk (dkC s.2.2.2)), (.l 2 0, .blk [.sc (.slice none 0 0), IC 0, IC 0, IC 0, IC 0, IC 0]), (.l 3 3, .blk [.lst (eP c), IC 0, IC 0, IC 0, IC 0, IC 0]), (.l 6 6, .blk [IC s.2.1.1, IC s.2.1.2.1, IC s.2.1.2.2.1, IC s.2.1.2.2.2.1, IC s.2.1.2.2.2.2])], 10, []⟩),
    fun s => s.2.2.2.ok ∧ s.1 ≤ 5 ∧ (x0 ≤ s.2.2.1 ∧ s.2.2.1 ≤ E) ∧ (1 ≤ s.1 → x0 ≤ s.2.1.1) ∧ (2 ≤ s.1 → s.2.1.1 ≤ s.2.1.2.1) ∧ (3 ≤ s.1 → s.2.1.2.1 ≤ s.2.1.2.2.1) ∧ (4 ≤ s.1 → s.2.1.2.2.1 ≤ s.2.1.2.2.2.1) ∧ (5 ≤ s.1 → s.2.1.2.2.2.1 ≤ s.2.1.2.2.2.2) ∧
      (s.1 = 1 → s.2.2.1 = s.2.1.1) ∧ (s.1 = 2 → s.2.2.1 = s.2.1.2.1) ∧ (s.1 = 3 → s.2.2.1 = s.2.1.2.2.1) ∧ (s.1 = 4 → s.2.2.1 = s.2.1.2.2.2.1) ∧ (s.1 = 5 → s.2.2.1 = s.2.1.2.2.2.2),
    fun s => 5 - s.1, (0, (0, 0, 0, 0, 0), x0, d), ⟨hd, by omega, by dsimp only; omega, by dsimp only; omega⟩, Shift.rename [(.l 3 3, .l 3 1), (.l 6 6, .l 6 2)] ⟨rfl, rfl, rfl, rfl, rfl, rfl, rfl, trivial⟩ ⟨rfl, rfl, rfl, rfl, trivial⟩ rfl rfl rfl, fun s hs => ?_⟩
  obtain ⟨i, ⟨a, b, cc, dd, e⟩, at_, d⟩ := s
  dsimp only at hs ⊢
  obtain ⟨hd, hi5, hat, hs⟩ := hs
  conv => whnf
  refine Fork.mk (fun h => ?_) (fun h => ?_)
  · have hi : i < 5 := by simp at h; omega
    clear h
    have hw1 := wr_succ (i := i) (by omega)
    have hw3 : IntKind.i64.wrap (5 - (i : Int)) = 5 - i := wrap_in (by omega) (by omega)
    have hw4 : IntKind.i64.wrap (E - at_) = E - at_ := wrap_in (by omega) (by omega)
    conv => whnf
    rw [hw3, hw4]
    refine ⟨by omega, ?_⟩
    obtain ⟨q1, q2⟩ := quo_in (a := E - at_) (n := 5 - (i : Int)) (by omega) (by omega) (by omega)
    generalize hq : (E - at_).tdiv (5 - (i : Int)) = q at *
    have hw5 : IntKind.i64.wrap q = q := wrap_in (by omega) (by omega)
    have hw6 : IntKind.i64.wrap (q + 1) = q + 1 := wrap_in (by omega) (by omega)
    conv => whnf
    rw [hw5, hw6]
    refine ⟨d, rfl, hd, by omega, fun v d hd hv1 hv2 => ?_⟩
    have hw7 : IntKind.i64.wrap (at_ + v) = at_ + v := wrap_in (by omega) (by omega)
    clear hq hw5 hw6 hw3 hw4
    conv => whnf
    rw [hw7]
    have hlt : at_ + v ≤ E := by omega
    clear hv2 q1 q2
    generalize hb : at_ + v = b_ at *
    refine ⟨by omega, ?_⟩
    rcases (by omega : i = 0 ∨ i = 1 ∨ i = 2 ∨ i = 3 ∨ i = 4) with rfl | rfl | rfl | rfl | rfl
    · conv => whnf
      rw [hw1]
      exact ⟨(_, (b_, b, cc, dd, e), b_, d), ⟨hd, by omega, by dsimp only; omega, by dsimp only; omega⟩, Shift.reset ⟨rfl, rfl, rfl, rfl, rfl, rfl, rfl, trivial⟩ ⟨rfl, rfl, rfl, rfl, trivial⟩ rfl rfl, by dsimp only; omega⟩
    · conv => whnf
      rw [hw1]
      exact ⟨(_, (a, b_, cc, dd, e), b_, d), ⟨hd, by omega, by dsimp only; omega, by dsimp only; omega⟩, Shift.reset ⟨rfl, rfl, rfl, rfl, rfl, rfl, rfl, trivial⟩ ⟨rfl, rfl, rfl, rfl, trivial⟩ rfl rfl, by dsimp only; omega⟩
    · conv => whnf
      rw [hw1]
      exact ⟨(_, (a, b, b_, dd, e), b_, d), ⟨hd, by omega, by dsimp only; omega, by dsimp only; omega⟩, Shift.reset ⟨rfl, rfl, rfl, rfl, rfl, rfl, rfl, trivial⟩ ⟨rfl, rfl, rfl, rfl, trivial⟩ rfl rfl, by dsimp only; omega⟩
    · conv => whnf
      rw [hw1]
      exact ⟨(_, (a, b, cc, b_, e), b_, d), ⟨hd, by omega, by dsimp only; omega, by dsimp only; omega⟩, Shift.reset ⟨rfl, rfl, rfl, rfl, rfl, rfl, rfl, trivial⟩ ⟨rfl, rfl, rfl, rfl, trivial⟩ rfl rfl, by dsimp only; omega⟩
    · conv => whnf
      rw [hw1]
      exact ⟨(_, (a, b, cc, dd, b_), b_, d), ⟨hd, by omega, by dsimp only; omega, by dsimp only; omega⟩, Shift.reset ⟨rfl, rfl, rfl, rfl, rfl, rfl, rfl, trivial⟩ ⟨rfl, rfl, rfl, rfl, trivial⟩ rfl rfl, by dsimp only; omega⟩
  · have hi : i = 5 := by simp at h; omega
    clear h
    subst hi
    conv => whnf
    refine ⟨by omega, ?_⟩
    conv => whnf
    refine ⟨by omega, ?_⟩
    conv => whnf
    refine ⟨by omega, ?_⟩
    conv => whnf
    refine ⟨by omega, ?_⟩
    conv => whnf
    refine ⟨by omega, ?_⟩
    conv => whnf
    exact ⟨rfl, rfl, hk a b cc dd e d hd (by omega)⟩
end Go.Proofs
