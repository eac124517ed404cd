/- Proved here: what functions of the given program come to, for the statements of this chapter; no condition but those in the theorems. -/
import Derived.Test.YtknjncmgohjpkaaU25
namespace Go.Proofs
open Go Go.Abs
set_option linter.unusedSimpArgs false
set_option linter.unusedVariables false
set_option maxRecDepth 4000
theorem rrelT_ok : FunR Try.prog 38 R_relT := by
  intro args k h
  obtain ⟨t, x, y, rfl, hf, hk⟩ := h
  refine does_ex (qc := qc1) (np := []) (CK := ckK [(36, cSc R_ckT), (56, cSc R_within), (58, cSc R_place)]) mixed Try.func38 rfl rfl Try.ntmps38 Try.results38 τ_ok (by kernel_rfl) (ckK_ok ⟨cSc_ok rckT_ok, cSc_ok fin_ok, cSc_ok lastF_ok, trivial⟩) (by simp) ?_
  conv => whnf
  refine ⟨t, rfl, hf, ?_⟩
  conv => whnf
  refine Fork.mk (fun h => ?_) (fun h => ?_)
  · have h1 : ckT t ≠ 0 := by simpa using h
    conv => whnf
    exact kI2 hk (by rw [relT, if_pos h1])
  have h1 : ckT t = 0 := by simpa using h
  have ht := ckT_ok' h1
  clear h
  have bad : (inB 0 16777216 x && inB 0 1073741824 y) = false → k (.tup [I 0, I 1]) := fun e => kI2 hk (by rw [relT, if_neg (by simp [h1]), if_pos e])
  conv => whnf
  refine Fork.mk (fun g1 => ?_) (fun g1 => ?_)
  · conv => whnf
    (repeat (refine fork_t ?_; (conv => whnf)))
    exact bad (by simp [inB] at g1 ⊢; omega)
  conv => whnf
  refine Fork.mk (fun g2 => ?_) (fun g2 => ?_)
  · conv => whnf
    exact bad (by simp [inB] at g1 g2 ⊢; omega)
  have hb : (inB 0 16777216 x && inB 0 1073741824 y) = true := by simp [inB] at g1 g2 ⊢; omega
  clear g1 g2 bad
  obtain ⟨r, c1, c2⟩ := atT_at ht x y
  have h1' := lstI_lt (x := x) ht.l.1
  have h2 := lstI_lt (x := y) ht.i.1
  have hl := ht.l
  have hi := ht.i
  have hr := ht.r
  have hw := ht.w r (List.mem_of_getElem? c1)
  have hmr := eW_len t.rel
  have hm := eL_len r
  conv => whnf
  refine ⟨t.lv, x, rfl, by omega, ht.lp, ?_⟩
  conv => whnf
  refine ⟨by omega, rwC r, by rw [Int.toNat_natCast, List.getElem?_map, c1]; rfl, rfl, ?_⟩
  conv => whnf
  refine ⟨t.inf, y, rfl, by omega, ht.ip, ?_⟩
  conv => whnf
  refine ⟨by omega, eI (atT t x y), by rw [Int.toNat_natCast, List.getElem?_map, c2]; rfl, rfl, ?_⟩
  conv => whnf
  exact kI2 hk (by rw [relT, if_neg (by simp [h1]), if_neg (by simp [hb])])
theorem rrelF_ok : FunR Try.prog 20 R_relF := by
  intro args k h
  obtain ⟨f, s, x, y, rfl, hf, hk⟩ := h
  refine does_ex (qc := qc1) (np := []) (CK := ckK [(38, cSc R_relT)]) mixed Try.func20 rfl rfl Try.ntmps20 Try.results20 τ_ok (by kernel_rfl) (ckK_ok ⟨cSc_ok rrelT_ok, trivial⟩) (by simp) ?_
  conv => whnf
  refine Fork.mk (fun h => ?_) (fun h => ?_)
  · conv => whnf
    exact kIB hk (by rw [relF, if_pos (by simpa using h)])
  have h1 : ¬ s.on = false := by simpa using h
  clear h
  conv => whnf
  refine ⟨f.t, x, y, rfl, hf, ?_⟩
  conv => whnf
  exact kIB hk (by rw [relF, if_neg h1])
theorem kBo {k : AV → Prop} {a b : Bool} (h : k (Bo a)) (e : a = b) : k (Bo b) := by subst e; exact h
def R_whole : RT := fun args k => ∃ (inf r : Ls) (m : Int), args = [.c (.lst (eL inf)), .c (.lst (eL r)), I m] ∧ inf.length ≤ 1000 ∧ r.length ≤ inf.length ∧ (∀ x ∈ inf, 0 ≤ x ∧ x ≤ 1073741824) ∧ k (Bo (whGo inf m 0 r))
theorem whole_ok : FunR Try.prog 39 R_whole := by
  intro args k h
  obtain ⟨inf, r, m, rfl, hil, hrl, hib, hk⟩ := h
  have hmi := eL_len inf
  have hmr := eL_len r
  refine does_ex (qc := qc1) (np := []) (CK := ckK []) mixed Try.func39 rfl rfl Try.ntmps39 Try.results39 τ_ok (by kernel_rfl) (ckK_ok trivial) (by simp) ?_
  conv => whnf
  refine ⟨Nat, fun j => ([(0, .c (.lst (eL inf))), (2, I m), (10, .c (.lst (eL r))), (11, I (eL r).length), (12, I j)], ⟨[], 9, []⟩),
    fun j => j ≤ r.length ∧ whGo inf m 0 r = whGo inf m j (r.drop j), fun j => r.length - j, 0, ⟨Nat.zero_le _, rfl⟩, Shift.reset ⟨rfl, rfl, rfl, rfl, rfl, trivial⟩ trivial rfl rfl, fun j hj => ?_⟩
  obtain ⟨hj1, hj2⟩ := hj
  dsimp only
  conv => whnf
  refine Fork.mk (fun h => ?_) (fun h => ?_)
  rotate_left
  · have hje : j = r.length := by simp at h; omega
    rw [hje, List.drop_length] at hj2
    conv => whnf
    exact kBo hk (by rw [hj2]; rfl)
  have hj : j < r.length := by simp at h; omega
  clear h
  have hcj := List.getElem?_eq_getElem hj
  generalize r[j] = x at hcj
  rw [drop_of hcj, whGo] at hj2
  have hw2 := wr_succ (i := j) (by omega)
  have hfail : onK inf m j = true → ¬ grt inf m j ≤ x → k (Bo false) := fun e1 e2 => kBo hk (by rw [hj2, e1]; simp [e2])
  have hgo : (onK inf m j = false ∨ grt inf m j ≤ x) → whGo inf m 0 r = whGo inf m (j + 1) (r.drop (j + 1)) := fun e => by
    rw [hj2]
    rcases e with e | e <;> simp [e]
  clear hj2
  conv => whnf
  refine ⟨by omega, eI x, by rw [Int.toNat_natCast, List.getElem?_map, hcj]; rfl, rfl, ?_⟩
  conv => whnf
  rw [hw2]
  refine Fork.mk (fun h => ?_) (fun h => ?_)
  · have hl1 : j + 1 < inf.length := by simp at h; omega
    clear h
    have hcy := List.getElem?_eq_getElem hl1
    have hyb := hib _ (List.getElem_mem hl1)
    generalize inf[j + 1] = y at hcy hyb
    have hg : grt inf m j = if y - 1 < m then y - 1 else m := by rw [grt, hcy]
    have e1 : IntKind.i64.wrap (y - 1) = y - 1 := wrap_in (by omega) (by omega)
    conv => whnf
    rw [hw2]
    refine ⟨by omega, eI y, by rw [Int.toNat_natCast, List.getElem?_map, hcy]; rfl, rfl, ?_⟩
    conv => whnf
    rw [e1]
    rw [← hg]
    generalize grt inf m j = w at hfail hgo
    clear hg
    have hnext : whGo inf m 0 r = whGo inf m (j + 1) (r.drop (j + 1)) → j + 1 ≤ r.length ∧ whGo inf m 0 r = whGo inf m (j + 1) (r.drop (j + 1)) := fun e => ⟨hj, e⟩
    rcases Nat.eq_zero_or_pos j with hj0 | hj0
    · subst hj0
      (repeat ((first | refine fork_t ?_ | refine fork_f ?_); (conv => whnf)))
      refine Fork.mk (fun h' => ?_) (fun h' => ?_)
      · conv => whnf
        exact hfail rfl (by simp at h'; omega)
      conv => whnf
      rw [hw2]
      exact ⟨0 + 1, hnext (hgo (.inr (by simp at h'; omega))), Shift.reset ⟨rfl, rfl, rfl, rfl, rfl, trivial⟩ trivial rfl rfl, by omega⟩
    refine Fork.mk (fun h => ?_) (fun h => ?_)
    · exfalso; simp at h; omega
    clear h
    have hcz := List.getElem?_eq_getElem (show j < inf.length by omega)
    generalize inf[j] = z at hcz
    have hon : onK inf m j = decide (z ≤ m) := by
      obtain ⟨n, rfl⟩ : ∃ n, j = n + 1 := ⟨j - 1, by omega⟩
      rw [onK, hcz]
    conv => whnf
    refine ⟨by omega, eI z, by rw [Int.toNat_natCast, List.getElem?_map, hcz]; rfl, rfl, ?_⟩
    conv => whnf
    refine Fork.mk (fun h => ?_) (fun h => ?_)
    · conv => whnf
      refine Fork.mk (fun h' => ?_) (fun h' => ?_)
      · conv => whnf
        exact hfail (by rw [hon]; exact h) (by simp at h'; omega)
      conv => whnf
      rw [hw2]
      exact ⟨j + 1, hnext (hgo (.inr (by simp at h'; omega))), Shift.reset ⟨rfl, rfl, rfl, rfl, rfl, trivial⟩ trivial rfl rfl, by omega⟩
    conv => whnf
    (repeat ((first | refine fork_t ?_ | refine fork_f ?_); (conv => whnf)))
    rw [hw2]
    exact ⟨j + 1, hnext (hgo (.inl (by rw [hon]; exact h))), Shift.reset ⟨rfl, rfl, rfl, rfl, rfl, trivial⟩ trivial rfl rfl, by omega⟩
  have hg : grt inf m j = m := by rw [grt, List.getElem?_eq_none (by simp at h; omega)]
  clear h
  conv => whnf
  rw [hg] at hfail hgo
  have hnext : whGo inf m 0 r = whGo inf m (j + 1) (r.drop (j + 1)) → j + 1 ≤ r.length ∧ whGo inf m 0 r = whGo inf m (j + 1) (r.drop (j + 1)) := fun e => ⟨hj, e⟩
  rcases Nat.eq_zero_or_pos j with hj0 | hj0
  · subst hj0
    (repeat ((first | refine fork_t ?_ | refine fork_f ?_); (conv => whnf)))
    refine Fork.mk (fun h' => ?_) (fun h' => ?_)
    · conv => whnf
      exact hfail rfl (by simp at h'; omega)
    conv => whnf
    rw [hw2]
    exact ⟨0 + 1, hnext (hgo (.inr (by simp at h'; omega))), Shift.reset ⟨rfl, rfl, rfl, rfl, rfl, trivial⟩ trivial rfl rfl, by omega⟩
  refine Fork.mk (fun h => ?_) (fun h => ?_)
  · exfalso; simp at h; omega
  clear h
  have hcz := List.getElem?_eq_getElem (show j < inf.length by omega)
  generalize inf[j] = z at hcz
  have hon : onK inf m j = decide (z ≤ m) := by
    obtain ⟨n, rfl⟩ : ∃ n, j = n + 1 := ⟨j - 1, by omega⟩
    rw [onK, hcz]
  conv => whnf
  refine ⟨by omega, eI z, by rw [Int.toNat_natCast, List.getElem?_map, hcz]; rfl, rfl, ?_⟩
  conv => whnf
  refine Fork.mk (fun h => ?_) (fun h => ?_)
  · conv => whnf
    refine Fork.mk (fun h' => ?_) (fun h' => ?_)
    · conv => whnf
      exact hfail (by rw [hon]; exact h) (by simp at h'; omega)
    conv => whnf
    rw [hw2]
    exact ⟨j + 1, hnext (hgo (.inr (by simp at h'; omega))), Shift.reset ⟨rfl, rfl, rfl, rfl, rfl, trivial⟩ trivial rfl rfl, by omega⟩
  conv => whnf
  (repeat ((first | refine fork_t ?_ | refine fork_f ?_); (conv => whnf)))
  rw [hw2]
  exact ⟨j + 1, hnext (hgo (.inl (by rw [hon]; exact h))), Shift.reset ⟨rfl, rfl, rfl, rfl, rfl, trivial⟩ trivial rfl rfl, by omega⟩
def R_rturn : RT := fun args k => ∃ (f : Fr) (m : Int), args = [.agg (frC f), I m] ∧ ckT f.t = 0 ∧ k (.tup [I (turnT f.t m).1, Bo (turnT f.t m).2])
theorem rturn_ok : FunR Try.prog 22 R_rturn := by
  intro args k h
  obtain ⟨f, m, rfl, hck, hk⟩ := h
  have ht := ckT_ok' hck
  have htl := ht.l
  have hti := ht.i
  have htr := ht.r
  have hml := eL_len f.t.lv
  have hmi := eL_len f.t.inf
  have hmr := eW_len f.t.rel
  refine does_ex (qc := qc1) (np := []) (CK := ckK [(39, cSc R_whole)]) mixed Try.func22 rfl rfl Try.ntmps22 Try.results22 τ_ok (by kernel_rfl) (ckK_ok ⟨cSc_ok whole_ok, trivial⟩) (by simp) ?_
  conv => whnf
  refine Fork.mk (fun g1 => ?_) (fun g1 => ?_)
  · conv => whnf
    (repeat (refine fork_t ?_; (conv => whnf)))
    exact kIB hk (by rw [turnT, if_pos (by simp [inB] at g1 ⊢; omega)])
  conv => whnf
  refine Fork.mk (fun g2 => ?_) (fun g2 => ?_)
  · conv => whnf
    exact kIB hk (by rw [turnT, if_pos (by simp [inB] at g1 g2 ⊢; omega)])
  have hmm : 0 ≤ m ∧ m ≤ 1073741824 := by simp at g1 g2; omega
  clear g1 g2
  have e1 : turnT f.t m = tuGo f.t.inf m f.t.lv f.t.rel := by rw [turnT, if_neg (by simp [inB, hmm]), if_neg (by simp [hck])]
  conv => whnf
  refine ⟨Nat, fun i => ([(1, I m), (2, .c (.ptr (.l 2 0) 0)), (16, .c (.lst (eL f.t.lv))), (17, I (eL f.t.lv).length), (18, I i)], ⟨[(.l 2 0, .blk (frC f))], 9, []⟩),
    fun i => i ≤ f.t.lv.length ∧ tuGo f.t.inf m f.t.lv f.t.rel = tuGo f.t.inf m (f.t.lv.drop i) (f.t.rel.drop i), fun i => f.t.lv.length - i, 0, ⟨Nat.zero_le _, rfl⟩, Shift.reset ⟨rfl, rfl, rfl, rfl, rfl, trivial⟩ ⟨rfl, trivial⟩ rfl rfl, fun i hi => ?_⟩
  obtain ⟨hi1, hi2⟩ := hi
  dsimp only
  conv => whnf
  refine Fork.mk (fun h => ?_) (fun h => ?_)
  rotate_left
  · have hie : i = f.t.lv.length := by simp at h; omega
    rw [hie, List.drop_length] at hi2
    conv => whnf
    exact kIB hk (by rw [e1, hi2]; rfl)
  have hi : i < f.t.lv.length := by simp at h; omega
  clear h
  have hci := List.getElem?_eq_getElem hi
  have hdi := List.getElem?_eq_getElem (show i < f.t.rel.length by omega)
  have hrn := ht.w _ (List.mem_of_getElem? hdi)
  generalize f.t.lv[i] = v at hci
  generalize f.t.rel[i] = r at hdi hrn
  rw [drop_of hci, drop_of hdi, tuGo] at hi2
  have hw1 := wr_succ (i := i) (by omega)
  conv => whnf
  refine ⟨by omega, eI v, by rw [Int.toNat_natCast, List.getElem?_map, hci]; rfl, rfl, ?_⟩
  conv => whnf
  refine ⟨by omega, rwC r, by rw [Int.toNat_natCast, List.getElem?_map, hdi]; rfl, rfl, ?_⟩
  conv => whnf
  refine ⟨f.t.inf, r, m, rfl, by omega, by omega, ht.ib, ?_⟩
  conv => whnf
  refine Fork.mk (fun h => ?_) (fun h => ?_)
  · rw [if_pos h] at hi2
    conv => whnf
    exact kIB hk (by rw [e1, hi2])
  rw [if_neg (by simp [h])] at hi2
  conv => whnf
  rw [hw1]
  exact ⟨i + 1, ⟨hi, hi2⟩, Shift.reset ⟨rfl, rfl, rfl, rfl, rfl, trivial⟩ ⟨rfl, trivial⟩ rfl rfl, by omega⟩
def fckE (f : Fr) (r : Rs) : Int := if ckS r ≠ 0 then ckS r else if ckT f.t ≠ 0 then ckT f.t else if f.en < 0 ∨ f.bg ≤ f.en ∨ r.sur < f.bg then 4 else if f.cm < 1 ∨ 96 < f.cm then 1 else 0
def R_fck : RT := fun args k => ∃ (f : Fr) (r : Rs), args = [.agg (frC f), .agg (rsC r)] ∧ f.t.fin ∧ r.st.length ≤ 9223372036854775807 ∧ k (I (fckE f r))
theorem fck_ok : FunR Try.prog 15 R_fck := by
  intro args k h
  obtain ⟨f, r, rfl, hf, hr, hk⟩ := h
  refine does_ex (qc := qc1) (np := []) (CK := ckK [(33, cSc (R_rs ckS)), (34, cSc R_ckT)]) mixed Try.func15 rfl rfl Try.ntmps15 Try.results15 τ_ok (by kernel_rfl) (ckK_ok ⟨cSc_ok ckS_ok', cSc_ok ckT_ok, trivial⟩) (by simp) ?_
  conv => whnf
  refine ⟨r.st, rfl, hr, ?_⟩
  conv => whnf
  refine Fork.mk (fun h => ?_) (fun h => ?_)
  · have h1 : ckS r ≠ 0 := by simpa using h
    conv => whnf
    exact kI hk (by rw [fckE, if_pos h1])
  have h1 : ckS r = 0 := by simpa using h
  clear h
  conv => whnf
  refine ⟨f.t, rfl, hf, ?_⟩
  conv => whnf
  refine Fork.mk (fun h => ?_) (fun h => ?_)
  · have h2 : ckT f.t ≠ 0 := by simpa using h
    conv => whnf
    exact kI hk (by rw [fckE, if_neg (by simp [h1]), if_pos h2])
  have h2 : ckT f.t = 0 := by simpa using h
  clear h
  have b1 : (f.en < 0 ∨ f.bg ≤ f.en ∨ r.sur < f.bg) → k (I 4) := fun e => kI hk (by rw [fckE, if_neg (by simp [h1]), if_neg (by simp [h2]), if_pos e])
  have b2 : ¬ (f.en < 0 ∨ f.bg ≤ f.en ∨ r.sur < f.bg) → (f.cm < 1 ∨ 96 < f.cm) → k (I 1) := fun e e' => kI hk (by rw [fckE, if_neg (by simp [h1]), if_neg (by simp [h2]), if_neg e, if_pos e'])
  conv => whnf
  refine Fork.mk (fun g1 => ?_) (fun g1 => ?_)
  · conv => whnf
    (repeat (refine fork_t ?_; (conv => whnf)))
    exact b1 (by simp at g1; omega)
  conv => whnf
  refine Fork.mk (fun g2 => ?_) (fun g2 => ?_)
  · conv => whnf
    (repeat (refine fork_t ?_; (conv => whnf)))
    exact b1 (by simp at g2; omega)
  conv => whnf
  refine Fork.mk (fun g3 => ?_) (fun g3 => ?_)
  · conv => whnf
    exact b1 (by simp at g3; omega)
  conv => whnf
  have hn : ¬ (f.en < 0 ∨ f.bg ≤ f.en ∨ r.sur < f.bg) := by simp at g1 g2 g3; omega
  refine Fork.mk (fun g4 => ?_) (fun g4 => ?_)
  · conv => whnf
    (repeat (refine fork_t ?_; (conv => whnf)))
    exact b2 hn (by simp at g4; omega)
  conv => whnf
  refine Fork.mk (fun g5 => ?_) (fun g5 => ?_)
  · conv => whnf
    exact b2 hn (by simp at g5; omega)
  conv => whnf
  exact kI hk (by rw [fckE, if_neg (by simp [h1]), if_neg (by simp [h2]), if_neg hn, if_neg (by simp at g4 g5; omega)])
theorem rfck_ok : FunR Try.prog 16 R_fck := by
  intro args k h
  obtain ⟨f, r, rfl, hf, hr, hk⟩ := h
  refine does_ex (qc := qc1) (np := []) (CK := ckK [(35, cSc (R_rs ckS)), (36, cSc R_ckT)]) mixed Try.func16 rfl rfl Try.ntmps16 Try.results16 τ_ok (by kernel_rfl) (ckK_ok ⟨cSc_ok rckS_ok, cSc_ok rckT_ok, trivial⟩) (by simp) ?_
  conv => whnf
  refine ⟨r.st, rfl, hr, ?_⟩
  conv => whnf
  refine Fork.mk (fun h => ?_) (fun h => ?_)
  · have h1 : ckS r ≠ 0 := by simpa using h
    conv => whnf
    exact kI hk (by rw [fckE, if_pos h1])
  have h1 : ckS r = 0 := by simpa using h
  clear h
  conv => whnf
  refine ⟨f.t, rfl, hf, ?_⟩
  conv => whnf
  refine Fork.mk (fun h => ?_) (fun h => ?_)
  · have h2 : ckT f.t ≠ 0 := by simpa using h
    conv => whnf
    exact kI hk (by rw [fckE, if_neg (by simp [h1]), if_pos h2])
  have h2 : ckT f.t = 0 := by simpa using h
  clear h
  have b1 : (f.en < 0 ∨ f.bg ≤ f.en ∨ r.sur < f.bg) → k (I 4) := fun e => kI hk (by rw [fckE, if_neg (by simp [h1]), if_neg (by simp [h2]), if_pos e])
  have b2 : ¬ (f.en < 0 ∨ f.bg ≤ f.en ∨ r.sur < f.bg) → (f.cm < 1 ∨ 96 < f.cm) → k (I 1) := fun e e' => kI hk (by rw [fckE, if_neg (by simp [h1]), if_neg (by simp [h2]), if_neg e, if_pos e'])
  conv => whnf
  refine Fork.mk (fun g1 => ?_) (fun g1 => ?_)
  · conv => whnf
    (repeat (refine fork_t ?_; (conv => whnf)))
    exact b1 (by simp at g1; omega)
  conv => whnf
  refine Fork.mk (fun g2 => ?_) (fun g2 => ?_)
  · conv => whnf
    (repeat (refine fork_t ?_; (conv => whnf)))
    exact b1 (by simp at g2; omega)
  conv => whnf
  refine Fork.mk (fun g3 => ?_) (fun g3 => ?_)
  · conv => whnf
    exact b1 (by simp at g3; omega)
  conv => whnf
  have hn : ¬ (f.en < 0 ∨ f.bg ≤ f.en ∨ r.sur < f.bg) := by simp at g1 g2 g3; omega
  refine Fork.mk (fun g4 => ?_) (fun g4 => ?_)
  · conv => whnf
    (repeat (refine fork_t ?_; (conv => whnf)))
    exact b2 hn (by simp at g4; omega)
  conv => whnf
  refine Fork.mk (fun g5 => ?_) (fun g5 => ?_)
  · conv => whnf
    exact b2 hn (by simp at g5; omega)
  conv => whnf
  exact kI hk (by rw [fckE, if_neg (by simp [h1]), if_neg (by simp [h2]), if_neg hn, if_neg (by simp at g4 g5; omega)])
end Go.Proofs
