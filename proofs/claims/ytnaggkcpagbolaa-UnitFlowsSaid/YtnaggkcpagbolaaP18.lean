/- Proved here: what functions of the given program come to, for the statements of this chapter; no condition but those in the theorems. -/
import Derived.Test.YtnaggkcpagbolaaL18
namespace Go.Proofs
open Go Go.Abs
set_option linter.unusedSimpArgs false
set_option linter.unusedVariables false
set_option maxRecDepth 4000
theorem flowslaw_ok : FunR Try.prog 7 (R_law1 1) := by
  intro args k h
  unfold R_law1 at h
  split at h
  case h_2 => exact h.elim
  obtain ⟨⟨l, rfl, hl⟩, ⟨xs, rfl, hx⟩, hk⟩ := h
  obtain ⟨v0, rfl⟩ : ∃ v0, xs = [v0] := by
    match xs, hx with
    | [v0], _ => exact ⟨v0, rfl⟩
  refine does_ex (qc := qc1) (np := []) (CK := ckK [(9, cN R_new), (10, cB R_mkU), (16, cSc R_mod), (21, cPq R_flS), (30, cSc (R_unQ2 bestS)), (27, cSc (R_unQB runS)), (25, cSc (R_unQ2 powS)), (33, cSc R_at), (8, cSc R_tt)]) mixed Try.func7 rfl rfl Try.ntmps7 Try.results7 τ_ok (by kernel_rfl) (ckK_ok ⟨cN_ok new_ok rfl, cB_ok mkU_ok rfl, cSc_ok mod_ok, cPq_ok flows_ok, cSc_ok best_ok, cSc_ok Runs_ok, cSc_ok power_ok, cSc_ok rAt_ok, cSc_ok awake_ok, trivial⟩) (by simp) ?_
  conv => whnf
  refine ⟨l, rfl, ?_⟩
  conv => whnf
  refine ⟨⟨l, 0⟩, rfl, rfl, ⟨Nat.zero_le _, hl⟩, fun u d hd hu => ?_⟩
  conv => whnf
  refine ⟨by omega, ?_⟩
  conv => whnf
  have hg0 := Int.emod_nonneg v0 (show (5 : Int) ≠ 0 by omega)
  have hg1 := Int.emod_lt_of_pos v0 (show (0 : Int) < 5 by omega)
  rw [show IntKind.i64.wrap (1 + v0 % 5) = 1 + v0 % 5 from wrap_in (by omega) (by omega)]
  obtain ⟨g, hg⟩ : ∃ g, 1 + v0 % 5 = g := ⟨_, rfl⟩
  rw [hg]
  replace hg : 1 ≤ g ∧ g ≤ 5 := by omega
  clear hg0 hg1
  have hc := ckU_of hu.ok
  have hfs := flS_mk (g := g) hu (by omega) (by omega)
  have hln := flT_mk (g := g) hu
  have hcc := hu.ok.c
  have hyy := hu.ok.y
  have hmo := hu.m
  have hl1 := hu.ok.l1
  have hlm := hu.ok.lm
  refine ⟨u, g, rfl, hu.fin, ?_⟩
  rw [show (flS u g).1 = flT u g (u.mo + 1) by rw [hfs], show (flS u g).2 = 0 by rw [hfs]]
  conv => whnf
  refine ⟨u, g, rfl, hu.fin, ?_⟩
  conv => whnf
  have hm := eL_len (flT u g (u.mo + 1))
  generalize hB : bestS u g = B
  refine ⟨Int, fun q => ([(6, .c (.ptr (.l 6 1) 0)), (7, I g), (8, .c (.lst (eL (flT u g (u.mo + 1))))), (9, I 0), (10, I B.1), (11, I B.2), (12, I (flT u g q).length), (13, I q)], ⟨[(.l 6 1, .blk (unC u))], 5, []⟩),
    fun q => (0 ≤ q ∧ q ≤ u.mo + g) ∧ q % g = 0 ∧ ∀ x, u.mo < x → x < q → x % g ≠ 0, fun q => (u.mo + g + 1 - q).toNat, 0, ⟨⟨Int.le_refl _, by omega⟩, Int.zero_emod _, fun x h1 h2 => by omega⟩,
    Shift.reset ⟨rfl, rfl, rfl, rfl, rfl, rfl, by rw [flT_lo (u := u) (g := g) (x := 0) (by omega)]; rfl, rfl, trivial⟩ ⟨rfl, trivial⟩ rfl rfl, fun q hq => ?_⟩
  obtain ⟨⟨hq0, hq1⟩, hqm, hqs⟩ := hq
  have hle : (flT u g q).length ≤ 30 := by
    have := flN_len (u := u) (g := g) (n := (q - u.lo).toNat)
    unfold flT
    omega
  have skg : ∀ x, q + 1 ≤ x → x < q + g → x % g ≠ 0 := fun x hx1 hx2 hm => by
    have q1 := Int.emod_nonneg (x - q) (show g ≠ 0 by omega)
    have q2 : (x - q) % g = 0 := by rw [Int.sub_emod, hm, hqm]; simp
    have q3 : (x - q) % g = x - q := Int.emod_eq_of_lt (by omega) (by omega)
    omega
  have sk : flT u g (q + g) = flT u g (q + 1) := flT_to (by omega) fun x hx1 hx2 => by simp [okQ, skg x hx1 hx2]
  dsimp only
  conv => whnf
  refine Fork.mk (fun h => ?_) (fun h => ?_)
  · have hqu : q ≤ u.mo := by simpa using h
    have hw1 : IntKind.i64.wrap (q + g) = q + g := wrap_in (by omega) (by omega)
    have next : (0 ≤ q + g ∧ q + g ≤ u.mo + g) ∧ (q + g) % g = 0 ∧ ∀ x, u.mo < x → x < q + g → x % g ≠ 0 := ⟨by omega, by rw [Int.add_emod_right]; exact hqm, fun x h1 h2 => skg x (by omega) h2⟩
    conv => whnf
    refine ⟨u, q, rfl, hu.fin, ?_⟩
    cases hr : runS u q with
    | false =>
      have hno : flT u g (q + 1) = flT u g q := by
        by_cases hql : q < u.lo
        · rw [flT_lo (by omega), flT_lo (by omega)]
        · refine flT_to (by omega) fun x hx1 hx2 => ?_
          obtain rfl : x = q := by omega
          simp [runS, hc, runB] at hr
          simp [okQ, hr (by omega) hqu]
      conv => whnf
      refine fork_t ?_
      conv => whnf
      rw [hw1]
      refine ⟨q + g, next, Shift.reset ⟨rfl, rfl, rfl, rfl, rfl, rfl, by show _ = some (I ((flT u g (q + g)).length : Int)); rw [sk, hno]; rfl, rfl, trivial⟩ ⟨rfl, trivial⟩ rfl rfl, ?_⟩
      show (u.mo + g + 1 - (q + g)).toNat < (u.mo + g + 1 - q).toNat
      omega
    | true =>
      simp only [runS, Bool.and_eq_true] at hr
      obtain ⟨hr1, hr2⟩ := runB_iff.1 hr.2
      have hok : okQ u g q = true := by simp [okQ, hqm, hr2]
      have e2 : flT u g (q + 1) = flT u g q ++ [q] := by rw [flT_one hr1.1, if_pos hok]
      obtain ⟨tt, ht⟩ := flT_pre (u := u) (g := g) (show q + 1 ≤ u.mo + 1 by omega)
      rw [e2] at ht
      have hlen : (flT u g q).length < (flT u g (u.mo + 1)).length := by rw [ht]; simp
      have hat : (flT u g (u.mo + 1))[(flT u g q).length]? = some q := by rw [ht]; simp
      have hw2 := wr_succ (i := (flT u g q).length) (by omega)
      conv => whnf
      refine fork_f ?_
      conv => whnf
      refine Fork.mk (fun h => ?_) (fun h => ?_)
      · exfalso; simp at h; omega
      conv => whnf
      refine ⟨by omega, eI q, by rw [Int.toNat_natCast, List.getElem?_map, hat]; rfl, rfl, ?_⟩
      conv => whnf
      refine Fork.mk (fun h => ?_) (fun h => ?_)
      · exfalso; simp at h
      conv => whnf
      rw [hw1, hw2]
      refine ⟨q + g, next, Shift.reset ⟨rfl, rfl, rfl, rfl, rfl, rfl, by show _ = some (I ((flT u g (q + g)).length : Int)); rw [sk, e2, List.length_append]; rfl, rfl, trivial⟩ ⟨rfl, trivial⟩ rfl rfl, ?_⟩
      show (u.mo + g + 1 - (q + g)).toNat < (u.mo + g + 1 - q).toNat
      omega
  have hqu : u.mo < q := by simpa using h
  have hend : flT u g q = flT u g (u.mo + 1) := flT_to (by omega) fun x hx1 hx2 => by simp [okQ, hqs x (by omega) hx2]
  clear h sk skg hqs hle
  rw [hend]
  clear hend
  have hmem : ∀ x ∈ flT u g (u.mo + 1), (1 ≤ x ∧ x ≤ 19) ∧ runB u x = true := fun x hx => by
    obtain ⟨h1, h2⟩ := flT_mem.1 hx
    simp [okQ] at h2
    exact ⟨by omega, runB_iff.2 ⟨by omega, h2.2⟩⟩
  have hso : (flT u g (u.mo + 1)).Pairwise (· < ·) := flN_sorted _
  have hB2 : B = match flT u g (u.mo + 1) with | [] => (0, 9) | q :: r => (bestG u.tb q r, 0) := by rw [← hB, bestS, hfs, if_neg (by simp)]; rfl
  clear hB hfs
  generalize flT u g (u.mo + 1) = L at hln hm hmem hso hB2 ⊢
  have hv : ∀ x, 0 ≤ valC u.tb x ∧ valC u.tb x ≤ 1073741824 := fun x => ⟨(valC_in hcc x).1, by have := valC_last hcc x; omega⟩
  have hpow : ∀ x ∈ L, powS u x = (valC u.tb x, 0) := fun x hx => by
    have := hmem x hx
    rw [powS, if_neg (by simp [hc]), if_neg (by omega), if_neg (by simp [this.2])]
  cases L with
  | nil =>
    subst hB2
    conv => whnf
    repeat' ((first | refine fork_t ?_ | refine fork_f ?_ | (refine Fork.mk (fun h => ?_) (fun h => ?_); focus (simp [hc] at h; done)) | (refine Fork.mk (fun h => ?_) (fun h => ?_); rotate_left; focus (simp [hc] at h; done)) | refine ⟨rfl, ?_⟩ | fail) <;> (conv => whnf))
    exact hk
  | cons q0 r =>
    obtain ⟨b, hb⟩ : ∃ b, bestG u.tb q0 r = b := ⟨_, rfl⟩
    have hB3 : B = (b, 0) := by rw [hB2, ← hb]
    subst hB3
    have hs2 := List.pairwise_cons.1 hso
    have hq0 := hmem q0 (by simp)
    have hbest := bestG_ok (tb := u.tb) (fun x => (hv x).1) (r := r) (b := q0) (fun x => x = q0) (by omega) (fun x hx => by have := hmem x (by simp [hx]); omega) rfl (fun x hx => by subst hx; omega) (fun x hx y hy => by subst hy; exact hs2.1 x hx) hs2.2 (fun x hx => by subst hx; exact ⟨Int.le_refl _, fun _ => Int.le_refl _⟩)
    rw [hb] at hbest
    obtain ⟨hb1, hb2⟩ := hbest
    have hbm : b ∈ q0 :: r := by rcases hb1 with h | h; rw [h]; simp; exact List.mem_cons_of_mem _ h
    have hbb := hmem b hbm
    have hpb := hpow b hbm
    clear hb hB2
    conv => whnf
    have hlne : ¬ (((q0 :: r).length : Int) = 0) := by simp; omega
    repeat' ((first | refine fork_t ?_ | refine fork_f ?_ | (refine Fork.mk (fun h => ?_) (fun h => ?_); focus (simp [hlne, hm] at h; done)) | (refine Fork.mk (fun h => ?_) (fun h => ?_); rotate_left; focus (simp [hlne, hm] at h; done)) | fail) <;> (conv => whnf))
    refine ⟨u, b, rfl, hu.fin, ?_⟩
    rw [show (powS u b).1 = valC u.tb b by rw [hpb], show (powS u b).2 = 0 by rw [hpb]]
    conv => whnf
    refine ⟨Nat, fun i => ([(6, .c (.ptr (.l 6 1) 0)), (10, I b), (11, I 0), (14, I (valC u.tb b)), (15, I 0), (94, .c (.lst (eL (q0 :: r)))), (95, I (eL (q0 :: r)).length), (96, I i)], ⟨[(.l 6 1, .blk (unC u))], 5, []⟩),
      fun i => i ≤ (q0 :: r).length, fun i => (q0 :: r).length - i, 0, Nat.zero_le _,
      Shift.reset ⟨rfl, rfl, rfl, rfl, rfl, rfl, rfl, rfl, trivial⟩ ⟨rfl, trivial⟩ rfl rfl, fun i hi => ?_⟩
    dsimp only
    conv => whnf
    refine Fork.mk (fun h => ?_) (fun h => ?_)
    · have hi : i < (q0 :: r).length := by simp at h ⊢; omega
      have ha := List.getElem?_eq_getElem hi
      have hxm := List.getElem_mem hi
      generalize (q0 :: r)[i] = x at ha hxm
      have hx := hmem x hxm
      have hpx := hpow x hxm
      obtain ⟨c1, c2⟩ := hb2 x (by rcases List.mem_cons.1 hxm with h | h; exact .inl h; exact .inr h)
      have m1 := mul_le (hv x) (show 0 ≤ b ∧ b ≤ 1073741824 by omega)
      have m2 := mul_le (hv b) (show 0 ≤ x ∧ x ≤ 1073741824 by omega)
      have hw1 := wr_succ (i := i) (by omega)
      conv => whnf
      refine ⟨by omega, eI x, by rw [Int.toNat_natCast, List.getElem?_map, ha]; rfl, rfl, ?_⟩
      conv => whnf
      refine ⟨u, x, rfl, hu.fin, ?_⟩
      rw [show (powS u x).1 = valC u.tb x by rw [hpx], show (powS u x).2 = 0 by rw [hpx]]
      conv => whnf
      refine ⟨u.tb, rfl, hu.fin.tb, ?_⟩
      rw [show (atV u.tb x).1 = valC u.tb x by rw [atV, if_neg (by simp [hcc])], show (atV u.tb x).2 = 0 by rw [atV, if_neg (by simp [hcc])]]
      conv => whnf
      have hw3 : IntKind.i64.wrap (valC u.tb x * b) = valC u.tb x * b := wrap_in (by omega) (by omega)
      have hw4 : IntKind.i64.wrap (valC u.tb b * x) = valC u.tb b * x := wrap_in (by omega) (by omega)
      repeat' ((first | refine fork_t ?_ | refine fork_f ?_ | (refine Fork.mk (fun h => ?_) (fun h => ?_); focus (simp [hm] at h; done)) | (refine Fork.mk (fun h => ?_) (fun h => ?_); rotate_left; focus (simp [hm] at h; done)) | fail) <;> (conv => whnf))
      rw [hw3, hw4]
      refine Fork.mk (fun h => ?_) (fun h => ?_)
      · exfalso; simp at h; omega
      conv => whnf
      rw [hw3, hw4]
      refine Fork.mk (fun h => ?_) (fun h => ?_)
      · have h1 : valC u.tb x * b = valC u.tb b * x := by simpa using h
        have h2 := c2 h1
        conv => whnf
        refine Fork.mk (fun h => ?_) (fun h => ?_)
        · exfalso; simp at h; omega
        conv => whnf
        rw [hw1]
        refine ⟨i + 1, hi, Shift.reset ⟨rfl, rfl, rfl, rfl, rfl, rfl, rfl, rfl, trivial⟩ ⟨rfl, trivial⟩ rfl rfl, ?_⟩
        show (q0 :: r).length - (i + 1) < (q0 :: r).length - i
        omega
      conv => whnf
      repeat (refine fork_f ?_; (conv => whnf))
      rw [hw1]
      refine ⟨i + 1, hi, Shift.reset ⟨rfl, rfl, rfl, rfl, rfl, rfl, rfl, rfl, trivial⟩ ⟨rfl, trivial⟩ rfl rfl, ?_⟩
      show (q0 :: r).length - (i + 1) < (q0 :: r).length - i
      omega
    conv => whnf
    repeat' ((first | refine fork_t ?_ | refine fork_f ?_ | (refine Fork.mk (fun h => ?_) (fun h => ?_); focus (simp [hc] at h; done)) | (refine Fork.mk (fun h => ?_) (fun h => ?_); rotate_left; focus (simp [hc] at h; done)) | refine ⟨rfl, ?_⟩ | fail) <;> (conv => whnf))
    exact hk
end Go.Proofs
