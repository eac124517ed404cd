/- Proved here: what functions of the given program come to, and the plain laws of it; no condition but those in the theorems. -/
import Derived.Test.YtknjncmgohjpkaaY25
import Derived.Test.YtknjncmgohjpkaaA25e
/- Flood operation: from the level on at which everything is released, a volume does not rise. No program. -/
namespace Go.Proofs
open Go Go.Abs
set_option linter.unusedSimpArgs false
set_option linter.unusedVariables false
theorem cut_ex {x : Int} : ∀ {l : Ls}, l.Pairwise (· < ·) → ∃ j, isCut l x j
  | [], _ => ⟨0, Nat.le_refl _, fun k y h => by omega, fun k y _ h => by simp at h⟩
  | z :: l, hp => by
    rw [List.pairwise_cons] at hp
    by_cases hz : z ≤ x
    · obtain ⟨j, n, a, b⟩ := cut_ex (x := x) hp.2
      refine ⟨j + 1, by simp; exact n, fun k y hk h => ?_, fun k y hk h => ?_⟩
      · cases k with
        | zero => simp at h; omega
        | succ k => exact a k y (by omega) (by simpa using h)
      · cases k with
        | zero => omega
        | succ k => exact b k y (by omega) (by simpa using h)
    · refine ⟨0, Nat.zero_le _, fun k y h => by omega, fun k y _ h => ?_⟩
      cases k with
      | zero => simp at h; omega
      | succ k =>
        have := hp.1 y (List.mem_of_getElem? (by simpa using h))
        omega
theorem lstI_cut {l : Ls} {x : Int} (hp : l.Pairwise (· < ·)) : ∃ j, isCut l x j ∧ lstI l x = j - 1 := by
  obtain ⟨j, h⟩ := cut_ex (x := x) hp
  refine ⟨j, h, ?_⟩
  unfold lstI
  rw [lgo_cut h.n h.a h.b]
  split <;> omega
/-- The index is not below that of a value which is not above. -/
theorem lstI_ge {l : Ls} {x y : Int} {k : Nat} (hp : l.Pairwise (· < ·)) (hk : l[k]? = some y) (hy : y ≤ x) : k ≤ lstI l x := by
  obtain ⟨j, h, e⟩ := lstI_cut (x := x) hp
  have : k < j := by
    rcases Nat.lt_or_ge k j with h1 | h1
    · exact h1
    · have := h.b k y h1 hk; omega
  omega
theorem lstI_next {l : Ls} {x y : Int} (hp : l.Pairwise (· < ·)) (hk : l[lstI l x + 1]? = some y) : x < y := by
  obtain ⟨j, h, e⟩ := lstI_cut (x := x) hp
  exact h.b _ _ (by omega) hk
theorem lstI_at {l : Ls} {x y : Int} (hp : l.Pairwise (· < ·)) (h0 : lstI l x ≠ 0) (hk : l[lstI l x]? = some y) : y ≤ x := by
  obtain ⟨j, h, e⟩ := lstI_cut (x := x) hp
  exact h.a _ _ (by omega) hk
theorem rwE_above : ∀ {l : Ls} {q : Option Int} {ab : Ls}, rwE q (some ab) l = 0 → ∀ (c : Nat) y z, ab[c]? = some y → l[c]? = some z → y ≤ z
  | [], _, _, _, c, y, z, _, hz => by simp at hz
  | x :: l, q, ab, h, c, y, z, hy, hz => by
    rw [rwE_cons] at h
    split at h
    · cases h
    split at h
    · cases h
    rename_i h2
    cases ab with
    | nil => simp at hy
    | cons w ab =>
      cases c with
      | zero =>
        simp at hy hz
        simp [abF] at h2
        omega
      | succ c => exact rwE_above (ab := ab) h c y z (by simpa using hy) (by simpa using hz)
theorem rlE_above {n : Int} : ∀ {rs : List Ls} {ab : Ls}, rlE n (some ab) rs = 0 → (ab.length : Int) = n → ∀ r ∈ rs, ∀ (c : Nat) y z, ab[c]? = some y → r[c]? = some z → y ≤ z
  | [], _, _, _, r, hr => by simp at hr
  | r0 :: rs, ab, h, hn, r, hr => by
    intro c y z hy hz
    rw [rlE] at h
    split at h
    · rename_i e; exact absurd h e
    rename_i e
    have e0 : rowE r0 (some ab) n = 0 := by omega
    unfold rowE at e0
    split at e0
    · cases e0
    rename_i hl
    have h1 := rwE_above e0
    rcases List.mem_cons.1 hr with rfl | hr
    · exact h1 c y z hy hz
    · have hc : c < r0.length := by
        have := (List.getElem?_eq_some_iff.1 hy).1
        omega
      have c2 := List.getElem?_eq_getElem hc
      have a1 := h1 c y _ hy c2
      have a2 := rlE_above h (by omega) r hr c _ z c2 hz
      omega
theorem rlE_rows {n : Int} : ∀ {rs : List Ls} {ab : Option Ls}, rlE n ab rs = 0 → ∀ (i j : Nat) a b, i ≤ j → rs[i]? = some a → rs[j]? = some b → ∀ (c : Nat) y z, a[c]? = some y → b[c]? = some z → y ≤ z
  | [], _, _, i, j, a, b, _, ha, _ => by simp at ha
  | r0 :: rs, ab, h, i, j, a, b, hij, ha, hb => by
    intro c y z hy hz
    rw [rlE] at h
    split at h
    · rename_i e; exact absurd h e
    rename_i e
    have e0 : rowE r0 ab n = 0 := by omega
    unfold rowE at e0
    split at e0
    · cases e0
    rename_i hl
    cases i with
    | zero =>
      simp at ha
      subst ha
      cases j with
      | zero => simp at hb; subst hb; rw [hy] at hz; cases hz; omega
      | succ j => exact rlE_above h (by omega) b (List.mem_of_getElem? (by simpa using hb)) c y z hy hz
    | succ i =>
      cases j with
      | zero => omega
      | succ j => exact rlE_rows h i j a b (by omega) (by simpa using ha) (by simpa using hb) c y z hy hz
theorem tuGo_at {inf : Ls} {M v : Int} : ∀ {lv : Ls} {rs : List Ls}, tuGo inf M lv rs = (v, true) → ∃ (k : Nat) (r : Ls), lv[k]? = some v ∧ rs[k]? = some r ∧ whGo inf M 0 r = true
  | [], _, h => by simp [tuGo] at h
  | _ :: _, [], h => by simp [tuGo] at h
  | x :: lv, r :: rs, h => by
    rw [tuGo] at h
    split at h
    · rename_i e
      cases h
      exact ⟨0, r, rfl, rfl, e⟩
    · obtain ⟨k, r', h1, h2, h3⟩ := tuGo_at h
      exact ⟨k + 1, r', by simpa using h1, by simpa using h2, h3⟩
theorem whGo_at {inf : Ls} {M : Int} : ∀ {r : Ls} {k : Nat}, whGo inf M k r = true → ∀ (c : Nat) y, r[c]? = some y → onK inf M (k + c) = true → grt inf M (k + c) ≤ y
  | [], _, _, c, y, h, _ => by simp at h
  | x :: r, k, h, c, y, hy, ho => by
    rw [whGo, Bool.and_eq_true] at h
    cases c with
    | zero =>
      simp at hy
      subst hy
      have h1 := h.1
      rw [Nat.add_zero] at ho ⊢
      rw [ho] at h1
      simpa using h1
    | succ c =>
      have := whGo_at h.2 c y (by simpa using hy) (by rw [show k + 1 + c = k + (c + 1) by omega]; exact ho)
      rwa [show k + 1 + c = k + (c + 1) by omega] at this
/-- From the level of Turn on, all that comes is released. -/
theorem atT_turn {t : Ft} {M turn h x : Int} (ht : turnT t M = (turn, true)) (hh : turn ≤ h) (hx : 0 ≤ x ∧ x ≤ M) : ckT t = 0 ∧ x ≤ atT t h x ∧ M ≤ 1073741824 := by
  unfold turnT at ht
  split at ht
  · cases ht
  rename_i hM
  split at ht
  · cases ht
  rename_i hc
  have hc : ckT t = 0 := by omega
  simp [inB] at hM
  refine ⟨hc, ?_, hM.2⟩
  have ok := ckT_ok' hc
  obtain ⟨k, r, h1, h2, h3⟩ := tuGo_at ht
  obtain ⟨R, e1, e2⟩ := atT_at ok h x
  have hk := lstI_ge ok.lp h1 hh
  have hl : lstI t.inf x < r.length := by
    rw [ok.w r (List.mem_of_getElem? h2)]
    exact lstI_lt ok.i.1
  have c1 := List.getElem?_eq_getElem hl
  have hm : r[lstI t.inf x] ≤ atT t h x := by
    have hr : rlE t.inf.length none t.rel = 0 := by
      have := hc
      unfold ckT at this
      split at this
      · omega
      split at this
      · omega
      split at this
      · omega
      split at this
      · omega
      split at this
      · omega
      exact this
    exact rlE_rows hr k _ r R hk h2 e1 _ _ _ c1 e2
  have hon : onK t.inf M (0 + lstI t.inf x) = true := by
    rw [Nat.zero_add]
    cases e : lstI t.inf x with
    | zero => rfl
    | succ c =>
      have hlt : lstI t.inf x < t.inf.length := lstI_lt ok.i.1
      obtain ⟨z, c2⟩ : ∃ z, t.inf[lstI t.inf x]? = some z := ⟨_, List.getElem?_eq_getElem hlt⟩
      have := lstI_at ok.ip (by omega) c2
      rw [e] at c2
      rw [onK, c2]
      simp
      omega
  have hg := whGo_at h3 _ _ c1 hon
  rw [Nat.zero_add] at hg
  have : x ≤ grt t.inf M (lstI t.inf x) := by
    unfold grt
    cases e : t.inf[lstI t.inf x + 1]? with
    | none => exact hx.2
    | some y =>
      have := lstI_next ok.ip e
      dsimp only
      split <;> omega
  omega
/-- One step does not lead beyond the bound. -/
theorem volN_le {f : Fr} {r : Rs} {s : Fs} {v x M turn C : Int} (hr : ckS r = 0) (ht : turnT f.t M = (turn, true)) (hx : 0 ≤ x ∧ x ≤ M) (hv : 0 ≤ v ∧ v ≤ 274877906944) (hvC : v ≤ C)
    (hl1 : (r.st.headD (0, 0)).1 ≤ (if turn < f.bg then f.bg else turn)) (hl2 : (if turn < f.bg then f.bg else turn) ≤ (lastP r.st).1) (h0 : 0 ≤ (r.st.headD (0, 0)).1)
    (hC : (volS r (if turn < f.bg then f.bg else turn)).1 - 1 + M ≤ C) : volN f r s v x ≤ C := by
  obtain ⟨k1, k2, k3, k4, k5⟩ := ckS_ok hr
  have hin := hgt_in k1 k4 v
  have hlev := levS_of hr hv
  rw [volS_of hr (by omega)] at hC
  dsimp only at hC
  have hb1 : f.bg ≤ (if turn < f.bg then f.bg else turn) ∧ turn ≤ (if turn < f.bg then f.bg else turn) := by split <;> omega
  generalize (if turn < f.bg then f.bg else turn) = level at hl1 hl2 hC hb1
  have ho := outS_b (f := f) (r := r) (s := s) hv.1 hx.1
  by_cases hc : level ≤ hgt r.st v
  · obtain ⟨hck, hat, hM⟩ := atT_turn (h := hgt r.st v) ht (by omega) hx
    have hon : (stS f r s v) = ⟨true, 0⟩ := by
      unfold stS
      rw [hlev]
      dsimp only
      unfold nextF
      rw [if_pos (by omega)]
    have hrel : (relF f (stS f r s v) (levS r v).1 x).1 = atT f.t (hgt r.st v) x := by
      rw [hon, hlev]
      unfold relF
      rw [if_neg (by simp)]
      dsimp only
      unfold relT
      rw [if_neg (by omega), if_neg (by simp [inB]; omega)]
    have : x ≤ outS f r s v x := by
      unfold outS
      rw [hrel]
      split <;> omega
    unfold volN
    omega
  · have hlt : v < valC r.st level := by
      by_cases h1 : (r.st.headD (0, 0)).2 ≤ v
      · have := (hgt_gal k1 k4 h1 hl1 hl2)
        omega
      · have := valC_lo k1 level
        omega
    unfold volN
    omega
theorem runG_le {f : Fr} {r : Rs} {M turn C : Int} (hr : ckS r = 0) (ht : turnT f.t M = (turn, true)) 
    (hl1 : (r.st.headD (0, 0)).1 ≤ (if turn < f.bg then f.bg else turn)) (hl2 : (if turn < f.bg then f.bg else turn) ≤ (lastP r.st).1) (h0 : 0 ≤ (r.st.headD (0, 0)).1)
    (hC : (volS r (if turn < f.bg then f.bg else turn)).1 - 1 + M ≤ C) : ∀ {l : Ls} {s : Fs} {v : Int} {vs os : Ls} {e : Fs}, runG f r s v l = some (vs, os, e) → (0 ≤ v ∧ v ≤ 274877906944) → v ≤ C → (∀ x ∈ l, 0 ≤ x ∧ x ≤ M) →
      (∀ w ∈ v :: vs, w ≤ C ∧ 0 ≤ w ∧ w ≤ 274877906944) ∧ ∀ (i : Nat) w, vs[i]? = some w → ∃ p x q, (v :: vs)[i]? = some p ∧ l[i]? = some x ∧ os[i]? = some q ∧ w = p + (x - q) ∧ (0 ≤ p ∧ p ≤ 274877906944) ∧ (0 ≤ x ∧ x ≤ M) ∧ 0 ≤ q ∧ q ≤ 1073741824
  | [], s, v, vs, os, e, h, hv, hvC, _ => by
    simp [runG] at h
    obtain ⟨rfl, rfl, _⟩ := h
    exact ⟨fun w hw => by simp at hw; omega, fun i w h => by simp at h⟩
  | x :: l, s, v, vs, os, e, h, hv, hvC, hx => by
    rw [runG] at h
    split at h
    · cases h
    rename_i h5
    split at h
    · cases h
    rename_i vs' os' e' h1
    simp at h
    obtain ⟨rfl, rfl, _⟩ := h
    have hx0 := hx x (by simp)
    have ho := outS_b (f := f) (r := r) (s := s) hv.1 hx0.1
    have hn : 0 ≤ volN f r s v x := by unfold volN; omega
    have hle := volN_le (s := s) (C := C) hr ht hx0 hv hvC hl1 hl2 h0 hC
    obtain ⟨q1, q2⟩ := runG_le hr ht hl1 hl2 h0 hC h1 ⟨hn, by omega⟩ hle (fun y hy => hx y (by simp [hy]))
    refine ⟨fun w hw => ?_, fun i w hw => ?_⟩
    · rcases List.mem_cons.1 hw with rfl | hw
      · exact ⟨hvC, hv⟩
      · exact q1 w hw
    · cases i with
      | zero =>
        simp at hw
        subst hw
        exact ⟨v, x, _, rfl, rfl, rfl, rfl, hv, hx0, ho.1, ho.2.2⟩
      | succ i => exact q2 i w (by simpa using hw)
end Go.Proofs

namespace Go.Proofs
open Go Go.Abs
set_option linter.unusedSimpArgs false
set_option linter.unusedVariables false
set_option maxRecDepth 20000
def R_bounds : RT := fun args k => ∃ l : Ls, args = [.c (.lst (eL l))] ∧ l.length ≤ 9223372036854775807 ∧ k (Bo true)
set_option maxHeartbeats 2000000 in
theorem bounds_ok : FunR Try.prog 5 R_bounds := by
  intro args k h
  obtain ⟨l, rfl, hl, hk⟩ := h
  refine does_ex (qc := qc1) (np := []) (CK := ckK [(8, cSc R_tt), (9, cSc R_few), (10, cN R_new), (12, cB R_resv), (11, cB R_mkF), (23, cB R_next), (24, cB R_flw), (21, cSc R_turnT), (25, cSc (R_rs1 volS)), (26, cPu R_run)]) mixed Try.func5 rfl rfl Try.ntmps5 Try.results5 τ_ok (by kernel_rfl) (ckK_ok ⟨cSc_ok sane_ok, cSc_ok few_ok, cN_ok new_ok rfl, cB_ok resv_ok rfl, cB_ok rule_ok rfl, cB_ok next_ok rfl, cB_ok flows_ok rfl, cSc_ok turn_ok, cSc_ok rvolS_ok, cPu_ok run_ok rfl, trivial⟩) (by simp) ?_
  conv => whnf
  refine ⟨rfl, ?_⟩
  conv => whnf
  refine fork_f ?_
  conv => whnf
  refine ⟨l, rfl, ?_⟩
  conv => whnf
  refine Fork.mk (fun h => ?_) (fun h => ?_)
  · conv => whnf
    repeat' ((first | refine fork_t ?_ | refine fork_f ?_ | (refine Fork.mk (fun h => ?_) (fun h => ?_); focus (simp at h; done)) | fail) <;> (conv => whnf))
    exact hk
  clear h
  conv => whnf
  refine ⟨l, rfl, ?_⟩
  conv => whnf
  refine ⟨⟨l, 0⟩, rfl, ⟨Nat.zero_le _, hl⟩, fun res d hd hres hresl => ?_⟩
  have hrl := hres.lv
  have hrh := hres.hi
  have hrz := hres.lo
  conv => whnf
  refine ⟨d, res, rfl, rfl, hd, by omega, fun f d hd hf => ?_⟩
  have hfb := hf.b
  have hfe := hf.e
  have hfc := hf.c
  have hff := hf.t.fin
  have hr2 : res.st.length ≤ 9223372036854775807 := by omega
  conv => whnf
  refine ⟨d, rfl, hd, by omega, fun M d hd hM1 hM2 => ?_⟩
  conv => whnf
  refine ⟨d, rfl, hd, by omega, fun n d hd hn1 hn2 => ?_⟩
  obtain ⟨N, rfl⟩ := Int.eq_ofNat_of_zero_le hn1
  have e1 : IntKind.i64.wrap (M + 1) = M + 1 := wrap_in (by omega) (by omega)
  conv => whnf
  rw [e1]
  refine ⟨d, N, M + 1, rfl, rfl, hd, by omega, by omega, fun made d hd hml hmb => ?_⟩
  conv => whnf
  refine ⟨d, rfl, hd, by omega, fun v d hd hv1 hv2 => ?_⟩
  conv => whnf
  refine ⟨f, M, rfl, hff, ?_⟩
  obtain ⟨turn, ok, hT⟩ : ∃ turn ok, turnT f.t M = (turn, ok) := ⟨_, _, rfl⟩
  rw [hT]
  dsimp only
  generalize hlev : (if turn < f.bg then f.bg else turn) = level
  have hck := hres.ck
  obtain ⟨k1, k2, k3, k4, k5⟩ := ckS_ok hck
  obtain ⟨c, hc⟩ : ∃ c : List Pt, c = res.st := ⟨_, rfl⟩
  have hne : res.st ≠ [] := by intro e; rw [e] at k2; simp at k2
  have p1 := head_at hne
  have p2 := lastP_at hne
  have hepl := eP_len res.st
  have e4 : IntKind.i64.wrap (((eP res.st).length : Int) - 1) = ((res.st.length - 1 : Nat) : Int) := by rw [hepl, wrap_in (by omega) (by omega)]; omega
  conv => whnf
  rw [hlev]
  cases ok with
  | false =>
    refine fork_t ?_
    conv => whnf
    repeat' ((first | refine fork_t ?_ | refine fork_f ?_ | (refine Fork.mk (fun h => ?_) (fun h => ?_); focus (simp at h; done)) | fail) <;> (conv => whnf))
    exact hk
  | true =>
  refine fork_f ?_
  conv => whnf
  rw [e4]
  refine ⟨by omega, ePt (lastP res.st), by rw [Int.toNat_natCast, List.getElem?_map, p2]; rfl, rfl, ?_⟩
  conv => whnf
  refine Fork.mk (fun h => ?_) (fun h => ?_)
  · conv => whnf
    repeat' ((first | refine fork_t ?_ | refine fork_f ?_ | (refine Fork.mk (fun h => ?_) (fun h => ?_); focus (simp at h; done)) | fail) <;> (conv => whnf))
    exact hk
  have hl2 : level ≤ (lastP res.st).1 := by simp at h; omega
  clear h
  conv => whnf
  refine ⟨by omega, ePt (res.st.headD (0, 0)), by rw [List.getElem?_map]; exact congrArg _ p1, rfl, ?_⟩
  conv => whnf
  refine Fork.mk (fun h => ?_) (fun h => ?_)
  · conv => whnf
    repeat' ((first | refine fork_t ?_ | refine fork_f ?_ | (refine Fork.mk (fun h => ?_) (fun h => ?_); focus (simp at h; done)) | fail) <;> (conv => whnf))
    exact hk
  have hl1 : (res.st.headD (0, 0)).1 ≤ level := by
    have h9 : ¬ level < (res.st.headD (0, 0)).1 := of_decide_eq_false h
    omega
  clear h
  conv => whnf
  refine ⟨res.st, rfl, hr2, ?_⟩
  have hss : soundF f ⟨false, 0⟩ = true := by simp [soundF]; omega
  obtain ⟨vs, os, e, hG⟩ := runG_some (f := f) (r := res) (B := 13) (s := ⟨false, 0⟩) (l := made) (v := v) (by omega) (fun x hx => by have := hmb x hx; omega) (by omega)
  obtain ⟨n1, n2⟩ := runG_len hG
  have hrun := runR_of (mk_fck hf hck) hss (show 0 ≤ v ∧ v ≤ 274877906944 by omega) (fun x hx => by have := hmb x hx; omega) (by omega) hG
  obtain ⟨B, hB⟩ : ∃ B, volS ⟨res.st, res.dead, res.low, res.full, res.sur, res.crest⟩ level = B := ⟨_, rfl⟩
  have hBb : 0 ≤ B.1 ∧ B.1 ≤ 274877906944 := by
    have h1 := volS_of hck (x := level) (by omega)
    have h2 := valC_in k1 level
    have h3 : volS res level = B := hB
    rw [h1] at h3
    rw [← h3]
    exact h2
  obtain ⟨C, hC⟩ : ∃ C, C = (if v < B.1 - 1 + M then B.1 - 1 + M else v) := ⟨_, rfl⟩
  have hCb : v ≤ C ∧ B.1 - 1 + M ≤ C := by rw [hC]; split <;> omega
  obtain ⟨hLe, hStep⟩ := runG_le (C := C) (M := M) (turn := turn) hck hT (by rw [hlev]; exact hl1) (by rw [hlev]; exact hl2) (by omega) (by rw [hlev, show volS res level = B from hB]; exact hCb.2) hG (by omega) hCb.1 (fun x hx => by have := hmb x hx; omega)
  conv => whnf
  rw [hB]
  refine ⟨f, res, ⟨false, 0⟩, v, made, rfl, hff, hr2, by omega, ?_⟩
  rw [hrun]
  have hm0 := eL_len (v :: vs)
  have hm1 := eL_len os
  have hm2 := eL_len made
  rw [List.length_cons] at hm0
  have e5 : IntKind.i64.wrap (((eL made).length : Int) + 1) = ((made.length + 1 : Nat) : Int) := by rw [hm2, wrap_in (by omega) (by omega)]; omega
  conv => whnf
  repeat' ((first | refine fork_t ?_ | refine fork_f ?_ | (refine Fork.mk (fun h => ?_) (fun h => ?_); focus (simp at h; done)) | fail) <;> (conv => whnf))
  dsimp only
  rw [hm0, e5, n1, decide_eq_true rfl]
  refine fork_f ?_
  conv => whnf
  rw [hm1, hm2, n2, decide_eq_true rfl]
  refine fork_f ?_
  conv => whnf
  refine ⟨Nat, fun i => ([(6, I M), (7, .c (.lst (eL made))), (8, I v), (12, I B.1), (14, .c (.lst (eL (v :: vs)))), (15, .c (.lst (eL os))), (110, .c (.lst (eL (v :: vs)))), (111, I (eL (v :: vs)).length), (112, I i)], ⟨[], 20, []⟩),
    fun i => i ≤ made.length + 1, fun i => made.length + 1 - i, 0, Nat.zero_le _, Shift.reset ⟨rfl, rfl, rfl, rfl, rfl, rfl, rfl, rfl, rfl, trivial⟩ trivial rfl rfl, fun i hi => ?_⟩
  dsimp only
  conv => whnf
  rw [hm0, n1]
  refine Fork.mk (fun h => ?_) (fun h => ?_)
  rotate_left
  · conv => whnf
    exact hk
  have hi2 : i < made.length + 1 := by simp at h; omega
  clear h
  obtain ⟨w, hw⟩ : ∃ w, (v :: vs)[i]? = some w := ⟨_, List.getElem?_eq_getElem (by simp; omega)⟩
  have hwb := hLe w (List.mem_of_getElem? hw)
  have hw1 := wr_succ (i := i) (by omega)
  conv => whnf
  refine ⟨by omega, eI w, by rw [Int.toNat_natCast, List.getElem?_map, hw]; rfl, rfl, ?_⟩
  have e6 : IntKind.i64.wrap (B.1 - 1) = B.1 - 1 := wrap_in (by omega) (by omega)
  have e7 : IntKind.i64.wrap (B.1 - 1 + M) = B.1 - 1 + M := wrap_in (by omega) (by omega)
  conv => whnf
  rw [e6, e7, ← hC, decide_eq_false (show ¬ C < w by omega)]
  refine fork_f ?_
  conv => whnf
  refine Fork.mk (fun h => ?_) (fun h => ?_)
  rotate_left
  · conv => whnf
    repeat' ((first | refine fork_t ?_ | refine fork_f ?_ | (refine Fork.mk (fun h => ?_) (fun h => ?_); focus (simp at h; done)) | fail) <;> (conv => whnf))
    rw [hw1]
    exact ⟨i + 1, by omega, Shift.reset ⟨rfl, rfl, rfl, rfl, rfl, rfl, rfl, rfl, rfl, trivial⟩ trivial rfl rfl, by omega⟩
  have hi0 : 0 < i := by simp at h; omega
  clear h
  have e8 : IntKind.i64.wrap ((i : Int) - 1) = ((i - 1 : Nat) : Int) := by rw [wrap_in (by omega) (by omega)]; omega
  have hwj : vs[i - 1]? = some w := by
    obtain ⟨j, rfl⟩ : ∃ j, i = j + 1 := ⟨i - 1, by omega⟩
    simpa using hw
  obtain ⟨p, x, q, s1, s2, s3, s4, s5, s6, s7, s8⟩ := hStep (i - 1) w hwj
  have e9 : IntKind.i64.wrap (p + x) = p + x := wrap_in (by omega) (by omega)
  have e10 : IntKind.i64.wrap (p + x - q) = w := by rw [wrap_in (by omega) (by omega)]; omega
  conv => whnf
  rw [e8]
  refine ⟨by omega, eI p, by rw [Int.toNat_natCast, List.getElem?_map, s1]; rfl, rfl, ?_⟩
  conv => whnf
  rw [e8]
  refine ⟨by omega, eI x, by rw [Int.toNat_natCast, List.getElem?_map, s2]; rfl, rfl, ?_⟩
  conv => whnf
  rw [e8]
  refine ⟨by omega, eI q, by rw [Int.toNat_natCast, List.getElem?_map, s3]; rfl, rfl, ?_⟩
  conv => whnf
  rw [e9, e10, decide_eq_true (show w = w from rfl)]
  refine fork_f ?_
  conv => whnf
  repeat' ((first | refine fork_t ?_ | refine fork_f ?_ | (refine Fork.mk (fun h => ?_) (fun h => ?_); focus (simp at h; done)) | fail) <;> (conv => whnf))
  rw [hw1]
  exact ⟨i + 1, by omega, Shift.reset ⟨rfl, rfl, rfl, rfl, rfl, rfl, rfl, rfl, rfl, trivial⟩ trivial rfl rfl, by omega⟩
end Go.Proofs
