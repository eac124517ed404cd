/- Proved here: what functions of the given program come to, and the plain laws of it; no condition but those in the theorems. -/
import Derived.Test.YtfhnicamjcfddaaGreatDoorA9c
import Derived.Test.YtfhnicamjcfddaaGreatDoorShlf99
import Derived.Test.YtfhnicamjcfddaaGreatDoorAbsMp
namespace Go.Proofs
open Go Go.Abs
set_option linter.unusedSimpArgs false
set_option linter.unusedVariables false
set_option maxRecDepth 20000
theorem chs_ok : FunR Tryz.prog 117 R_chs := by
  intro args k h
  obtain ⟨u, z, g, rfl, hu, hz, hk0, hk⟩ := h
  refine does_ex (qc := qc1) (np := []) (CK := ckK [(137, cOr (cPq R_flS) (cA (R_flA 3))), (138, cG R_sort), (139, cG R_compact), (140, cSc (R_usQB mayV)), (67, cSc (R_unQ2 powS))]) mixed Tryz.func117 rfl rfl Tryz.ntmps117 Tryz.results117 τ_ok (by kernel_rfl) (ckK_ok ⟨cOr_ok (cPq_ok flows_ok) (cA_ok flowsA_ok rfl), cG_ok sort_ok rfl, cG_ok compact_ok rfl, cSc_ok May_ok, cSc_ok power_ok, trivial⟩) (by simp) ?_
  conv => whnf
  by_cases h0 : (flS u g).2 = 0
  rotate_left
  · refine .inl ?_
    conv => whnf
    refine ⟨u, g, rfl, hu, ?_⟩
    conv => whnf
    refine fork_t' (by simpa using h0) ?_
    conv => whnf
    exact hk0
  refine .inr ?_
  conv => whnf
  have hl2 := flS_len (u := u) (g := g)
  refine ⟨u, g, rfl, hu, h0, ?_⟩
  generalize (flS u g).1 = l at hl2 ⊢
  have hml := eL_len l
  conv => whnf
  refine fork_f' rfl ?_
  conv => whnf
  refine ⟨by simp, ?_⟩
  conv => whnf
  refine ⟨rfl, ?_⟩
  conv => whnf
  refine ⟨⟨rfl, rfl, rfl, hml.symm, by rw [hml]; simp; omega⟩, ?_⟩
  conv => whnf
  refine ⟨[.l 26 4], rfl, ?_⟩
  conv => whnf
  refine ⟨rfl, ?_⟩
  conv => whnf
  refine ⟨rfl, ?_⟩
  conv => whnf
  refine ⟨l ++ [0, z.fl], ?_, ?_, by simp, by simp; omega, ?_⟩
  · simp [hml]; rfl
  · simp [eL]; rfl
  generalize hsr : sortZ (l ++ [0, z.fl]) = sr
  have hsl : sr.length = l.length + 2 := by rw [← hsr]; simp [sortZ]
  have hsn : sr ≠ [] := by intro e; rw [e] at hsl; simp at hsl
  conv => whnf
  refine ⟨[.l 26 4], rfl, ?_⟩
  conv => whnf
  refine ⟨rfl, ?_⟩
  conv => whnf
  refine ⟨rfl, ?_⟩
  conv => whnf
  refine ⟨sr, ?_, rfl, hsn, by omega, ?_⟩
  · simp [hml, hsl]; rfl
  have hcl := compact_le sr
  have hzl : (eL (cmpZ sr)).length = sr.length := by simp [eL, cmpZ]; omega
  have hzt : ∀ (i : Nat), i < (Lib.compact sr).length → ∃ x, (Lib.compact sr)[i]? = some x ∧ (eL (cmpZ sr))[i]? = some (eI x) := fun i hi => ⟨(Lib.compact sr)[i], List.getElem?_eq_getElem hi, by simp [eL, cmpZ, List.getElem?_append, hi]⟩
  conv => whnf
  refine ⟨Nat × List Ch, fun s => ([(3, .c (.ptr (.l 3 0) 0)), (4, .c (.ptr (.l 4 1) 0)), (10, .c (.view (.l 61 5) 0 s.2.length)), (30, .c (.view (.l 26 4) 0 (Lib.compact sr).length)), (31, I (Lib.compact sr).length), (32, I s.1)], ⟨[(.l 3 0, .blk (unC u)), (.l 4 1, .blk (usC z)), (.l 26 4, .arr 3 1 (eL (cmpZ sr)) false), (.l 61 5, .arr 190 3 (eC s.2) false)], 9, []⟩),
    fun s => s.1 ≤ (Lib.compact sr).length ∧ s.2.length ≤ s.1 ∧ ∀ c ∈ s.2, mayV u z c.q = true, fun s => (Lib.compact sr).length - s.1, (0, []), ⟨Nat.zero_le _, Nat.zero_le _, fun c hc => by cases hc⟩,
    Shift.trans (Shift.rename [] ⟨rfl, rfl, rfl, rfl, rfl, rfl, trivial⟩ ⟨rfl, rfl, rfl, rfl, trivial⟩ rfl rfl rfl) (Shift.nilArr (t := 10) rfl 61 190 3), fun s hs => ?_⟩
  obtain ⟨i, out⟩ := s
  obtain ⟨hi, ho1, ho2⟩ := hs
  dsimp only at hi ho1 ho2 ⊢
  have hmo := eC_len out
  conv => whnf
  refine Fork.mk (fun h => ?_) (fun h => ?_)
  rotate_left
  · conv => whnf
    refine ⟨by omega, ?_⟩
    conv => whnf
    rw [List.drop_zero, show List.take out.length (eC out) = eC out from by rw [← hmo, List.take_length]]
    exact hk out ⟨by omega, ho2⟩
  have hi2 : i < (Lib.compact sr).length := by simp at h; omega
  clear h
  obtain ⟨q, hq1, hq2⟩ := hzt i hi2
  have hw1 := wr_succ (i := i) (by omega)
  conv => whnf
  refine ⟨by omega, rfl, ?_⟩
  conv => whnf
  refine ⟨eI q, by rw [Nat.zero_add, Int.toNat_natCast]; exact hq2, ?_⟩
  conv => whnf
  refine ⟨u, z, q, rfl, hu, ?_⟩
  conv => whnf
  refine Fork.mk (fun h => ?_) (fun h => ?_)
  · conv => whnf
    rw [hw1]
    exact ⟨(i + 1, out), ⟨hi2, Nat.le_succ_of_le ho1, ho2⟩, Shift.reset ⟨rfl, rfl, rfl, rfl, rfl, rfl, trivial⟩ ⟨rfl, rfl, rfl, rfl, trivial⟩ rfl rfl, by dsimp only; omega⟩
  have hmay : mayV u z q = true := by simpa using h
  conv => whnf
  refine ⟨u, q, rfl, hu, ?_⟩
  generalize (powS u q).1 = p
  conv => whnf
  repeat' ((first | refine fork_t ?_ | refine Fork.mk (fun h => ?_) (fun h => ?_) | fail) <;> (conv => whnf))
  all_goals (
    refine ⟨by simp, ?_⟩
    (conv => whnf)
    refine ⟨rfl, ?_⟩
    (conv => whnf)
    refine ⟨⟨rfl, rfl, rfl, hmo.symm, by rw [hmo]; simp; omega⟩, ?_⟩
    (conv => whnf)
    rw [hw1]
    first
      | exact ⟨(i + 1, out ++ [⟨q, p, 0⟩]), ⟨hi2, by simp; omega, fun c hc => by
        rcases List.mem_append.1 hc with hc | hc
        · exact ho2 c hc
        · simp at hc; subst hc; exact hmay⟩, Shift.rename [(.l 61 5, .l 61 11)] ⟨rfl, rfl, by dsimp only; rw [List.length_append, ← hmo]; rfl, rfl, rfl, rfl, trivial⟩ ⟨rfl, rfl, rfl, by dsimp only; rw [show eC (out ++ [⟨q, p, 0⟩]) = eC out ++ [chC ⟨q, p, 0⟩] from List.map_append]; rfl, trivial⟩ rfl rfl rfl, by dsimp only; omega⟩
      | exact ⟨(i + 1, out ++ [⟨q, p, 1⟩]), ⟨hi2, by simp; omega, fun c hc => by
        rcases List.mem_append.1 hc with hc | hc
        · exact ho2 c hc
        · simp at hc; subst hc; exact hmay⟩, Shift.rename [(.l 61 5, .l 61 11)] ⟨rfl, rfl, by dsimp only; rw [List.length_append, ← hmo]; rfl, rfl, rfl, rfl, trivial⟩ ⟨rfl, rfl, rfl, by dsimp only; rw [show eC (out ++ [⟨q, p, 1⟩]) = eC out ++ [chC ⟨q, p, 1⟩] from List.map_append]; rfl, trivial⟩ rfl rfl rfl, by dsimp only; omega⟩)
end Go.Proofs

namespace Go.Proofs
open Go Go.Abs
set_option linter.unusedSimpArgs false
set_option linter.unusedVariables false
set_option maxRecDepth 20000
theorem sta_ok : FunR Tryz.prog 94 R_sta := by
  intro args k h
  obtain ⟨us, ss, g, r, rfl, hin, hk0, hk⟩ := h
  obtain ⟨h1, h2, h3, h4, h5, h6, h7⟩ := hin
  have hmu := eU_len us
  have hmz := eQ_len ss
  refine does_ex (qc := qc1) (np := []) (CK := ckK [(84, cSc (R_usB validB)), (25, cSc R_within), (117, cPq R_chs)]) mixed Tryz.func94 rfl rfl Tryz.ntmps94 Tryz.results94 τ_ok (by kernel_rfl) (ckK_ok ⟨cSc_ok valid_ok, cSc_ok within_ok, cPq_ok chs_ok, trivial⟩) (by simp) ?_
  conv => whnf
  refine fork_f' (by simp; omega) ?_
  conv => whnf
  refine fork_f' (by simp; omega) ?_
  conv => whnf
  refine ⟨Nat, fun i => ([(0, .c (.lst (eU us))), (1, .c (.lst (eQ ss))), (2, I g), (3, I r), (25, .c (.lst (eU us))), (26, I (eU us).length), (27, I i)], ⟨[], 9, []⟩),
    fun i => i ≤ us.length, fun i => us.length - i, 0, Nat.zero_le _, Shift.reset ⟨rfl, rfl, rfl, rfl, rfl, rfl, rfl, trivial⟩ trivial rfl rfl, fun i hi => ?_⟩
  dsimp only
  conv => whnf
  refine Fork.mk (fun h => ?_) (fun h => ?_)
  · have hi2 : i < us.length := by simp at h; omega
    clear h
    have hci := List.getElem?_eq_getElem hi2
    have hcz := List.getElem?_eq_getElem (show i < ss.length by omega)
    have hfu := h4 _ (List.getElem_mem hi2)
    generalize us[i] = u at hci hfu
    generalize ss[i] = z at hcz
    have hv := usB_at h3 hci hcz
    have hw1 := wr_succ (i := i) (by omega)
    conv => whnf
    refine ⟨by omega, unC u, by rw [Int.toNat_natCast, List.getElem?_map, hci]; rfl, rfl, ?_⟩
    conv => whnf
    refine ⟨by omega, usC z, by rw [Int.toNat_natCast, List.getElem?_map, hcz]; rfl, rfl, ?_⟩
    conv => whnf
    refine ⟨u, z, rfl, hfu, ?_⟩
    rw [hv]
    conv => whnf
    refine fork_f' rfl ?_
    conv => whnf
    rw [hw1]
    exact ⟨i + 1, hi2, Shift.reset ⟨rfl, rfl, rfl, rfl, rfl, rfl, rfl, trivial⟩ trivial rfl rfl, by omega⟩
  clear h hi
  conv => whnf
  refine fork_f' (by simp; omega) ?_
  conv => whnf
  refine fork_f' (by simp; omega) ?_
  conv => whnf
  have w200 : IntKind.i64.wrap (200 * g) = 200 * g := wrap_in (by omega) (by omega)
  refine fork_f' (by simp; omega) ?_
  conv => whnf
  rw [w200]
  refine fork_f' (by simp; omega) ?_
  conv => whnf
  refine ⟨Nat × List (List Ch), fun s => ([(1, .c (.lst (eQ ss))), (2, I g), (12, .c (.view (.l 79 9) 0 s.2.length)), (57, .c (.lst (eU us))), (58, I (eU us).length), (59, I s.1)], ⟨[(.l 79 9, .arr 188 1 (eK s.2) false)], 14, []⟩),
    fun s => s.1 ≤ us.length ∧ s.2.length = s.1 ∧ ∀ (i : Nat) u z l, us[i]? = some u → ss[i]? = some z → s.2[i]? = some l → chOk u z l, fun s => us.length - s.1, (0, []), ⟨Nat.zero_le _, rfl, fun i u z l _ _ h => by simp at h⟩,
    Shift.trans (Shift.rename [] ⟨rfl, rfl, rfl, rfl, rfl, rfl, trivial⟩ ⟨rfl, trivial⟩ rfl rfl rfl) (Shift.nilArr (t := 12) rfl 79 188 1), fun s hs => ?_⟩
  obtain ⟨i, out⟩ := s
  obtain ⟨hi, ho1, ho2⟩ := hs
  dsimp only at hi ho1 ho2 ⊢
  have hmo := eK_len out
  conv => whnf
  refine Fork.mk (fun h => ?_) (fun h => ?_)
  rotate_left
  · have hie : i = us.length := by simp at h; omega
    conv => whnf
    refine ⟨by omega, ?_⟩
    conv => whnf
    rw [List.drop_zero, show List.take out.length (eK out) = eK out from by rw [← hmo, List.take_length]]
    exact hk out ⟨by omega, ho2⟩
  have hi2 : i < us.length := by simp at h; omega
  clear h
  have hci := List.getElem?_eq_getElem hi2
  have hcz := List.getElem?_eq_getElem (show i < ss.length by omega)
  have hfu := h4 _ (List.getElem_mem hi2)
  generalize us[i] = u at hci hfu
  generalize ss[i] = z at hcz
  have hv := usB_at h3 hci hcz
  have hw1 := wr_succ (i := i) (by omega)
  conv => whnf
  refine ⟨by omega, unC u, by rw [Int.toNat_natCast, List.getElem?_map, hci]; rfl, rfl, ?_⟩
  conv => whnf
  refine ⟨by omega, usC z, by rw [Int.toNat_natCast, List.getElem?_map, hcz]; rfl, rfl, ?_⟩
  conv => whnf
  refine ⟨u, z, g, rfl, hfu, hv, ?_, fun l hl => ?_⟩
  · conv => whnf
    refine fork_t' rfl ?_
    conv => whnf
    exact hk0
  conv => whnf
  refine fork_f' rfl ?_
  conv => whnf
  refine ⟨by simp, ?_⟩
  conv => whnf
  refine ⟨rfl, ?_⟩
  conv => whnf
  refine ⟨⟨rfl, rfl, rfl, hmo.symm, by rw [hmo]; simp; omega⟩, ?_⟩
  conv => whnf
  rw [hw1]
  exact ⟨(i + 1, out ++ [l]), ⟨hi2, by simp; omega, fun j u' z' l' e1 e2 e3 => by
    dsimp only at e3
    by_cases hj : j < i
    · rw [List.getElem?_append, if_pos (by omega)] at e3
      exact ho2 j u' z' l' e1 e2 e3
    · have hji : j = i := by
        have := (List.getElem?_eq_some_iff.1 e3).1
        simp at this
        omega
      subst hji
      rw [hci] at e1
      rw [hcz] at e2
      rw [List.getElem?_append, if_neg (by omega)] at e3
      simp [ho1] at e1 e2 e3
      subst e1; subst e2; subst e3
      exact hl⟩, Shift.rename [(.l 79 9, .l 79 16)] ⟨rfl, rfl, by dsimp only; rw [List.length_append, ← hmo]; rfl, rfl, rfl, rfl, trivial⟩ ⟨by dsimp only; rw [show eK (out ++ [l]) = eK out ++ [lcC l] from List.map_append]; rfl, trivial⟩ rfl rfl rfl, by dsimp only; omega⟩
end Go.Proofs

/- The best plan's memory: what a part of a plan may be. No program. -/
namespace Go.Proofs
open Go Go.Abs
set_option linter.unusedSimpArgs false
set_option linter.unusedVariables false
structure Pa where
  ok : Bool
  a : Int
  b : Int
  q : Int
def paV (p : Pa) : List Value := [.bool p.ok, .int .i64 p.a, .int .i64 p.b, .int .i64 p.q]
def paC (p : Pa) : List Cell := [BC p.ok, IC p.a, IC p.b, IC p.q]
theorem paV_C (p : Pa) : (paV p).map Cell.sc = paC p := rfl
abbrev KM := List ((Int × Int) × List Value)
def paOk (L : List (List Ch)) (i : Nat) (left : Int) (p : Pa) : Prop := p.ok = true → ∀ l, L[i]? = some l → ∃ c ∈ l, c.q = p.q ∧ c.q ≤ left
def kmOk (L : List (List Ch)) (es : KM) : Prop := ∀ x ∈ es, ∃ (j : Nat) (p : Pa), x.1.1 = j ∧ x.2 = paV p ∧ paOk L j x.1.2 p
theorem findM_mem {a b : Int} {v : List Value} : ∀ {l : KM}, findM l a b = some v → ((a, b), v) ∈ l
  | [], h => by simp [findM] at h
  | (k, y) :: r, h => by
    simp only [findM] at h
    split at h
    · rename_i hk; simp at h; subst h; subst hk; simp
    · exact List.mem_cons_of_mem _ (findM_mem h)
theorem putM_mem {a b : Int} {v : List Value} {x : (Int × Int) × List Value} : ∀ {l : KM}, x ∈ putM l a b v → x = ((a, b), v) ∨ x ∈ l
  | [], h => by simp [putM] at h; exact .inl h
  | (k, y) :: r, h => by
    simp only [putM] at h
    split at h
    · rename_i hk
      rcases List.mem_cons.1 h with h | h
      · exact .inl (by rw [h, hk])
      · exact .inr (List.mem_cons_of_mem _ h)
    · rcases List.mem_cons.1 h with h | h
      · exact .inr (by rw [h]; simp)
      · exact (putM_mem h).imp id (List.mem_cons_of_mem _)
theorem kmOk.find {L : List (List Ch)} {es : KM} (h : kmOk L es) {i : Nat} {left : Int} {v : List Value} (hf : findM es i left = some v) : ∃ p, v = paV p ∧ paOk L i left p := by
  obtain ⟨j, p, h1, h2, h3⟩ := h _ (findM_mem hf)
  have : (j : Int) = i := h1.symm
  have : j = i := by omega
  subst this
  exact ⟨p, h2, h3⟩
theorem kmOk.put {L : List (List Ch)} {es : KM} (h : kmOk L es) {i : Nat} {left : Int} {p : Pa} (hp : paOk L i left p) : kmOk L (putM es i left (paV p)) := fun x hx => by
  rcases putM_mem hx with rfl | hx
  · exact ⟨i, p, rfl, rfl, hp⟩
  · exact h x hx
def bstO (f : Nat) (L : List (List Ch)) (es : KM) : List MObj := [.blk [.lst (eK L)], .map es, .blk [.mp (.x 1)], .blk [.fn f [.ptr (.x 0) 0, .ptr (.x 2) 0, .ptr (.x 3) 0]]]
def chFin (L : List (List Ch)) : Prop := L.length ≤ 6 ∧ ∀ l ∈ L, l.length ≤ 202 ∧ ∀ c ∈ l, 0 ≤ c.q ∧ c.q ≤ 1073741824
def R_bst1 (f n : Nat) : RG := fun args os k => ∃ (L : List (List Ch)) (i : Nat) (left : Int) (es : KM), args = [I i, I left, .c (.ptr (.x 0) 0), .c (.ptr (.x 2) 0), .c (.ptr (.x 3) 0)] ∧ os = bstO f L es ∧ (i ≤ L.length ∧ L.length < i + n) ∧ chFin L ∧ (0 ≤ left ∧ left ≤ 1073741824) ∧ kmOk L es ∧
  ∀ p es', kmOk L es' → paOk L i left p → k (.agg (paC p)) (bstO f L es')
def R_btr : RT := fun args k => ∃ x1 x2 y1 y2 : Int, args = [.agg [IC x1, IC x2], .agg [IC y1, IC y2], .c (.lst []), .c (.lst [])] ∧ ∀ c : Bool, k (Bo c)
def R_cmp0 : RT := fun args k => args = [.c (.lst []), .c (.lst [])] ∧ k (I 0)
def R_bstD : RT := fun args k => ∃ (us : List Un) (ss : List Us) (g r : Int), args = [.c (.lst (eU us)), .c (.lst (eQ ss)), I g, I r] ∧ staIn us ss g r ∧ ∀ (qs : Ls) (e : Int), (e = 0 → mayL us ss qs = true ∧ qs.sum ≤ r) → (e ≠ 0 → qs = []) → k (.tup [.c (.lst (eL qs)), I e])
theorem staOk.fin {us : List Un} {ss : List Us} {L : List (List Ch)} (h : staOk us ss L) (h1 : us.length ≤ 6) (h2 : us.length = ss.length) : chFin L := by
  refine ⟨by rw [h.1]; exact h1, fun l hl => ?_⟩
  obtain ⟨i, hi, rfl⟩ := List.getElem_of_mem hl
  have hiu : i < us.length := by rw [← h.1]; exact hi
  have := h.2 i us[i] ss[i] L[i] (List.getElem?_eq_getElem hiu) (List.getElem?_eq_getElem (by omega)) (List.getElem?_eq_getElem hi)
  exact ⟨this.1, fun c hc => mayV_q (this.2 c hc)⟩
end Go.Proofs

namespace Go.Proofs
open Go Go.Abs
set_option linter.unusedSimpArgs false
set_option linter.unusedVariables false
set_option maxRecDepth 20000
theorem cmp0_ok : FunR Tryz.prog 118 R_cmp0 := by
  intro args k h
  obtain ⟨rfl, hk⟩ := h
  refine does_ex (qc := qc1) (np := []) (CK := ckK []) mixed Tryz.func118 rfl rfl Tryz.ntmps118 Tryz.results118 τ_ok (by kernel_rfl) (ckK_ok trivial) (by simp) ?_
  conv => whnf
  refine ⟨Nat, fun i => ([(0, .c (.lst [])), (1, .c (.lst [])), (9, .c (.lst [])), (10, I 0), (11, I i)], ⟨[], 9, []⟩), fun i => i = 0, fun i => i, 0, rfl, Shift.reset ⟨rfl, rfl, rfl, rfl, rfl, trivial⟩ trivial rfl rfl, fun i hi => ?_⟩
  subst hi
  dsimp only
  conv => whnf
  refine fork_f' rfl ?_
  conv => whnf
  refine fork_f' rfl ?_
  conv => whnf
  exact hk
theorem btr_ok : FunR Tryz.prog 96 R_btr := by
  intro args k h
  obtain ⟨x1, x2, y1, y2, rfl, hk⟩ := h
  refine does_ex (qc := qc1) (np := []) (CK := ckK [(118, cSc R_cmp0)]) mixed Tryz.func96 rfl rfl Tryz.ntmps96 Tryz.results96 τ_ok (by kernel_rfl) (ckK_ok ⟨cSc_ok cmp0_ok, trivial⟩) (by simp) ?_
  conv => whnf
  (repeat (refine ⟨by omega, ?_⟩; (conv => whnf)))
  refine Fork.mk (fun h => ?_) (fun h => ?_)
  · conv => whnf
    (repeat (refine ⟨by omega, ?_⟩; (conv => whnf)))
    exact hk _
  conv => whnf
  (repeat (refine ⟨by omega, ?_⟩; (conv => whnf)))
  refine Fork.mk (fun h => ?_) (fun h => ?_)
  · conv => whnf
    (repeat (refine ⟨by omega, ?_⟩; (conv => whnf)))
    exact hk _
  conv => whnf
  refine ⟨rfl, ?_⟩
  conv => whnf
  exact hk _
theorem bst1_zero : FunG Tryz.prog 95 (R_bst1 95 0) := by
  rintro args os k ⟨L, i, left, es, _, _, ⟨h1, h2⟩, _⟩
  omega
end Go.Proofs

namespace Go.Proofs
open Go Go.Abs
set_option linter.unusedSimpArgs false
set_option linter.unusedVariables false
set_option maxRecDepth 20000
theorem bst1_step {n : Nat} (hn : FunG Tryz.prog 95 (R_bst1 95 n)) : FunG Tryz.prog 95 (R_bst1 95 (n + 1)) := by
  intro args os k h
  obtain ⟨L, i, left, es, rfl, rfl, ⟨hi, hin⟩, ⟨hL1, hL2⟩, ⟨hl1, hl2⟩, hes, hk⟩ := h
  have hmL := eK_len L
  refine doesG_ex (qc := qc1) (np := []) (CK := ckK [(96, cSc R_btr), (95, cG (R_bst1 95 n))]) mixed Tryz.func95 rfl rfl Tryz.ntmps95 Tryz.results95 τ_ok (by kernel_rfl) (ckK_ok ⟨cSc_ok btr_ok, cG_ok hn rfl, trivial⟩) (by simp) rfl rfl ?_
  conv => whnf
  refine Fork.mk (fun h => ?_) (fun h => ?_)
  · have hie : i = L.length := by simp at h; omega
    conv => whnf
    exact ⟨rfl, rfl, hk ⟨true, 0, 0, 0⟩ es hes fun _ l hl => by rw [hie, List.getElem?_eq_none (Nat.le_refl _)] at hl; cases hl⟩
  have hilt : i < L.length := by simp at h; omega
  clear h
  conv => whnf
  cases hf : findM es i left with
  | some v =>
    obtain ⟨p, rfl, hp⟩ := hes.find hf
    refine ⟨some (paV p), rfl, ?_⟩
    conv => whnf
    refine fork_t' rfl ?_
    conv => whnf
    exact ⟨rfl, rfl, hk p es hes hp⟩
  | none =>
  refine ⟨none, rfl, ?_⟩
  conv => whnf
  refine fork_f' rfl ?_
  obtain ⟨l, hli⟩ : ∃ l, L[i]? = some l := ⟨L[i], List.getElem?_eq_getElem hilt⟩
  have hlm := List.mem_of_getElem? hli
  obtain ⟨hll, hlq⟩ := hL2 l hlm
  have hml := eC_len l
  conv => whnf
  refine ⟨by omega, lcC l, by rw [Int.toNat_natCast, List.getElem?_map, hli]; rfl, rfl, ?_⟩
  conv => whnf
  refine ⟨Nat × Pa × KM, fun s => ([(0, I i), (1, I left), (3, .c (.ptr (.x 2) 0)), (4, .c (.ptr (.x 3) 0)), (7, .c (.ptr (.l 7 0) 0)), (10, .c (.ptr (.l 10 2) 0)), (33, .c (.lst (eC l))), (34, I (eC l).length), (35, I s.1)],
      ⟨[(.x 0, .blk [.lst (eK L)]), (.x 1, .map s.2.2), (.x 2, .blk [.mp (.x 1)]), (.x 3, .blk [.fn 95 [.ptr (.x 0) 0, .ptr (.x 2) 0, .ptr (.x 3) 0]]), (.l 7 0, .blk (paC ⟨false, 0, 0, 0⟩)), (.l 10 2, .blk (paC s.2.1))], 9, []⟩),
    fun s => s.1 ≤ l.length ∧ kmOk L s.2.2 ∧ (s.2.1.ok = true → ∃ c ∈ l, c.q = s.2.1.q ∧ c.q ≤ left), fun s => l.length - s.1, (0, ⟨false, 0, 0, 0⟩, es), ⟨Nat.zero_le _, hes, fun h => by cases h⟩,
    Shift.reset ⟨rfl, rfl, rfl, rfl, rfl, rfl, rfl, rfl, rfl, trivial⟩ ⟨rfl, rfl, rfl, rfl, rfl, rfl, trivial⟩ rfl rfl, fun s hs => ?_⟩
  obtain ⟨j, out, es1⟩ := s
  obtain ⟨hj, he1, ho1⟩ := hs
  dsimp only at hj he1 ho1 ⊢
  have hpo : paOk L i left out := fun h l' hl' => by rw [hli] at hl'; simp at hl'; subst hl'; exact ho1 h
  conv => whnf
  refine Fork.mk (fun h => ?_) (fun h => ?_)
  rotate_left
  · conv => whnf
    refine ⟨_, rfl, ?_⟩
    conv => whnf
    exact ⟨rfl, rfl, hk out (putM es1 i left (paV out)) (he1.put hpo) hpo⟩
  have hj2 : j < l.length := by simp at h; omega
  clear h
  have hcj := List.getElem?_eq_getElem hj2
  have hcm := List.getElem_mem hj2
  generalize l[j] = c at hcj hcm
  obtain ⟨hc1, hc2⟩ := hlq c hcm
  have hw1 := wr_succ (i := j) (by omega)
  have hw2 := wr_succ (i := i) (by omega)
  have hw3 : IntKind.i64.wrap (left - c.q) = left - c.q := wrap_in (by omega) (by omega)
  conv => whnf
  refine ⟨by omega, chC c, by rw [Int.toNat_natCast, List.getElem?_map, hcj]; rfl, rfl, ?_⟩
  conv => whnf
  refine Fork.mk (fun h => ?_) (fun h => ?_)
  · conv => whnf
    refine ⟨_, rfl, ?_⟩
    conv => whnf
    exact ⟨rfl, rfl, hk out (putM es1 i left (paV out)) (he1.put hpo) hpo⟩
  have hcl : c.q ≤ left := by simp at h; omega
  clear h
  conv => whnf
  rw [hw2, hw3]
  refine ⟨[.x 0, .x 1, .x 2, .x 3], rfl, ?_⟩
  conv => whnf
  refine ⟨rfl, ?_⟩
  conv => whnf
  refine ⟨rfl, ?_⟩
  conv => whnf
  refine ⟨L, i + 1, left - c.q, es1, rfl, rfl, ⟨by omega, by omega⟩, ⟨hL1, hL2⟩, ⟨by omega, by omega⟩, he1, fun p es2 he2 _ => ?_⟩
  conv => whnf
  obtain ⟨po, pa, pb, pq⟩ := p
  obtain ⟨oo, oa, ob, oq⟩ := out
  (repeat (refine ⟨by omega, ?_⟩; (conv => whnf)))
  generalize IntKind.i64.wrap (pa + c.p) = va
  generalize IntKind.i64.wrap (pb + c.s) = vb
  cases po <;> cases oo <;> (conv => whnf) <;>
    repeat' ((first | refine fork_t ?_ | refine fork_f ?_ | (refine ⟨va, vb, oa, ob, rfl, fun cc => ?_⟩; cases cc) | refine ⟨by omega, ?_⟩ | fail) <;> (conv => whnf))
  all_goals (
    rw [hw1]
    first
      | exact ⟨(j + 1, ⟨_, oa, ob, oq⟩, es2), ⟨hj2, he2, ho1⟩, Shift.reset ⟨rfl, rfl, rfl, rfl, rfl, rfl, rfl, rfl, rfl, trivial⟩ ⟨rfl, rfl, rfl, rfl, rfl, rfl, trivial⟩ rfl rfl, by dsimp only; omega⟩
      | exact ⟨(j + 1, ⟨true, va, vb, c.q⟩, es2), ⟨hj2, he2, fun _ => ⟨c, hcm, rfl, hcl⟩⟩, Shift.reset ⟨rfl, rfl, rfl, rfl, rfl, rfl, rfl, rfl, rfl, trivial⟩ ⟨rfl, rfl, rfl, rfl, rfl, rfl, trivial⟩ rfl rfl, by dsimp only; omega⟩)
theorem bst1_ok : ∀ n, FunG Tryz.prog 95 (R_bst1 95 n)
  | 0 => bst1_zero
  | n + 1 => bst1_step (bst1_ok n)
end Go.Proofs

namespace Go.Proofs
open Go Go.Abs
set_option linter.unusedSimpArgs false
set_option linter.unusedVariables false
set_option maxRecDepth 20000
theorem bstD_ok : FunR Tryz.prog 65 R_bstD := by
  intro args k h
  obtain ⟨us, ss, g, r, rfl, hin, hk⟩ := h
  refine does_ex (qc := qc1) (np := []) (CK := ckK [(94, cPq R_sta), (95, cG (R_bst1 95 7))]) mixed Tryz.func65 rfl rfl Tryz.ntmps65 Tryz.results65 τ_ok (by kernel_rfl) (ckK_ok ⟨cPq_ok sta_ok, cG_ok (bst1_ok 7) rfl, trivial⟩) (by simp) ?_
  conv => whnf
  obtain ⟨h1, h2, h3, h4, h5, h6, h7⟩ := id hin
  refine ⟨us, ss, g, r, rfl, hin, ?_, fun L hL => ?_⟩
  · conv => whnf
    refine fork_t' rfl ?_
    conv => whnf
    exact hk [] 10 (fun h => by cases h) fun _ => rfl
  have hfin := hL.fin h1 h2
  have hmL := eK_len L
  conv => whnf
  refine fork_f' rfl ?_
  conv => whnf
  refine ⟨Ls × Int × KM, fun s => ([(10, .c (.ptr (.l 10 0) 0)), (13, .c (.ptr (.l 13 3) 0)), (14, .c (.view (.l 48 4) 0 s.1.length)), (15, I s.2.1)],
      ⟨[(.l 10 0, .blk [.lst (eK L)]), (.l 28 1, .map s.2.2), (.l 12 2, .blk [.mp (.l 28 1)]), (.l 13 3, .blk [.fn 95 [.ptr (.l 10 0) 0, .ptr (.l 12 2) 0, .ptr (.l 13 3) 0]]), (.l 48 4, .arr 3 1 (eL s.1) false)], 9, []⟩),
    fun s => s.1.length ≤ us.length ∧ kmOk L s.2.2 ∧ (0 ≤ s.2.1 ∧ s.1.sum + s.2.1 = r ∧ s.2.1 ≤ r) ∧ ∀ (i : Nat) u z q, us[i]? = some u → ss[i]? = some z → s.1[i]? = some q → mayV u z q = true, fun s => us.length - s.1.length, ([], r, []), ⟨Nat.zero_le _, (fun x hx => by cases hx), ⟨by dsimp only; omega, by simp, by dsimp only; omega⟩, fun i u z q _ _ h => by simp at h⟩,
    Shift.trans (Shift.rename [] ⟨rfl, rfl, rfl, rfl, trivial⟩ ⟨rfl, rfl, rfl, rfl, rfl, trivial⟩ rfl rfl rfl) (Shift.nilArr (t := 14) rfl 48 3 1), fun s hs => ?_⟩
  obtain ⟨qs, left, es⟩ := s
  obtain ⟨hq, hes, ⟨hl1, hl2, hl3⟩, hmay⟩ := hs
  dsimp only at hq hes hl1 hl2 hl3 hmay ⊢
  have hmq := eL_len qs
  have hLl := hL.1
  conv => whnf
  refine Fork.mk (fun h => ?_) (fun h => ?_)
  rotate_left
  · have hie : qs.length = us.length := by simp at h; omega
    conv => whnf
    refine ⟨by omega, ?_⟩
    conv => whnf
    rw [List.drop_zero, show List.take qs.length (eL qs) = eL qs from by rw [← hmq, List.take_length]]
    exact hk qs 0 (fun _ => ⟨mayL_of hie.symm (by omega) hmay, by omega⟩) fun h => absurd rfl h
  have hi2 : qs.length < us.length := by simp at h; omega
  clear h
  conv => whnf
  refine ⟨[.l 10 0, .l 28 1, .l 12 2, .l 13 3], rfl, ?_⟩
  conv => whnf
  refine ⟨rfl, ?_⟩
  conv => whnf
  refine ⟨rfl, ?_⟩
  conv => whnf
  refine ⟨L, qs.length, left, es, rfl, rfl, ⟨by omega, by omega⟩, hfin, ⟨by omega, by omega⟩, hes, fun p es2 he2 hp => ?_⟩
  obtain ⟨po, pa, pb, pq⟩ := p
  conv => whnf
  cases po with
  | false =>
    refine fork_t' rfl ?_
    conv => whnf
    exact hk [] 9 (fun h => by cases h) fun _ => rfl
  | true =>
  have hlt : qs.length < L.length := by omega
  obtain ⟨c, hc1, hc2, hc3⟩ := hp rfl L[qs.length] (List.getElem?_eq_getElem hlt)
  dsimp only at hc2
  subst hc2
  have hci := List.getElem?_eq_getElem hi2
  have hcz := List.getElem?_eq_getElem (show qs.length < ss.length by omega)
  have hm := (hL.2 _ _ _ _ hci hcz (List.getElem?_eq_getElem hlt)).2 c hc1
  have hcq := mayV_q hm
  have hw3 : IntKind.i64.wrap (left - c.q) = left - c.q := wrap_in (by omega) (by omega)
  refine fork_f' rfl ?_
  conv => whnf
  refine ⟨by simp, ?_⟩
  conv => whnf
  refine ⟨rfl, ?_⟩
  conv => whnf
  refine ⟨⟨rfl, rfl, rfl, hmq.symm, by rw [hmq]; simp; omega⟩, ?_⟩
  conv => whnf
  rw [hw3]
  exact ⟨(qs ++ [c.q], left - c.q, es2), ⟨by simp; omega, he2, ⟨by dsimp only; omega, by simp; omega, by dsimp only; omega⟩, fun j u z q e1 e2 e3 => by
    dsimp only at e3
    by_cases hj : j < qs.length
    · rw [List.getElem?_append, if_pos hj] at e3
      exact hmay j u z q e1 e2 e3
    · have hji : j = qs.length := by
        have := (List.getElem?_eq_some_iff.1 e3).1
        simp at this
        omega
      subst hji
      rw [hci] at e1
      rw [hcz] at e2
      rw [List.getElem?_append, if_neg (by omega)] at e3
      simp at e1 e2 e3
      subst e1; subst e2; subst e3
      exact hm⟩, Shift.rename [(.l 48 4, .l 48 11)] ⟨rfl, rfl, by dsimp only; rw [List.length_append, ← hmq]; rfl, rfl, trivial⟩ ⟨rfl, rfl, rfl, rfl, by dsimp only; rw [show eL (qs ++ [c.q]) = eL qs ++ [eI c.q] from List.map_append]; rfl, trivial⟩ rfl rfl rfl, by simp; omega⟩
end Go.Proofs
