/- The statement ReachAll of the seat's Rows, proved: all results, or the error; no condition. -/
import Derived.Test.YtagjajmkmambiaaRows
import Derived.Test.YtagjajmkmambiaaX6c
import Derived.Test.YtagjajmkmambiaaAbsQ
import Derived.Test.YtagjajmkmambiaaAbsP
import Derived.WalkKit
import Derived.ProofKit
import Derived.OpenShut
import Derived.ShutString
import Derived.ChangeOld
import Derived.Below
namespace Go.Proofs.Ytagjajmkmambiaa.reachAll
open Go.ChangeShapes Go.WideShapes Go.ChangeAt Go.RowKit
open Go.ChangeMaps (open_string shut_string)
set_option linter.unusedVariables false
theorem own : ownKnob Try.prog.godebug = none := by kernel_rfl
theorem laidOut : laidOutB Try.prog = true := by kernel_rfl
theorem int_form (y : List Go.Abs.Cell) (h : Go.Abs.ksOk [some .i64] y) : ∃ a : Int, y = eI a := by
  match y, h with
  | [.sc (.int _ a)], ⟨rfl, _⟩ => exact ⟨a, rfl⟩
set_option maxRecDepth 100000 in
theorem lifted (os : Os) (started : os.Started) (H : Type) (enc : TypeId × Value → H) :
    ReturnsInHanded {} Try.checked os 9 .any (Rows.reachAllSpec.pre6 enc Try.prog Try.f9 Rows.reachAllRow.domain false) (Rows.reachAllSpec.post enc Try.prog Try.f9 false true false false) := by
  refine returnsInHanded_of_change (C := Try.checked) own started (by kernel_rfl) Try.func9
    (ChangeSpec.witness6 (enc := enc) (C := Try.checked) false ⟨#[], #[.agg #[.slice none 0 0, .int .i64 0], .agg #[.slice none 0 0], .slice none 0 0, .slice none 0 0, .int .i64 0], []⟩ 8 (by kernel_rfl) (by kernel_rfl) (by kernel_rfl) (by kernel_rfl)) ?_
  intro W base args ds gs before hval0 hW hcnd _
  have hval : ∀ (j : Nat) t v, Try.f9.params[j]? = some t → args[j]? = some v → Value.okWide Try.prog W .any base t v := hval0
  have hW' := hW
  obtain ⟨p, q, hA0, hV, rfl, hfz, hnd⟩ := hW
  have hA : DataW.TrodAll enc Try.prog W 0 (fun _ => true) true Try.f9.params.toList args.toList ds p := hA0
  rw [Try.params9] at hA hval
  obtain ⟨v0, vs0, d0, ds0, p0, q0, hargs, rfl, rfl, h0, r0⟩ := trodAll_cons hA
  obtain ⟨v1, vs1, d1, ds1, p1, q1, rfl, rfl, rfl, h1, r1⟩ := trodAll_cons r0
  obtain ⟨v2, vs2, d2, ds2, p2, q2, rfl, rfl, rfl, h2, r2⟩ := trodAll_cons r1
  obtain ⟨v3, vs3, d3, ds3, p3, q3, rfl, rfl, rfl, h3, r3⟩ := trodAll_cons r2
  obtain ⟨v4, vs4, d4, ds4, p4, q4, rfl, rfl, rfl, h4, r4⟩ := trodAll_cons r3
  obtain ⟨rfl, rfl, rfl⟩ := trodAll_nil r4
  obtain rfl : args = #[v0, v1, v2, v3, v4] := by cases args; simp_all
  obtain ⟨rfl, rfl⟩ := trodVars_none hV
  have LT0 : ∀ x ∈ p0, x.block < W.heap.size := by obtain ⟨m, hm⟩ := h0; exact DataW.trod_lt m _ _ _ hm
  obtain ⟨x0_0, x0_1, hrep0, hl0_0⟩ : ∃ (x0_0 : Ls) (x0_1 : Int), Go.Abs.RepA (Go.Abs.g0 (Go.Abs.FIn W)) W (.agg [.lst (eL x0_0), IC x0_1]) v0 ∧ x0_0.length ≤ 9223372036854775807 := by
    obtain ⟨us, rfl, hul, hu⟩ := Go.Abs.struct_arg Try.underlying26 (by kernel_rfl) (by kernel_rfl) (hval 0 26 v0 rfl rfl) h0
    obtain ⟨c0, y0, n0, e0, t0, s0⟩ := hu 0 _ rfl
    obtain ⟨c1, y1, n1, e1, t1, s1⟩ := hu 1 _ rfl
    obtain ⟨es0, rr0, ll0, ks0⟩ := Go.Abs.flat_row (ks := [some .i64]) Try.underlying22 (by kernel_rfl) (by kernel_rfl) s0 t0
    obtain ⟨m0, rfl⟩ := Go.Abs.all_form (f := eI) int_form ks0
    obtain ⟨m1, k1, _⟩ := DataW.trod_int Try.underlying3 t1
    simp only [List.cons.injEq, and_true] at k1
    subst k1
    refine ⟨m0, m1, .agg us (by rw [hul]; rfl) fun j c u hc hu' => ?_, by simpa [maxLen] using ll0⟩
    match j, hc, hu' with
    | 0, hc, hu' => rw [e0] at hu'; simp at hc hu'; subst hc hu'; exact .pure rr0
    | 1, hc, hu' => rw [e1] at hu'; simp at hc hu'; subst hc hu'; exact .pure (.sc rfl)
    | j + 2, hc, hu' => simp at hc
  have LT1 : ∀ x ∈ p1, x.block < W.heap.size := by obtain ⟨m, hm⟩ := h1; exact DataW.trod_lt m _ _ _ hm
  obtain ⟨x1_0, hrep1, hl1_0⟩ : ∃ (x1_0 : Ls), Go.Abs.RepA (Go.Abs.g0 (Go.Abs.FIn W)) W (.agg [.lst (eL x1_0)]) v1 ∧ x1_0.length ≤ 9223372036854775807 := by
    obtain ⟨us, rfl, hul, hu⟩ := Go.Abs.struct_arg Try.underlying29 (by kernel_rfl) (by kernel_rfl) (hval 1 29 v1 rfl rfl) h1
    obtain ⟨c0, y0, n0, e0, t0, s0⟩ := hu 0 _ rfl
    obtain ⟨es0, rr0, ll0, ks0⟩ := Go.Abs.flat_row (ks := [some .i64]) Try.underlying22 (by kernel_rfl) (by kernel_rfl) s0 t0
    obtain ⟨m0, rfl⟩ := Go.Abs.all_form (f := eI) int_form ks0
    refine ⟨m0, .agg us (by rw [hul]; rfl) fun j c u hc hu' => ?_, by simpa [maxLen] using ll0⟩
    match j, hc, hu' with
    | 0, hc, hu' => rw [e0] at hu'; simp at hc hu'; subst hc hu'; exact .pure rr0
    | j + 1, hc, hu' => simp at hc
  have hvv2 := hval 2 22 v2 rfl rfl
  obtain ⟨a2, len2, cap2, rfl⟩ := okWide_slice Try.underlying22 (hval 2 22 v2 rfl rfl)
  have k2 := h2
  have lt2 : ∀ x ∈ p2, x.block < W.heap.size := by obtain ⟨m, hm⟩ := k2; exact DataW.trod_lt m _ _ _ hm
  obtain ⟨z2, w2⟩ : ∃ zs, Go.Abs.RowIn .i64 W a2 len2 cap2 zs := by
    obtain ⟨fuel, hf⟩ := h2
    rcases open_ints Try.underlying22 Try.underlying3 (by kernel_rfl) hf with ⟨hcs, _⟩ | ⟨x, l, c, zs, hcs, _, hl, hm, hz, _, hcell, hwz⟩
    · simp [Value.cells] at hcs
      obtain ⟨rfl, rfl, rfl⟩ := hcs
      exact ⟨[], .inl ⟨rfl, rfl, rfl, rfl⟩⟩
    · simp [Value.cells] at hcs
      obtain ⟨rfl, rfl, rfl⟩ := hcs
      exact ⟨zs, .inr ⟨_, rfl, Go.Abs.okWide_spot Try.underlying22 hvv2, hl, hm, by simpa using hz, hcell⟩⟩
  have hlen2 := Go.Abs.row_len w2
  simp only [maxLen] at hlen2
  have hvv3 := hval 3 22 v3 rfl rfl
  obtain ⟨a3, len3, cap3, rfl⟩ := okWide_slice Try.underlying22 (hval 3 22 v3 rfl rfl)
  have k3 := h3
  have lt3 : ∀ x ∈ p3, x.block < W.heap.size := by obtain ⟨m, hm⟩ := k3; exact DataW.trod_lt m _ _ _ hm
  obtain ⟨z3, w3⟩ : ∃ zs, Go.Abs.RowIn .i64 W a3 len3 cap3 zs := by
    obtain ⟨fuel, hf⟩ := h3
    rcases open_ints Try.underlying22 Try.underlying3 (by kernel_rfl) hf with ⟨hcs, _⟩ | ⟨x, l, c, zs, hcs, _, hl, hm, hz, _, hcell, hwz⟩
    · simp [Value.cells] at hcs
      obtain ⟨rfl, rfl, rfl⟩ := hcs
      exact ⟨[], .inl ⟨rfl, rfl, rfl, rfl⟩⟩
    · simp [Value.cells] at hcs
      obtain ⟨rfl, rfl, rfl⟩ := hcs
      exact ⟨zs, .inr ⟨_, rfl, Go.Abs.okWide_spot Try.underlying22 hvv3, hl, hm, by simpa using hz, hcell⟩⟩
  have hlen3 := Go.Abs.row_len w3
  simp only [maxLen] at hlen3
  obtain ⟨a4, rfl, rfl, rfl, w4⟩ := open_int Try.underlying3 (hval 4 3 v4 rfl rfl) h4
  clear hA0 hval0
  refine (Go.Abs.calls_true (args := [_, _, _, _, _]) (vals := [_, _, _, _, _]) (all_ok) ⟨hrep0, hrep1, Go.Abs.rep_row w2, Go.Abs.rep_row w3, Go.Abs.rep_int, trivial⟩ ⟨x0_0, x0_1, x1_0, _, _, _, rfl, hl0_0, hl1_0, by omega, by omega, rfl⟩).mono fun e W' ⟨he, bel⟩ => ?_
  subst he
  exact ⟨_, rfl, _, _, _, [], _, [], hW', trodAll_mk1 (shut_bool Try.underlying4 _), (trodAll_cons_mk (Below.trod laidOut (by kernel_rfl) (of_decide_eq_true (by kernel_rfl)) h0 bel LT0) (trodAll_cons_mk (Below.trod laidOut (by kernel_rfl) (of_decide_eq_true (by kernel_rfl)) h1 bel LT1) (trodAll_cons_mk (Below.trod laidOut (by kernel_rfl) (of_decide_eq_true (by kernel_rfl)) k2 bel lt2) (trodAll_cons_mk (Below.trod laidOut (by kernel_rfl) (of_decide_eq_true (by kernel_rfl)) k3 bel lt3) (trodAll_cons_mk (shut_int Try.underlying3 w4) trodAll_mk0))))), rfl, bel.frame _, fun h => by cases h⟩
theorem over : Rows.reachAllRow.holds Try.pinned (OpenSpec.ofChange Rows.reachAllSpec) :=
  OpenClaim.holds_of_wide 9 Try.f9 rfl rfl rfl rfl rfl rfl rfl ⟨rfl, rfl, rfl, rfl, rfl⟩ rfl rfl rfl rfl rfl (by kernel_rfl) Try.func9 (by kernel_rfl)
    (of_decide_eq_true (by kernel_rfl)) (by unfold Func.isWrapper; first | (rw [if_pos (by decide +kernel)]; kernel_rfl) | (rw [if_neg (by decide +kernel)]; exact ⟨rfl, rfl⟩))
    (fun os started H enc _ => lifted os started H enc)
theorem proved : Rows.ReachAllSaid := over
#print axioms proved
end Go.Proofs.Ytagjajmkmambiaa.reachAll
