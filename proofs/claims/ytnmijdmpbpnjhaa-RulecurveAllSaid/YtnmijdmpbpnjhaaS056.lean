/- The statement RulecurveAll of the seat's Rows, proved: all results, or the error; no condition. -/
import Derived.Test.YtnmijdmpbpnjhaaRows
import Derived.Test.YtnmijdmpbpnjhaaX5k
import Derived.Test.YtnmijdmpbpnjhaaAbsQ
import Derived.Test.YtnmijdmpbpnjhaaAbsP
import Derived.WalkKit
import Derived.ProofKit
import Derived.OpenShut
import Derived.ShutString
import Derived.ChangeOld
import Derived.Below
namespace Go.Proofs.Ytnmijdmpbpnjhaa.rulecurveAll
open Go.ChangeShapes Go.WideShapes Go.ChangeAt Go.RowKit
open Go.ChangeMaps (open_string shut_string)
set_option linter.unusedVariables false
theorem own : ownKnob Try.prog.godebug = none := by kernel_rfl
theorem laidOut : laidOutB Try.prog = true := by kernel_rfl
theorem pt_form (y : List Go.Abs.Cell) (h : Go.Abs.ksOk [some .i64, some .i64] y) : ∃ a : Pt, y = ePt a := by
  match y, h with
  | [.sc (.int _ a), .sc (.int _ b)], ⟨rfl, rfl, _⟩ => exact ⟨(a, b), rfl⟩
set_option maxRecDepth 100000 in
theorem lifted (os : Os) (started : os.Started) (H : Type) (enc : TypeId × Value → H) :
    ReturnsInHanded {} Try.checked os 7 .any (Rows.rulecurveAllSpec.pre6 enc Try.prog Try.f7 Rows.rulecurveAllRow.domain false) (Rows.rulecurveAllSpec.post enc Try.prog Try.f7 false true false false) := by
  refine returnsInHanded_of_change (C := Try.checked) own started (by kernel_rfl) Try.func7
    (ChangeSpec.witness6 (enc := enc) (C := Try.checked) false ⟨#[], #[.slice none 0 0, .agg #[.slice none 0 0, .int .i64 0, .int .i64 0, .int .i64 0, .int .i64 0, .int .i64 0], .slice none 0 0, .int .i64 0, .int .i64 0], []⟩ 8 (by kernel_rfl) (by kernel_rfl) (by kernel_rfl) (by kernel_rfl)) ?_
  intro W base args ds gs before hval0 hW hcnd _
  have hval : ∀ (j : Nat) t v, Try.f7.params[j]? = some t → args[j]? = some v → Value.okWide Try.prog W .any base t v := hval0
  have hW' := hW
  obtain ⟨p, q, hA0, hV, rfl, hfz, hnd⟩ := hW
  have hA : DataW.TrodAll enc Try.prog W 0 (fun _ => true) true Try.f7.params.toList args.toList ds p := hA0
  rw [Try.params7] at hA hval
  obtain ⟨v0, vs0, d0, ds0, p0, q0, hargs, rfl, rfl, h0, r0⟩ := trodAll_cons hA
  obtain ⟨v1, vs1, d1, ds1, p1, q1, rfl, rfl, rfl, h1, r1⟩ := trodAll_cons r0
  obtain ⟨v2, vs2, d2, ds2, p2, q2, rfl, rfl, rfl, h2, r2⟩ := trodAll_cons r1
  obtain ⟨v3, vs3, d3, ds3, p3, q3, rfl, rfl, rfl, h3, r3⟩ := trodAll_cons r2
  obtain ⟨v4, vs4, d4, ds4, p4, q4, rfl, rfl, rfl, h4, r4⟩ := trodAll_cons r3
  obtain ⟨rfl, rfl, rfl⟩ := trodAll_nil r4
  obtain rfl : args = #[v0, v1, v2, v3, v4] := by cases args; simp_all
  obtain ⟨rfl, rfl⟩ := trodVars_none hV
  have hvv0 := hval 0 25 v0 rfl rfl
  obtain ⟨a0, len0, cap0, rfl⟩ := okWide_slice Try.underlying25 (hval 0 25 v0 rfl rfl)
  have lt0 : ∀ x ∈ p0, x.block < W.heap.size := by obtain ⟨m, hm⟩ := h0; exact DataW.trod_lt m _ _ _ hm
  obtain ⟨es0, rr0, ll0, ks0⟩ : ∃ es, Go.Abs.RepP (Go.Abs.FIn W) W (.lst es) (.slice a0 len0 cap0) ∧ es.length ≤ maxLen ∧ ∀ y ∈ es, Go.Abs.ksOk [some .i64, some .i64] y := by
    obtain ⟨fuel, hf⟩ := h0
    exact Go.Abs.flat_row Try.underlying25 (by kernel_rfl) (by kernel_rfl) (fun a' l' c' e => by cases e; exact Go.Abs.okWide_spot Try.underlying25 hvv0) hf
  obtain ⟨x0, rfl⟩ := Go.Abs.all_form (f := ePt) pt_form ks0
  have hlen0 : x0.length ≤ 9223372036854775807 := by simpa [maxLen] using ll0
  have LT1 : ∀ x ∈ p1, x.block < W.heap.size := by obtain ⟨m, hm⟩ := h1; exact DataW.trod_lt m _ _ _ hm
  obtain ⟨x1_0, x1_1, x1_2, x1_3, x1_4, x1_5, hrep1, hl1_0⟩ : ∃ (x1_0 : List Pt) (x1_1 : Int) (x1_2 : Int) (x1_3 : Int) (x1_4 : Int) (x1_5 : Int), Go.Abs.RepA (Go.Abs.g0 (Go.Abs.FIn W)) W (.agg [.lst (eP x1_0), IC x1_1, IC x1_2, IC x1_3, IC x1_4, IC x1_5]) v1 ∧ x1_0.length ≤ 9223372036854775807 := by
    obtain ⟨us, rfl, hul, hu⟩ := Go.Abs.struct_arg Try.underlying40 (by kernel_rfl) (by kernel_rfl) (hval 1 40 v1 rfl rfl) h1
    obtain ⟨c0, y0, n0, e0, t0, s0⟩ := hu 0 _ rfl
    obtain ⟨c1, y1, n1, e1, t1, s1⟩ := hu 1 _ rfl
    obtain ⟨c2, y2, n2, e2, t2, s2⟩ := hu 2 _ rfl
    obtain ⟨c3, y3, n3, e3, t3, s3⟩ := hu 3 _ rfl
    obtain ⟨c4, y4, n4, e4, t4, s4⟩ := hu 4 _ rfl
    obtain ⟨c5, y5, n5, e5, t5, s5⟩ := hu 5 _ rfl
    obtain ⟨es0, rr0, ll0, ks0⟩ := Go.Abs.flat_row (ks := [some .i64, some .i64]) Try.underlying25 (by kernel_rfl) (by kernel_rfl) s0 t0
    obtain ⟨m0, rfl⟩ := Go.Abs.all_form (f := ePt) pt_form ks0
    obtain ⟨m1, k1, _⟩ := DataW.trod_int Try.underlying3 t1
    simp only [List.cons.injEq, and_true] at k1
    subst k1
    obtain ⟨m2, k2, _⟩ := DataW.trod_int Try.underlying3 t2
    simp only [List.cons.injEq, and_true] at k2
    subst k2
    obtain ⟨m3, k3, _⟩ := DataW.trod_int Try.underlying3 t3
    simp only [List.cons.injEq, and_true] at k3
    subst k3
    obtain ⟨m4, k4, _⟩ := DataW.trod_int Try.underlying3 t4
    simp only [List.cons.injEq, and_true] at k4
    subst k4
    obtain ⟨m5, k5, _⟩ := DataW.trod_int Try.underlying3 t5
    simp only [List.cons.injEq, and_true] at k5
    subst k5
    refine ⟨m0, m1, m2, m3, m4, m5, .agg us (by rw [hul]; rfl) fun j c u hc hu' => ?_, by simpa [maxLen] using ll0⟩
    match j, hc, hu' with
    | 0, hc, hu' => rw [e0] at hu'; simp at hc hu'; subst hc hu'; exact .pure rr0
    | 1, hc, hu' => rw [e1] at hu'; simp at hc hu'; subst hc hu'; exact .pure (.sc rfl)
    | 2, hc, hu' => rw [e2] at hu'; simp at hc hu'; subst hc hu'; exact .pure (.sc rfl)
    | 3, hc, hu' => rw [e3] at hu'; simp at hc hu'; subst hc hu'; exact .pure (.sc rfl)
    | 4, hc, hu' => rw [e4] at hu'; simp at hc hu'; subst hc hu'; exact .pure (.sc rfl)
    | 5, hc, hu' => rw [e5] at hu'; simp at hc hu'; subst hc hu'; exact .pure (.sc rfl)
    | j + 6, hc, hu' => simp at hc
  have hvv2 := hval 2 22 v2 rfl rfl
  obtain ⟨a2, len2, cap2, rfl⟩ := okWide_slice Try.underlying22 (hval 2 22 v2 rfl rfl)
  have k2 := h2
  have lt2 : ∀ x ∈ p2, x.block < W.heap.size := by obtain ⟨m, hm⟩ := k2; exact DataW.trod_lt m _ _ _ hm
  obtain ⟨z2, w2⟩ : ∃ zs, Go.Abs.RowIn .i64 W a2 len2 cap2 zs := by
    obtain ⟨fuel, hf⟩ := h2
    rcases open_ints Try.underlying22 Try.underlying3 (by kernel_rfl) hf with ⟨hcs, _⟩ | ⟨x, l, c, zs, hcs, _, hl, hm, hz, _, hcell, hwz⟩
    · simp [Value.cells] at hcs
      obtain ⟨rfl, rfl, rfl⟩ := hcs
      exact ⟨[], .inl ⟨rfl, rfl, rfl, rfl⟩⟩
    · simp [Value.cells] at hcs
      obtain ⟨rfl, rfl, rfl⟩ := hcs
      exact ⟨zs, .inr ⟨_, rfl, Go.Abs.okWide_spot Try.underlying22 hvv2, hl, hm, by simpa using hz, hcell⟩⟩
  have hlen2 := Go.Abs.row_len w2
  simp only [maxLen] at hlen2
  obtain ⟨a3, rfl, rfl, rfl, w3⟩ := open_int Try.underlying3 (hval 3 3 v3 rfl rfl) h3
  obtain ⟨a4, rfl, rfl, rfl, w4⟩ := open_int Try.underlying3 (hval 4 3 v4 rfl rfl) h4
  clear hA0 hval0
  refine (Go.Abs.calls_true (args := [_, _, _, _, _]) (vals := [_, _, _, _, _]) (all_ok) ⟨Go.Abs.RepA.c (.pure rr0), hrep1, Go.Abs.rep_row w2, Go.Abs.rep_int, Go.Abs.rep_int, trivial⟩ ⟨_, ⟨x1_0, x1_1, x1_2, x1_3, x1_4, x1_5⟩, _, _, _, rfl, hlen0, hl1_0, by omega, rfl⟩).mono fun e W' ⟨he, bel⟩ => ?_
  subst he
  exact ⟨_, rfl, _, _, _, [], _, [], hW', trodAll_mk1 (shut_bool Try.underlying4 _), (trodAll_cons_mk (Below.trod laidOut (by kernel_rfl) (of_decide_eq_true (by kernel_rfl)) h0 bel lt0) (trodAll_cons_mk (Below.trod laidOut (by kernel_rfl) (of_decide_eq_true (by kernel_rfl)) h1 bel LT1) (trodAll_cons_mk (Below.trod laidOut (by kernel_rfl) (of_decide_eq_true (by kernel_rfl)) k2 bel lt2) (trodAll_cons_mk (shut_int Try.underlying3 w3) (trodAll_cons_mk (shut_int Try.underlying3 w4) trodAll_mk0))))), rfl, bel.frame _, fun h => by cases h⟩
theorem over : Rows.rulecurveAllRow.holds Try.pinned (OpenSpec.ofChange Rows.rulecurveAllSpec) :=
  OpenClaim.holds_of_wide 7 Try.f7 rfl rfl rfl rfl rfl rfl rfl ⟨rfl, rfl, rfl, rfl, rfl⟩ rfl rfl rfl rfl rfl (by kernel_rfl) Try.func7 (by kernel_rfl)
    (of_decide_eq_true (by kernel_rfl)) (by unfold Func.isWrapper; first | (rw [if_pos (by decide +kernel)]; kernel_rfl) | (rw [if_neg (by decide +kernel)]; exact ⟨rfl, rfl⟩))
    (fun os started H enc _ => lifted os started H enc)
theorem proved : Rows.RulecurveAllSaid := over
#print axioms proved
end Go.Proofs.Ytnmijdmpbpnjhaa.rulecurveAll
