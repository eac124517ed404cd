/-
  THE SHELL OF A PROOF OF 'Rows.StorageAllSaid' ('hydrocascade/hydrocascadelaw03.StorageAll'), WRITTEN BY PROGRAM (proof-skeleton.mjs, third state) off the guide's own print for that function. Not trusted: Lean checks it.
  YOURS IS THE HOLE MARKED 'HOLE' (it bears 'sorry'). ALL ELSE IS THE GUIDE's OWN WAY (howto/template/XProofs.lean; Derived/Test/ChunkProofs.lean for 'Below') at this function's number and types: leave it.
-/
import Derived.Test.YtfafoibbekgioaaRows
import Derived.Test.YtfafoibbekgioaaP03
import Derived.Test.YtfafoibbekgioaaAbsQ
import Derived.Test.YtfafoibbekgioaaAbsP
import Derived.WalkKit
import Derived.ProofKit
import Derived.OpenShut
import Derived.ShutString
import Derived.ChangeOld
import Derived.Below
namespace Go.Proofs.Ytfafoibbekgioaa.storageAll
open Go.ChangeShapes Go.WideShapes Go.ChangeAt Go.RowKit
open Go.ChangeMaps (open_string shut_string)
set_option linter.unusedVariables false

theorem own : ownKnob Try.prog.godebug = none := by kernel_rfl
theorem laidOut : laidOutB Try.prog = true := by kernel_rfl

/-- WHAT THE WALK IS TOLD OF A SLICE OF INTEGERS THAT CAME IN: it is nil; or it leads to a row of 'cap' cells, the numbers 'zs' (the first 'len' are its elements, the rest its spare room), each fitting its kind. -/
def IsRow (k : IntKind) (w : World) (a : Option Addr) (len cap : Nat) (zs : List Int) : Prop :=
  (a = none ∧ len = 0 ∧ cap = 0 ∧ zs = []) ∨
  ∃ x, a = some x ∧ x.spot = none ∧ len ≤ cap ∧ cap ≤ maxLen ∧ zs.length = cap ∧ (∀ i, i < zs.length → w.cell? (x.add i) = some (.int k (zs.getD i 0))) ∧ ∀ n ∈ zs, (Lit.int k n).wf = true

theorem pt_form (y : List Go.Abs.Cell) (h : Go.Abs.ksOk [some .i64, some .i64] y) : ∃ a : Pt, y = ePt a := by
  match y, h with
  | [.sc (.int _ a), .sc (.int _ b)], ⟨rfl, rfl, _⟩ => exact ⟨(a, b), rfl⟩

theorem walk (st : List Pt) (b0 b1 b2 b3 b4 : Int) (v0 : Value) (a0 : Option Addr) (len0 cap0 : Nat) (z0 : List Int) (a1 : Int) (a2 : Int) (w : World) (hst : st.length ≤ 9223372036854775807) (hv : Go.Abs.RepA (Go.Abs.g0 (Go.Abs.FIn w)) w (.agg [.lst (eP st), IC b0, IC b1, IC b2, IC b3, IC b4]) v0) (w0 : IsRow .i64 w a0 len0 cap0 z0) :
    Calls Try.prog 7 #[v0, .slice a0 len0 cap0, .int .i64 a1, .int .i64 a2] w fun e w' => e = .returned (.bool true) ∧ Below w.heap.size w w' := by
  have r0 : Go.Abs.RowIn .i64 w a0 len0 cap0 z0 := by
    rcases w0 with ⟨rfl, rfl, rfl, rfl⟩ | ⟨x, rfl, hx, hl, hc, hz, hcell, _⟩
    · exact .inl ⟨rfl, rfl, rfl, rfl⟩
    · exact .inr ⟨x, rfl, hx, hl, hc, hz, hcell⟩
  refine Go.Abs.calls_true (args := [_, _, _, _]) (vals := [_, _, _, _]) (all_ok) ⟨hv, Go.Abs.rep_row r0, Go.Abs.rep_int, Go.Abs.rep_int, trivial⟩ ?_
  refine ⟨⟨st, rfl, hst⟩, ⟨_, rfl, ?_⟩, rfl⟩
  have := Go.Abs.row_len r0
  simp only [maxLen] at this
  omega

/-! ### THE ROW's STEP: WRITTEN OUT: LEAVE IT -/
set_option maxRecDepth 100000 in
theorem lifted (os : Os) (started : os.Started) (H : Type) (enc : TypeId × Value → H) :
    ReturnsInHanded {} Try.checked os 7 .any (Rows.storageAllSpec.pre6 enc Try.prog Try.f7 Rows.storageAllRow.domain false) (Rows.storageAllSpec.post enc Try.prog Try.f7 false true false false) := by
  refine returnsInHanded_of_change (C := Try.checked) own started (by kernel_rfl) Try.func7
    (ChangeSpec.witness6 (enc := enc) (C := Try.checked) false ⟨#[], #[.agg #[.slice none 0 0, .int .i64 0, .int .i64 0, .int .i64 0, .int .i64 0, .int .i64 0], .slice none 0 0, .int .i64 0, .int .i64 0], []⟩ 8 (by kernel_rfl) (by kernel_rfl) (by kernel_rfl) (by kernel_rfl)) ?_
  intro W base args ds gs before hval0 hW hcnd _
  have hval : ∀ (j : Nat) t v, Try.f7.params[j]? = some t → args[j]? = some v → Value.okWide Try.prog W .any base t v := hval0
  have hW' := hW
  obtain ⟨p, q, hA0, hV, rfl, hfz, hnd⟩ := hW
  have hA : DataW.TrodAll enc Try.prog W 0 (fun _ => true) true Try.f7.params.toList args.toList ds p := hA0
  rw [Try.params7] at hA hval
  obtain ⟨u0, us0, f0, fs0, o0, g0, hargs, rfl, rfl, H0, R0⟩ := trodAll_cons hA
  obtain ⟨v0, vs0, d0, ds0, p0, q0, rfl, rfl, rfl, h0, r0⟩ := trodAll_cons R0
  obtain ⟨v1, vs1, d1, ds1, p1, q1, rfl, rfl, rfl, h1, r1⟩ := trodAll_cons r0
  obtain ⟨v2, vs2, d2, ds2, p2, q2, rfl, rfl, rfl, h2, r2⟩ := trodAll_cons r1
  obtain ⟨rfl, rfl, rfl⟩ := trodAll_nil r2
  obtain rfl : args = #[u0, v0, v1, v2] := by cases args; simp_all
  obtain ⟨rfl, rfl⟩ := trodVars_none hV
  have LT0 : ∀ x ∈ o0, x.block < W.heap.size := by obtain ⟨m, hm⟩ := H0; exact DataW.trod_lt m _ _ _ hm
  obtain ⟨st, b0, b1, b2, b3, b4, hst, hrep⟩ : ∃ (st : List Pt) (b0 b1 b2 b3 b4 : Int), st.length ≤ 9223372036854775807 ∧ Go.Abs.RepA (Go.Abs.g0 (Go.Abs.FIn W)) W (.agg [.lst (eP st), IC b0, IC b1, IC b2, IC b3, IC b4]) u0 := by
    obtain ⟨us, rfl, hul, hu⟩ := Go.Abs.struct_arg Try.underlying25 (by kernel_rfl) (by kernel_rfl) (hval 0 25 u0 rfl rfl) H0
    obtain ⟨c0, y0, n0, e0, t0, s0⟩ := hu 0 _ rfl
    obtain ⟨c1, y1, n1, e1, t1, _⟩ := hu 1 _ rfl
    obtain ⟨c2, y2, n2, e2, t2, _⟩ := hu 2 _ rfl
    obtain ⟨c3, y3, n3, e3, t3, _⟩ := hu 3 _ rfl
    obtain ⟨c4, y4, n4, e4, t4, _⟩ := hu 4 _ rfl
    obtain ⟨c5, y5, n5, e5, t5, _⟩ := hu 5 _ rfl
    obtain ⟨es, r0, l0, ks⟩ := Go.Abs.flat_row (ks := [some .i64, some .i64]) Try.underlying23 (by kernel_rfl) (by kernel_rfl) s0 t0
    obtain ⟨st, rfl⟩ := Go.Abs.all_form (f := ePt) pt_form ks
    obtain ⟨m1, k1, _⟩ := DataW.trod_int Try.underlying3 t1
    obtain ⟨m2, k2, _⟩ := DataW.trod_int Try.underlying3 t2
    obtain ⟨m3, k3, _⟩ := DataW.trod_int Try.underlying3 t3
    obtain ⟨m4, k4, _⟩ := DataW.trod_int Try.underlying3 t4
    obtain ⟨m5, k5, _⟩ := DataW.trod_int Try.underlying3 t5
    simp only [List.cons.injEq, and_true] at k1 k2 k3 k4 k5
    subst k1 k2 k3 k4 k5
    refine ⟨st, m1, m2, m3, m4, m5, by simpa [maxLen] using l0, .agg us (by rw [hul]; rfl) fun j c u hc hu' => ?_⟩
    match j, hc, hu' with
    | 0, hc, hu' => rw [e0] at hu'; simp at hc hu'; subst hc hu'; exact .pure r0
    | 1, hc, hu' => rw [e1] at hu'; simp at hc hu'; subst hc hu'; exact .pure (.sc rfl)
    | 2, hc, hu' => rw [e2] at hu'; simp at hc hu'; subst hc hu'; exact .pure (.sc rfl)
    | 3, hc, hu' => rw [e3] at hu'; simp at hc hu'; subst hc hu'; exact .pure (.sc rfl)
    | 4, hc, hu' => rw [e4] at hu'; simp at hc hu'; subst hc hu'; exact .pure (.sc rfl)
    | 5, hc, hu' => rw [e5] at hu'; simp at hc hu'; subst hc hu'; exact .pure (.sc rfl)
    | j + 6, hc, hu' => simp at hc
  have hvv0 := hval 1 22 v0 rfl rfl
  obtain ⟨a0, len0, cap0, rfl⟩ := okWide_slice Try.underlying22 (hval 1 22 v0 rfl rfl)
  have k0 := h0
  have lt0 : ∀ x ∈ p0, x.block < W.heap.size := by obtain ⟨m, hm⟩ := k0; exact DataW.trod_lt m _ _ _ hm
  obtain ⟨z0, w0⟩ : ∃ zs, IsRow .i64 W a0 len0 cap0 zs := by
    obtain ⟨fuel, hf⟩ := h0
    rcases open_ints Try.underlying22 Try.underlying3 (by kernel_rfl) hf with ⟨hcs, _⟩ | ⟨x, l, c, zs, hcs, _, hl, hm, hz, _, hcell, hwz⟩
    · simp [Value.cells] at hcs
      obtain ⟨rfl, rfl, rfl⟩ := hcs
      exact ⟨[], .inl ⟨rfl, rfl, rfl, rfl⟩⟩
    · simp [Value.cells] at hcs
      obtain ⟨rfl, rfl, rfl⟩ := hcs
      exact ⟨zs, .inr ⟨_, rfl, Go.Abs.okWide_spot Try.underlying22 hvv0, hl, hm, by simpa using hz, hcell, hwz⟩⟩
  obtain ⟨a1, rfl, rfl, rfl, w1⟩ := open_int Try.underlying3 (hval 2 3 v1 rfl rfl) h1
  obtain ⟨a2, rfl, rfl, rfl, w2⟩ := open_int Try.underlying3 (hval 3 3 v2 rfl rfl) h2
  clear hA0 hval0
  refine (walk st b0 b1 b2 b3 b4 u0 a0 len0 cap0 z0 a1 a2 W hst hrep w0).mono fun e W' ⟨he, bel⟩ => ?_
  subst he
  exact ⟨_, rfl, _, _, _, [], _, [], hW', trodAll_mk1 (shut_bool Try.underlying4 _), (trodAll_cons_mk (Below.trod laidOut (by kernel_rfl) (of_decide_eq_true (by kernel_rfl)) H0 bel LT0) (trodAll_cons_mk (Below.trod laidOut (by kernel_rfl) (of_decide_eq_true (by kernel_rfl)) k0 bel lt0) (trodAll_cons_mk (shut_int Try.underlying3 w1) (trodAll_cons_mk (shut_int Try.underlying3 w2) trodAll_mk0)))), rfl, bel.frame _, fun h => by cases h⟩

theorem over : Rows.storageAllRow.holds Try.pinned (OpenSpec.ofChange Rows.storageAllSpec) :=
  OpenClaim.holds_of_wide 7 Try.f7 rfl rfl rfl rfl rfl rfl rfl ⟨rfl, rfl, rfl, rfl, rfl⟩ rfl rfl rfl rfl rfl (by kernel_rfl) Try.func7 (by kernel_rfl)
    (of_decide_eq_true (by kernel_rfl)) (by unfold Func.isWrapper; first | (rw [if_pos (by decide +kernel)]; kernel_rfl) | (rw [if_neg (by decide +kernel)]; exact ⟨rfl, rfl⟩))
    (fun os started H enc _ => lifted os started H enc)

/-- ████ THE STATEMENT ████ -/
theorem proved : Rows.StorageAllSaid := over
#print axioms proved
end Go.Proofs.Ytfafoibbekgioaa.storageAll

