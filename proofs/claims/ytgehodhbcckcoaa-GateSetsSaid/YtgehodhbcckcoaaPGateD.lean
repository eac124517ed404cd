/- Gates that come in as arguments. -/
import Derived.Test.YtgehodhbcckcoaaPGate
import Derived.Test.YtgehodhbcckcoaaAbsDeep
namespace Go.Proofs
open Go Go.Abs
set_option linter.unusedSimpArgs false
set_option linter.unusedVariables false
abbrev shI : Sh := .i .i64
abbrev shPt : List Sh := [shI, shI]
abbrev shRt : List Sh := [shI, .l shPt]
abbrev shGt : List Sh := [.l shRt, shI, shI]
abbrev shGs : List Sh := [shI, .b]
theorem pt_deep (y : List Cell) (h : okSs shPt y) : ∃ a : Pt, y = ePt a ∧ True := by
  match y, h with
  | [.sc (.int _ a), .sc (.int _ b)], ⟨rfl, rfl, _⟩ => exact ⟨(a, b), rfl, trivial⟩
theorem gs_deep (y : List Cell) (h : okSs shGs y) : ∃ a : Gs, y = gsC a ∧ True := by
  match y, h with
  | [.sc (.int _ a), .sc (.bool b)], ⟨rfl, _, _⟩ => exact ⟨⟨a, b⟩, rfl, trivial⟩
theorem rt_deep (y : List Cell) (h : okSs shRt y) : ∃ r : Rt, y = rtC r ∧ r.2.length ≤ 9223372036854775807 := by
  match y, h with
  | [.sc (.int _ a), .lst es], ⟨rfl, ⟨h1, h2⟩, _⟩ =>
    obtain ⟨l, rfl, _⟩ := all_formQ (f := ePt) pt_deep h2
    exact ⟨(a, l), rfl, by simpa [maxLen] using h1⟩
theorem gt_deep (y : List Cell) (h : okSs shGt y) : ∃ g : Gt, y = gtC g ∧ g.fin := by
  match y, h with
  | [.lst es, .sc (.int _ a), .sc (.int _ b)], ⟨⟨h1, h2⟩, rfl, rfl, _⟩ =>
    obtain ⟨l, rfl, h3⟩ := all_formQ (f := rtC) rt_deep h2
    exact ⟨⟨l, a, b⟩, rfl, by simpa [maxLen] using h1, h3⟩
end Go.Proofs
