/- Rivers and waves that come in as arguments. -/
import Derived.Test.YthkimpoeiighoaaPRiver
import Derived.Test.YthkimpoeiighoaaAbsDeep
namespace Go.Proofs
open Go Go.Abs
set_option linter.unusedSimpArgs false
set_option linter.unusedVariables false
abbrev shIR : Sh := .i .i64
abbrev shLk : List Sh := [shIR, shIR, .l [shIR], shIR]
abbrev shRv : List Sh := [shIR, .l shLk]
abbrev shWv : List Sh := [.l [shIR]]
theorem int_deepR (y : List Cell) (h : okSs [shIR] y) : ∃ a : Int, y = eI a ∧ True := by
  match y, h with
  | [.sc (.int _ a)], ⟨rfl, _⟩ => exact ⟨a, rfl, trivial⟩
theorem wv_deep (y : List Cell) (h : okSs shWv y) : ∃ r : Ls, y = wvC r ∧ r.length ≤ 9223372036854775807 := by
  match y, h with
  | [.lst es], ⟨⟨h1, h2⟩, _⟩ =>
    obtain ⟨l, rfl, _⟩ := all_formQ (f := eI) int_deepR h2
    exact ⟨l, rfl, by simpa [maxLen] using h1⟩
theorem lk_deep (y : List Cell) (h : okSs shLk y) : ∃ r : Lk, y = lkC r ∧ r.ws.length ≤ 9223372036854775807 := by
  match y, h with
  | [.sc (.int _ a), .sc (.int _ b), .lst es, .sc (.int _ c)], ⟨rfl, rfl, ⟨h1, h2⟩, rfl, _⟩ =>
    obtain ⟨l, rfl, _⟩ := all_formQ (f := eI) int_deepR h2
    exact ⟨⟨a, b, l, c⟩, rfl, by simpa [maxLen] using h1⟩
theorem rv_deep (y : List Cell) (h : okSs shRv y) : ∃ r : Rv, y = rvC r ∧ r.fin := by
  match y, h with
  | [.sc (.int _ a), .lst es], ⟨rfl, ⟨h1, h2⟩, _⟩ =>
    obtain ⟨l, rfl, h3⟩ := all_formQ (f := lkC) lk_deep h2
    exact ⟨⟨a, l⟩, rfl, by simpa [maxLen] using h1, h3⟩
end Go.Proofs
