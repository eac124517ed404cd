/- Flood rules and reservoirs that come in as arguments. -/
import Derived.Test.YtknjncmgohjpkaaPFlood2
import Derived.Test.YtknjncmgohjpkaaAbsDeep
namespace Go.Proofs
open Go Go.Abs
set_option linter.unusedSimpArgs false
set_option linter.unusedVariables false
abbrev shIF : Sh := .i .i64
abbrev shRw : List Sh := [.l [shIF]]
abbrev shFr : List Sh := [.l [shIF], .l [shIF], .l shRw, shIF, shIF, shIF]
abbrev shRs : List Sh := [.l [shIF, shIF], shIF, shIF, shIF, shIF, shIF]
abbrev shFs : List Sh := [.b, shIF]
theorem int_deepF (y : List Cell) (h : okSs [shIF] y) : ∃ a : Int, y = eI a ∧ True := by
  match y, h with
  | [.sc (.int _ a)], ⟨rfl, _⟩ => exact ⟨a, rfl, trivial⟩
theorem ptF_deep (y : List Cell) (h : okSs [shIF, shIF] y) : ∃ a : Pt, y = ePt a ∧ True := by
  match y, h with
  | [.sc (.int _ a), .sc (.int _ b)], ⟨rfl, rfl, _⟩ => exact ⟨(a, b), rfl, trivial⟩
theorem rw_deep (y : List Cell) (h : okSs shRw y) : ∃ r : Ls, y = rwC r ∧ r.length ≤ 9223372036854775807 := by
  match y, h with
  | [.lst es], ⟨⟨h1, h2⟩, _⟩ =>
    obtain ⟨l, rfl, _⟩ := all_formQ (f := eI) int_deepF h2
    exact ⟨l, rfl, by simpa [maxLen] using h1⟩
theorem fr_deep (y : List Cell) (h : okSs shFr y) : ∃ f : Fr, y = frC f ∧ f.t.fin := by
  match y, h with
  | [.lst a, .lst b, .lst c, .sc (.int _ p), .sc (.int _ q), .sc (.int _ s)], ⟨⟨a1, a2⟩, ⟨b1, b2⟩, ⟨c1, c2⟩, rfl, rfl, rfl, _⟩ =>
    obtain ⟨x, rfl, _⟩ := all_formQ (f := eI) int_deepF a2
    obtain ⟨y, rfl, _⟩ := all_formQ (f := eI) int_deepF b2
    obtain ⟨z, rfl, h3⟩ := all_formQ (f := rwC) rw_deep c2
    exact ⟨⟨⟨x, y, z⟩, p, q, s⟩, rfl, by simpa [maxLen] using a1, by simpa [maxLen] using b1, by simpa [maxLen] using c1, h3⟩
theorem rs_deep (y : List Cell) (h : okSs shRs y) : ∃ r : Rs, y = rsC r ∧ r.st.length ≤ 9223372036854775807 := by
  match y, h with
  | [.lst a, .sc (.int _ p), .sc (.int _ q), .sc (.int _ s), .sc (.int _ t), .sc (.int _ u)], ⟨⟨a1, a2⟩, rfl, rfl, rfl, rfl, rfl, _⟩ =>
    obtain ⟨x, rfl, _⟩ := all_formQ (f := ePt) ptF_deep a2
    exact ⟨⟨x, p, q, s, t, u⟩, rfl, by simpa [maxLen] using a1⟩
theorem fs_deep (y : List Cell) (h : okSs shFs y) : ∃ s : Fs, y = fsC s ∧ True := by
  match y, h with
  | [.sc (.bool a), .sc (.int _ b)], ⟨_, rfl, _⟩ => exact ⟨⟨a, b⟩, rfl, trivial⟩
end Go.Proofs
