/-
  No cell of these rows narrows 'for every input' (looked for: loops, veiled, ifaces, maps, wideKeys, modest, calm, conditions, laid).
  DERIVED. THE GIVEN ROWS OF THIS SEAT. 5 by the template 'for every input the law returns true; each argument reads behind the call as it read before'; 0 by the template 'total and deterministic' (their statements: YtnmijdmpbpnjhaaTotals.lean).
  GIVEN WITH THE SEED: the statements are not yours to turn. If you find one false, say at which input.
  Laid BY PROGRAM, IN A SANDBOX (cutbox-rows.mjs): the forced cells as the released guide's own fill.sh prints them over the translation 0d56ad6c05809f1b… (all of the seat's roots in one cut). By AI agents, Wed Nov 11 2026. No macro, syntax, notation, axiom, sorry.
-/
import Derived.Test.YtnmijdmpbpnjhaaChecked
import GoSem.Claim
import GoSem.ClaimJoined
import GoSem.ClaimMapViews
import Derived.JoinedTies
import Derived.KernelRfl
namespace Go.Proofs.Ytnmijdmpbpnjhaa
/- THE CELL 'sum', in the pinned program and in every row, IS THE sha256 OF THE DUMP (.gsa) THAT YtnmijdmpbpnjhaaProg.lean LOADS. Nothing in Lean hashes anything: it is a label: what it is worth is what the hold of that sum in a sandbox is worth. -/
noncomputable def Try.pinned : Pinned := { name := "ytnmijdmpbpnjhaa", sum := "0d56ad6c05809f1bef4f094f851f93d7fc9d9f726fc1f76543a979d21bc4bed2", checked := Try.checked }
namespace Rows
def none {H : Type} : Left H := { results := [], args := [] }

/-- 'hydrocascadelaw05.RulecurveTurns': WHATEVER THE INPUT: true; the input reads as it did. -/
def rulecurveTurnsSpec : ChangeSpec := { name := "rulecurveTurns", fn := fun _ => fun
  | [d1, d2, d3] => { results := [.lit (.bool true)], args := [d1, d2, d3] }
  | _ => none }
def rulecurveTurnsRow : OpenClaim := { program := "ytnmijdmpbpnjhaa", sum := "0d56ad6c05809f1bef4f094f851f93d7fc9d9f726fc1f76543a979d21bc4bed2", func := "hydrocascade/hydrocascadelaw05.RulecurveTurns", spec := "rulecurveTurns", apart := false }
def RulecurveTurnsSaid : Prop := rulecurveTurnsRow.holds Try.pinned (OpenSpec.ofChange rulecurveTurnsSpec)

/-- ITS FALSE NEIGHBOUR: 'it returns false'. Refute it at one input. -/
def rulecurveTurnsWrong : ChangeSpec := { name := "rulecurveTurns", fn := fun _ => fun
  | [d1, d2, d3] => { results := [.lit (.bool false)], args := [d1, d2, d3] }
  | _ => none }
def RulecurveTurnsWrongFalsely : Prop := rulecurveTurnsRow.holds Try.pinned (OpenSpec.ofChange rulecurveTurnsWrong)

/-- 'hydrocascadelaw05.RulecurveHeights': WHATEVER THE INPUT: true; the input reads as it did. -/
def rulecurveHeightsSpec : ChangeSpec := { name := "rulecurveHeights", fn := fun _ => fun
  | [d1, d2, d3] => { results := [.lit (.bool true)], args := [d1, d2, d3] }
  | _ => none }
def rulecurveHeightsRow : OpenClaim := { program := "ytnmijdmpbpnjhaa", sum := "0d56ad6c05809f1bef4f094f851f93d7fc9d9f726fc1f76543a979d21bc4bed2", func := "hydrocascade/hydrocascadelaw05.RulecurveHeights", spec := "rulecurveHeights", apart := false }
def RulecurveHeightsSaid : Prop := rulecurveHeightsRow.holds Try.pinned (OpenSpec.ofChange rulecurveHeightsSpec)

/-- ITS FALSE NEIGHBOUR: 'it returns false'. Refute it at one input. -/
def rulecurveHeightsWrong : ChangeSpec := { name := "rulecurveHeights", fn := fun _ => fun
  | [d1, d2, d3] => { results := [.lit (.bool false)], args := [d1, d2, d3] }
  | _ => none }
def RulecurveHeightsWrongFalsely : Prop := rulecurveHeightsRow.holds Try.pinned (OpenSpec.ofChange rulecurveHeightsWrong)

/-- 'hydrocascadelaw05.RulecurveBetween': WHATEVER THE INPUT: true; the input reads as it did. -/
def rulecurveBetweenSpec : ChangeSpec := { name := "rulecurveBetween", fn := fun _ => fun
  | [d1, d2] => { results := [.lit (.bool true)], args := [d1, d2] }
  | _ => none }
def rulecurveBetweenRow : OpenClaim := { program := "ytnmijdmpbpnjhaa", sum := "0d56ad6c05809f1bef4f094f851f93d7fc9d9f726fc1f76543a979d21bc4bed2", func := "hydrocascade/hydrocascadelaw05.RulecurveBetween", spec := "rulecurveBetween", apart := false }
def RulecurveBetweenSaid : Prop := rulecurveBetweenRow.holds Try.pinned (OpenSpec.ofChange rulecurveBetweenSpec)

/-- ITS FALSE NEIGHBOUR: 'it returns false'. Refute it at one input. -/
def rulecurveBetweenWrong : ChangeSpec := { name := "rulecurveBetween", fn := fun _ => fun
  | [d1, d2] => { results := [.lit (.bool false)], args := [d1, d2] }
  | _ => none }
def RulecurveBetweenWrongFalsely : Prop := rulecurveBetweenRow.holds Try.pinned (OpenSpec.ofChange rulecurveBetweenWrong)

/-- 'hydrocascadelaw05.RulecurveSurplus': WHATEVER THE INPUT: true; the input reads as it did. -/
def rulecurveSurplusSpec : ChangeSpec := { name := "rulecurveSurplus", fn := fun _ => fun
  | [d1, d2, d3] => { results := [.lit (.bool true)], args := [d1, d2, d3] }
  | _ => none }
def rulecurveSurplusRow : OpenClaim := { program := "ytnmijdmpbpnjhaa", sum := "0d56ad6c05809f1bef4f094f851f93d7fc9d9f726fc1f76543a979d21bc4bed2", func := "hydrocascade/hydrocascadelaw05.RulecurveSurplus", spec := "rulecurveSurplus", apart := false }
def RulecurveSurplusSaid : Prop := rulecurveSurplusRow.holds Try.pinned (OpenSpec.ofChange rulecurveSurplusSpec)

/-- ITS FALSE NEIGHBOUR: 'it returns false'. Refute it at one input. -/
def rulecurveSurplusWrong : ChangeSpec := { name := "rulecurveSurplus", fn := fun _ => fun
  | [d1, d2, d3] => { results := [.lit (.bool false)], args := [d1, d2, d3] }
  | _ => none }
def RulecurveSurplusWrongFalsely : Prop := rulecurveSurplusRow.holds Try.pinned (OpenSpec.ofChange rulecurveSurplusWrong)

/-- 'hydrocascadelaw05.RulecurveAll': WHATEVER THE INPUT: true; the input reads as it did. -/
def rulecurveAllSpec : ChangeSpec := { name := "rulecurveAll", fn := fun _ => fun
  | [d1, d2, d3, d4, d5] => { results := [.lit (.bool true)], args := [d1, d2, d3, d4, d5] }
  | _ => none }
def rulecurveAllRow : OpenClaim := { program := "ytnmijdmpbpnjhaa", sum := "0d56ad6c05809f1bef4f094f851f93d7fc9d9f726fc1f76543a979d21bc4bed2", func := "hydrocascade/hydrocascadelaw05.RulecurveAll", spec := "rulecurveAll", apart := false }
def RulecurveAllSaid : Prop := rulecurveAllRow.holds Try.pinned (OpenSpec.ofChange rulecurveAllSpec)

/-- ITS FALSE NEIGHBOUR: 'it returns false'. Refute it at one input. -/
def rulecurveAllWrong : ChangeSpec := { name := "rulecurveAll", fn := fun _ => fun
  | [d1, d2, d3, d4, d5] => { results := [.lit (.bool false)], args := [d1, d2, d3, d4, d5] }
  | _ => none }
def RulecurveAllWrongFalsely : Prop := rulecurveAllRow.holds Try.pinned (OpenSpec.ofChange rulecurveAllWrong)

/- THE SECOND FORM. 'bulk': how many values and letters a reading holds, each counted each time it is reached (what is shared counts as often as it is met; a slice's spare places count too). A statement '..UptoSaid' is the law's where the arguments, and the package variables that the reading takes, are together of bulk at most 1048576: NARROWER than '..Said'. Prove '..Said' where nothing that the law and all that it calls make is longer than what came in: it says more and counts as full. Else prove '..UptoSaid'. A law counts once. -/
mutual
def uptoBulk {H : Type} : DataW H → Nat
  | .lit (.string bytes) => bytes.length + 1
  | .lit _ => 1
  | .nil => 1
  | .ptr d => uptoBulk d + 1
  | .slice elems spare => uptoBulkAll elems + uptoBulkAll spare + 1
  | .agg parts => uptoBulkAll parts + 1
  | .iface _ d => uptoBulk d + 1
  | .map entries => uptoBulkEntries entries + 1
  | .held _ => 1
def uptoBulkAll {H : Type} : List (DataW H) → Nat
  | [] => 0
  | d :: r => uptoBulk d + uptoBulkAll r
def uptoBulkEntries {H : Type} : List (Lit × DataW H) → Nat
  | [] => 0
  | x :: r => uptoBulkEntry x + uptoBulkEntries r
def uptoBulkEntry {H : Type} : Lit × DataW H → Nat
  | (.string bytes, d) => bytes.length + uptoBulk d + 1
  | (_, d) => uptoBulk d + 1
 end
def uptoSmall : (H : Type) → List (DataW H) → Bool := fun _ ds => decide (uptoBulkAll ds ≤ 1048576)
def OpenSpec.upto (s : _root_.Go.ChangeSpec) : _root_.Go.OpenSpec := { _root_.Go.OpenSpec.ofChange s with cond := some uptoSmall }

/-- 'hydrocascadelaw05.RulecurveTurns', WHERE WHAT IT READS IS OF BULK AT MOST 1048576: true; the input reads as it did. -/
def rulecurveTurnsUptoRow : OpenClaim := { program := "ytnmijdmpbpnjhaa", sum := "0d56ad6c05809f1bef4f094f851f93d7fc9d9f726fc1f76543a979d21bc4bed2", func := "hydrocascade/hydrocascadelaw05.RulecurveTurns", spec := "rulecurveTurns", apart := false, narrowed := true }
def RulecurveTurnsUptoSaid : Prop := rulecurveTurnsUptoRow.holds Try.pinned (OpenSpec.upto rulecurveTurnsSpec)

/-- 'hydrocascadelaw05.RulecurveHeights', WHERE WHAT IT READS IS OF BULK AT MOST 1048576: true; the input reads as it did. -/
def rulecurveHeightsUptoRow : OpenClaim := { program := "ytnmijdmpbpnjhaa", sum := "0d56ad6c05809f1bef4f094f851f93d7fc9d9f726fc1f76543a979d21bc4bed2", func := "hydrocascade/hydrocascadelaw05.RulecurveHeights", spec := "rulecurveHeights", apart := false, narrowed := true }
def RulecurveHeightsUptoSaid : Prop := rulecurveHeightsUptoRow.holds Try.pinned (OpenSpec.upto rulecurveHeightsSpec)

/-- 'hydrocascadelaw05.RulecurveBetween', WHERE WHAT IT READS IS OF BULK AT MOST 1048576: true; the input reads as it did. -/
def rulecurveBetweenUptoRow : OpenClaim := { program := "ytnmijdmpbpnjhaa", sum := "0d56ad6c05809f1bef4f094f851f93d7fc9d9f726fc1f76543a979d21bc4bed2", func := "hydrocascade/hydrocascadelaw05.RulecurveBetween", spec := "rulecurveBetween", apart := false, narrowed := true }
def RulecurveBetweenUptoSaid : Prop := rulecurveBetweenUptoRow.holds Try.pinned (OpenSpec.upto rulecurveBetweenSpec)

/-- 'hydrocascadelaw05.RulecurveSurplus', WHERE WHAT IT READS IS OF BULK AT MOST 1048576: true; the input reads as it did. -/
def rulecurveSurplusUptoRow : OpenClaim := { program := "ytnmijdmpbpnjhaa", sum := "0d56ad6c05809f1bef4f094f851f93d7fc9d9f726fc1f76543a979d21bc4bed2", func := "hydrocascade/hydrocascadelaw05.RulecurveSurplus", spec := "rulecurveSurplus", apart := false, narrowed := true }
def RulecurveSurplusUptoSaid : Prop := rulecurveSurplusUptoRow.holds Try.pinned (OpenSpec.upto rulecurveSurplusSpec)

/-- 'hydrocascadelaw05.RulecurveAll', WHERE WHAT IT READS IS OF BULK AT MOST 1048576: true; the input reads as it did. -/
def rulecurveAllUptoRow : OpenClaim := { program := "ytnmijdmpbpnjhaa", sum := "0d56ad6c05809f1bef4f094f851f93d7fc9d9f726fc1f76543a979d21bc4bed2", func := "hydrocascade/hydrocascadelaw05.RulecurveAll", spec := "rulecurveAll", apart := false, narrowed := true }
def RulecurveAllUptoSaid : Prop := rulecurveAllUptoRow.holds Try.pinned (OpenSpec.upto rulecurveAllSpec)

end Rows
end Go.Proofs.Ytnmijdmpbpnjhaa
