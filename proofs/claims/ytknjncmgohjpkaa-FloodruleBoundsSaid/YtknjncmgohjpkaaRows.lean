/-
  No cell of these rows narrows 'for every input' (looked for: loops, veiled, ifaces, maps, wideKeys, modest, calm, conditions, laid).
  DERIVED. THE GIVEN ROWS OF THIS SEAT. 5 by the template 'for every input the law returns true; each argument reads behind the call as it read before'; 0 by the template 'total and deterministic' (their statements: YtknjncmgohjpkaaTotals.lean).
  GIVEN WITH THE SEED: the statements are not yours to turn. If you find one false, say at which input.
  Laid BY PROGRAM, IN A SANDBOX (cutbox-rows.mjs): the forced cells as the released guide's own fill.sh prints them over the translation a5c463bd8f0882d8… (all of the seat's roots in one cut). By AI agents, Wed Nov 11 2026. No macro, syntax, notation, axiom, sorry.
-/
import Derived.Test.YtknjncmgohjpkaaChecked
import GoSem.Claim
import GoSem.ClaimJoined
import GoSem.ClaimMapViews
import Derived.JoinedTies
import Derived.KernelRfl
namespace Go.Proofs.Ytknjncmgohjpkaa
/- THE CELL 'sum', in the pinned program and in every row, IS THE sha256 OF THE DUMP (.gsa) THAT YtknjncmgohjpkaaProg.lean LOADS. Nothing in Lean hashes anything: it is a label: what it is worth is what the hold of that sum in a sandbox is worth. -/
noncomputable def Try.pinned : Pinned := { name := "ytknjncmgohjpkaa", sum := "a5c463bd8f0882d80747d1e77daea91d95f053952784d36c0f3386c03be3f52b", checked := Try.checked }
namespace Rows
def none {H : Type} : Left H := { results := [], args := [] }

/-- 'hydrocascadelaw25.FloodruleCalm': WHATEVER THE INPUT: true; the input reads as it did. -/
def floodruleCalmSpec : ChangeSpec := { name := "floodruleCalm", fn := fun _ => fun
  | [d1, d2] => { results := [.lit (.bool true)], args := [d1, d2] }
  | _ => none }
def floodruleCalmRow : OpenClaim := { program := "ytknjncmgohjpkaa", sum := "a5c463bd8f0882d80747d1e77daea91d95f053952784d36c0f3386c03be3f52b", func := "hydrocascade/hydrocascadelaw25.FloodruleCalm", spec := "floodruleCalm", unfollowed := true, recurses := true, apart := false }
def FloodruleCalmSaid : Prop := floodruleCalmRow.holds Try.pinned (OpenSpec.ofChange floodruleCalmSpec)

/-- ITS FALSE NEIGHBOUR: 'it returns false'. Refute it at one input. -/
def floodruleCalmWrong : ChangeSpec := { name := "floodruleCalm", fn := fun _ => fun
  | [d1, d2] => { results := [.lit (.bool false)], args := [d1, d2] }
  | _ => none }
def FloodruleCalmWrongFalsely : Prop := floodruleCalmRow.holds Try.pinned (OpenSpec.ofChange floodruleCalmWrong)

/-- 'hydrocascadelaw25.FloodruleNext': WHATEVER THE INPUT: true; the input reads as it did. -/
def floodruleNextSpec : ChangeSpec := { name := "floodruleNext", fn := fun _ => fun
  | [d1, d2, d3, d4, d5, d6] => { results := [.lit (.bool true)], args := [d1, d2, d3, d4, d5, d6] }
  | _ => none }
def floodruleNextRow : OpenClaim := { program := "ytknjncmgohjpkaa", sum := "a5c463bd8f0882d80747d1e77daea91d95f053952784d36c0f3386c03be3f52b", func := "hydrocascade/hydrocascadelaw25.FloodruleNext", spec := "floodruleNext", unfollowed := true, recurses := true, apart := false }
def FloodruleNextSaid : Prop := floodruleNextRow.holds Try.pinned (OpenSpec.ofChange floodruleNextSpec)

/-- ITS FALSE NEIGHBOUR: 'it returns false'. Refute it at one input. -/
def floodruleNextWrong : ChangeSpec := { name := "floodruleNext", fn := fun _ => fun
  | [d1, d2, d3, d4, d5, d6] => { results := [.lit (.bool false)], args := [d1, d2, d3, d4, d5, d6] }
  | _ => none }
def FloodruleNextWrongFalsely : Prop := floodruleNextRow.holds Try.pinned (OpenSpec.ofChange floodruleNextWrong)

/-- 'hydrocascadelaw25.FloodruleBounds': WHATEVER THE INPUT: true; the input reads as it did. -/
def floodruleBoundsSpec : ChangeSpec := { name := "floodruleBounds", fn := fun _ => fun
  | [d] => { results := [.lit (.bool true)], args := [d] }
  | _ => none }
def floodruleBoundsRow : OpenClaim := { program := "ytknjncmgohjpkaa", sum := "a5c463bd8f0882d80747d1e77daea91d95f053952784d36c0f3386c03be3f52b", func := "hydrocascade/hydrocascadelaw25.FloodruleBounds", spec := "floodruleBounds", unfollowed := true, recurses := true, apart := false }
def FloodruleBoundsSaid : Prop := floodruleBoundsRow.holds Try.pinned (OpenSpec.ofChange floodruleBoundsSpec)

/-- ITS FALSE NEIGHBOUR: 'it returns false'. Refute it at one input. -/
def floodruleBoundsWrong : ChangeSpec := { name := "floodruleBounds", fn := fun _ => fun
  | [d] => { results := [.lit (.bool false)], args := [d] }
  | _ => none }
def FloodruleBoundsWrongFalsely : Prop := floodruleBoundsRow.holds Try.pinned (OpenSpec.ofChange floodruleBoundsWrong)

/-- 'hydrocascadelaw25.FloodruleRuns': WHATEVER THE INPUT: true; the input reads as it did. -/
def floodruleRunsSpec : ChangeSpec := { name := "floodruleRuns", fn := fun _ => fun
  | [d1, d2, d3, d4] => { results := [.lit (.bool true)], args := [d1, d2, d3, d4] }
  | _ => none }
def floodruleRunsRow : OpenClaim := { program := "ytknjncmgohjpkaa", sum := "a5c463bd8f0882d80747d1e77daea91d95f053952784d36c0f3386c03be3f52b", func := "hydrocascade/hydrocascadelaw25.FloodruleRuns", spec := "floodruleRuns", unfollowed := true, recurses := true, apart := false }
def FloodruleRunsSaid : Prop := floodruleRunsRow.holds Try.pinned (OpenSpec.ofChange floodruleRunsSpec)

/-- ITS FALSE NEIGHBOUR: 'it returns false'. Refute it at one input. -/
def floodruleRunsWrong : ChangeSpec := { name := "floodruleRuns", fn := fun _ => fun
  | [d1, d2, d3, d4] => { results := [.lit (.bool false)], args := [d1, d2, d3, d4] }
  | _ => none }
def FloodruleRunsWrongFalsely : Prop := floodruleRunsRow.holds Try.pinned (OpenSpec.ofChange floodruleRunsWrong)

/-- 'hydrocascadelaw25.FloodruleParts': WHATEVER THE INPUT: true; the input reads as it did. -/
def floodrulePartsSpec : ChangeSpec := { name := "floodruleParts", fn := fun _ => fun
  | [d1, d2] => { results := [.lit (.bool true)], args := [d1, d2] }
  | _ => none }
def floodrulePartsRow : OpenClaim := { program := "ytknjncmgohjpkaa", sum := "a5c463bd8f0882d80747d1e77daea91d95f053952784d36c0f3386c03be3f52b", func := "hydrocascade/hydrocascadelaw25.FloodruleParts", spec := "floodruleParts", unfollowed := true, recurses := true, apart := false }
def FloodrulePartsSaid : Prop := floodrulePartsRow.holds Try.pinned (OpenSpec.ofChange floodrulePartsSpec)

/-- ITS FALSE NEIGHBOUR: 'it returns false'. Refute it at one input. -/
def floodrulePartsWrong : ChangeSpec := { name := "floodruleParts", fn := fun _ => fun
  | [d1, d2] => { results := [.lit (.bool false)], args := [d1, d2] }
  | _ => none }
def FloodrulePartsWrongFalsely : Prop := floodrulePartsRow.holds Try.pinned (OpenSpec.ofChange floodrulePartsWrong)

/- THE SECOND FORM. 'bulk': how many values and letters a reading holds, each counted each time it is reached (what is shared counts as often as it is met; a slice's spare places count too). A statement '..UptoSaid' is the law's where the arguments, and the package variables that the reading takes, are together of bulk at most 1048576: NARROWER than '..Said'. Prove '..Said' where nothing that the law and all that it calls make is longer than what came in: it says more and counts as full. Else prove '..UptoSaid'. A law counts once. -/
mutual
def uptoBulk {H : Type} : DataW H → Nat
  | .lit (.string bytes) => bytes.length + 1
  | .lit _ => 1
  | .nil => 1
  | .ptr d => uptoBulk d + 1
  | .slice elems spare => uptoBulkAll elems + uptoBulkAll spare + 1
  | .agg parts => uptoBulkAll parts + 1
  | .iface _ d => uptoBulk d + 1
  | .map entries => uptoBulkEntries entries + 1
  | .held _ => 1
def uptoBulkAll {H : Type} : List (DataW H) → Nat
  | [] => 0
  | d :: r => uptoBulk d + uptoBulkAll r
def uptoBulkEntries {H : Type} : List (Lit × DataW H) → Nat
  | [] => 0
  | x :: r => uptoBulkEntry x + uptoBulkEntries r
def uptoBulkEntry {H : Type} : Lit × DataW H → Nat
  | (.string bytes, d) => bytes.length + uptoBulk d + 1
  | (_, d) => uptoBulk d + 1
 end
def uptoSmall : (H : Type) → List (DataW H) → Bool := fun _ ds => decide (uptoBulkAll ds ≤ 1048576)
def OpenSpec.upto (s : _root_.Go.ChangeSpec) : _root_.Go.OpenSpec := { _root_.Go.OpenSpec.ofChange s with cond := some uptoSmall }

/-- 'hydrocascadelaw25.FloodruleCalm', WHERE WHAT IT READS IS OF BULK AT MOST 1048576: true; the input reads as it did. -/
def floodruleCalmUptoRow : OpenClaim := { program := "ytknjncmgohjpkaa", sum := "a5c463bd8f0882d80747d1e77daea91d95f053952784d36c0f3386c03be3f52b", func := "hydrocascade/hydrocascadelaw25.FloodruleCalm", spec := "floodruleCalm", unfollowed := true, recurses := true, apart := false, narrowed := true }
def FloodruleCalmUptoSaid : Prop := floodruleCalmUptoRow.holds Try.pinned (OpenSpec.upto floodruleCalmSpec)

/-- 'hydrocascadelaw25.FloodruleNext', WHERE WHAT IT READS IS OF BULK AT MOST 1048576: true; the input reads as it did. -/
def floodruleNextUptoRow : OpenClaim := { program := "ytknjncmgohjpkaa", sum := "a5c463bd8f0882d80747d1e77daea91d95f053952784d36c0f3386c03be3f52b", func := "hydrocascade/hydrocascadelaw25.FloodruleNext", spec := "floodruleNext", unfollowed := true, recurses := true, apart := false, narrowed := true }
def FloodruleNextUptoSaid : Prop := floodruleNextUptoRow.holds Try.pinned (OpenSpec.upto floodruleNextSpec)

/-- 'hydrocascadelaw25.FloodruleBounds', WHERE WHAT IT READS IS OF BULK AT MOST 1048576: true; the input reads as it did. -/
def floodruleBoundsUptoRow : OpenClaim := { program := "ytknjncmgohjpkaa", sum := "a5c463bd8f0882d80747d1e77daea91d95f053952784d36c0f3386c03be3f52b", func := "hydrocascade/hydrocascadelaw25.FloodruleBounds", spec := "floodruleBounds", unfollowed := true, recurses := true, apart := false, narrowed := true }
def FloodruleBoundsUptoSaid : Prop := floodruleBoundsUptoRow.holds Try.pinned (OpenSpec.upto floodruleBoundsSpec)

/-- 'hydrocascadelaw25.FloodruleRuns', WHERE WHAT IT READS IS OF BULK AT MOST 1048576: true; the input reads as it did. -/
def floodruleRunsUptoRow : OpenClaim := { program := "ytknjncmgohjpkaa", sum := "a5c463bd8f0882d80747d1e77daea91d95f053952784d36c0f3386c03be3f52b", func := "hydrocascade/hydrocascadelaw25.FloodruleRuns", spec := "floodruleRuns", unfollowed := true, recurses := true, apart := false, narrowed := true }
def FloodruleRunsUptoSaid : Prop := floodruleRunsUptoRow.holds Try.pinned (OpenSpec.upto floodruleRunsSpec)

/-- 'hydrocascadelaw25.FloodruleParts', WHERE WHAT IT READS IS OF BULK AT MOST 1048576: true; the input reads as it did. -/
def floodrulePartsUptoRow : OpenClaim := { program := "ytknjncmgohjpkaa", sum := "a5c463bd8f0882d80747d1e77daea91d95f053952784d36c0f3386c03be3f52b", func := "hydrocascade/hydrocascadelaw25.FloodruleParts", spec := "floodruleParts", unfollowed := true, recurses := true, apart := false, narrowed := true }
def FloodrulePartsUptoSaid : Prop := floodrulePartsUptoRow.holds Try.pinned (OpenSpec.upto floodrulePartsSpec)

end Rows
end Go.Proofs.Ytknjncmgohjpkaa
