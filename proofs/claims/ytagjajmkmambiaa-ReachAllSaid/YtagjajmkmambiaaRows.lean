/-
  No cell of these rows narrows 'for every input' (looked for: loops, veiled, ifaces, maps, wideKeys, modest, calm, conditions, laid).
  DERIVED. THE GIVEN ROWS OF THIS SEAT. 7 by the template 'for every input the law returns true; each argument reads behind the call as it read before'; 0 by the template 'total and deterministic' (their statements: YtagjajmkmambiaaTotals.lean).
  GIVEN WITH THE SEED: the statements are not yours to turn. If you find one false, say at which input.
  Laid BY PROGRAM, IN A SANDBOX (cutbox-rows.mjs): the forced cells as the released guide's own fill.sh prints them over the translation 54631a46f989c79b… (all of the seat's roots in one cut). By AI agents, Wed Nov 11 2026. No macro, syntax, notation, axiom, sorry.
-/
import Derived.Test.YtagjajmkmambiaaChecked
import GoSem.Claim
import GoSem.ClaimJoined
import GoSem.ClaimMapViews
import Derived.JoinedTies
import Derived.KernelRfl
namespace Go.Proofs.Ytagjajmkmambiaa
/- THE CELL 'sum', in the pinned program and in every row, IS THE sha256 OF THE DUMP (.gsa) THAT YtagjajmkmambiaaProg.lean LOADS. Nothing in Lean hashes anything: it is a label: what it is worth is what the hold of that sum in a sandbox is worth. -/
noncomputable def Try.pinned : Pinned := { name := "ytagjajmkmambiaa", sum := "54631a46f989c79bf863518e507e2d43a8ce079ca10497a848e8bebe8bcb8897", checked := Try.checked }
namespace Rows
def none {H : Type} : Left H := { results := [], args := [] }

/-- 'hydrocascadelaw16.ReachEmpties': WHATEVER THE INPUT: true; the input reads as it did. -/
def reachEmptiesSpec : ChangeSpec := { name := "reachEmpties", fn := fun _ => fun
  | [d] => { results := [.lit (.bool true)], args := [d] }
  | _ => none }
def reachEmptiesRow : OpenClaim := { program := "ytagjajmkmambiaa", sum := "54631a46f989c79bf863518e507e2d43a8ce079ca10497a848e8bebe8bcb8897", func := "hydrocascade/hydrocascadelaw16.ReachEmpties", spec := "reachEmpties", apart := false }
def ReachEmptiesSaid : Prop := reachEmptiesRow.holds Try.pinned (OpenSpec.ofChange reachEmptiesSpec)

/-- ITS FALSE NEIGHBOUR: 'it returns false'. Refute it at one input. -/
def reachEmptiesWrong : ChangeSpec := { name := "reachEmpties", fn := fun _ => fun
  | [d] => { results := [.lit (.bool false)], args := [d] }
  | _ => none }
def ReachEmptiesWrongFalsely : Prop := reachEmptiesRow.holds Try.pinned (OpenSpec.ofChange reachEmptiesWrong)

/-- 'hydrocascadelaw16.ReachMore': WHATEVER THE INPUT: true; the input reads as it did. -/
def reachMoreSpec : ChangeSpec := { name := "reachMore", fn := fun _ => fun
  | [d1, d2, d3, d4] => { results := [.lit (.bool true)], args := [d1, d2, d3, d4] }
  | _ => none }
def reachMoreRow : OpenClaim := { program := "ytagjajmkmambiaa", sum := "54631a46f989c79bf863518e507e2d43a8ce079ca10497a848e8bebe8bcb8897", func := "hydrocascade/hydrocascadelaw16.ReachMore", spec := "reachMore", apart := false }
def ReachMoreSaid : Prop := reachMoreRow.holds Try.pinned (OpenSpec.ofChange reachMoreSpec)

/-- ITS FALSE NEIGHBOUR: 'it returns false'. Refute it at one input. -/
def reachMoreWrong : ChangeSpec := { name := "reachMore", fn := fun _ => fun
  | [d1, d2, d3, d4] => { results := [.lit (.bool false)], args := [d1, d2, d3, d4] }
  | _ => none }
def ReachMoreWrongFalsely : Prop := reachMoreRow.holds Try.pinned (OpenSpec.ofChange reachMoreWrong)

/-- 'hydrocascadelaw16.ReachScales': WHATEVER THE INPUT: true; the input reads as it did. -/
def reachScalesSpec : ChangeSpec := { name := "reachScales", fn := fun _ => fun
  | [d1, d2] => { results := [.lit (.bool true)], args := [d1, d2] }
  | _ => none }
def reachScalesRow : OpenClaim := { program := "ytagjajmkmambiaa", sum := "54631a46f989c79bf863518e507e2d43a8ce079ca10497a848e8bebe8bcb8897", func := "hydrocascade/hydrocascadelaw16.ReachScales", spec := "reachScales", apart := false }
def ReachScalesSaid : Prop := reachScalesRow.holds Try.pinned (OpenSpec.ofChange reachScalesSpec)

/-- ITS FALSE NEIGHBOUR: 'it returns false'. Refute it at one input. -/
def reachScalesWrong : ChangeSpec := { name := "reachScales", fn := fun _ => fun
  | [d1, d2] => { results := [.lit (.bool false)], args := [d1, d2] }
  | _ => none }
def ReachScalesWrongFalsely : Prop := reachScalesRow.holds Try.pinned (OpenSpec.ofChange reachScalesWrong)

/-- 'hydrocascadelaw16.ReachMixes': WHATEVER THE INPUT: true; the input reads as it did. -/
def reachMixesSpec : ChangeSpec := { name := "reachMixes", fn := fun _ => fun
  | [d] => { results := [.lit (.bool true)], args := [d] }
  | _ => none }
def reachMixesRow : OpenClaim := { program := "ytagjajmkmambiaa", sum := "54631a46f989c79bf863518e507e2d43a8ce079ca10497a848e8bebe8bcb8897", func := "hydrocascade/hydrocascadelaw16.ReachMixes", spec := "reachMixes", apart := false }
def ReachMixesSaid : Prop := reachMixesRow.holds Try.pinned (OpenSpec.ofChange reachMixesSpec)

/-- ITS FALSE NEIGHBOUR: 'it returns false'. Refute it at one input. -/
def reachMixesWrong : ChangeSpec := { name := "reachMixes", fn := fun _ => fun
  | [d] => { results := [.lit (.bool false)], args := [d] }
  | _ => none }
def ReachMixesWrongFalsely : Prop := reachMixesRow.holds Try.pinned (OpenSpec.ofChange reachMixesWrong)

/-- 'hydrocascadelaw16.ReachKeeps': WHATEVER THE INPUT: true; the input reads as it did. -/
def reachKeepsSpec : ChangeSpec := { name := "reachKeeps", fn := fun _ => fun
  | [d] => { results := [.lit (.bool true)], args := [d] }
  | _ => none }
def reachKeepsRow : OpenClaim := { program := "ytagjajmkmambiaa", sum := "54631a46f989c79bf863518e507e2d43a8ce079ca10497a848e8bebe8bcb8897", func := "hydrocascade/hydrocascadelaw16.ReachKeeps", spec := "reachKeeps", apart := false }
def ReachKeepsSaid : Prop := reachKeepsRow.holds Try.pinned (OpenSpec.ofChange reachKeepsSpec)

/-- ITS FALSE NEIGHBOUR: 'it returns false'. Refute it at one input. -/
def reachKeepsWrong : ChangeSpec := { name := "reachKeeps", fn := fun _ => fun
  | [d] => { results := [.lit (.bool false)], args := [d] }
  | _ => none }
def ReachKeepsWrongFalsely : Prop := reachKeepsRow.holds Try.pinned (OpenSpec.ofChange reachKeepsWrong)

/-- 'hydrocascadelaw16.ReachPulse': WHATEVER THE INPUT: true; the input reads as it did. -/
def reachPulseSpec : ChangeSpec := { name := "reachPulse", fn := fun _ => fun
  | [d1, d2] => { results := [.lit (.bool true)], args := [d1, d2] }
  | _ => none }
def reachPulseRow : OpenClaim := { program := "ytagjajmkmambiaa", sum := "54631a46f989c79bf863518e507e2d43a8ce079ca10497a848e8bebe8bcb8897", func := "hydrocascade/hydrocascadelaw16.ReachPulse", spec := "reachPulse", apart := false }
def ReachPulseSaid : Prop := reachPulseRow.holds Try.pinned (OpenSpec.ofChange reachPulseSpec)

/-- ITS FALSE NEIGHBOUR: 'it returns false'. Refute it at one input. -/
def reachPulseWrong : ChangeSpec := { name := "reachPulse", fn := fun _ => fun
  | [d1, d2] => { results := [.lit (.bool false)], args := [d1, d2] }
  | _ => none }
def ReachPulseWrongFalsely : Prop := reachPulseRow.holds Try.pinned (OpenSpec.ofChange reachPulseWrong)

/-- 'hydrocascadelaw16.ReachAll': WHATEVER THE INPUT: true; the input reads as it did. -/
def reachAllSpec : ChangeSpec := { name := "reachAll", fn := fun _ => fun
  | [d1, d2, d3, d4, d5] => { results := [.lit (.bool true)], args := [d1, d2, d3, d4, d5] }
  | _ => none }
def reachAllRow : OpenClaim := { program := "ytagjajmkmambiaa", sum := "54631a46f989c79bf863518e507e2d43a8ce079ca10497a848e8bebe8bcb8897", func := "hydrocascade/hydrocascadelaw16.ReachAll", spec := "reachAll", apart := false }
def ReachAllSaid : Prop := reachAllRow.holds Try.pinned (OpenSpec.ofChange reachAllSpec)

/-- ITS FALSE NEIGHBOUR: 'it returns false'. Refute it at one input. -/
def reachAllWrong : ChangeSpec := { name := "reachAll", fn := fun _ => fun
  | [d1, d2, d3, d4, d5] => { results := [.lit (.bool false)], args := [d1, d2, d3, d4, d5] }
  | _ => none }
def ReachAllWrongFalsely : Prop := reachAllRow.holds Try.pinned (OpenSpec.ofChange reachAllWrong)

/- THE SECOND FORM. 'bulk': how many values and letters a reading holds, each counted each time it is reached (what is shared counts as often as it is met; a slice's spare places count too). A statement '..UptoSaid' is the law's where the arguments, and the package variables that the reading takes, are together of bulk at most 1048576: NARROWER than '..Said'. Prove '..Said' where nothing that the law and all that it calls make is longer than what came in: it says more and counts as full. Else prove '..UptoSaid'. A law counts once. -/
mutual
def uptoBulk {H : Type} : DataW H → Nat
  | .lit (.string bytes) => bytes.length + 1
  | .lit _ => 1
  | .nil => 1
  | .ptr d => uptoBulk d + 1
  | .slice elems spare => uptoBulkAll elems + uptoBulkAll spare + 1
  | .agg parts => uptoBulkAll parts + 1
  | .iface _ d => uptoBulk d + 1
  | .map entries => uptoBulkEntries entries + 1
  | .held _ => 1
def uptoBulkAll {H : Type} : List (DataW H) → Nat
  | [] => 0
  | d :: r => uptoBulk d + uptoBulkAll r
def uptoBulkEntries {H : Type} : List (Lit × DataW H) → Nat
  | [] => 0
  | x :: r => uptoBulkEntry x + uptoBulkEntries r
def uptoBulkEntry {H : Type} : Lit × DataW H → Nat
  | (.string bytes, d) => bytes.length + uptoBulk d + 1
  | (_, d) => uptoBulk d + 1
 end
def uptoSmall : (H : Type) → List (DataW H) → Bool := fun _ ds => decide (uptoBulkAll ds ≤ 1048576)
def OpenSpec.upto (s : _root_.Go.ChangeSpec) : _root_.Go.OpenSpec := { _root_.Go.OpenSpec.ofChange s with cond := some uptoSmall }

/-- 'hydrocascadelaw16.ReachEmpties', WHERE WHAT IT READS IS OF BULK AT MOST 1048576: true; the input reads as it did. -/
def reachEmptiesUptoRow : OpenClaim := { program := "ytagjajmkmambiaa", sum := "54631a46f989c79bf863518e507e2d43a8ce079ca10497a848e8bebe8bcb8897", func := "hydrocascade/hydrocascadelaw16.ReachEmpties", spec := "reachEmpties", apart := false, narrowed := true }
def ReachEmptiesUptoSaid : Prop := reachEmptiesUptoRow.holds Try.pinned (OpenSpec.upto reachEmptiesSpec)

/-- 'hydrocascadelaw16.ReachMore', WHERE WHAT IT READS IS OF BULK AT MOST 1048576: true; the input reads as it did. -/
def reachMoreUptoRow : OpenClaim := { program := "ytagjajmkmambiaa", sum := "54631a46f989c79bf863518e507e2d43a8ce079ca10497a848e8bebe8bcb8897", func := "hydrocascade/hydrocascadelaw16.ReachMore", spec := "reachMore", apart := false, narrowed := true }
def ReachMoreUptoSaid : Prop := reachMoreUptoRow.holds Try.pinned (OpenSpec.upto reachMoreSpec)

/-- 'hydrocascadelaw16.ReachScales', WHERE WHAT IT READS IS OF BULK AT MOST 1048576: true; the input reads as it did. -/
def reachScalesUptoRow : OpenClaim := { program := "ytagjajmkmambiaa", sum := "54631a46f989c79bf863518e507e2d43a8ce079ca10497a848e8bebe8bcb8897", func := "hydrocascade/hydrocascadelaw16.ReachScales", spec := "reachScales", apart := false, narrowed := true }
def ReachScalesUptoSaid : Prop := reachScalesUptoRow.holds Try.pinned (OpenSpec.upto reachScalesSpec)

/-- 'hydrocascadelaw16.ReachMixes', WHERE WHAT IT READS IS OF BULK AT MOST 1048576: true; the input reads as it did. -/
def reachMixesUptoRow : OpenClaim := { program := "ytagjajmkmambiaa", sum := "54631a46f989c79bf863518e507e2d43a8ce079ca10497a848e8bebe8bcb8897", func := "hydrocascade/hydrocascadelaw16.ReachMixes", spec := "reachMixes", apart := false, narrowed := true }
def ReachMixesUptoSaid : Prop := reachMixesUptoRow.holds Try.pinned (OpenSpec.upto reachMixesSpec)

/-- 'hydrocascadelaw16.ReachKeeps', WHERE WHAT IT READS IS OF BULK AT MOST 1048576: true; the input reads as it did. -/
def reachKeepsUptoRow : OpenClaim := { program := "ytagjajmkmambiaa", sum := "54631a46f989c79bf863518e507e2d43a8ce079ca10497a848e8bebe8bcb8897", func := "hydrocascade/hydrocascadelaw16.ReachKeeps", spec := "reachKeeps", apart := false, narrowed := true }
def ReachKeepsUptoSaid : Prop := reachKeepsUptoRow.holds Try.pinned (OpenSpec.upto reachKeepsSpec)

/-- 'hydrocascadelaw16.ReachPulse', WHERE WHAT IT READS IS OF BULK AT MOST 1048576: true; the input reads as it did. -/
def reachPulseUptoRow : OpenClaim := { program := "ytagjajmkmambiaa", sum := "54631a46f989c79bf863518e507e2d43a8ce079ca10497a848e8bebe8bcb8897", func := "hydrocascade/hydrocascadelaw16.ReachPulse", spec := "reachPulse", apart := false, narrowed := true }
def ReachPulseUptoSaid : Prop := reachPulseUptoRow.holds Try.pinned (OpenSpec.upto reachPulseSpec)

/-- 'hydrocascadelaw16.ReachAll', WHERE WHAT IT READS IS OF BULK AT MOST 1048576: true; the input reads as it did. -/
def reachAllUptoRow : OpenClaim := { program := "ytagjajmkmambiaa", sum := "54631a46f989c79bf863518e507e2d43a8ce079ca10497a848e8bebe8bcb8897", func := "hydrocascade/hydrocascadelaw16.ReachAll", spec := "reachAll", apart := false, narrowed := true }
def ReachAllUptoSaid : Prop := reachAllUptoRow.holds Try.pinned (OpenSpec.upto reachAllSpec)

end Rows
end Go.Proofs.Ytagjajmkmambiaa
