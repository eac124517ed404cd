/-
  No cell of these rows narrows 'for every input' (looked for: loops, veiled, ifaces, maps, wideKeys, modest, calm, conditions, laid).
  DERIVED. THE GIVEN ROWS OF THIS SEAT. 6 by the template 'for every input the law returns true; each argument reads behind the call as it read before'; 0 by the template 'total and deterministic' (their statements: YtgllikepncnpkaaGreatTotals.lean).
  GIVEN WITH THE SEED: the statements are not yours to turn. If you find one false, say at which input.
  Laid BY PROGRAM, IN A SANDBOX (cutbox-rows.mjs): the forced cells as the released guide's own fill.sh prints them over the translation da239d2ae37f82e3… (all of the seat's roots in one cut). By AI agents, Wed Nov 11 2026. No macro, syntax, notation, axiom, sorry.
-/
import Derived.Test.YtgllikepncnpkaaGreatChecked
import GoSem.Claim
import GoSem.ClaimJoined
import GoSem.ClaimMapViews
import Derived.JoinedTies
import Derived.KernelRfl
namespace Go.Proofs.YtgllikepncnpkaaGreat
/- THE CELL 'sum', in the pinned program and in every row, IS THE sha256 OF THE DUMP (.gsa) THAT YtgllikepncnpkaaGreatProg.lean LOADS. Nothing in Lean hashes anything: it is a label: what it is worth is what the hold of that sum in a sandbox is worth. -/
noncomputable def Tryz.pinned : Pinned := { name := "ytgllikepncnpkaagreat", sum := "da239d2ae37f82e3928dd4c822e2cbcee3e8b77a6906dd14c5a303e364100fa9", checked := Tryz.checked }
namespace Rows
def none {H : Type} : Left H := { results := [], args := [] }

/-- 'hydrocascadelaw34.TravelRuns': WHATEVER THE INPUT: true; the input reads as it did. -/
def travelRunsSpec : ChangeSpec := { name := "travelRuns", fn := fun _ => fun
  | [d] => { results := [.lit (.bool true)], args := [d] }
  | _ => none }
def travelRunsRow : OpenClaim := { program := "ytgllikepncnpkaagreat", sum := "da239d2ae37f82e3928dd4c822e2cbcee3e8b77a6906dd14c5a303e364100fa9", func := "hydrocascade/hydrocascadelaw34.TravelRuns", spec := "travelRuns", unfollowed := true, recurses := true, apart := false }
def TravelRunsSaid : Prop := travelRunsRow.holds Tryz.pinned (OpenSpec.ofChange travelRunsSpec)

/-- ITS FALSE NEIGHBOUR: 'it returns false'. Refute it at one input. -/
def travelRunsWrong : ChangeSpec := { name := "travelRuns", fn := fun _ => fun
  | [d] => { results := [.lit (.bool false)], args := [d] }
  | _ => none }
def TravelRunsWrongFalsely : Prop := travelRunsRow.holds Tryz.pinned (OpenSpec.ofChange travelRunsWrong)

/-- 'hydrocascadelaw34.TravelMore': WHATEVER THE INPUT: true; the input reads as it did. -/
def travelMoreSpec : ChangeSpec := { name := "travelMore", fn := fun _ => fun
  | [d1, d2] => { results := [.lit (.bool true)], args := [d1, d2] }
  | _ => none }
def travelMoreRow : OpenClaim := { program := "ytgllikepncnpkaagreat", sum := "da239d2ae37f82e3928dd4c822e2cbcee3e8b77a6906dd14c5a303e364100fa9", func := "hydrocascade/hydrocascadelaw34.TravelMore", spec := "travelMore", unfollowed := true, recurses := true, apart := false }
def TravelMoreSaid : Prop := travelMoreRow.holds Tryz.pinned (OpenSpec.ofChange travelMoreSpec)

/-- ITS FALSE NEIGHBOUR: 'it returns false'. Refute it at one input. -/
def travelMoreWrong : ChangeSpec := { name := "travelMore", fn := fun _ => fun
  | [d1, d2] => { results := [.lit (.bool false)], args := [d1, d2] }
  | _ => none }
def TravelMoreWrongFalsely : Prop := travelMoreRow.holds Tryz.pinned (OpenSpec.ofChange travelMoreWrong)

/-- 'hydrocascadelaw34.TravelAbove': WHATEVER THE INPUT: true; the input reads as it did. -/
def travelAboveSpec : ChangeSpec := { name := "travelAbove", fn := fun _ => fun
  | [d] => { results := [.lit (.bool true)], args := [d] }
  | _ => none }
def travelAboveRow : OpenClaim := { program := "ytgllikepncnpkaagreat", sum := "da239d2ae37f82e3928dd4c822e2cbcee3e8b77a6906dd14c5a303e364100fa9", func := "hydrocascade/hydrocascadelaw34.TravelAbove", spec := "travelAbove", unfollowed := true, recurses := true, apart := false }
def TravelAboveSaid : Prop := travelAboveRow.holds Tryz.pinned (OpenSpec.ofChange travelAboveSpec)

/-- ITS FALSE NEIGHBOUR: 'it returns false'. Refute it at one input. -/
def travelAboveWrong : ChangeSpec := { name := "travelAbove", fn := fun _ => fun
  | [d] => { results := [.lit (.bool false)], args := [d] }
  | _ => none }
def TravelAboveWrongFalsely : Prop := travelAboveRow.holds Tryz.pinned (OpenSpec.ofChange travelAboveWrong)

/-- 'hydrocascadelaw34.TravelRest': WHATEVER THE INPUT: true; the input reads as it did. -/
def travelRestSpec : ChangeSpec := { name := "travelRest", fn := fun _ => fun
  | [d] => { results := [.lit (.bool true)], args := [d] }
  | _ => none }
def travelRestRow : OpenClaim := { program := "ytgllikepncnpkaagreat", sum := "da239d2ae37f82e3928dd4c822e2cbcee3e8b77a6906dd14c5a303e364100fa9", func := "hydrocascade/hydrocascadelaw34.TravelRest", spec := "travelRest", unfollowed := true, recurses := true, apart := false }
def TravelRestSaid : Prop := travelRestRow.holds Tryz.pinned (OpenSpec.ofChange travelRestSpec)

/-- ITS FALSE NEIGHBOUR: 'it returns false'. Refute it at one input. -/
def travelRestWrong : ChangeSpec := { name := "travelRest", fn := fun _ => fun
  | [d] => { results := [.lit (.bool false)], args := [d] }
  | _ => none }
def TravelRestWrongFalsely : Prop := travelRestRow.holds Tryz.pinned (OpenSpec.ofChange travelRestWrong)

/-- 'hydrocascadelaw34.TravelLags': WHATEVER THE INPUT: true; the input reads as it did. -/
def travelLagsSpec : ChangeSpec := { name := "travelLags", fn := fun _ => fun
  | [d1, d2, d3, d4] => { results := [.lit (.bool true)], args := [d1, d2, d3, d4] }
  | _ => none }
def travelLagsRow : OpenClaim := { program := "ytgllikepncnpkaagreat", sum := "da239d2ae37f82e3928dd4c822e2cbcee3e8b77a6906dd14c5a303e364100fa9", func := "hydrocascade/hydrocascadelaw34.TravelLags", spec := "travelLags", unfollowed := true, recurses := true, apart := false }
def TravelLagsSaid : Prop := travelLagsRow.holds Tryz.pinned (OpenSpec.ofChange travelLagsSpec)

/-- ITS FALSE NEIGHBOUR: 'it returns false'. Refute it at one input. -/
def travelLagsWrong : ChangeSpec := { name := "travelLags", fn := fun _ => fun
  | [d1, d2, d3, d4] => { results := [.lit (.bool false)], args := [d1, d2, d3, d4] }
  | _ => none }
def TravelLagsWrongFalsely : Prop := travelLagsRow.holds Tryz.pinned (OpenSpec.ofChange travelLagsWrong)

/-- 'hydrocascadelaw34.TravelTells': WHATEVER THE INPUT: true; the input reads as it did. -/
def travelTellsSpec : ChangeSpec := { name := "travelTells", fn := fun _ => fun
  | [d1, d2, d3, d4, d5] => { results := [.lit (.bool true)], args := [d1, d2, d3, d4, d5] }
  | _ => none }
def travelTellsRow : OpenClaim := { program := "ytgllikepncnpkaagreat", sum := "da239d2ae37f82e3928dd4c822e2cbcee3e8b77a6906dd14c5a303e364100fa9", func := "hydrocascade/hydrocascadelaw34.TravelTells", spec := "travelTells", unfollowed := true, recurses := true, apart := false }
def TravelTellsSaid : Prop := travelTellsRow.holds Tryz.pinned (OpenSpec.ofChange travelTellsSpec)

/-- ITS FALSE NEIGHBOUR: 'it returns false'. Refute it at one input. -/
def travelTellsWrong : ChangeSpec := { name := "travelTells", fn := fun _ => fun
  | [d1, d2, d3, d4, d5] => { results := [.lit (.bool false)], args := [d1, d2, d3, d4, d5] }
  | _ => none }
def TravelTellsWrongFalsely : Prop := travelTellsRow.holds Tryz.pinned (OpenSpec.ofChange travelTellsWrong)

/- THE SECOND FORM. 'bulk': how many values and letters a reading holds, each counted each time it is reached (what is shared counts as often as it is met; a slice's spare places count too). A statement '..UptoSaid' is the law's where the arguments, and the package variables that the reading takes, are together of bulk at most 1048576: NARROWER than '..Said'. Prove '..Said' where nothing that the law and all that it calls make is longer than what came in: it says more and counts as full. Else prove '..UptoSaid'. A law counts once. -/
mutual
def uptoBulk {H : Type} : DataW H → Nat
  | .lit (.string bytes) => bytes.length + 1
  | .lit _ => 1
  | .nil => 1
  | .ptr d => uptoBulk d + 1
  | .slice elems spare => uptoBulkAll elems + uptoBulkAll spare + 1
  | .agg parts => uptoBulkAll parts + 1
  | .iface _ d => uptoBulk d + 1
  | .map entries => uptoBulkEntries entries + 1
  | .held _ => 1
def uptoBulkAll {H : Type} : List (DataW H) → Nat
  | [] => 0
  | d :: r => uptoBulk d + uptoBulkAll r
def uptoBulkEntries {H : Type} : List (Lit × DataW H) → Nat
  | [] => 0
  | x :: r => uptoBulkEntry x + uptoBulkEntries r
def uptoBulkEntry {H : Type} : Lit × DataW H → Nat
  | (.string bytes, d) => bytes.length + uptoBulk d + 1
  | (_, d) => uptoBulk d + 1
 end
def uptoSmall : (H : Type) → List (DataW H) → Bool := fun _ ds => decide (uptoBulkAll ds ≤ 1048576)
def OpenSpec.upto (s : _root_.Go.ChangeSpec) : _root_.Go.OpenSpec := { _root_.Go.OpenSpec.ofChange s with cond := some uptoSmall }

/-- 'hydrocascadelaw34.TravelRuns', WHERE WHAT IT READS IS OF BULK AT MOST 1048576: true; the input reads as it did. -/
def travelRunsUptoRow : OpenClaim := { program := "ytgllikepncnpkaagreat", sum := "da239d2ae37f82e3928dd4c822e2cbcee3e8b77a6906dd14c5a303e364100fa9", func := "hydrocascade/hydrocascadelaw34.TravelRuns", spec := "travelRuns", unfollowed := true, recurses := true, apart := false, narrowed := true }
def TravelRunsUptoSaid : Prop := travelRunsUptoRow.holds Tryz.pinned (OpenSpec.upto travelRunsSpec)

/-- 'hydrocascadelaw34.TravelMore', WHERE WHAT IT READS IS OF BULK AT MOST 1048576: true; the input reads as it did. -/
def travelMoreUptoRow : OpenClaim := { program := "ytgllikepncnpkaagreat", sum := "da239d2ae37f82e3928dd4c822e2cbcee3e8b77a6906dd14c5a303e364100fa9", func := "hydrocascade/hydrocascadelaw34.TravelMore", spec := "travelMore", unfollowed := true, recurses := true, apart := false, narrowed := true }
def TravelMoreUptoSaid : Prop := travelMoreUptoRow.holds Tryz.pinned (OpenSpec.upto travelMoreSpec)

/-- 'hydrocascadelaw34.TravelAbove', WHERE WHAT IT READS IS OF BULK AT MOST 1048576: true; the input reads as it did. -/
def travelAboveUptoRow : OpenClaim := { program := "ytgllikepncnpkaagreat", sum := "da239d2ae37f82e3928dd4c822e2cbcee3e8b77a6906dd14c5a303e364100fa9", func := "hydrocascade/hydrocascadelaw34.TravelAbove", spec := "travelAbove", unfollowed := true, recurses := true, apart := false, narrowed := true }
def TravelAboveUptoSaid : Prop := travelAboveUptoRow.holds Tryz.pinned (OpenSpec.upto travelAboveSpec)

/-- 'hydrocascadelaw34.TravelRest', WHERE WHAT IT READS IS OF BULK AT MOST 1048576: true; the input reads as it did. -/
def travelRestUptoRow : OpenClaim := { program := "ytgllikepncnpkaagreat", sum := "da239d2ae37f82e3928dd4c822e2cbcee3e8b77a6906dd14c5a303e364100fa9", func := "hydrocascade/hydrocascadelaw34.TravelRest", spec := "travelRest", unfollowed := true, recurses := true, apart := false, narrowed := true }
def TravelRestUptoSaid : Prop := travelRestUptoRow.holds Tryz.pinned (OpenSpec.upto travelRestSpec)

/-- 'hydrocascadelaw34.TravelLags', WHERE WHAT IT READS IS OF BULK AT MOST 1048576: true; the input reads as it did. -/
def travelLagsUptoRow : OpenClaim := { program := "ytgllikepncnpkaagreat", sum := "da239d2ae37f82e3928dd4c822e2cbcee3e8b77a6906dd14c5a303e364100fa9", func := "hydrocascade/hydrocascadelaw34.TravelLags", spec := "travelLags", unfollowed := true, recurses := true, apart := false, narrowed := true }
def TravelLagsUptoSaid : Prop := travelLagsUptoRow.holds Tryz.pinned (OpenSpec.upto travelLagsSpec)

/-- 'hydrocascadelaw34.TravelTells', WHERE WHAT IT READS IS OF BULK AT MOST 1048576: true; the input reads as it did. -/
def travelTellsUptoRow : OpenClaim := { program := "ytgllikepncnpkaagreat", sum := "da239d2ae37f82e3928dd4c822e2cbcee3e8b77a6906dd14c5a303e364100fa9", func := "hydrocascade/hydrocascadelaw34.TravelTells", spec := "travelTells", unfollowed := true, recurses := true, apart := false, narrowed := true }
def TravelTellsUptoSaid : Prop := travelTellsUptoRow.holds Tryz.pinned (OpenSpec.upto travelTellsSpec)

end Rows
end Go.Proofs.YtgllikepncnpkaaGreat
