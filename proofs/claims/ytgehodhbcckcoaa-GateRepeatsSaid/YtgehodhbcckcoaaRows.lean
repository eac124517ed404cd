/-
  No cell of these rows narrows 'for every input' (looked for: loops, veiled, ifaces, maps, wideKeys, modest, calm, conditions, laid).
  DERIVED. THE GIVEN ROWS OF THIS SEAT. 6 by the template 'for every input the law returns true; each argument reads behind the call as it read before'; 0 by the template 'total and deterministic' (their statements: YtgehodhbcckcoaaTotals.lean).
  GIVEN WITH THE SEED: the statements are not yours to turn. If you find one false, say at which input.
  Laid BY PROGRAM, IN A SANDBOX (cutbox-rows.mjs): the forced cells as the released guide's own fill.sh prints them over the translation c2fb30667a780067… (all of the seat's roots in one cut). By AI agents, Wed Nov 11 2026. No macro, syntax, notation, axiom, sorry.
-/
import Derived.Test.YtgehodhbcckcoaaChecked
import GoSem.Claim
import GoSem.ClaimJoined
import GoSem.ClaimMapViews
import Derived.JoinedTies
import Derived.KernelRfl
namespace Go.Proofs.Ytgehodhbcckcoaa
/- THE CELL 'sum', in the pinned program and in every row, IS THE sha256 OF THE DUMP (.gsa) THAT YtgehodhbcckcoaaProg.lean LOADS. Nothing in Lean hashes anything: it is a label: what it is worth is what the hold of that sum in a sandbox is worth. -/
noncomputable def Try.pinned : Pinned := { name := "ytgehodhbcckcoaa", sum := "c2fb30667a7800671a1a25dab3c6df975de131dde94e38929c80c2b7020d9be8", checked := Try.checked }
namespace Rows
def none {H : Type} : Left H := { results := [], args := [] }

/-- 'hydrocascadelaw20.GateSets': WHATEVER THE INPUT: true; the input reads as it did. -/
def gateSetsSpec : ChangeSpec := { name := "gateSets", fn := fun _ => fun
  | [d1, d2, d3, d4, d5] => { results := [.lit (.bool true)], args := [d1, d2, d3, d4, d5] }
  | _ => none }
def gateSetsRow : OpenClaim := { program := "ytgehodhbcckcoaa", sum := "c2fb30667a7800671a1a25dab3c6df975de131dde94e38929c80c2b7020d9be8", func := "hydrocascade/hydrocascadelaw20.GateSets", spec := "gateSets", unfollowed := true, recurses := true, apart := false }
def GateSetsSaid : Prop := gateSetsRow.holds Try.pinned (OpenSpec.ofChange gateSetsSpec)

/-- ITS FALSE NEIGHBOUR: 'it returns false'. Refute it at one input. -/
def gateSetsWrong : ChangeSpec := { name := "gateSets", fn := fun _ => fun
  | [d1, d2, d3, d4, d5] => { results := [.lit (.bool false)], args := [d1, d2, d3, d4, d5] }
  | _ => none }
def GateSetsWrongFalsely : Prop := gateSetsRow.holds Try.pinned (OpenSpec.ofChange gateSetsWrong)

/-- 'hydrocascadelaw20.GateRepeats': WHATEVER THE INPUT: true; the input reads as it did. -/
def gateRepeatsSpec : ChangeSpec := { name := "gateRepeats", fn := fun _ => fun
  | [d1, d2] => { results := [.lit (.bool true)], args := [d1, d2] }
  | _ => none }
def gateRepeatsRow : OpenClaim := { program := "ytgehodhbcckcoaa", sum := "c2fb30667a7800671a1a25dab3c6df975de131dde94e38929c80c2b7020d9be8", func := "hydrocascade/hydrocascadelaw20.GateRepeats", spec := "gateRepeats", unfollowed := true, recurses := true, apart := false }
def GateRepeatsSaid : Prop := gateRepeatsRow.holds Try.pinned (OpenSpec.ofChange gateRepeatsSpec)

/-- ITS FALSE NEIGHBOUR: 'it returns false'. Refute it at one input. -/
def gateRepeatsWrong : ChangeSpec := { name := "gateRepeats", fn := fun _ => fun
  | [d1, d2] => { results := [.lit (.bool false)], args := [d1, d2] }
  | _ => none }
def GateRepeatsWrongFalsely : Prop := gateRepeatsRow.holds Try.pinned (OpenSpec.ofChange gateRepeatsWrong)

/-- 'hydrocascadelaw20.GateReaches': WHATEVER THE INPUT: true; the input reads as it did. -/
def gateReachesSpec : ChangeSpec := { name := "gateReaches", fn := fun _ => fun
  | [d1, d2, d3, d4] => { results := [.lit (.bool true)], args := [d1, d2, d3, d4] }
  | _ => none }
def gateReachesRow : OpenClaim := { program := "ytgehodhbcckcoaa", sum := "c2fb30667a7800671a1a25dab3c6df975de131dde94e38929c80c2b7020d9be8", func := "hydrocascade/hydrocascadelaw20.GateReaches", spec := "gateReaches", unfollowed := true, recurses := true, apart := false }
def GateReachesSaid : Prop := gateReachesRow.holds Try.pinned (OpenSpec.ofChange gateReachesSpec)

/-- ITS FALSE NEIGHBOUR: 'it returns false'. Refute it at one input. -/
def gateReachesWrong : ChangeSpec := { name := "gateReaches", fn := fun _ => fun
  | [d1, d2, d3, d4] => { results := [.lit (.bool false)], args := [d1, d2, d3, d4] }
  | _ => none }
def GateReachesWrongFalsely : Prop := gateReachesRow.holds Try.pinned (OpenSpec.ofChange gateReachesWrong)

/-- 'hydrocascadelaw20.GateLevels': WHATEVER THE INPUT: true; the input reads as it did. -/
def gateLevelsSpec : ChangeSpec := { name := "gateLevels", fn := fun _ => fun
  | [d1, d2, d3] => { results := [.lit (.bool true)], args := [d1, d2, d3] }
  | _ => none }
def gateLevelsRow : OpenClaim := { program := "ytgehodhbcckcoaa", sum := "c2fb30667a7800671a1a25dab3c6df975de131dde94e38929c80c2b7020d9be8", func := "hydrocascade/hydrocascadelaw20.GateLevels", spec := "gateLevels", unfollowed := true, recurses := true, apart := false }
def GateLevelsSaid : Prop := gateLevelsRow.holds Try.pinned (OpenSpec.ofChange gateLevelsSpec)

/-- ITS FALSE NEIGHBOUR: 'it returns false'. Refute it at one input. -/
def gateLevelsWrong : ChangeSpec := { name := "gateLevels", fn := fun _ => fun
  | [d1, d2, d3] => { results := [.lit (.bool false)], args := [d1, d2, d3] }
  | _ => none }
def GateLevelsWrongFalsely : Prop := gateLevelsRow.holds Try.pinned (OpenSpec.ofChange gateLevelsWrong)

/-- 'hydrocascadelaw20.GateAll': WHATEVER THE INPUT: true; the input reads as it did. -/
def gateAllSpec : ChangeSpec := { name := "gateAll", fn := fun _ => fun
  | [d1, d2, d3, d4, d5] => { results := [.lit (.bool true)], args := [d1, d2, d3, d4, d5] }
  | _ => none }
def gateAllRow : OpenClaim := { program := "ytgehodhbcckcoaa", sum := "c2fb30667a7800671a1a25dab3c6df975de131dde94e38929c80c2b7020d9be8", func := "hydrocascade/hydrocascadelaw20.GateAll", spec := "gateAll", unfollowed := true, recurses := true, apart := false }
def GateAllSaid : Prop := gateAllRow.holds Try.pinned (OpenSpec.ofChange gateAllSpec)

/-- ITS FALSE NEIGHBOUR: 'it returns false'. Refute it at one input. -/
def gateAllWrong : ChangeSpec := { name := "gateAll", fn := fun _ => fun
  | [d1, d2, d3, d4, d5] => { results := [.lit (.bool false)], args := [d1, d2, d3, d4, d5] }
  | _ => none }
def GateAllWrongFalsely : Prop := gateAllRow.holds Try.pinned (OpenSpec.ofChange gateAllWrong)

/-- 'hydrocascadelaw20.GateGives': WHATEVER THE INPUT: true; the input reads as it did. -/
def gateGivesSpec : ChangeSpec := { name := "gateGives", fn := fun _ => fun
  | [d1, d2] => { results := [.lit (.bool true)], args := [d1, d2] }
  | _ => none }
def gateGivesRow : OpenClaim := { program := "ytgehodhbcckcoaa", sum := "c2fb30667a7800671a1a25dab3c6df975de131dde94e38929c80c2b7020d9be8", func := "hydrocascade/hydrocascadelaw20.GateGives", spec := "gateGives", unfollowed := true, recurses := true, apart := false }
def GateGivesSaid : Prop := gateGivesRow.holds Try.pinned (OpenSpec.ofChange gateGivesSpec)

/-- ITS FALSE NEIGHBOUR: 'it returns false'. Refute it at one input. -/
def gateGivesWrong : ChangeSpec := { name := "gateGives", fn := fun _ => fun
  | [d1, d2] => { results := [.lit (.bool false)], args := [d1, d2] }
  | _ => none }
def GateGivesWrongFalsely : Prop := gateGivesRow.holds Try.pinned (OpenSpec.ofChange gateGivesWrong)

/- THE SECOND FORM. 'bulk': how many values and letters a reading holds, each counted each time it is reached (what is shared counts as often as it is met; a slice's spare places count too). A statement '..UptoSaid' is the law's where the arguments, and the package variables that the reading takes, are together of bulk at most 1048576: NARROWER than '..Said'. Prove '..Said' where nothing that the law and all that it calls make is longer than what came in: it says more and counts as full. Else prove '..UptoSaid'. A law counts once. -/
mutual
def uptoBulk {H : Type} : DataW H → Nat
  | .lit (.string bytes) => bytes.length + 1
  | .lit _ => 1
  | .nil => 1
  | .ptr d => uptoBulk d + 1
  | .slice elems spare => uptoBulkAll elems + uptoBulkAll spare + 1
  | .agg parts => uptoBulkAll parts + 1
  | .iface _ d => uptoBulk d + 1
  | .map entries => uptoBulkEntries entries + 1
  | .held _ => 1
def uptoBulkAll {H : Type} : List (DataW H) → Nat
  | [] => 0
  | d :: r => uptoBulk d + uptoBulkAll r
def uptoBulkEntries {H : Type} : List (Lit × DataW H) → Nat
  | [] => 0
  | x :: r => uptoBulkEntry x + uptoBulkEntries r
def uptoBulkEntry {H : Type} : Lit × DataW H → Nat
  | (.string bytes, d) => bytes.length + uptoBulk d + 1
  | (_, d) => uptoBulk d + 1
 end
def uptoSmall : (H : Type) → List (DataW H) → Bool := fun _ ds => decide (uptoBulkAll ds ≤ 1048576)
def OpenSpec.upto (s : _root_.Go.ChangeSpec) : _root_.Go.OpenSpec := { _root_.Go.OpenSpec.ofChange s with cond := some uptoSmall }

/-- 'hydrocascadelaw20.GateSets', WHERE WHAT IT READS IS OF BULK AT MOST 1048576: true; the input reads as it did. -/
def gateSetsUptoRow : OpenClaim := { program := "ytgehodhbcckcoaa", sum := "c2fb30667a7800671a1a25dab3c6df975de131dde94e38929c80c2b7020d9be8", func := "hydrocascade/hydrocascadelaw20.GateSets", spec := "gateSets", unfollowed := true, recurses := true, apart := false, narrowed := true }
def GateSetsUptoSaid : Prop := gateSetsUptoRow.holds Try.pinned (OpenSpec.upto gateSetsSpec)

/-- 'hydrocascadelaw20.GateRepeats', WHERE WHAT IT READS IS OF BULK AT MOST 1048576: true; the input reads as it did. -/
def gateRepeatsUptoRow : OpenClaim := { program := "ytgehodhbcckcoaa", sum := "c2fb30667a7800671a1a25dab3c6df975de131dde94e38929c80c2b7020d9be8", func := "hydrocascade/hydrocascadelaw20.GateRepeats", spec := "gateRepeats", unfollowed := true, recurses := true, apart := false, narrowed := true }
def GateRepeatsUptoSaid : Prop := gateRepeatsUptoRow.holds Try.pinned (OpenSpec.upto gateRepeatsSpec)

/-- 'hydrocascadelaw20.GateReaches', WHERE WHAT IT READS IS OF BULK AT MOST 1048576: true; the input reads as it did. -/
def gateReachesUptoRow : OpenClaim := { program := "ytgehodhbcckcoaa", sum := "c2fb30667a7800671a1a25dab3c6df975de131dde94e38929c80c2b7020d9be8", func := "hydrocascade/hydrocascadelaw20.GateReaches", spec := "gateReaches", unfollowed := true, recurses := true, apart := false, narrowed := true }
def GateReachesUptoSaid : Prop := gateReachesUptoRow.holds Try.pinned (OpenSpec.upto gateReachesSpec)

/-- 'hydrocascadelaw20.GateLevels', WHERE WHAT IT READS IS OF BULK AT MOST 1048576: true; the input reads as it did. -/
def gateLevelsUptoRow : OpenClaim := { program := "ytgehodhbcckcoaa", sum := "c2fb30667a7800671a1a25dab3c6df975de131dde94e38929c80c2b7020d9be8", func := "hydrocascade/hydrocascadelaw20.GateLevels", spec := "gateLevels", unfollowed := true, recurses := true, apart := false, narrowed := true }
def GateLevelsUptoSaid : Prop := gateLevelsUptoRow.holds Try.pinned (OpenSpec.upto gateLevelsSpec)

/-- 'hydrocascadelaw20.GateAll', WHERE WHAT IT READS IS OF BULK AT MOST 1048576: true; the input reads as it did. -/
def gateAllUptoRow : OpenClaim := { program := "ytgehodhbcckcoaa", sum := "c2fb30667a7800671a1a25dab3c6df975de131dde94e38929c80c2b7020d9be8", func := "hydrocascade/hydrocascadelaw20.GateAll", spec := "gateAll", unfollowed := true, recurses := true, apart := false, narrowed := true }
def GateAllUptoSaid : Prop := gateAllUptoRow.holds Try.pinned (OpenSpec.upto gateAllSpec)

/-- 'hydrocascadelaw20.GateGives', WHERE WHAT IT READS IS OF BULK AT MOST 1048576: true; the input reads as it did. -/
def gateGivesUptoRow : OpenClaim := { program := "ytgehodhbcckcoaa", sum := "c2fb30667a7800671a1a25dab3c6df975de131dde94e38929c80c2b7020d9be8", func := "hydrocascade/hydrocascadelaw20.GateGives", spec := "gateGives", unfollowed := true, recurses := true, apart := false, narrowed := true }
def GateGivesUptoSaid : Prop := gateGivesUptoRow.holds Try.pinned (OpenSpec.upto gateGivesSpec)

end Rows
end Go.Proofs.Ytgehodhbcckcoaa
