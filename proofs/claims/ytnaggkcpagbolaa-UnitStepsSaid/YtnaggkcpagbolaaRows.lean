/-
  No cell of these rows narrows 'for every input' (looked for: loops, veiled, ifaces, maps, wideKeys, modest, calm, conditions, laid).
  DERIVED. THE GIVEN ROWS OF THIS SEAT. 5 by the template 'for every input the law returns true; each argument reads behind the call as it read before'; 0 by the template 'total and deterministic' (their statements: YtnaggkcpagbolaaTotals.lean).
  GIVEN WITH THE SEED: the statements are not yours to turn. If you find one false, say at which input.
  Laid BY PROGRAM, IN A SANDBOX (cutbox-rows.mjs): the forced cells as the released guide's own fill.sh prints them over the translation 43268e4afbfa34a5… (all of the seat's roots in one cut). By AI agents, Wed Nov 11 2026. No macro, syntax, notation, axiom, sorry.
-/
import Derived.Test.YtnaggkcpagbolaaChecked
import GoSem.Claim
import GoSem.ClaimJoined
import GoSem.ClaimMapViews
import Derived.JoinedTies
import Derived.KernelRfl
namespace Go.Proofs.Ytnaggkcpagbolaa
/- THE CELL 'sum', in the pinned program and in every row, IS THE sha256 OF THE DUMP (.gsa) THAT YtnaggkcpagbolaaProg.lean LOADS. Nothing in Lean hashes anything: it is a label: what it is worth is what the hold of that sum in a sandbox is worth. -/
noncomputable def Try.pinned : Pinned := { name := "ytnaggkcpagbolaa", sum := "43268e4afbfa34a5735f8ca51675ee06009f60d13887bd937153f03bb6f952e2", checked := Try.checked }
namespace Rows
def none {H : Type} : Left H := { results := [], args := [] }

/-- 'hydrocascadelaw18.UnitSteps': WHATEVER THE INPUT: true; the input reads as it did. -/
def unitStepsSpec : ChangeSpec := { name := "unitSteps", fn := fun _ => fun
  | [d1, d2, d3, d4] => { results := [.lit (.bool true)], args := [d1, d2, d3, d4] }
  | _ => none }
def unitStepsRow : OpenClaim := { program := "ytnaggkcpagbolaa", sum := "43268e4afbfa34a5735f8ca51675ee06009f60d13887bd937153f03bb6f952e2", func := "hydrocascade/hydrocascadelaw18.UnitSteps", spec := "unitSteps", apart := false }
def UnitStepsSaid : Prop := unitStepsRow.holds Try.pinned (OpenSpec.ofChange unitStepsSpec)

/-- ITS FALSE NEIGHBOUR: 'it returns false'. Refute it at one input. -/
def unitStepsWrong : ChangeSpec := { name := "unitSteps", fn := fun _ => fun
  | [d1, d2, d3, d4] => { results := [.lit (.bool false)], args := [d1, d2, d3, d4] }
  | _ => none }
def UnitStepsWrongFalsely : Prop := unitStepsRow.holds Try.pinned (OpenSpec.ofChange unitStepsWrong)

/-- 'hydrocascadelaw18.UnitGoes': WHATEVER THE INPUT: true; the input reads as it did. -/
def unitGoesSpec : ChangeSpec := { name := "unitGoes", fn := fun _ => fun
  | [d] => { results := [.lit (.bool true)], args := [d] }
  | _ => none }
def unitGoesRow : OpenClaim := { program := "ytnaggkcpagbolaa", sum := "43268e4afbfa34a5735f8ca51675ee06009f60d13887bd937153f03bb6f952e2", func := "hydrocascade/hydrocascadelaw18.UnitGoes", spec := "unitGoes", apart := false }
def UnitGoesSaid : Prop := unitGoesRow.holds Try.pinned (OpenSpec.ofChange unitGoesSpec)

/-- ITS FALSE NEIGHBOUR: 'it returns false'. Refute it at one input. -/
def unitGoesWrong : ChangeSpec := { name := "unitGoes", fn := fun _ => fun
  | [d] => { results := [.lit (.bool false)], args := [d] }
  | _ => none }
def UnitGoesWrongFalsely : Prop := unitGoesRow.holds Try.pinned (OpenSpec.ofChange unitGoesWrong)

/-- 'hydrocascadelaw18.UnitWaits': WHATEVER THE INPUT: true; the input reads as it did. -/
def unitWaitsSpec : ChangeSpec := { name := "unitWaits", fn := fun _ => fun
  | [d] => { results := [.lit (.bool true)], args := [d] }
  | _ => none }
def unitWaitsRow : OpenClaim := { program := "ytnaggkcpagbolaa", sum := "43268e4afbfa34a5735f8ca51675ee06009f60d13887bd937153f03bb6f952e2", func := "hydrocascade/hydrocascadelaw18.UnitWaits", spec := "unitWaits", apart := false }
def UnitWaitsSaid : Prop := unitWaitsRow.holds Try.pinned (OpenSpec.ofChange unitWaitsSpec)

/-- ITS FALSE NEIGHBOUR: 'it returns false'. Refute it at one input. -/
def unitWaitsWrong : ChangeSpec := { name := "unitWaits", fn := fun _ => fun
  | [d] => { results := [.lit (.bool false)], args := [d] }
  | _ => none }
def UnitWaitsWrongFalsely : Prop := unitWaitsRow.holds Try.pinned (OpenSpec.ofChange unitWaitsWrong)

/-- 'hydrocascadelaw18.UnitAll': WHATEVER THE INPUT: true; the input reads as it did. -/
def unitAllSpec : ChangeSpec := { name := "unitAll", fn := fun _ => fun
  | [d1, d2, d3, d4] => { results := [.lit (.bool true)], args := [d1, d2, d3, d4] }
  | _ => none }
def unitAllRow : OpenClaim := { program := "ytnaggkcpagbolaa", sum := "43268e4afbfa34a5735f8ca51675ee06009f60d13887bd937153f03bb6f952e2", func := "hydrocascade/hydrocascadelaw18.UnitAll", spec := "unitAll", apart := false }
def UnitAllSaid : Prop := unitAllRow.holds Try.pinned (OpenSpec.ofChange unitAllSpec)

/-- ITS FALSE NEIGHBOUR: 'it returns false'. Refute it at one input. -/
def unitAllWrong : ChangeSpec := { name := "unitAll", fn := fun _ => fun
  | [d1, d2, d3, d4] => { results := [.lit (.bool false)], args := [d1, d2, d3, d4] }
  | _ => none }
def UnitAllWrongFalsely : Prop := unitAllRow.holds Try.pinned (OpenSpec.ofChange unitAllWrong)

/-- 'hydrocascadelaw18.UnitFlows': WHATEVER THE INPUT: true; the input reads as it did. -/
def unitFlowsSpec : ChangeSpec := { name := "unitFlows", fn := fun _ => fun
  | [d1, d2] => { results := [.lit (.bool true)], args := [d1, d2] }
  | _ => none }
def unitFlowsRow : OpenClaim := { program := "ytnaggkcpagbolaa", sum := "43268e4afbfa34a5735f8ca51675ee06009f60d13887bd937153f03bb6f952e2", func := "hydrocascade/hydrocascadelaw18.UnitFlows", spec := "unitFlows", apart := false }
def UnitFlowsSaid : Prop := unitFlowsRow.holds Try.pinned (OpenSpec.ofChange unitFlowsSpec)

/-- ITS FALSE NEIGHBOUR: 'it returns false'. Refute it at one input. -/
def unitFlowsWrong : ChangeSpec := { name := "unitFlows", fn := fun _ => fun
  | [d1, d2] => { results := [.lit (.bool false)], args := [d1, d2] }
  | _ => none }
def UnitFlowsWrongFalsely : Prop := unitFlowsRow.holds Try.pinned (OpenSpec.ofChange unitFlowsWrong)

/- THE SECOND FORM. 'bulk': how many values and letters a reading holds, each counted each time it is reached (what is shared counts as often as it is met; a slice's spare places count too). A statement '..UptoSaid' is the law's where the arguments, and the package variables that the reading takes, are together of bulk at most 1048576: NARROWER than '..Said'. Prove '..Said' where nothing that the law and all that it calls make is longer than what came in: it says more and counts as full. Else prove '..UptoSaid'. A law counts once. -/
mutual
def uptoBulk {H : Type} : DataW H → Nat
  | .lit (.string bytes) => bytes.length + 1
  | .lit _ => 1
  | .nil => 1
  | .ptr d => uptoBulk d + 1
  | .slice elems spare => uptoBulkAll elems + uptoBulkAll spare + 1
  | .agg parts => uptoBulkAll parts + 1
  | .iface _ d => uptoBulk d + 1
  | .map entries => uptoBulkEntries entries + 1
  | .held _ => 1
def uptoBulkAll {H : Type} : List (DataW H) → Nat
  | [] => 0
  | d :: r => uptoBulk d + uptoBulkAll r
def uptoBulkEntries {H : Type} : List (Lit × DataW H) → Nat
  | [] => 0
  | x :: r => uptoBulkEntry x + uptoBulkEntries r
def uptoBulkEntry {H : Type} : Lit × DataW H → Nat
  | (.string bytes, d) => bytes.length + uptoBulk d + 1
  | (_, d) => uptoBulk d + 1
 end
def uptoSmall : (H : Type) → List (DataW H) → Bool := fun _ ds => decide (uptoBulkAll ds ≤ 1048576)
def OpenSpec.upto (s : _root_.Go.ChangeSpec) : _root_.Go.OpenSpec := { _root_.Go.OpenSpec.ofChange s with cond := some uptoSmall }

/-- 'hydrocascadelaw18.UnitSteps', WHERE WHAT IT READS IS OF BULK AT MOST 1048576: true; the input reads as it did. -/
def unitStepsUptoRow : OpenClaim := { program := "ytnaggkcpagbolaa", sum := "43268e4afbfa34a5735f8ca51675ee06009f60d13887bd937153f03bb6f952e2", func := "hydrocascade/hydrocascadelaw18.UnitSteps", spec := "unitSteps", apart := false, narrowed := true }
def UnitStepsUptoSaid : Prop := unitStepsUptoRow.holds Try.pinned (OpenSpec.upto unitStepsSpec)

/-- 'hydrocascadelaw18.UnitGoes', WHERE WHAT IT READS IS OF BULK AT MOST 1048576: true; the input reads as it did. -/
def unitGoesUptoRow : OpenClaim := { program := "ytnaggkcpagbolaa", sum := "43268e4afbfa34a5735f8ca51675ee06009f60d13887bd937153f03bb6f952e2", func := "hydrocascade/hydrocascadelaw18.UnitGoes", spec := "unitGoes", apart := false, narrowed := true }
def UnitGoesUptoSaid : Prop := unitGoesUptoRow.holds Try.pinned (OpenSpec.upto unitGoesSpec)

/-- 'hydrocascadelaw18.UnitWaits', WHERE WHAT IT READS IS OF BULK AT MOST 1048576: true; the input reads as it did. -/
def unitWaitsUptoRow : OpenClaim := { program := "ytnaggkcpagbolaa", sum := "43268e4afbfa34a5735f8ca51675ee06009f60d13887bd937153f03bb6f952e2", func := "hydrocascade/hydrocascadelaw18.UnitWaits", spec := "unitWaits", apart := false, narrowed := true }
def UnitWaitsUptoSaid : Prop := unitWaitsUptoRow.holds Try.pinned (OpenSpec.upto unitWaitsSpec)

/-- 'hydrocascadelaw18.UnitAll', WHERE WHAT IT READS IS OF BULK AT MOST 1048576: true; the input reads as it did. -/
def unitAllUptoRow : OpenClaim := { program := "ytnaggkcpagbolaa", sum := "43268e4afbfa34a5735f8ca51675ee06009f60d13887bd937153f03bb6f952e2", func := "hydrocascade/hydrocascadelaw18.UnitAll", spec := "unitAll", apart := false, narrowed := true }
def UnitAllUptoSaid : Prop := unitAllUptoRow.holds Try.pinned (OpenSpec.upto unitAllSpec)

/-- 'hydrocascadelaw18.UnitFlows', WHERE WHAT IT READS IS OF BULK AT MOST 1048576: true; the input reads as it did. -/
def unitFlowsUptoRow : OpenClaim := { program := "ytnaggkcpagbolaa", sum := "43268e4afbfa34a5735f8ca51675ee06009f60d13887bd937153f03bb6f952e2", func := "hydrocascade/hydrocascadelaw18.UnitFlows", spec := "unitFlows", apart := false, narrowed := true }
def UnitFlowsUptoSaid : Prop := unitFlowsUptoRow.holds Try.pinned (OpenSpec.upto unitFlowsSpec)

end Rows
end Go.Proofs.Ytnaggkcpagbolaa
