/-
  No cell of these rows narrows 'for every input' (looked for: loops, veiled, ifaces, maps, wideKeys, modest, calm, conditions, laid).
  DERIVED. THE GIVEN ROWS OF THIS SEAT. 6 by the template 'for every input the law returns true; each argument reads behind the call as it read before'; 0 by the template 'total and deterministic' (their statements: YthkimpoeiighoaaTotals.lean).
  GIVEN WITH THE SEED: the statements are not yours to turn. If you find one false, say at which input.
  Laid BY PROGRAM, IN A SANDBOX (cutbox-rows.mjs): the forced cells as the released guide's own fill.sh prints them over the translation 8b1bbfbc3550b944… (all of the seat's roots in one cut). By AI agents, Wed Nov 11 2026. No macro, syntax, notation, axiom, sorry.
-/
import Derived.Test.YthkimpoeiighoaaChecked
import GoSem.Claim
import GoSem.ClaimJoined
import GoSem.ClaimMapViews
import Derived.JoinedTies
import Derived.KernelRfl
namespace Go.Proofs.Ythkimpoeiighoaa
/- THE CELL 'sum', in the pinned program and in every row, IS THE sha256 OF THE DUMP (.gsa) THAT YthkimpoeiighoaaProg.lean LOADS. Nothing in Lean hashes anything: it is a label: what it is worth is what the hold of that sum in a sandbox is worth. -/
noncomputable def Try.pinned : Pinned := { name := "ythkimpoeiighoaa", sum := "8b1bbfbc3550b944d0902d0ac4a02901eccb55448f8c352c642ddfda5a816b82", checked := Try.checked }
namespace Rows
def none {H : Type} : Left H := { results := [], args := [] }

/-- 'hydrocascadelaw17.JunctionKeeps': WHATEVER THE INPUT: true; the input reads as it did. -/
def junctionKeepsSpec : ChangeSpec := { name := "junctionKeeps", fn := fun _ => fun
  | [d] => { results := [.lit (.bool true)], args := [d] }
  | _ => none }
def junctionKeepsRow : OpenClaim := { program := "ythkimpoeiighoaa", sum := "8b1bbfbc3550b944d0902d0ac4a02901eccb55448f8c352c642ddfda5a816b82", func := "hydrocascade/hydrocascadelaw17.JunctionKeeps", spec := "junctionKeeps", unfollowed := true, recurses := true, apart := false }
def JunctionKeepsSaid : Prop := junctionKeepsRow.holds Try.pinned (OpenSpec.ofChange junctionKeepsSpec)

/-- ITS FALSE NEIGHBOUR: 'it returns false'. Refute it at one input. -/
def junctionKeepsWrong : ChangeSpec := { name := "junctionKeeps", fn := fun _ => fun
  | [d] => { results := [.lit (.bool false)], args := [d] }
  | _ => none }
def JunctionKeepsWrongFalsely : Prop := junctionKeepsRow.holds Try.pinned (OpenSpec.ofChange junctionKeepsWrong)

/-- 'hydrocascadelaw17.JunctionChain': WHATEVER THE INPUT: true; the input reads as it did. -/
def junctionChainSpec : ChangeSpec := { name := "junctionChain", fn := fun _ => fun
  | [d] => { results := [.lit (.bool true)], args := [d] }
  | _ => none }
def junctionChainRow : OpenClaim := { program := "ythkimpoeiighoaa", sum := "8b1bbfbc3550b944d0902d0ac4a02901eccb55448f8c352c642ddfda5a816b82", func := "hydrocascade/hydrocascadelaw17.JunctionChain", spec := "junctionChain", unfollowed := true, recurses := true, apart := false }
def JunctionChainSaid : Prop := junctionChainRow.holds Try.pinned (OpenSpec.ofChange junctionChainSpec)

/-- ITS FALSE NEIGHBOUR: 'it returns false'. Refute it at one input. -/
def junctionChainWrong : ChangeSpec := { name := "junctionChain", fn := fun _ => fun
  | [d] => { results := [.lit (.bool false)], args := [d] }
  | _ => none }
def JunctionChainWrongFalsely : Prop := junctionChainRow.holds Try.pinned (OpenSpec.ofChange junctionChainWrong)

/-- 'hydrocascadelaw17.JunctionSteps': WHATEVER THE INPUT: true; the input reads as it did. -/
def junctionStepsSpec : ChangeSpec := { name := "junctionSteps", fn := fun _ => fun
  | [d1, d2, d3, d4] => { results := [.lit (.bool true)], args := [d1, d2, d3, d4] }
  | _ => none }
def junctionStepsRow : OpenClaim := { program := "ythkimpoeiighoaa", sum := "8b1bbfbc3550b944d0902d0ac4a02901eccb55448f8c352c642ddfda5a816b82", func := "hydrocascade/hydrocascadelaw17.JunctionSteps", spec := "junctionSteps", unfollowed := true, recurses := true, apart := false }
def JunctionStepsSaid : Prop := junctionStepsRow.holds Try.pinned (OpenSpec.ofChange junctionStepsSpec)

/-- ITS FALSE NEIGHBOUR: 'it returns false'. Refute it at one input. -/
def junctionStepsWrong : ChangeSpec := { name := "junctionSteps", fn := fun _ => fun
  | [d1, d2, d3, d4] => { results := [.lit (.bool false)], args := [d1, d2, d3, d4] }
  | _ => none }
def JunctionStepsWrongFalsely : Prop := junctionStepsRow.holds Try.pinned (OpenSpec.ofChange junctionStepsWrong)

/-- 'hydrocascadelaw17.JunctionSums': WHATEVER THE INPUT: true; the input reads as it did. -/
def junctionSumsSpec : ChangeSpec := { name := "junctionSums", fn := fun _ => fun
  | [d] => { results := [.lit (.bool true)], args := [d] }
  | _ => none }
def junctionSumsRow : OpenClaim := { program := "ythkimpoeiighoaa", sum := "8b1bbfbc3550b944d0902d0ac4a02901eccb55448f8c352c642ddfda5a816b82", func := "hydrocascade/hydrocascadelaw17.JunctionSums", spec := "junctionSums", unfollowed := true, recurses := true, apart := false }
def JunctionSumsSaid : Prop := junctionSumsRow.holds Try.pinned (OpenSpec.ofChange junctionSumsSpec)

/-- ITS FALSE NEIGHBOUR: 'it returns false'. Refute it at one input. -/
def junctionSumsWrong : ChangeSpec := { name := "junctionSums", fn := fun _ => fun
  | [d] => { results := [.lit (.bool false)], args := [d] }
  | _ => none }
def JunctionSumsWrongFalsely : Prop := junctionSumsRow.holds Try.pinned (OpenSpec.ofChange junctionSumsWrong)

/-- 'hydrocascadelaw17.JunctionApart': WHATEVER THE INPUT: true; the input reads as it did. -/
def junctionApartSpec : ChangeSpec := { name := "junctionApart", fn := fun _ => fun
  | [d1, d2, d3] => { results := [.lit (.bool true)], args := [d1, d2, d3] }
  | _ => none }
def junctionApartRow : OpenClaim := { program := "ythkimpoeiighoaa", sum := "8b1bbfbc3550b944d0902d0ac4a02901eccb55448f8c352c642ddfda5a816b82", func := "hydrocascade/hydrocascadelaw17.JunctionApart", spec := "junctionApart", unfollowed := true, recurses := true, apart := false }
def JunctionApartSaid : Prop := junctionApartRow.holds Try.pinned (OpenSpec.ofChange junctionApartSpec)

/-- ITS FALSE NEIGHBOUR: 'it returns false'. Refute it at one input. -/
def junctionApartWrong : ChangeSpec := { name := "junctionApart", fn := fun _ => fun
  | [d1, d2, d3] => { results := [.lit (.bool false)], args := [d1, d2, d3] }
  | _ => none }
def JunctionApartWrongFalsely : Prop := junctionApartRow.holds Try.pinned (OpenSpec.ofChange junctionApartWrong)

/-- 'hydrocascadelaw17.JunctionTravels': WHATEVER THE INPUT: true; the input reads as it did. -/
def junctionTravelsSpec : ChangeSpec := { name := "junctionTravels", fn := fun _ => fun
  | [d1, d2, d3] => { results := [.lit (.bool true)], args := [d1, d2, d3] }
  | _ => none }
def junctionTravelsRow : OpenClaim := { program := "ythkimpoeiighoaa", sum := "8b1bbfbc3550b944d0902d0ac4a02901eccb55448f8c352c642ddfda5a816b82", func := "hydrocascade/hydrocascadelaw17.JunctionTravels", spec := "junctionTravels", unfollowed := true, recurses := true, apart := false }
def JunctionTravelsSaid : Prop := junctionTravelsRow.holds Try.pinned (OpenSpec.ofChange junctionTravelsSpec)

/-- ITS FALSE NEIGHBOUR: 'it returns false'. Refute it at one input. -/
def junctionTravelsWrong : ChangeSpec := { name := "junctionTravels", fn := fun _ => fun
  | [d1, d2, d3] => { results := [.lit (.bool false)], args := [d1, d2, d3] }
  | _ => none }
def JunctionTravelsWrongFalsely : Prop := junctionTravelsRow.holds Try.pinned (OpenSpec.ofChange junctionTravelsWrong)

/- THE SECOND FORM. 'bulk': how many values and letters a reading holds, each counted each time it is reached (what is shared counts as often as it is met; a slice's spare places count too). A statement '..UptoSaid' is the law's where the arguments, and the package variables that the reading takes, are together of bulk at most 1048576: NARROWER than '..Said'. Prove '..Said' where nothing that the law and all that it calls make is longer than what came in: it says more and counts as full. Else prove '..UptoSaid'. A law counts once. -/
mutual
def uptoBulk {H : Type} : DataW H → Nat
  | .lit (.string bytes) => bytes.length + 1
  | .lit _ => 1
  | .nil => 1
  | .ptr d => uptoBulk d + 1
  | .slice elems spare => uptoBulkAll elems + uptoBulkAll spare + 1
  | .agg parts => uptoBulkAll parts + 1
  | .iface _ d => uptoBulk d + 1
  | .map entries => uptoBulkEntries entries + 1
  | .held _ => 1
def uptoBulkAll {H : Type} : List (DataW H) → Nat
  | [] => 0
  | d :: r => uptoBulk d + uptoBulkAll r
def uptoBulkEntries {H : Type} : List (Lit × DataW H) → Nat
  | [] => 0
  | x :: r => uptoBulkEntry x + uptoBulkEntries r
def uptoBulkEntry {H : Type} : Lit × DataW H → Nat
  | (.string bytes, d) => bytes.length + uptoBulk d + 1
  | (_, d) => uptoBulk d + 1
 end
def uptoSmall : (H : Type) → List (DataW H) → Bool := fun _ ds => decide (uptoBulkAll ds ≤ 1048576)
def OpenSpec.upto (s : _root_.Go.ChangeSpec) : _root_.Go.OpenSpec := { _root_.Go.OpenSpec.ofChange s with cond := some uptoSmall }

/-- 'hydrocascadelaw17.JunctionKeeps', WHERE WHAT IT READS IS OF BULK AT MOST 1048576: true; the input reads as it did. -/
def junctionKeepsUptoRow : OpenClaim := { program := "ythkimpoeiighoaa", sum := "8b1bbfbc3550b944d0902d0ac4a02901eccb55448f8c352c642ddfda5a816b82", func := "hydrocascade/hydrocascadelaw17.JunctionKeeps", spec := "junctionKeeps", unfollowed := true, recurses := true, apart := false, narrowed := true }
def JunctionKeepsUptoSaid : Prop := junctionKeepsUptoRow.holds Try.pinned (OpenSpec.upto junctionKeepsSpec)

/-- 'hydrocascadelaw17.JunctionChain', WHERE WHAT IT READS IS OF BULK AT MOST 1048576: true; the input reads as it did. -/
def junctionChainUptoRow : OpenClaim := { program := "ythkimpoeiighoaa", sum := "8b1bbfbc3550b944d0902d0ac4a02901eccb55448f8c352c642ddfda5a816b82", func := "hydrocascade/hydrocascadelaw17.JunctionChain", spec := "junctionChain", unfollowed := true, recurses := true, apart := false, narrowed := true }
def JunctionChainUptoSaid : Prop := junctionChainUptoRow.holds Try.pinned (OpenSpec.upto junctionChainSpec)

/-- 'hydrocascadelaw17.JunctionSteps', WHERE WHAT IT READS IS OF BULK AT MOST 1048576: true; the input reads as it did. -/
def junctionStepsUptoRow : OpenClaim := { program := "ythkimpoeiighoaa", sum := "8b1bbfbc3550b944d0902d0ac4a02901eccb55448f8c352c642ddfda5a816b82", func := "hydrocascade/hydrocascadelaw17.JunctionSteps", spec := "junctionSteps", unfollowed := true, recurses := true, apart := false, narrowed := true }
def JunctionStepsUptoSaid : Prop := junctionStepsUptoRow.holds Try.pinned (OpenSpec.upto junctionStepsSpec)

/-- 'hydrocascadelaw17.JunctionSums', WHERE WHAT IT READS IS OF BULK AT MOST 1048576: true; the input reads as it did. -/
def junctionSumsUptoRow : OpenClaim := { program := "ythkimpoeiighoaa", sum := "8b1bbfbc3550b944d0902d0ac4a02901eccb55448f8c352c642ddfda5a816b82", func := "hydrocascade/hydrocascadelaw17.JunctionSums", spec := "junctionSums", unfollowed := true, recurses := true, apart := false, narrowed := true }
def JunctionSumsUptoSaid : Prop := junctionSumsUptoRow.holds Try.pinned (OpenSpec.upto junctionSumsSpec)

/-- 'hydrocascadelaw17.JunctionApart', WHERE WHAT IT READS IS OF BULK AT MOST 1048576: true; the input reads as it did. -/
def junctionApartUptoRow : OpenClaim := { program := "ythkimpoeiighoaa", sum := "8b1bbfbc3550b944d0902d0ac4a02901eccb55448f8c352c642ddfda5a816b82", func := "hydrocascade/hydrocascadelaw17.JunctionApart", spec := "junctionApart", unfollowed := true, recurses := true, apart := false, narrowed := true }
def JunctionApartUptoSaid : Prop := junctionApartUptoRow.holds Try.pinned (OpenSpec.upto junctionApartSpec)

/-- 'hydrocascadelaw17.JunctionTravels', WHERE WHAT IT READS IS OF BULK AT MOST 1048576: true; the input reads as it did. -/
def junctionTravelsUptoRow : OpenClaim := { program := "ythkimpoeiighoaa", sum := "8b1bbfbc3550b944d0902d0ac4a02901eccb55448f8c352c642ddfda5a816b82", func := "hydrocascade/hydrocascadelaw17.JunctionTravels", spec := "junctionTravels", unfollowed := true, recurses := true, apart := false, narrowed := true }
def JunctionTravelsUptoSaid : Prop := junctionTravelsUptoRow.holds Try.pinned (OpenSpec.upto junctionTravelsSpec)

end Rows
end Go.Proofs.Ythkimpoeiighoaa
