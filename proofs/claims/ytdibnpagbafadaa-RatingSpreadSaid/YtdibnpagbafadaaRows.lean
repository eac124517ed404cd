/-
  No cell of these rows narrows 'for every input' (looked for: loops, veiled, ifaces, maps, wideKeys, modest, calm, conditions, laid).
  DERIVED. THE GIVEN ROWS OF THIS SEAT. 4 by the template 'for every input the law returns true; each argument reads behind the call as it read before'; 0 by the template 'total and deterministic' (their statements: YtdibnpagbafadaaTotals.lean).
  GIVEN WITH THE SEED: the statements are not yours to turn. If you find one false, say at which input.
  Laid BY PROGRAM, IN A SANDBOX (cutbox-rows.mjs): the forced cells as the released guide's own fill.sh prints them over the translation 413181b2cd433071… (all of the seat's roots in one cut). By AI agents, Wed Nov 11 2026. No macro, syntax, notation, axiom, sorry.
-/
import Derived.Test.YtdibnpagbafadaaChecked
import GoSem.Claim
import GoSem.ClaimJoined
import GoSem.ClaimMapViews
import Derived.JoinedTies
import Derived.KernelRfl
namespace Go.Proofs.Ytdibnpagbafadaa
/- THE CELL 'sum', in the pinned program and in every row, IS THE sha256 OF THE DUMP (.gsa) THAT YtdibnpagbafadaaProg.lean LOADS. Nothing in Lean hashes anything: it is a label: what it is worth is what the hold of that sum in a sandbox is worth. -/
noncomputable def Try.pinned : Pinned := { name := "ytdibnpagbafadaa", sum := "413181b2cd433071e9dafd4b2ee8e465729507657078bfcb242540e09b3b940c", checked := Try.checked }
namespace Rows
def none {H : Type} : Left H := { results := [], args := [] }

/-- 'hydrocascadelaw07.RatingIce': WHATEVER THE INPUT: true; the input reads as it did. -/
def ratingIceSpec : ChangeSpec := { name := "ratingIce", fn := fun _ => fun
  | [d1, d2] => { results := [.lit (.bool true)], args := [d1, d2] }
  | _ => none }
def ratingIceRow : OpenClaim := { program := "ytdibnpagbafadaa", sum := "413181b2cd433071e9dafd4b2ee8e465729507657078bfcb242540e09b3b940c", func := "hydrocascade/hydrocascadelaw07.RatingIce", spec := "ratingIce", apart := false }
def RatingIceSaid : Prop := ratingIceRow.holds Try.pinned (OpenSpec.ofChange ratingIceSpec)

/-- ITS FALSE NEIGHBOUR: 'it returns false'. Refute it at one input. -/
def ratingIceWrong : ChangeSpec := { name := "ratingIce", fn := fun _ => fun
  | [d1, d2] => { results := [.lit (.bool false)], args := [d1, d2] }
  | _ => none }
def RatingIceWrongFalsely : Prop := ratingIceRow.holds Try.pinned (OpenSpec.ofChange ratingIceWrong)

/-- 'hydrocascadelaw07.RatingAdds': WHATEVER THE INPUT: true; the input reads as it did. -/
def ratingAddsSpec : ChangeSpec := { name := "ratingAdds", fn := fun _ => fun
  | [d1, d2] => { results := [.lit (.bool true)], args := [d1, d2] }
  | _ => none }
def ratingAddsRow : OpenClaim := { program := "ytdibnpagbafadaa", sum := "413181b2cd433071e9dafd4b2ee8e465729507657078bfcb242540e09b3b940c", func := "hydrocascade/hydrocascadelaw07.RatingAdds", spec := "ratingAdds", apart := false }
def RatingAddsSaid : Prop := ratingAddsRow.holds Try.pinned (OpenSpec.ofChange ratingAddsSpec)

/-- ITS FALSE NEIGHBOUR: 'it returns false'. Refute it at one input. -/
def ratingAddsWrong : ChangeSpec := { name := "ratingAdds", fn := fun _ => fun
  | [d1, d2] => { results := [.lit (.bool false)], args := [d1, d2] }
  | _ => none }
def RatingAddsWrongFalsely : Prop := ratingAddsRow.holds Try.pinned (OpenSpec.ofChange ratingAddsWrong)

/-- 'hydrocascadelaw07.RatingSpread': WHATEVER THE INPUT: true; the input reads as it did. -/
def ratingSpreadSpec : ChangeSpec := { name := "ratingSpread", fn := fun _ => fun
  | [d1, d2, d3] => { results := [.lit (.bool true)], args := [d1, d2, d3] }
  | _ => none }
def ratingSpreadRow : OpenClaim := { program := "ytdibnpagbafadaa", sum := "413181b2cd433071e9dafd4b2ee8e465729507657078bfcb242540e09b3b940c", func := "hydrocascade/hydrocascadelaw07.RatingSpread", spec := "ratingSpread", apart := false }
def RatingSpreadSaid : Prop := ratingSpreadRow.holds Try.pinned (OpenSpec.ofChange ratingSpreadSpec)

/-- ITS FALSE NEIGHBOUR: 'it returns false'. Refute it at one input. -/
def ratingSpreadWrong : ChangeSpec := { name := "ratingSpread", fn := fun _ => fun
  | [d1, d2, d3] => { results := [.lit (.bool false)], args := [d1, d2, d3] }
  | _ => none }
def RatingSpreadWrongFalsely : Prop := ratingSpreadRow.holds Try.pinned (OpenSpec.ofChange ratingSpreadWrong)

/-- 'hydrocascadelaw07.RatingStage': WHATEVER THE INPUT: true; the input reads as it did. -/
def ratingStageSpec : ChangeSpec := { name := "ratingStage", fn := fun _ => fun
  | [d1, d2] => { results := [.lit (.bool true)], args := [d1, d2] }
  | _ => none }
def ratingStageRow : OpenClaim := { program := "ytdibnpagbafadaa", sum := "413181b2cd433071e9dafd4b2ee8e465729507657078bfcb242540e09b3b940c", func := "hydrocascade/hydrocascadelaw07.RatingStage", spec := "ratingStage", apart := false }
def RatingStageSaid : Prop := ratingStageRow.holds Try.pinned (OpenSpec.ofChange ratingStageSpec)

/-- ITS FALSE NEIGHBOUR: 'it returns false'. Refute it at one input. -/
def ratingStageWrong : ChangeSpec := { name := "ratingStage", fn := fun _ => fun
  | [d1, d2] => { results := [.lit (.bool false)], args := [d1, d2] }
  | _ => none }
def RatingStageWrongFalsely : Prop := ratingStageRow.holds Try.pinned (OpenSpec.ofChange ratingStageWrong)

/- THE SECOND FORM. 'bulk': how many values and letters a reading holds, each counted each time it is reached (what is shared counts as often as it is met; a slice's spare places count too). A statement '..UptoSaid' is the law's where the arguments, and the package variables that the reading takes, are together of bulk at most 1048576: NARROWER than '..Said'. Prove '..Said' where nothing that the law and all that it calls make is longer than what came in: it says more and counts as full. Else prove '..UptoSaid'. A law counts once. -/
mutual
def uptoBulk {H : Type} : DataW H → Nat
  | .lit (.string bytes) => bytes.length + 1
  | .lit _ => 1
  | .nil => 1
  | .ptr d => uptoBulk d + 1
  | .slice elems spare => uptoBulkAll elems + uptoBulkAll spare + 1
  | .agg parts => uptoBulkAll parts + 1
  | .iface _ d => uptoBulk d + 1
  | .map entries => uptoBulkEntries entries + 1
  | .held _ => 1
def uptoBulkAll {H : Type} : List (DataW H) → Nat
  | [] => 0
  | d :: r => uptoBulk d + uptoBulkAll r
def uptoBulkEntries {H : Type} : List (Lit × DataW H) → Nat
  | [] => 0
  | x :: r => uptoBulkEntry x + uptoBulkEntries r
def uptoBulkEntry {H : Type} : Lit × DataW H → Nat
  | (.string bytes, d) => bytes.length + uptoBulk d + 1
  | (_, d) => uptoBulk d + 1
 end
def uptoSmall : (H : Type) → List (DataW H) → Bool := fun _ ds => decide (uptoBulkAll ds ≤ 1048576)
def OpenSpec.upto (s : _root_.Go.ChangeSpec) : _root_.Go.OpenSpec := { _root_.Go.OpenSpec.ofChange s with cond := some uptoSmall }

/-- 'hydrocascadelaw07.RatingIce', WHERE WHAT IT READS IS OF BULK AT MOST 1048576: true; the input reads as it did. -/
def ratingIceUptoRow : OpenClaim := { program := "ytdibnpagbafadaa", sum := "413181b2cd433071e9dafd4b2ee8e465729507657078bfcb242540e09b3b940c", func := "hydrocascade/hydrocascadelaw07.RatingIce", spec := "ratingIce", apart := false, narrowed := true }
def RatingIceUptoSaid : Prop := ratingIceUptoRow.holds Try.pinned (OpenSpec.upto ratingIceSpec)

/-- 'hydrocascadelaw07.RatingAdds', WHERE WHAT IT READS IS OF BULK AT MOST 1048576: true; the input reads as it did. -/
def ratingAddsUptoRow : OpenClaim := { program := "ytdibnpagbafadaa", sum := "413181b2cd433071e9dafd4b2ee8e465729507657078bfcb242540e09b3b940c", func := "hydrocascade/hydrocascadelaw07.RatingAdds", spec := "ratingAdds", apart := false, narrowed := true }
def RatingAddsUptoSaid : Prop := ratingAddsUptoRow.holds Try.pinned (OpenSpec.upto ratingAddsSpec)

/-- 'hydrocascadelaw07.RatingSpread', WHERE WHAT IT READS IS OF BULK AT MOST 1048576: true; the input reads as it did. -/
def ratingSpreadUptoRow : OpenClaim := { program := "ytdibnpagbafadaa", sum := "413181b2cd433071e9dafd4b2ee8e465729507657078bfcb242540e09b3b940c", func := "hydrocascade/hydrocascadelaw07.RatingSpread", spec := "ratingSpread", apart := false, narrowed := true }
def RatingSpreadUptoSaid : Prop := ratingSpreadUptoRow.holds Try.pinned (OpenSpec.upto ratingSpreadSpec)

/-- 'hydrocascadelaw07.RatingStage', WHERE WHAT IT READS IS OF BULK AT MOST 1048576: true; the input reads as it did. -/
def ratingStageUptoRow : OpenClaim := { program := "ytdibnpagbafadaa", sum := "413181b2cd433071e9dafd4b2ee8e465729507657078bfcb242540e09b3b940c", func := "hydrocascade/hydrocascadelaw07.RatingStage", spec := "ratingStage", apart := false, narrowed := true }
def RatingStageUptoSaid : Prop := ratingStageUptoRow.holds Try.pinned (OpenSpec.upto ratingStageSpec)

end Rows
end Go.Proofs.Ytdibnpagbafadaa
