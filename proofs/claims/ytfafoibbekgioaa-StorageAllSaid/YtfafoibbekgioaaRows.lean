/-
  No cell of these rows narrows 'for every input' (looked for: loops, veiled, ifaces, maps, wideKeys, modest, calm, conditions, laid).
  DERIVED. THE GIVEN ROWS OF THIS SEAT. 5 by the template 'for every input the law returns true; each argument reads behind the call as it read before'; 0 by the template 'total and deterministic' (their statements: YtfafoibbekgioaaTotals.lean).
  GIVEN WITH THE SEED: the statements are not yours to turn. If you find one false, say at which input.
  Laid BY PROGRAM, IN A SANDBOX (cutbox-rows.mjs): the forced cells as the released guide's own fill.sh prints them over the translation af5397d09b7385b2… (all of the seat's roots in one cut). By AI agents, Wed Nov 11 2026. No macro, syntax, notation, axiom, sorry.
-/
import Derived.Test.YtfafoibbekgioaaChecked
import GoSem.Claim
import GoSem.ClaimJoined
import GoSem.ClaimMapViews
import Derived.JoinedTies
import Derived.KernelRfl
namespace Go.Proofs.Ytfafoibbekgioaa
/- THE CELL 'sum', in the pinned program and in every row, IS THE sha256 OF THE DUMP (.gsa) THAT YtfafoibbekgioaaProg.lean LOADS. Nothing in Lean hashes anything: it is a label: what it is worth is what the hold of that sum in a sandbox is worth. -/
noncomputable def Try.pinned : Pinned := { name := "ytfafoibbekgioaa", sum := "af5397d09b7385b2dcce2092d55b3ceff66f57541f7b381ef056c60deb7fe936", checked := Try.checked }
namespace Rows
def none {H : Type} : Left H := { results := [], args := [] }

/-- 'hydrocascadelaw03.StorageBack': WHATEVER THE INPUT: true; the input reads as it did. -/
def storageBackSpec : ChangeSpec := { name := "storageBack", fn := fun _ => fun
  | [d1, d2, d3] => { results := [.lit (.bool true)], args := [d1, d2, d3] }
  | _ => none }
def storageBackRow : OpenClaim := { program := "ytfafoibbekgioaa", sum := "af5397d09b7385b2dcce2092d55b3ceff66f57541f7b381ef056c60deb7fe936", func := "hydrocascade/hydrocascadelaw03.StorageBack", spec := "storageBack", apart := false }
def StorageBackSaid : Prop := storageBackRow.holds Try.pinned (OpenSpec.ofChange storageBackSpec)

/-- ITS FALSE NEIGHBOUR: 'it returns false'. Refute it at one input. -/
def storageBackWrong : ChangeSpec := { name := "storageBack", fn := fun _ => fun
  | [d1, d2, d3] => { results := [.lit (.bool false)], args := [d1, d2, d3] }
  | _ => none }
def StorageBackWrongFalsely : Prop := storageBackRow.holds Try.pinned (OpenSpec.ofChange storageBackWrong)

/-- 'hydrocascadelaw03.StorageRoom': WHATEVER THE INPUT: true; the input reads as it did. -/
def storageRoomSpec : ChangeSpec := { name := "storageRoom", fn := fun _ => fun
  | [d1, d2, d3] => { results := [.lit (.bool true)], args := [d1, d2, d3] }
  | _ => none }
def storageRoomRow : OpenClaim := { program := "ytfafoibbekgioaa", sum := "af5397d09b7385b2dcce2092d55b3ceff66f57541f7b381ef056c60deb7fe936", func := "hydrocascade/hydrocascadelaw03.StorageRoom", spec := "storageRoom", apart := false }
def StorageRoomSaid : Prop := storageRoomRow.holds Try.pinned (OpenSpec.ofChange storageRoomSpec)

/-- ITS FALSE NEIGHBOUR: 'it returns false'. Refute it at one input. -/
def storageRoomWrong : ChangeSpec := { name := "storageRoom", fn := fun _ => fun
  | [d1, d2, d3] => { results := [.lit (.bool false)], args := [d1, d2, d3] }
  | _ => none }
def StorageRoomWrongFalsely : Prop := storageRoomRow.holds Try.pinned (OpenSpec.ofChange storageRoomWrong)

/-- 'hydrocascadelaw03.StorageRises': WHATEVER THE INPUT: true; the input reads as it did. -/
def storageRisesSpec : ChangeSpec := { name := "storageRises", fn := fun _ => fun
  | [d1, d2, d3] => { results := [.lit (.bool true)], args := [d1, d2, d3] }
  | _ => none }
def storageRisesRow : OpenClaim := { program := "ytfafoibbekgioaa", sum := "af5397d09b7385b2dcce2092d55b3ceff66f57541f7b381ef056c60deb7fe936", func := "hydrocascade/hydrocascadelaw03.StorageRises", spec := "storageRises", apart := false }
def StorageRisesSaid : Prop := storageRisesRow.holds Try.pinned (OpenSpec.ofChange storageRisesSpec)

/-- ITS FALSE NEIGHBOUR: 'it returns false'. Refute it at one input. -/
def storageRisesWrong : ChangeSpec := { name := "storageRises", fn := fun _ => fun
  | [d1, d2, d3] => { results := [.lit (.bool false)], args := [d1, d2, d3] }
  | _ => none }
def StorageRisesWrongFalsely : Prop := storageRisesRow.holds Try.pinned (OpenSpec.ofChange storageRisesWrong)

/-- 'hydrocascadelaw03.StorageZones': WHATEVER THE INPUT: true; the input reads as it did. -/
def storageZonesSpec : ChangeSpec := { name := "storageZones", fn := fun _ => fun
  | [d1, d2] => { results := [.lit (.bool true)], args := [d1, d2] }
  | _ => none }
def storageZonesRow : OpenClaim := { program := "ytfafoibbekgioaa", sum := "af5397d09b7385b2dcce2092d55b3ceff66f57541f7b381ef056c60deb7fe936", func := "hydrocascade/hydrocascadelaw03.StorageZones", spec := "storageZones", apart := false }
def StorageZonesSaid : Prop := storageZonesRow.holds Try.pinned (OpenSpec.ofChange storageZonesSpec)

/-- ITS FALSE NEIGHBOUR: 'it returns false'. Refute it at one input. -/
def storageZonesWrong : ChangeSpec := { name := "storageZones", fn := fun _ => fun
  | [d1, d2] => { results := [.lit (.bool false)], args := [d1, d2] }
  | _ => none }
def StorageZonesWrongFalsely : Prop := storageZonesRow.holds Try.pinned (OpenSpec.ofChange storageZonesWrong)

/-- 'hydrocascadelaw03.StorageAll': WHATEVER THE INPUT: true; the input reads as it did. -/
def storageAllSpec : ChangeSpec := { name := "storageAll", fn := fun _ => fun
  | [d1, d2, d3, d4] => { results := [.lit (.bool true)], args := [d1, d2, d3, d4] }
  | _ => none }
def storageAllRow : OpenClaim := { program := "ytfafoibbekgioaa", sum := "af5397d09b7385b2dcce2092d55b3ceff66f57541f7b381ef056c60deb7fe936", func := "hydrocascade/hydrocascadelaw03.StorageAll", spec := "storageAll", apart := false }
def StorageAllSaid : Prop := storageAllRow.holds Try.pinned (OpenSpec.ofChange storageAllSpec)

/-- ITS FALSE NEIGHBOUR: 'it returns false'. Refute it at one input. -/
def storageAllWrong : ChangeSpec := { name := "storageAll", fn := fun _ => fun
  | [d1, d2, d3, d4] => { results := [.lit (.bool false)], args := [d1, d2, d3, d4] }
  | _ => none }
def StorageAllWrongFalsely : Prop := storageAllRow.holds Try.pinned (OpenSpec.ofChange storageAllWrong)

/- THE SECOND FORM. 'bulk': how many values and letters a reading holds, each counted each time it is reached (what is shared counts as often as it is met; a slice's spare places count too). A statement '..UptoSaid' is the law's where the arguments, and the package variables that the reading takes, are together of bulk at most 1048576: NARROWER than '..Said'. Prove '..Said' where nothing that the law and all that it calls make is longer than what came in: it says more and counts as full. Else prove '..UptoSaid'. A law counts once. -/
mutual
def uptoBulk {H : Type} : DataW H → Nat
  | .lit (.string bytes) => bytes.length + 1
  | .lit _ => 1
  | .nil => 1
  | .ptr d => uptoBulk d + 1
  | .slice elems spare => uptoBulkAll elems + uptoBulkAll spare + 1
  | .agg parts => uptoBulkAll parts + 1
  | .iface _ d => uptoBulk d + 1
  | .map entries => uptoBulkEntries entries + 1
  | .held _ => 1
def uptoBulkAll {H : Type} : List (DataW H) → Nat
  | [] => 0
  | d :: r => uptoBulk d + uptoBulkAll r
def uptoBulkEntries {H : Type} : List (Lit × DataW H) → Nat
  | [] => 0
  | x :: r => uptoBulkEntry x + uptoBulkEntries r
def uptoBulkEntry {H : Type} : Lit × DataW H → Nat
  | (.string bytes, d) => bytes.length + uptoBulk d + 1
  | (_, d) => uptoBulk d + 1
 end
def uptoSmall : (H : Type) → List (DataW H) → Bool := fun _ ds => decide (uptoBulkAll ds ≤ 1048576)
def OpenSpec.upto (s : _root_.Go.ChangeSpec) : _root_.Go.OpenSpec := { _root_.Go.OpenSpec.ofChange s with cond := some uptoSmall }

/-- 'hydrocascadelaw03.StorageBack', WHERE WHAT IT READS IS OF BULK AT MOST 1048576: true; the input reads as it did. -/
def storageBackUptoRow : OpenClaim := { program := "ytfafoibbekgioaa", sum := "af5397d09b7385b2dcce2092d55b3ceff66f57541f7b381ef056c60deb7fe936", func := "hydrocascade/hydrocascadelaw03.StorageBack", spec := "storageBack", apart := false, narrowed := true }
def StorageBackUptoSaid : Prop := storageBackUptoRow.holds Try.pinned (OpenSpec.upto storageBackSpec)

/-- 'hydrocascadelaw03.StorageRoom', WHERE WHAT IT READS IS OF BULK AT MOST 1048576: true; the input reads as it did. -/
def storageRoomUptoRow : OpenClaim := { program := "ytfafoibbekgioaa", sum := "af5397d09b7385b2dcce2092d55b3ceff66f57541f7b381ef056c60deb7fe936", func := "hydrocascade/hydrocascadelaw03.StorageRoom", spec := "storageRoom", apart := false, narrowed := true }
def StorageRoomUptoSaid : Prop := storageRoomUptoRow.holds Try.pinned (OpenSpec.upto storageRoomSpec)

/-- 'hydrocascadelaw03.StorageRises', WHERE WHAT IT READS IS OF BULK AT MOST 1048576: true; the input reads as it did. -/
def storageRisesUptoRow : OpenClaim := { program := "ytfafoibbekgioaa", sum := "af5397d09b7385b2dcce2092d55b3ceff66f57541f7b381ef056c60deb7fe936", func := "hydrocascade/hydrocascadelaw03.StorageRises", spec := "storageRises", apart := false, narrowed := true }
def StorageRisesUptoSaid : Prop := storageRisesUptoRow.holds Try.pinned (OpenSpec.upto storageRisesSpec)

/-- 'hydrocascadelaw03.StorageZones', WHERE WHAT IT READS IS OF BULK AT MOST 1048576: true; the input reads as it did. -/
def storageZonesUptoRow : OpenClaim := { program := "ytfafoibbekgioaa", sum := "af5397d09b7385b2dcce2092d55b3ceff66f57541f7b381ef056c60deb7fe936", func := "hydrocascade/hydrocascadelaw03.StorageZones", spec := "storageZones", apart := false, narrowed := true }
def StorageZonesUptoSaid : Prop := storageZonesUptoRow.holds Try.pinned (OpenSpec.upto storageZonesSpec)

/-- 'hydrocascadelaw03.StorageAll', WHERE WHAT IT READS IS OF BULK AT MOST 1048576: true; the input reads as it did. -/
def storageAllUptoRow : OpenClaim := { program := "ytfafoibbekgioaa", sum := "af5397d09b7385b2dcce2092d55b3ceff66f57541f7b381ef056c60deb7fe936", func := "hydrocascade/hydrocascadelaw03.StorageAll", spec := "storageAll", apart := false, narrowed := true }
def StorageAllUptoSaid : Prop := storageAllUptoRow.holds Try.pinned (OpenSpec.upto storageAllSpec)

end Rows
end Go.Proofs.Ytfafoibbekgioaa
