/-
  DERIVED. GIVEN WITH THE SEED: THE CARDS: each row of YtfhnicamjcfddaaGreatDoorRows.lean that lists a variable, with what it lists TIED to the program's text (the seventh form; the later family's looks); each row that meets fmt, with fmt's text TOLD by the authors' own Lean function (tested against real Go, not proved from fmt's source: count such statements apart). THE CARD IS WHAT COUNTS. Prove the row's statement (the work); the ties are given (YtfhnicamjcfddaaGreatDoorTie.lean); close each card by the builder's one call (the guide's Derived/Test/ToyasCard.lean, 'card_holds'). Laid BY PROGRAM, IN A SANDBOX (cutbox-door.mjs). By AI agents, Wed Nov 11 2026. No macro, syntax, notation, axiom, sorry.
-/
import Derived.Test.YtfhnicamjcfddaaGreatDoorRows
import GoSem.ClaimSeven
namespace Go.Proofs.YtfhnicamjcfddaaGreatDoor
namespace Rows

/-- THE TIED CARD OF 'hydrocascadetop.TopWater'. -/
def topWaterCard : Claim7 := { stood := { row := topWaterRow, standIns := [], harness := (true, "759352581ccb6aaaa4fddbf964c1bdd5274e9bb4336fae774cc7574862d14bb7"), looks := true }, kinds := [], alts := [], laidByText := true, laidKinds := [.data, .data, .data, .data, .data, .sentinel, .sentinel, .data, .pinned], laidTests := true, laidLooks := .later }
def TopWaterCardSaid : Prop := Claim7.holds Tryz.pinned (.plain (OpenSpec.ofChange topWaterSpec)) topWaterCard

/-- THE SECOND FORM's CARD OF 'hydrocascadetop.TopWater'. -/
def topWaterUptoCard : Claim7 := { stood := { row := topWaterUptoRow, standIns := [], harness := (true, "759352581ccb6aaaa4fddbf964c1bdd5274e9bb4336fae774cc7574862d14bb7"), looks := true }, kinds := [], alts := [], laidByText := true, laidKinds := [.data, .data, .data, .data, .data, .sentinel, .sentinel, .data, .pinned], laidTests := true, laidLooks := .later }
def TopWaterUptoCardSaid : Prop := Claim7.holds Tryz.pinned (.plain (OpenSpec.upto topWaterSpec)) topWaterUptoCard
end Rows
end Go.Proofs.YtfhnicamjcfddaaGreatDoor
