/- The tied card of TopWater. -/
import Derived.Test.YtfhnicamjcfddaaGreatDoorSeaTop
namespace Go.Proofs.YtfhnicamjcfddaaGreatDoor
set_option linter.unusedVariables false
theorem topWater_card : Rows.TopWaterCardSaid :=
  Claim7.holds_tied_plain_at .later [] [.data, .data, .data, .data, .data, .sentinel, .sentinel, .data, .pinned] true (true, "759352581ccb6aaaa4fddbf964c1bdd5274e9bb4336fae774cc7574862d14bb7") true
    over (fun _ h => by cases h) (by kernel_rfl) (fun _ h => by cases h) topWater_row_tie rfl ⟨rfl, rfl⟩ (by kernel_rfl) rfl
    (fun f fn hf hfn => by
      obtain rfl : f = 3 := Option.some.inj ((show Tryz.prog.funcNamed "hydrocascade/hydrocascadetop.TopWater" = some 3 by kernel_rfl).symm.trans hf) |>.symm
      obtain rfl : fn = Tryz.f3 := (Option.some.inj (Tryz.func3.symm.trans hfn)).symm
      exact ⟨by kernel_rfl, fun j t ht => by
        rw [Tryz.params3] at ht
        have h3 : t = 22 := by
          rcases j with _ | j
          · simpa using ht.symm
          · simp at ht
        subst h3
        exact (show Tryz.prog.wantsStandIn 22 = false by kernel_rfl)⟩)
    (by kernel_rfl)
#print axioms topWater_card
end Go.Proofs.YtfhnicamjcfddaaGreatDoor
