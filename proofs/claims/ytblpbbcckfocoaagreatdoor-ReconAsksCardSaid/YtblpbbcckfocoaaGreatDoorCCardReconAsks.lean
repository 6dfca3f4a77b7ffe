/- ReconAsks, the tied card: for every input: of any ids, and any more, what is asked; of any set how it greets. No condition beyond the card's own. -/
import Derived.Test.YtblpbbcckfocoaaGreatDoorCRowReconAsks
import Derived.Test.YtblpbbcckfocoaaGreatDoorTie
import Derived.Test.YtblpbbcckfocoaaGreatDoorCards
import Derived.SevenTiedAt
set_option linter.unusedVariables false
namespace Go.Proofs.YtblpbbcckfocoaaGreatDoor
open Go
theorem reconAsksCard_holds : Rows.ReconAsksCardSaid :=
  Claim7.holds_tied_plain_at .later [] [.data] true Rows.reconAsksCard.stood.harness false
    reconAsks_holds (fun _ h => by cases h) (by kernel_rfl) (fun _ h => by cases h) reconAsks_row_tie rfl ⟨rfl, rfl⟩ (by kernel_rfl) rfl
    (fun f fn hf hfn => by
      obtain rfl : f = 3 := Option.some.inj ((show Tryz.prog.funcNamed "palaver/palaverlaw18.ReconAsks" = some 3 by kernel_rfl).symm.trans hf) |>.symm
      obtain rfl : fn = Tryz.f3 := (Option.some.inj (Tryz.func3.symm.trans hfn)).symm
      exact ⟨by kernel_rfl, fun j t ht => by
        rw [Tryz.params3] at ht
        have hm : t ∈ [22, 23, 24] := by simpa using Array.mem_of_getElem? ht
        have hall : ([22, 23, 24].all fun u => !Tryz.prog.wantsStandIn u) = true := by kernel_rfl
        exact (show Tryz.prog.wantsStandIn t = false by simpa using List.all_eq_true.1 hall t hm)⟩)
    (by kernel_rfl)
#print axioms reconAsksCard_holds
end Go.Proofs.YtblpbbcckfocoaaGreatDoor
