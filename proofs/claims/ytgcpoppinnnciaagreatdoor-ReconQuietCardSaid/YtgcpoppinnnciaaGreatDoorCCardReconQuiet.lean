/-
  ReconQuiet, the tied card: for every input: two sets with the same events that greet one another have nothing to say. No condition beyond the card's own.
-/
import Derived.Test.YtgcpoppinnnciaaGreatDoorCRowReconQuiet
import Derived.Test.YtgcpoppinnnciaaGreatDoorTie
import Derived.Test.YtgcpoppinnnciaaGreatDoorCards
import Derived.SevenTiedAt
/- ReconQuiet, the tied card: for every input: two sets with the same events that greet one another have nothing to say. No condition beyond the card's own. -/
set_option linter.unusedVariables false
namespace Go.Proofs.YtgcpoppinnnciaaGreatDoor
open Go
theorem reconQuietCard_holds : Rows.ReconQuietCardSaid :=
  Claim7.holds_tied_plain_at .later [] [.data] true Rows.reconQuietCard.stood.harness false
    reconQuiet_holds (fun _ h => by cases h) (by kernel_rfl) (fun _ h => by cases h) reconQuiet_row_tie rfl ⟨rfl, rfl⟩ (by kernel_rfl) rfl
    (fun f fn hf hfn => by
      obtain rfl : f = 3 := Option.some.inj ((show Tryz.prog.funcNamed "palaver/palaverlaw18.ReconQuiet" = some 3 by kernel_rfl).symm.trans hf) |>.symm
      obtain rfl : fn = Tryz.f3 := (Option.some.inj (Tryz.func3.symm.trans hfn)).symm
      exact ⟨by kernel_rfl, fun j t ht => by
        rw [Tryz.params3] at ht
        have hm : t ∈ [22, 23] := by simpa using Array.mem_of_getElem? ht
        have hall : ([22, 23].all fun u => !Tryz.prog.wantsStandIn u) = true := by kernel_rfl
        exact (show Tryz.prog.wantsStandIn t = false by simpa using List.all_eq_true.1 hall t hm)⟩)
    (by kernel_rfl)
#print axioms reconQuietCard_holds
end Go.Proofs.YtgcpoppinnnciaaGreatDoor
