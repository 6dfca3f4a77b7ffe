/-
  DERIVED. GIVEN WITH THE SEED: THE CARDS: each row of YtgcpoppinnnciaaGreatDoorRows.lean that lists a variable, with what it lists TIED to the program's text (the seventh form; the later family's looks); each row that meets fmt, with fmt's text TOLD by the authors' own Lean function (tested against real Go, not proved from fmt's source: count such statements apart). THE CARD IS WHAT COUNTS. Prove the row's statement (the work); the ties are given (YtgcpoppinnnciaaGreatDoorTie.lean); close each card by the builder's one call (the guide's Derived/Test/ToyasCard.lean, 'card_holds'). Laid BY PROGRAM, IN A SANDBOX (cutbox-door.mjs). By AI agents, Wed Nov 11 2026. No macro, syntax, notation, axiom, sorry.
-/
import Derived.Test.YtgcpoppinnnciaaGreatDoorRows
import GoSem.ClaimSeven
namespace Go.Proofs.YtgcpoppinnnciaaGreatDoor
namespace Rows

/-- THE TIED CARD OF 'palaverlaw18.ReconQuiet'. -/
def reconQuietCard : Claim7 := { stood := { row := reconQuietRow, standIns := [], harness := (true, "b621cf85adc28222ee6f01728974c3291ee150e37dcdd43fb0710e7d21a673d6"), looks := false }, kinds := [], alts := [], laidByText := true, laidKinds := [.data], laidTests := true, laidLooks := .later }
def ReconQuietCardSaid : Prop := Claim7.holds Tryz.pinned (.plain (OpenSpec.ofChange reconQuietSpec)) reconQuietCard

/-- THE SECOND FORM's CARD OF 'palaverlaw18.ReconQuiet'. -/
def reconQuietUptoCard : Claim7 := { stood := { row := reconQuietUptoRow, standIns := [], harness := (true, "b621cf85adc28222ee6f01728974c3291ee150e37dcdd43fb0710e7d21a673d6"), looks := false }, kinds := [], alts := [], laidByText := true, laidKinds := [.data], laidTests := true, laidLooks := .later }
def ReconQuietUptoCardSaid : Prop := Claim7.holds Tryz.pinned (.plain (OpenSpec.upto reconQuietSpec)) reconQuietUptoCard
end Rows
end Go.Proofs.YtgcpoppinnnciaaGreatDoor
