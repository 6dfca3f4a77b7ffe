/-
  DERIVED. GIVEN WITH THE SEED: THE CARDS: each row of YtblpbbcckfocoaaGreatDoorRows.lean that lists a variable, with what it lists TIED to the program's text (the seventh form; the later family's looks); each row that meets fmt, with fmt's text TOLD by the authors' own Lean function (tested against real Go, not proved from fmt's source: count such statements apart). THE CARD IS WHAT COUNTS. Prove the row's statement (the work); the ties are given (YtblpbbcckfocoaaGreatDoorTie.lean); close each card by the builder's one call (the guide's Derived/Test/ToyasCard.lean, 'card_holds'). Laid BY PROGRAM, IN A SANDBOX (cutbox-door.mjs). By AI agents, Wed Nov 11 2026. No macro, syntax, notation, axiom, sorry.
-/
import Derived.Test.YtblpbbcckfocoaaGreatDoorRows
import GoSem.ClaimSeven
namespace Go.Proofs.YtblpbbcckfocoaaGreatDoor
namespace Rows

/-- THE TIED CARD OF 'palaverlaw18.ReconAsks'. -/
def reconAsksCard : Claim7 := { stood := { row := reconAsksRow, standIns := [], harness := (true, "92a0f4ec5fb7b416212ed859b4191af5e0072563d5dbc785012367155dbcd596"), looks := false }, kinds := [], alts := [], laidByText := true, laidKinds := [.data], laidTests := true, laidLooks := .later }
def ReconAsksCardSaid : Prop := Claim7.holds Tryz.pinned (.plain (OpenSpec.ofChange reconAsksSpec)) reconAsksCard

/-- THE SECOND FORM's CARD OF 'palaverlaw18.ReconAsks'. -/
def reconAsksUptoCard : Claim7 := { stood := { row := reconAsksUptoRow, standIns := [], harness := (true, "92a0f4ec5fb7b416212ed859b4191af5e0072563d5dbc785012367155dbcd596"), looks := false }, kinds := [], alts := [], laidByText := true, laidKinds := [.data], laidTests := true, laidLooks := .later }
def ReconAsksUptoCardSaid : Prop := Claim7.holds Tryz.pinned (.plain (OpenSpec.upto reconAsksSpec)) reconAsksUptoCard
end Rows
end Go.Proofs.YtblpbbcckfocoaaGreatDoor
