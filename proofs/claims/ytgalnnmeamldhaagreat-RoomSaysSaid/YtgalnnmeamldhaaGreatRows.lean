/-
  No cell of these rows narrows 'for every input' (looked for: loops, veiled, ifaces, maps, wideKeys, modest, calm, conditions, laid).
  DERIVED. THE GIVEN ROWS OF THIS SEAT. 5 by the template 'for every input the law returns true; each argument reads behind the call as it read before'; 0 by the template 'total and deterministic' (their statements: YtgalnnmeamldhaaGreatTotals.lean).
  GIVEN WITH THE SEED: the statements are not yours to turn. If you find one false, say at which input.
  Laid BY PROGRAM, IN A SANDBOX (cutbox-rows.mjs): the forced cells as the released guide's own fill.sh prints them over the translation 13ab5d5cf15f707e… (all of the seat's roots in one cut). By AI agents, Wed Nov 11 2026. No macro, syntax, notation, axiom, sorry.
-/
import Derived.Test.YtgalnnmeamldhaaGreatChecked
import GoSem.Claim
import GoSem.ClaimJoined
import GoSem.ClaimMapViews
import Derived.JoinedTies
import Derived.KernelRfl
namespace Go.Proofs.YtgalnnmeamldhaaGreat
/- THE CELL 'sum', in the pinned program and in every row, IS THE sha256 OF THE DUMP (.gsa) THAT YtgalnnmeamldhaaGreatProg.lean LOADS. Nothing in Lean hashes anything: it is a label: what it is worth is what the hold of that sum in a sandbox is worth. -/
noncomputable def Tryz.pinned : Pinned := { name := "ytgalnnmeamldhaagreat", sum := "13ab5d5cf15f707eb952c97deb68e856662a27c2ca363767673546eb7072a321", checked := Tryz.checked }
namespace Rows
def none {H : Type} : Left H := { results := [], args := [] }

/-- 'palaverlaw16.RoomLooks': WHATEVER THE INPUT: true; the input reads as it did. -/
def roomLooksSpec : ChangeSpec := { name := "roomLooks", fn := fun _ => fun
  | [d] => { results := [.lit (.bool true)], args := [d] }
  | _ => none }
def roomLooksRow : OpenClaim := { program := "ytgalnnmeamldhaagreat", sum := "13ab5d5cf15f707eb952c97deb68e856662a27c2ca363767673546eb7072a321", func := "palaver/palaverlaw16.RoomLooks", spec := "roomLooks", inPlace := ["slices.overlaps[string]"], unfollowed := true, recurses := true, apart := false }
def RoomLooksSaid : Prop := roomLooksRow.holds Tryz.pinned (OpenSpec.ofChange roomLooksSpec)

/-- ITS FALSE NEIGHBOUR: 'it returns false'. Refute it at one input. -/
def roomLooksWrong : ChangeSpec := { name := "roomLooks", fn := fun _ => fun
  | [d] => { results := [.lit (.bool false)], args := [d] }
  | _ => none }
def RoomLooksWrongFalsely : Prop := roomLooksRow.holds Tryz.pinned (OpenSpec.ofChange roomLooksWrong)

/-- 'palaverlaw16.RoomTurned': WHATEVER THE INPUT: true; the input reads as it did. -/
def roomTurnedSpec : ChangeSpec := { name := "roomTurned", fn := fun _ => fun
  | [d] => { results := [.lit (.bool true)], args := [d] }
  | _ => none }
def roomTurnedRow : OpenClaim := { program := "ytgalnnmeamldhaagreat", sum := "13ab5d5cf15f707eb952c97deb68e856662a27c2ca363767673546eb7072a321", func := "palaver/palaverlaw16.RoomTurned", spec := "roomTurned", inPlace := ["slices.overlaps[string]"], unfollowed := true, recurses := true, apart := false }
def RoomTurnedSaid : Prop := roomTurnedRow.holds Tryz.pinned (OpenSpec.ofChange roomTurnedSpec)

/-- ITS FALSE NEIGHBOUR: 'it returns false'. Refute it at one input. -/
def roomTurnedWrong : ChangeSpec := { name := "roomTurned", fn := fun _ => fun
  | [d] => { results := [.lit (.bool false)], args := [d] }
  | _ => none }
def RoomTurnedWrongFalsely : Prop := roomTurnedRow.holds Tryz.pinned (OpenSpec.ofChange roomTurnedWrong)

/-- 'palaverlaw16.RoomMays': WHATEVER THE INPUT: true; the input reads as it did. -/
def roomMaysSpec : ChangeSpec := { name := "roomMays", fn := fun _ => fun
  | [d1, d2] => { results := [.lit (.bool true)], args := [d1, d2] }
  | _ => none }
def roomMaysRow : OpenClaim := { program := "ytgalnnmeamldhaagreat", sum := "13ab5d5cf15f707eb952c97deb68e856662a27c2ca363767673546eb7072a321", func := "palaver/palaverlaw16.RoomMays", spec := "roomMays", inPlace := ["slices.overlaps[string]"], unfollowed := true, recurses := true, apart := false }
def RoomMaysSaid : Prop := roomMaysRow.holds Tryz.pinned (OpenSpec.ofChange roomMaysSpec)

/-- ITS FALSE NEIGHBOUR: 'it returns false'. Refute it at one input. -/
def roomMaysWrong : ChangeSpec := { name := "roomMays", fn := fun _ => fun
  | [d1, d2] => { results := [.lit (.bool false)], args := [d1, d2] }
  | _ => none }
def RoomMaysWrongFalsely : Prop := roomMaysRow.holds Tryz.pinned (OpenSpec.ofChange roomMaysWrong)

/-- 'palaverlaw16.RoomRefuses': WHATEVER THE INPUT: true; the input reads as it did. -/
def roomRefusesSpec : ChangeSpec := { name := "roomRefuses", fn := fun _ => fun
  | [d1, d2] => { results := [.lit (.bool true)], args := [d1, d2] }
  | _ => none }
def roomRefusesRow : OpenClaim := { program := "ytgalnnmeamldhaagreat", sum := "13ab5d5cf15f707eb952c97deb68e856662a27c2ca363767673546eb7072a321", func := "palaver/palaverlaw16.RoomRefuses", spec := "roomRefuses", inPlace := ["slices.overlaps[string]"], unfollowed := true, recurses := true, apart := false }
def RoomRefusesSaid : Prop := roomRefusesRow.holds Tryz.pinned (OpenSpec.ofChange roomRefusesSpec)

/-- ITS FALSE NEIGHBOUR: 'it returns false'. Refute it at one input. -/
def roomRefusesWrong : ChangeSpec := { name := "roomRefuses", fn := fun _ => fun
  | [d1, d2] => { results := [.lit (.bool false)], args := [d1, d2] }
  | _ => none }
def RoomRefusesWrongFalsely : Prop := roomRefusesRow.holds Tryz.pinned (OpenSpec.ofChange roomRefusesWrong)

/-- 'palaverlaw16.RoomSays': WHATEVER THE INPUT: true; the input reads as it did. -/
def roomSaysSpec : ChangeSpec := { name := "roomSays", fn := fun _ => fun
  | [d1, d2, d3] => { results := [.lit (.bool true)], args := [d1, d2, d3] }
  | _ => none }
def roomSaysRow : OpenClaim := { program := "ytgalnnmeamldhaagreat", sum := "13ab5d5cf15f707eb952c97deb68e856662a27c2ca363767673546eb7072a321", func := "palaver/palaverlaw16.RoomSays", spec := "roomSays", inPlace := ["slices.overlaps[string]"], unfollowed := true, recurses := true, apart := false }
def RoomSaysSaid : Prop := roomSaysRow.holds Tryz.pinned (OpenSpec.ofChange roomSaysSpec)

/-- ITS FALSE NEIGHBOUR: 'it returns false'. Refute it at one input. -/
def roomSaysWrong : ChangeSpec := { name := "roomSays", fn := fun _ => fun
  | [d1, d2, d3] => { results := [.lit (.bool false)], args := [d1, d2, d3] }
  | _ => none }
def RoomSaysWrongFalsely : Prop := roomSaysRow.holds Tryz.pinned (OpenSpec.ofChange roomSaysWrong)

/- THE SECOND FORM. 'bulk': how many values and letters a reading holds, each counted each time it is reached (what is shared counts as often as it is met; a slice's spare places count too). A statement '..UptoSaid' is the law's where the arguments, and the package variables that the reading takes, are together of bulk at most 1048576: NARROWER than '..Said'. Prove '..Said' where nothing that the law and all that it calls make is longer than what came in: it says more and counts as full. Else prove '..UptoSaid'. A law counts once. -/
mutual
def uptoBulk {H : Type} : DataW H → Nat
  | .lit (.string bytes) => bytes.length + 1
  | .lit _ => 1
  | .nil => 1
  | .ptr d => uptoBulk d + 1
  | .slice elems spare => uptoBulkAll elems + uptoBulkAll spare + 1
  | .agg parts => uptoBulkAll parts + 1
  | .iface _ d => uptoBulk d + 1
  | .map entries => uptoBulkEntries entries + 1
  | .held _ => 1
def uptoBulkAll {H : Type} : List (DataW H) → Nat
  | [] => 0
  | d :: r => uptoBulk d + uptoBulkAll r
def uptoBulkEntries {H : Type} : List (Lit × DataW H) → Nat
  | [] => 0
  | x :: r => uptoBulkEntry x + uptoBulkEntries r
def uptoBulkEntry {H : Type} : Lit × DataW H → Nat
  | (.string bytes, d) => bytes.length + uptoBulk d + 1
  | (_, d) => uptoBulk d + 1
 end
def uptoSmall : (H : Type) → List (DataW H) → Bool := fun _ ds => decide (uptoBulkAll ds ≤ 1048576)
def OpenSpec.upto (s : _root_.Go.ChangeSpec) : _root_.Go.OpenSpec := { _root_.Go.OpenSpec.ofChange s with cond := some uptoSmall }

/-- 'palaverlaw16.RoomLooks', WHERE WHAT IT READS IS OF BULK AT MOST 1048576: true; the input reads as it did. -/
def roomLooksUptoRow : OpenClaim := { program := "ytgalnnmeamldhaagreat", sum := "13ab5d5cf15f707eb952c97deb68e856662a27c2ca363767673546eb7072a321", func := "palaver/palaverlaw16.RoomLooks", spec := "roomLooks", inPlace := ["slices.overlaps[string]"], unfollowed := true, recurses := true, apart := false, narrowed := true }
def RoomLooksUptoSaid : Prop := roomLooksUptoRow.holds Tryz.pinned (OpenSpec.upto roomLooksSpec)

/-- 'palaverlaw16.RoomTurned', WHERE WHAT IT READS IS OF BULK AT MOST 1048576: true; the input reads as it did. -/
def roomTurnedUptoRow : OpenClaim := { program := "ytgalnnmeamldhaagreat", sum := "13ab5d5cf15f707eb952c97deb68e856662a27c2ca363767673546eb7072a321", func := "palaver/palaverlaw16.RoomTurned", spec := "roomTurned", inPlace := ["slices.overlaps[string]"], unfollowed := true, recurses := true, apart := false, narrowed := true }
def RoomTurnedUptoSaid : Prop := roomTurnedUptoRow.holds Tryz.pinned (OpenSpec.upto roomTurnedSpec)

/-- 'palaverlaw16.RoomMays', WHERE WHAT IT READS IS OF BULK AT MOST 1048576: true; the input reads as it did. -/
def roomMaysUptoRow : OpenClaim := { program := "ytgalnnmeamldhaagreat", sum := "13ab5d5cf15f707eb952c97deb68e856662a27c2ca363767673546eb7072a321", func := "palaver/palaverlaw16.RoomMays", spec := "roomMays", inPlace := ["slices.overlaps[string]"], unfollowed := true, recurses := true, apart := false, narrowed := true }
def RoomMaysUptoSaid : Prop := roomMaysUptoRow.holds Tryz.pinned (OpenSpec.upto roomMaysSpec)

/-- 'palaverlaw16.RoomRefuses', WHERE WHAT IT READS IS OF BULK AT MOST 1048576: true; the input reads as it did. -/
def roomRefusesUptoRow : OpenClaim := { program := "ytgalnnmeamldhaagreat", sum := "13ab5d5cf15f707eb952c97deb68e856662a27c2ca363767673546eb7072a321", func := "palaver/palaverlaw16.RoomRefuses", spec := "roomRefuses", inPlace := ["slices.overlaps[string]"], unfollowed := true, recurses := true, apart := false, narrowed := true }
def RoomRefusesUptoSaid : Prop := roomRefusesUptoRow.holds Tryz.pinned (OpenSpec.upto roomRefusesSpec)

/-- 'palaverlaw16.RoomSays', WHERE WHAT IT READS IS OF BULK AT MOST 1048576: true; the input reads as it did. -/
def roomSaysUptoRow : OpenClaim := { program := "ytgalnnmeamldhaagreat", sum := "13ab5d5cf15f707eb952c97deb68e856662a27c2ca363767673546eb7072a321", func := "palaver/palaverlaw16.RoomSays", spec := "roomSays", inPlace := ["slices.overlaps[string]"], unfollowed := true, recurses := true, apart := false, narrowed := true }
def RoomSaysUptoSaid : Prop := roomSaysUptoRow.holds Tryz.pinned (OpenSpec.upto roomSaysSpec)

end Rows
end Go.Proofs.YtgalnnmeamldhaaGreat
