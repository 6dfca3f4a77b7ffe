/-
  No cell of these rows narrows 'for every input' (looked for: loops, veiled, ifaces, maps, wideKeys, modest, calm, conditions, laid).
  DERIVED. THE GIVEN ROWS OF THIS SEAT. 8 by the template 'for every input the law returns true; each argument reads behind the call as it read before'; 0 by the template 'total and deterministic' (their statements: YtgalnnmeamldhaaTotals.lean).
  GIVEN WITH THE SEED: the statements are not yours to turn. If you find one false, say at which input.
  Laid BY PROGRAM, IN A SANDBOX (cutbox-rows.mjs): the forced cells as the released guide's own fill.sh prints them over the translation 4865696e7356f070… (all of the seat's roots in one cut). By AI agents, Wed Nov 11 2026. No macro, syntax, notation, axiom, sorry.
-/
import Derived.Test.YtgalnnmeamldhaaChecked
import GoSem.Claim
import GoSem.ClaimJoined
import GoSem.ClaimMapViews
import Derived.JoinedTies
import Derived.KernelRfl
namespace Go.Proofs.Ytgalnnmeamldhaa
/- THE CELL 'sum', in the pinned program and in every row, IS THE sha256 OF THE DUMP (.gsa) THAT YtgalnnmeamldhaaProg.lean LOADS. Nothing in Lean hashes anything: it is a label: what it is worth is what the hold of that sum in a sandbox is worth. -/
noncomputable def Try.pinned : Pinned := { name := "ytgalnnmeamldhaa", sum := "4865696e7356f0706ca00613542237ba7533aca6c300ad144849e858f46bd610", checked := Try.checked }
namespace Rows
def none {H : Type} : Left H := { results := [], args := [] }

/-- 'palaverlaw15.MemberHolds': WHATEVER THE INPUT: true; the input reads as it did. -/
def memberHoldsSpec : ChangeSpec := { name := "memberHolds", fn := fun _ => fun
  | [d] => { results := [.lit (.bool true)], args := [d] }
  | _ => none }
def memberHoldsRow : OpenClaim := { program := "ytgalnnmeamldhaa", sum := "4865696e7356f0706ca00613542237ba7533aca6c300ad144849e858f46bd610", func := "palaver/palaverlaw15.MemberHolds", spec := "memberHolds", unfollowed := true, recurses := true, apart := false }
def MemberHoldsSaid : Prop := memberHoldsRow.holds Try.pinned (OpenSpec.ofChange memberHoldsSpec)

/-- ITS FALSE NEIGHBOUR: 'it returns false'. Refute it at one input. -/
def memberHoldsWrong : ChangeSpec := { name := "memberHolds", fn := fun _ => fun
  | [d] => { results := [.lit (.bool false)], args := [d] }
  | _ => none }
def MemberHoldsWrongFalsely : Prop := memberHoldsRow.holds Try.pinned (OpenSpec.ofChange memberHoldsWrong)

/-- 'palaverlaw15.MemberMembers': WHATEVER THE INPUT: true; the input reads as it did. -/
def memberMembersSpec : ChangeSpec := { name := "memberMembers", fn := fun _ => fun
  | [d] => { results := [.lit (.bool true)], args := [d] }
  | _ => none }
def memberMembersRow : OpenClaim := { program := "ytgalnnmeamldhaa", sum := "4865696e7356f0706ca00613542237ba7533aca6c300ad144849e858f46bd610", func := "palaver/palaverlaw15.MemberMembers", spec := "memberMembers", unfollowed := true, recurses := true, apart := false }
def MemberMembersSaid : Prop := memberMembersRow.holds Try.pinned (OpenSpec.ofChange memberMembersSpec)

/-- ITS FALSE NEIGHBOUR: 'it returns false'. Refute it at one input. -/
def memberMembersWrong : ChangeSpec := { name := "memberMembers", fn := fun _ => fun
  | [d] => { results := [.lit (.bool false)], args := [d] }
  | _ => none }
def MemberMembersWrongFalsely : Prop := memberMembersRow.holds Try.pinned (OpenSpec.ofChange memberMembersWrong)

/-- 'palaverlaw15.MemberGood': WHATEVER THE INPUT: true; the input reads as it did. -/
def memberGoodSpec : ChangeSpec := { name := "memberGood", fn := fun _ => fun
  | [d] => { results := [.lit (.bool true)], args := [d] }
  | _ => none }
def memberGoodRow : OpenClaim := { program := "ytgalnnmeamldhaa", sum := "4865696e7356f0706ca00613542237ba7533aca6c300ad144849e858f46bd610", func := "palaver/palaverlaw15.MemberGood", spec := "memberGood", unfollowed := true, recurses := true, apart := false }
def MemberGoodSaid : Prop := memberGoodRow.holds Try.pinned (OpenSpec.ofChange memberGoodSpec)

/-- ITS FALSE NEIGHBOUR: 'it returns false'. Refute it at one input. -/
def memberGoodWrong : ChangeSpec := { name := "memberGood", fn := fun _ => fun
  | [d] => { results := [.lit (.bool false)], args := [d] }
  | _ => none }
def MemberGoodWrongFalsely : Prop := memberGoodRow.holds Try.pinned (OpenSpec.ofChange memberGoodWrong)

/-- 'palaverlaw15.MemberCloseds': WHATEVER THE INPUT: true; the input reads as it did. -/
def memberClosedsSpec : ChangeSpec := { name := "memberCloseds", fn := fun _ => fun
  | [d1, d2] => { results := [.lit (.bool true)], args := [d1, d2] }
  | _ => none }
def memberClosedsRow : OpenClaim := { program := "ytgalnnmeamldhaa", sum := "4865696e7356f0706ca00613542237ba7533aca6c300ad144849e858f46bd610", func := "palaver/palaverlaw15.MemberCloseds", spec := "memberCloseds", unfollowed := true, recurses := true, apart := false }
def MemberClosedsSaid : Prop := memberClosedsRow.holds Try.pinned (OpenSpec.ofChange memberClosedsSpec)

/-- ITS FALSE NEIGHBOUR: 'it returns false'. Refute it at one input. -/
def memberClosedsWrong : ChangeSpec := { name := "memberCloseds", fn := fun _ => fun
  | [d1, d2] => { results := [.lit (.bool false)], args := [d1, d2] }
  | _ => none }
def MemberClosedsWrongFalsely : Prop := memberClosedsRow.holds Try.pinned (OpenSpec.ofChange memberClosedsWrong)

/-- 'palaverlaw15.MemberTurned': WHATEVER THE INPUT: true; the input reads as it did. -/
def memberTurnedSpec : ChangeSpec := { name := "memberTurned", fn := fun _ => fun
  | [d] => { results := [.lit (.bool true)], args := [d] }
  | _ => none }
def memberTurnedRow : OpenClaim := { program := "ytgalnnmeamldhaa", sum := "4865696e7356f0706ca00613542237ba7533aca6c300ad144849e858f46bd610", func := "palaver/palaverlaw15.MemberTurned", spec := "memberTurned", unfollowed := true, recurses := true, apart := false }
def MemberTurnedSaid : Prop := memberTurnedRow.holds Try.pinned (OpenSpec.ofChange memberTurnedSpec)

/-- ITS FALSE NEIGHBOUR: 'it returns false'. Refute it at one input. -/
def memberTurnedWrong : ChangeSpec := { name := "memberTurned", fn := fun _ => fun
  | [d] => { results := [.lit (.bool false)], args := [d] }
  | _ => none }
def MemberTurnedWrongFalsely : Prop := memberTurnedRow.holds Try.pinned (OpenSpec.ofChange memberTurnedWrong)

/-- 'palaverlaw15.MemberPast': WHATEVER THE INPUT: true; the input reads as it did. -/
def memberPastSpec : ChangeSpec := { name := "memberPast", fn := fun _ => fun
  | [d1, d2] => { results := [.lit (.bool true)], args := [d1, d2] }
  | _ => none }
def memberPastRow : OpenClaim := { program := "ytgalnnmeamldhaa", sum := "4865696e7356f0706ca00613542237ba7533aca6c300ad144849e858f46bd610", func := "palaver/palaverlaw15.MemberPast", spec := "memberPast", unfollowed := true, recurses := true, apart := false }
def MemberPastSaid : Prop := memberPastRow.holds Try.pinned (OpenSpec.ofChange memberPastSpec)

/-- ITS FALSE NEIGHBOUR: 'it returns false'. Refute it at one input. -/
def memberPastWrong : ChangeSpec := { name := "memberPast", fn := fun _ => fun
  | [d1, d2] => { results := [.lit (.bool false)], args := [d1, d2] }
  | _ => none }
def MemberPastWrongFalsely : Prop := memberPastRow.holds Try.pinned (OpenSpec.ofChange memberPastWrong)

/-- 'palaverlaw15.MemberFounder': WHATEVER THE INPUT: true; the input reads as it did. -/
def memberFounderSpec : ChangeSpec := { name := "memberFounder", fn := fun _ => fun
  | [d] => { results := [.lit (.bool true)], args := [d] }
  | _ => none }
def memberFounderRow : OpenClaim := { program := "ytgalnnmeamldhaa", sum := "4865696e7356f0706ca00613542237ba7533aca6c300ad144849e858f46bd610", func := "palaver/palaverlaw15.MemberFounder", spec := "memberFounder", unfollowed := true, recurses := true, apart := false }
def MemberFounderSaid : Prop := memberFounderRow.holds Try.pinned (OpenSpec.ofChange memberFounderSpec)

/-- ITS FALSE NEIGHBOUR: 'it returns false'. Refute it at one input. -/
def memberFounderWrong : ChangeSpec := { name := "memberFounder", fn := fun _ => fun
  | [d] => { results := [.lit (.bool false)], args := [d] }
  | _ => none }
def MemberFounderWrongFalsely : Prop := memberFounderRow.holds Try.pinned (OpenSpec.ofChange memberFounderWrong)

/-- 'palaverlaw15.MemberOut': WHATEVER THE INPUT: true; the input reads as it did. -/
def memberOutSpec : ChangeSpec := { name := "memberOut", fn := fun _ => fun
  | [d] => { results := [.lit (.bool true)], args := [d] }
  | _ => none }
def memberOutRow : OpenClaim := { program := "ytgalnnmeamldhaa", sum := "4865696e7356f0706ca00613542237ba7533aca6c300ad144849e858f46bd610", func := "palaver/palaverlaw15.MemberOut", spec := "memberOut", unfollowed := true, recurses := true, apart := false }
def MemberOutSaid : Prop := memberOutRow.holds Try.pinned (OpenSpec.ofChange memberOutSpec)

/-- ITS FALSE NEIGHBOUR: 'it returns false'. Refute it at one input. -/
def memberOutWrong : ChangeSpec := { name := "memberOut", fn := fun _ => fun
  | [d] => { results := [.lit (.bool false)], args := [d] }
  | _ => none }
def MemberOutWrongFalsely : Prop := memberOutRow.holds Try.pinned (OpenSpec.ofChange memberOutWrong)

/- THE SECOND FORM. 'bulk': how many values and letters a reading holds, each counted each time it is reached (what is shared counts as often as it is met; a slice's spare places count too). A statement '..UptoSaid' is the law's where the arguments, and the package variables that the reading takes, are together of bulk at most 1048576: NARROWER than '..Said'. Prove '..Said' where nothing that the law and all that it calls make is longer than what came in: it says more and counts as full. Else prove '..UptoSaid'. A law counts once. -/
mutual
def uptoBulk {H : Type} : DataW H → Nat
  | .lit (.string bytes) => bytes.length + 1
  | .lit _ => 1
  | .nil => 1
  | .ptr d => uptoBulk d + 1
  | .slice elems spare => uptoBulkAll elems + uptoBulkAll spare + 1
  | .agg parts => uptoBulkAll parts + 1
  | .iface _ d => uptoBulk d + 1
  | .map entries => uptoBulkEntries entries + 1
  | .held _ => 1
def uptoBulkAll {H : Type} : List (DataW H) → Nat
  | [] => 0
  | d :: r => uptoBulk d + uptoBulkAll r
def uptoBulkEntries {H : Type} : List (Lit × DataW H) → Nat
  | [] => 0
  | x :: r => uptoBulkEntry x + uptoBulkEntries r
def uptoBulkEntry {H : Type} : Lit × DataW H → Nat
  | (.string bytes, d) => bytes.length + uptoBulk d + 1
  | (_, d) => uptoBulk d + 1
 end
def uptoSmall : (H : Type) → List (DataW H) → Bool := fun _ ds => decide (uptoBulkAll ds ≤ 1048576)
def OpenSpec.upto (s : _root_.Go.ChangeSpec) : _root_.Go.OpenSpec := { _root_.Go.OpenSpec.ofChange s with cond := some uptoSmall }

/-- 'palaverlaw15.MemberHolds', WHERE WHAT IT READS IS OF BULK AT MOST 1048576: true; the input reads as it did. -/
def memberHoldsUptoRow : OpenClaim := { program := "ytgalnnmeamldhaa", sum := "4865696e7356f0706ca00613542237ba7533aca6c300ad144849e858f46bd610", func := "palaver/palaverlaw15.MemberHolds", spec := "memberHolds", unfollowed := true, recurses := true, apart := false, narrowed := true }
def MemberHoldsUptoSaid : Prop := memberHoldsUptoRow.holds Try.pinned (OpenSpec.upto memberHoldsSpec)

/-- 'palaverlaw15.MemberMembers', WHERE WHAT IT READS IS OF BULK AT MOST 1048576: true; the input reads as it did. -/
def memberMembersUptoRow : OpenClaim := { program := "ytgalnnmeamldhaa", sum := "4865696e7356f0706ca00613542237ba7533aca6c300ad144849e858f46bd610", func := "palaver/palaverlaw15.MemberMembers", spec := "memberMembers", unfollowed := true, recurses := true, apart := false, narrowed := true }
def MemberMembersUptoSaid : Prop := memberMembersUptoRow.holds Try.pinned (OpenSpec.upto memberMembersSpec)

/-- 'palaverlaw15.MemberGood', WHERE WHAT IT READS IS OF BULK AT MOST 1048576: true; the input reads as it did. -/
def memberGoodUptoRow : OpenClaim := { program := "ytgalnnmeamldhaa", sum := "4865696e7356f0706ca00613542237ba7533aca6c300ad144849e858f46bd610", func := "palaver/palaverlaw15.MemberGood", spec := "memberGood", unfollowed := true, recurses := true, apart := false, narrowed := true }
def MemberGoodUptoSaid : Prop := memberGoodUptoRow.holds Try.pinned (OpenSpec.upto memberGoodSpec)

/-- 'palaverlaw15.MemberCloseds', WHERE WHAT IT READS IS OF BULK AT MOST 1048576: true; the input reads as it did. -/
def memberClosedsUptoRow : OpenClaim := { program := "ytgalnnmeamldhaa", sum := "4865696e7356f0706ca00613542237ba7533aca6c300ad144849e858f46bd610", func := "palaver/palaverlaw15.MemberCloseds", spec := "memberCloseds", unfollowed := true, recurses := true, apart := false, narrowed := true }
def MemberClosedsUptoSaid : Prop := memberClosedsUptoRow.holds Try.pinned (OpenSpec.upto memberClosedsSpec)

/-- 'palaverlaw15.MemberTurned', WHERE WHAT IT READS IS OF BULK AT MOST 1048576: true; the input reads as it did. -/
def memberTurnedUptoRow : OpenClaim := { program := "ytgalnnmeamldhaa", sum := "4865696e7356f0706ca00613542237ba7533aca6c300ad144849e858f46bd610", func := "palaver/palaverlaw15.MemberTurned", spec := "memberTurned", unfollowed := true, recurses := true, apart := false, narrowed := true }
def MemberTurnedUptoSaid : Prop := memberTurnedUptoRow.holds Try.pinned (OpenSpec.upto memberTurnedSpec)

/-- 'palaverlaw15.MemberPast', WHERE WHAT IT READS IS OF BULK AT MOST 1048576: true; the input reads as it did. -/
def memberPastUptoRow : OpenClaim := { program := "ytgalnnmeamldhaa", sum := "4865696e7356f0706ca00613542237ba7533aca6c300ad144849e858f46bd610", func := "palaver/palaverlaw15.MemberPast", spec := "memberPast", unfollowed := true, recurses := true, apart := false, narrowed := true }
def MemberPastUptoSaid : Prop := memberPastUptoRow.holds Try.pinned (OpenSpec.upto memberPastSpec)

/-- 'palaverlaw15.MemberFounder', WHERE WHAT IT READS IS OF BULK AT MOST 1048576: true; the input reads as it did. -/
def memberFounderUptoRow : OpenClaim := { program := "ytgalnnmeamldhaa", sum := "4865696e7356f0706ca00613542237ba7533aca6c300ad144849e858f46bd610", func := "palaver/palaverlaw15.MemberFounder", spec := "memberFounder", unfollowed := true, recurses := true, apart := false, narrowed := true }
def MemberFounderUptoSaid : Prop := memberFounderUptoRow.holds Try.pinned (OpenSpec.upto memberFounderSpec)

/-- 'palaverlaw15.MemberOut', WHERE WHAT IT READS IS OF BULK AT MOST 1048576: true; the input reads as it did. -/
def memberOutUptoRow : OpenClaim := { program := "ytgalnnmeamldhaa", sum := "4865696e7356f0706ca00613542237ba7533aca6c300ad144849e858f46bd610", func := "palaver/palaverlaw15.MemberOut", spec := "memberOut", unfollowed := true, recurses := true, apart := false, narrowed := true }
def MemberOutUptoSaid : Prop := memberOutUptoRow.holds Try.pinned (OpenSpec.upto memberOutSpec)

end Rows
end Go.Proofs.Ytgalnnmeamldhaa
