/-
  RoomSays.
-/
import Derived.Test.YtgalnnmeamldhaaGreatCLR7
import Derived.Test.YtgalnnmeamldhaaGreatCLR8
/- RoomSays. -/
set_option linter.unusedVariables false
set_option linter.unusedSimpArgs false
namespace Go.Proofs.YtgalnnmeamldhaaGreat
open Go Go.RowKit Go.Proofs.YtgalnnmeamldhaaGreat.Pal Go.Proofs.YtgalnnmeamldhaaGreat.Plan

theorem roomSays_walk (A : Option Addr) (n c : Nat) (l : List Say) (who : Int) (b : Bool) (w : World) (h : RdS w 5 (SayRW w) A n l) (hc : n ≤ c) :
    Calls Tryz.prog 7 #[.slice A n c, .int .i64 who, .bool b] w fun e w' => e = .returned (.bool true) ∧ Unch none_ w w' := by
  cases b with
  | true => exact roomSaysT_walk A n c l who w h hc
  | false => exact roomSaysP_walk A n c l who w h hc
end Go.Proofs.YtgalnnmeamldhaaGreat
