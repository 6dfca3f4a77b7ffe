/-
  A region that draws its order and only reads, whose callees may lay blocks: walked once, in whatever world in which all old blocks are as they were.
-/
import Derived.Test.YtgalnnmeamldhaaGreatCBase
import Derived.Deep.QuietTactic
/- A region that draws its order and only reads, whose callees may lay blocks: walked once, in whatever world in which all old blocks are as they were. -/
set_option linter.unusedVariables false
set_option linter.unusedSimpArgs false
namespace Go.Proofs.YtgalnnmeamldhaaGreat.Pal
open Go Go.RowKit

/-- A world in which all that was in w is as it was. -/
structure UW (w : World) where
  w' : World
  h : Unch none_ w w'
theorem UW.ne (w : World) : Nonempty (UW w) := ⟨⟨w, Unch.refl _ _⟩⟩
theorem wp_region_quiet_u {P : Program} {id : Nat} {Q : Exit → Act → World → Prop} {a : Act} {w : World} {l : List Oper} (hm : P.follows .mixedOrders = true) (hB : Region.lexB .any l.toArray = true)
    (h : Nonempty (UW w) → wpQuiet P l.toArray (fun w' => ∃ g : UW w, w' = g.w') (fun a' => ∀ w', (∃ g : UW w, w' = g.w') → Q .normal a' w') l a) : (Code.region id l.toArray true).wp P Q a w :=
  wp_region_quiet (C := fun w' => ∃ g : UW w, w' = g.w') hm hB ⟨⟨w.drew, (Unch.refl _ _).drew⟩, rfl⟩ (by simpa using h (UW.ne w))
theorem cellU {w : World} {a : Addr} {v : Value} (h : w.cell? a = some v) (g : UW w) : g.w'.cell? a = some v := g.h.cell h (fun h => h)
/-- A callee's contract, met in such a world. -/
theorem unch_of {P : Program} {f : FuncId} {args : Array Value} {w : World} {v : Value} (g : UW w) (h : Calls P f args g.w' fun e w' => e = .returned v ∧ Unch none_ g.w' w') : Calls P f args g.w' fun e w'' => e = .returned v ∧ ∃ g' : UW w, w'' = g'.w' :=
  h.mono fun _ w'' ⟨he, hu⟩ => ⟨he, ⟨w'', g.h.trans hu⟩, rfl⟩
/-- A contract in whatever such world. -/
abbrev CallU (P : Program) (f : FuncId) (args : Array Value) (v : Value) (w : World) : Prop := ∀ g : UW w, Calls P f args g.w' fun e w'' => e = .returned v ∧ ∃ g' : UW w, w'' = g'.w'
theorem CallU.mk {P : Program} {f : FuncId} {args : Array Value} {v : Value} {w : World} (h : ∀ w', Unch none_ w w' → Calls P f args w' fun e w'' => e = .returned v ∧ Unch none_ w' w'') : CallU P f args v w := fun g => unch_of g (h g.w' g.h)
/-- A contract in whatever world in which all that was in w is as it was. -/
def QC (P : Program) (f : FuncId) (args : Array Value) (v : Value) (w : World) : Prop := ∀ w', Unch none_ w w' → Calls P f args w' fun e w'' => e = .returned v ∧ Unch none_ w' w''
theorem QC.next {P : Program} {f : FuncId} {args : Array Value} {v : Value} {w w1 : World} (h : QC P f args v w) (hu : Unch none_ w w1) : QC P f args v w1 := fun w' h' => h w' (hu.trans h')
theorem QC.u {P : Program} {f : FuncId} {args : Array Value} {v : Value} {w : World} (h : QC P f args v w) : CallU P f args v w := CallU.mk h
theorem QC.now {P : Program} {f : FuncId} {args : Array Value} {v : Value} {w : World} (h : QC P f args v w) : Calls P f args w fun e w'' => e = .returned v ∧ Unch none_ w w'' := h w (Unch.refl _ _)
end Go.Proofs.YtgalnnmeamldhaaGreat.Pal
