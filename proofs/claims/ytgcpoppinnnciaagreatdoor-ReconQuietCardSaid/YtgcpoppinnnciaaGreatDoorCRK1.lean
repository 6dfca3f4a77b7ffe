/-
  The key table that the row's premise lays.
-/
import Derived.Test.YtgcpoppinnnciaaGreatDoorCSH3
import Derived.Test.YtgcpoppinnnciaaGreatDoorCMRd
import Derived.ProofKit
import Derived.LaidLaws
import Derived.Handed
import Derived.OpenShut
/- The key table that the row's premise lays. -/
set_option linter.unusedVariables false
set_option maxRecDepth 100000
namespace Go.Proofs.YtgcpoppinnnciaaGreatDoor
open Go Go.ChangeShapes Go.WideShapes Go.ChangeAt Go.RowKit Go.Proofs.YtgcpoppinnnciaaGreatDoor.Pal

theorem keysN : Tryz.prog.globalNamed "palaver/sha.keys" = some 0 := by kernel_rfl
theorem keysT : (Tryz.prog.globals[0]?).map (·.type) = some 214 := by kernel_rfl
theorem kys_of_laid {W : World} {d : DataW Unit} (h : laidMet Tryz.prog [("palaver/sha.keys", d)] W) : ∃ K, Kys K W := by
  obtain ⟨ps, ⟨g, t, cs, fuel, p, q, hg, ht, hvar, hd, _, _⟩, _⟩ := h
  obtain rfl := Option.some.inj (keysN.symm.trans hg)
  obtain rfl := Option.some.inj (keysT.symm.trans ht)
  obtain ⟨xs, m, rfl, _, hlen, hxl, hf⟩ := DataW.trod_array Tryz.underlying214 hd
  have hc1 : Tryz.prog.cellsOf 79 = 1 := by kernel_rfl
  have hat : ∀ j, j < 64 → ∃ z : Int, cs[j]? = some (.int .u32 z) := fun j hj => by
    have h1 := hf j hj
    obtain ⟨y, hy⟩ : ∃ y, xs[j]? = some y := ⟨_, List.getElem?_eq_getElem (by omega)⟩
    rw [hy] at h1
    obtain ⟨z, hz, _⟩ := DataW.trod_int Tryz.underlying79 h1
    rw [hc1, Nat.mul_one] at hz
    refine ⟨z, ?_⟩
    have h2 : (cs.toList.drop j)[0]? = some (.int .u32 z) := by
      have h3 : ((cs.toList.drop j).take 1)[0]? = some (.int .u32 z) := by rw [hz]; rfl
      rw [List.getElem?_take] at h3
      simpa using h3
    rw [List.getElem?_drop, Nat.add_zero] at h2
    simpa using h2
  refine ⟨fun j => match cs[j]? with | some (.int .u32 z) => z | _ => 0, fun j hj => ?_⟩
  obtain ⟨z, hz⟩ := hat j hj
  rw [World.var?_cell keysN hvar j, hz]
  simp only [hz]
theorem open_str {H : Type} {enc : TypeId × Value → H} {w : World} {base : Nat} {spare : Nat → Bool} {held : Bool} (fuel : Nat) (cs : List Value) (y : DataW H × List MemPlace)
    (h : DataW.trod enc Tryz.prog w base spare held fuel 9 cs = some y) : ∃ z : ByteArray, StrR z cs := by
  obtain ⟨m0, h0, _, _⟩ := DataW.trod_string Tryz.underlying9 h
  exact ⟨m0, h0⟩
theorem u16_wf {x : Int} (h : (Lit.int .u16 x).wf = true) : 0 ≤ x ∧ x ≤ 65535 := by
  simp [Lit.wf, IntKind.min, IntKind.max, IntKind.signed, IntKind.bits] at h
  omega
end Go.Proofs.YtgcpoppinnnciaaGreatDoor
