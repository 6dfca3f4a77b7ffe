/-
  RoomLooks.
-/
import Derived.Test.YtgalnnmeamldhaaGreatCLV1
/- RoomLooks. -/
set_option linter.unusedVariables false
set_option linter.unusedSimpArgs false
namespace Go.Proofs.YtgalnnmeamldhaaGreat
open Go Go.RowKit Go.Proofs.YtgalnnmeamldhaaGreat.Pal Go.Proofs.YtgalnnmeamldhaaGreat.Plan

set_option maxRecDepth 100000 in
set_option maxHeartbeats 1000000 in
theorem roomLooks_walk (A : Option Addr) (n c : Nat) (l : List Say) (w : World) (h : RdS w 5 (SayRW w) A n l) (hc : n ≤ c) :
    Calls Tryz.prog 3 #[.slice A n c] w fun e w' => e = .returned (.bool true) ∧ Unch none_ w w' := by
  have hs := says_of h
  have hmax := h.max
  obtain ⟨N, hN⟩ : ∃ N, N = if n ≤ 40 then n else 40 := ⟨_, rfl⟩
  have hN1 : N ≤ n := by rw [hN]; split <;> omega
  have hN2 : N ≤ 40 := by rw [hN]; split <;> omega
  have hN3 : N = n ∨ N = 40 := by rw [hN]; split <;> omega
  have HL := Lib.hid (laidX (c := c) hs hN1 hN2 hN3)
  have HMAX := Lib.hid hmax
  clear hs h hmax hN hN1 hN2 hN3
  go_enter Tryz.func3, Tryz.ntmps3
  go_wp2_with fail
  refine HL.out.mono ?_
  rintro e w1 ⟨A1, n1, c1, es, rfl, hld, hok, hn1, hu1⟩
  have HPS := Lib.hid hok.hps
  have HLD := Lib.hid hld
  have HU1 := Lib.hid hu1
  have hfew := few16_ok (w := w1) (A := A) (c := c) HMAX.out
  clear hld hu1 hok HL hn1
  by_cases hn : n ≤ 24
  · rw [decide_eq_true hn] at hfew
    have HF := Lib.hid hfew
    have HK := Lib.hid (lookP HLD.out.ents HLD.out.hc HLD.out.clB HLD.out.root HPS.out)
    clear hfew
    go_wp2_with fail
    refine HF.out.mono ?_
    rintro e w2 ⟨rfl, rfl⟩
    go_wp2_with fail
    refine HK.out.mono ?_
    rintro e w3 ⟨v1, rfl, nm, tp, L, ps, hk1⟩
    have HK1 := Lib.hid hk1
    have HR := Lib.hid (rlookP (HLD.out.ents.fresh hk1.hu) HLD.out.hc HLD.out.clB HLD.out.root)
    clear hk1 HF HK
    go_wp2_with fail
    refine HR.out.mono ?_
    rintro e w4 ⟨v2, rfl, nm', tp', L', ps', hk2⟩
    obtain ⟨rfl, rfl, rfl, rfl⟩ := HK1.out.is.uniq HLD.out.cl hk2.is
    have HS := Lib.hid (same_view (HK1.out.lies.fresh hk2.hu) hk2.lies)
    have HU4 := Lib.hid ((HU1.out.trans HK1.out.hu).trans hk2.hu)
    clear hk2 HR HK1
    go_wp2_with fail
    refine HS.out.mono ?_
    rintro e w5 ⟨rfl, hu5⟩
    have HU5 := Lib.hid (HU4.out.trans hu5)
    clear hu5 HS HU4
    go_wp2_with fail
    refine (awake16_ok w5).mono ?_
    rintro e w6 ⟨rfl, hu6⟩
    go_wp2
    go_ret
    exact ⟨rfl, HU5.out.trans hu6⟩
  · rw [decide_eq_false hn] at hfew
    have HF := Lib.hid hfew
    clear hfew
    go_wp2_with fail
    refine HF.out.mono ?_
    rintro e w2 ⟨rfl, rfl⟩
    go_wp2_with fail
    refine (awake16_ok w1).mono ?_
    rintro e w6 ⟨rfl, hu6⟩
    go_wp2
    go_ret
    exact ⟨rfl, HU1.out.trans hu6⟩
end Go.Proofs.YtgalnnmeamldhaaGreat
