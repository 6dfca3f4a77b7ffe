/-
  MemberMembers.
-/
import Derived.Test.YtgalnnmeamldhaaCRS2
/- MemberMembers. -/
set_option linter.unusedVariables false
set_option linter.unusedSimpArgs false
namespace Go.Proofs.Ytgalnnmeamldhaa
open Go Go.RowKit Go.Proofs.Ytgalnnmeamldhaa.Pal Go.Proofs.Ytgalnnmeamldhaa.Plan

set_option maxRecDepth 100000 in
set_option maxHeartbeats 2000000 in
theorem memberMembers_walk (A : Option Addr) (n c : Nat) (l : List Say) (w : World) (h : RdS w 5 (SayRW w) A n l) (hc : n ≤ c) :
    Calls Try.prog 4 #[.slice A n c] w fun e w' => e = .returned (.bool true) ∧ Unch none_ w w' := by
  have hs := says_of h
  have hmax := h.max
  have hfew := few_ok (w := w) (A := A) (c := c) hmax
  by_cases hn : n ≤ 24
  · rw [decide_eq_true hn] at hfew
    have HF := Lib.hid hfew
    have HL := Lib.hid (laidL (c := c) hs hn)
    clear hs h hfew hmax
    go_enter Try.func4, Try.ntmps4
    go_wp2_with fail
    refine HF.out.mono ?_
    rintro e w0 ⟨rfl, rfl⟩
    go_wp2_with fail
    refine HL.out.mono ?_
    rintro e w1 ⟨A1, n1, c1, es, rfl, hld, hn1, hu1⟩
    have HH := Lib.hid hld.members
    have HLD := Lib.hid hld
    have HU1 := Lib.hid hu1
    clear hld hu1 HF HL
    go_wp2_with fail
    refine HH.out.mono ?_
    rintro e w2 ⟨v2, L2, rfl, hm2, hs2⟩
    have HO := Lib.hid (HLD.out.fresh hs2.hu).of
    have HM2 := Lib.hid hm2
    have HS2 := Lib.hid hs2
    have HU2 := Lib.hid (HU1.out.trans hs2.hu)
    obtain ⟨A2, c2, hv2, _⟩ := hs2.row.slice
    subst hv2
    clear hs2 hm2
    go_wp2_with fail
    refine HO.out.mono ?_
    rintro e w3 ⟨⟨p, rfl, hpA, hpn, hset⟩, hu3⟩
    have HR := Lib.hid (rMembers_ok hset)
    have HU3 := Lib.hid (HU2.out.trans hu3)
    have HRD := Lib.hid (RdS.fresh (srow_rds HS2.out.row) hu3)
    clear hset hu3 hpA hpn
    unfold setV setC at *
    go_wp2_with fail
    refine HR.out.mono ?_
    rintro e w4 ⟨v4, L4, rfl, hm4, hs4⟩
    obtain rfl := hm4.uniq HM2.out
    obtain ⟨A4, c4, hv4, _⟩ := hs4.row.slice
    subst hv4
    have hsame := refsame_ok (c := c2) (d := c4) (RdS.fresh HRD.out hs4.hu) (srow_rds hs4.row)
    rw [decide_eq_true rfl] at hsame
    have HS := Lib.hid hsame
    have HU4 := Lib.hid (HU3.out.trans hs4.hu)
    clear hsame hs4 hm4
    go_wp2_with fail
    refine HS.out.mono ?_
    rintro e w5 ⟨rfl, hu5⟩
    go_wp2_with fail
    refine (awake_ok w5).mono ?_
    rintro e w6 ⟨rfl, hu6⟩
    go_wp2
    go_ret
    exact ⟨rfl, (HU4.out.trans hu5).trans hu6⟩
  · rw [decide_eq_false hn] at hfew
    have HF := Lib.hid hfew
    clear hs h hfew hmax
    go_enter Try.func4, Try.ntmps4
    go_wp2_with fail
    refine HF.out.mono ?_
    rintro e w0 ⟨rfl, rfl⟩
    go_wp2_with fail
    refine (awake_ok w).mono ?_
    rintro e w6 ⟨rfl, hu6⟩
    go_wp2
    go_ret
    exact ⟨rfl, hu6⟩
end Go.Proofs.Ytgalnnmeamldhaa
