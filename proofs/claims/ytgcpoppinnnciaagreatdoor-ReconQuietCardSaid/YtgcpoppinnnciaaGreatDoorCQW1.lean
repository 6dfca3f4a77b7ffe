/-
  palaverlaw18: ReconQuiet.
-/
import Derived.Test.YtgcpoppinnnciaaGreatDoorCRD1
import Derived.Test.YtgcpoppinnnciaaGreatDoorCLW4
/- palaverlaw18: ReconQuiet. -/
set_option linter.unusedVariables false
set_option linter.unusedSimpArgs false
set_option maxRecDepth 100000
namespace Go.Proofs.YtgcpoppinnnciaaGreatDoor
open Go Go.RowKit Go.Proofs.YtgcpoppinnnciaaGreatDoor.Pal Go.Proofs.YtgcpoppinnnciaaGreatDoor.Plan

set_option maxHeartbeats 1000000 in
theorem reconQuiet_walk (K : Nat → Int) (A : Option Addr) (n c : Nat) (l : List Sy) (o : Int) (w : World)
    (h : RdS w 5 (SyRW w) A n l) (ho : 0 ≤ o ∧ o ≤ 65535) (hK : Kys K w) :
    Calls Tryz.prog 3 #[.slice A n c, .int .u16 o] w fun x w' => x = .returned (.bool true) ∧ Unch none_ w w' := by
  have HSY := Lib.hid (sys_of h)
  have hn := h.max
  unfold maxLen at hn
  have HK := Lib.hid hK
  have HO := Lib.hid ho
  have HAW := Lib.hid (awake18_ok w)
  clear h hK ho
  by_cases hn12 : 12 < n
  · have z1 : (12 : Int) < (n : Int) := by omega
    go_enter Tryz.func3, Tryz.ntmps3
    go_wp2_with fail
    with_reducible refine HAW.out.mono ?_
    rintro _ w1 ⟨rfl, hu1⟩
    go_wp2_with fail
    go_ret
    exact ⟨rfl, hu1⟩
  have z1 : ¬ (12 : Int) < (n : Int) := by omega
  go_enter Tryz.func3, Tryz.ntmps3
  go_wp2_with fail
  with_reducible refine HAW.out.mono ?_
  rintro _ w1 ⟨rfl, hu1⟩
  have HU1 := Lib.hid hu1
  have HMADE := Lib.hid (made_ok (c := c) K (HSY.out.fresh hu1) (HK.out.unch hu1 (fun h => h)))
  clear hu1 HAW HSY
  go_wp2_with fail
  with_reducible refine HMADE.out.mono ?_
  rintro _ w2 ⟨vo, all, room, rfl, hu2, hro, hal, hr32, hsz⟩
  obtain ⟨A2, c2, rfl, _⟩ := hro.slice
  have HU2 := Lib.hid (HU1.out.trans hu2)
  have HROW := Lib.hid hro
  have HSZ := Lib.hid hsz
  have HLAID := Lib.hid (laid18_ok (c := c2) K (srow_rds hro) (HK.out.unch (HU1.out.trans hu2) (fun h => h)) hsz room hr32 o HO.out)
  clear hu2 hro hsz HMADE HU1
  have hna : all.length ≤ 13 := hal
  generalize hnl : all.length = na at *
  have HNL := Lib.hid hnl
  clear hnl
  go_wp2_with fail
  with_reducible refine HLAID.out.mono ?_
  rintro _ w3 ⟨b1, es1, bs1, p1, rfl, hv1, hst1, hel1, h321, hu3⟩
  have HV1 := Lib.hid hv1
  have HST1 := Lib.hid hst1
  have H321 := Lib.hid h321
  have HU3 := Lib.hid (HU2.out.trans hu3)
  have HLAID2 := Lib.hid (laid18_ok (c := c2) K (srow_rds (HROW.out.unch hu3 (fun _ _ h => h))) (HK.out.unch (HU2.out.trans hu3) (fun h => h)) HSZ.out room hr32 o HO.out)
  clear hv1 hst1 h321 hu3 HLAID HU2
  go_wp2_with fail
  with_reducible refine HLAID2.out.mono ?_
  rintro _ w4 ⟨b2, es2, bs2, p2, rfl, hv2, hst2, hel2, h322, hu4⟩
  have HV2 := Lib.hid hv2
  have HV14 := Lib.hid (HV1.out.fresh hu4)
  have HL := Lib.hid (show headsF es1 = headsF es2 by rw [← headsF_sts es1, HST1.out, ← hst2, headsF_sts])
  have H322 := Lib.hid h322
  have HU4 := Lib.hid (HU3.out.trans hu4)
  have hl1 : (headsF es1).length ≤ 64 := by have := headsF_len es1; omega
  have hl2 : (headsF es2).length ≤ 64 := by have := headsF_len es2; omega
  clear hv2 hst2 h322 hu4 HLAID2 HU3 HV1 HST1 HROW HSZ
  go_wp2_with fail
  refine (wnew_ok w4).mono ?_
  rintro _ w5 ⟨g5, rfl, hu5⟩
  have HG2 := Lib.hid (greet_ok (vheads2_ok (HV2.out.fresh hu5)) hl2)
  have HU5 := Lib.hid hu5
  clear hu5
  go_wp2_with fail
  with_reducible refine HG2.out.mono ?_
  rintro _ w6 ⟨A6, c6, rfl, hs6⟩
  have HU6 := Lib.hid (HU5.out.trans hs6.hu)
  have hrd6 := srow_rds hs6.row
  rw [← HL.out] at hrd6
  have HA1 := Lib.hid (answerQ_ok (c := c6) (HV14.out.fresh (HU5.out.trans hs6.hu)) H321.out (by omega) (.pointer (some ⟨g5, 0, none⟩)) hrd6)
  rw [HL.out] at HA1
  clear hs6 hrd6 HG2 HU5
  go_wp2_with fail
  with_reducible refine HA1.out.mono ?_
  rintro _ w7 ⟨rfl, hu7⟩
  have HU7 := Lib.hid (HU6.out.trans hu7)
  clear hu7 HU6 HA1
  go_wp2_with fail
  refine (wnew_ok w7).mono ?_
  rintro _ w8 ⟨g8, rfl, hu8⟩
  have HU8 := Lib.hid (HU7.out.trans hu8)
  have HG1 := Lib.hid (greet_ok (vheads2_ok (HV14.out.fresh (HU7.out.trans hu8))) hl1)
  clear hu8 HU7
  go_wp2_with fail
  with_reducible refine HG1.out.mono ?_
  rintro _ w9 ⟨A9, c9, rfl, hs9⟩
  have HU9 := Lib.hid (HU8.out.trans hs9.hu)
  have hrd9 := srow_rds hs9.row
  rw [HL.out] at hrd9
  have HA2 := Lib.hid (answerQ_ok (c := c9) (HV2.out.fresh (HU8.out.trans hs9.hu)) H322.out (by omega) (.pointer (some ⟨g8, 0, none⟩)) hrd9)
  rw [← HL.out] at HA2
  clear hs9 hrd9 HG1 HU8
  go_wp2_with fail
  with_reducible refine HA2.out.mono ?_
  rintro _ wa ⟨rfl, hua⟩
  go_wp2_with fail
  go_ret
  exact ⟨rfl, HU4.out.trans (HU9.out.trans hua)⟩
end Go.Proofs.YtgcpoppinnnciaaGreatDoor
