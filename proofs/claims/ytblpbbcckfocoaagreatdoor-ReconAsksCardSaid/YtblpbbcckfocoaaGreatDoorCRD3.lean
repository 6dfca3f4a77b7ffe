/-
  palaverlaw18: ReconAsks.
  The key table that the row's premise lays.
-/
import Derived.Test.YtblpbbcckfocoaaGreatDoorCRD1
import Derived.Test.YtblpbbcckfocoaaGreatDoorCLW4
import Derived.Test.YtblpbbcckfocoaaGreatDoorCSH3
import Derived.Test.YtblpbbcckfocoaaGreatDoorCMRd
import Derived.ProofKit
import Derived.LaidLaws
import Derived.Handed
import Derived.OpenShut
/- palaverlaw18: ReconAsks. -/
set_option linter.unusedVariables false
set_option linter.unusedSimpArgs false
set_option maxRecDepth 100000
namespace Go.Proofs.YtblpbbcckfocoaaGreatDoor
open Go Go.RowKit Go.Proofs.YtblpbbcckfocoaaGreatDoor.Pal Go.Proofs.YtblpbbcckfocoaaGreatDoor.Plan

set_option maxHeartbeats 4000000 in
theorem reconAsks_walk (K : Nat → Int) (A : Option Addr) (n c : Nat) (l : List Sy) (o : Int) (B : Option Addr) (m d : Nat) (ids : List ByteArray) (C : Option Addr) (q e : Nat) (more : List ByteArray) (w : World)
    (h : RdS w 5 (SyRW w) A n l) (ho : 0 ≤ o ∧ o ≤ 65535) (h2 : RdS w 1 StrR B m ids) (h3 : RdS w 1 StrR C q more) (he : C = none → e = 0) (hK : Kys K w) :
    Calls Tryz.prog 3 #[.slice A n c, .int .u16 o, .slice B m d, .slice C q e] w fun x w' => x = .returned (.bool true) ∧ Unch none_ w w' := by
  have HSY := Lib.hid (sys_of h)
  have hn := h.max
  have hm := h2.max
  have hq := h3.max
  unfold maxLen at hn hm hq
  have H2 := Lib.hid h2
  have H3 := Lib.hid h3
  have HE := Lib.hid he
  have HK := Lib.hid hK
  have HO := Lib.hid ho
  have HAW := Lib.hid (awake18_ok w)
  clear h h2 h3 he hK ho
  by_cases hn12 : 12 < n
  · have z1 : (12 : Int) < (n : Int) := by omega
    go_enter Tryz.func3, Tryz.ntmps3
    go_wp2_with fail
    with_reducible refine HAW.out.mono ?_
    rintro _ w1 ⟨rfl, hu1⟩
    go_wp2_with fail
    go_ret
    exact ⟨rfl, hu1⟩
  have z1 : ¬ (12 : Int) < (n : Int) := by omega
  by_cases hm100 : 100 < m
  · have z2 : (100 : Int) < (m : Int) := by omega
    go_enter Tryz.func3, Tryz.ntmps3
    go_wp2_with fail
    with_reducible refine HAW.out.mono ?_
    rintro _ w1 ⟨rfl, hu1⟩
    go_wp2_with fail
    go_ret
    exact ⟨rfl, hu1⟩
  have z2 : ¬ (100 : Int) < (m : Int) := by omega
  by_cases hq100 : 100 < q
  · have z3 : (100 : Int) < (q : Int) := by omega
    go_enter Tryz.func3, Tryz.ntmps3
    go_wp2_with fail
    with_reducible refine HAW.out.mono ?_
    rintro _ w1 ⟨rfl, hu1⟩
    go_wp2_with fail
    go_ret
    exact ⟨rfl, hu1⟩
  have z3 : ¬ (100 : Int) < (q : Int) := by omega
  go_enter Tryz.func3, Tryz.ntmps3
  go_wp2_with fail
  with_reducible refine HAW.out.mono ?_
  rintro _ w1 ⟨rfl, hu1⟩
  have HU1 := Lib.hid hu1
  have HMADE := Lib.hid (made_ok (c := c) K (HSY.out.fresh hu1) (HK.out.unch hu1 (fun h => h)))
  clear hu1 HAW HSY
  go_wp2_with fail
  with_reducible refine HMADE.out.mono ?_
  rintro _ w2 ⟨vo, all, room, rfl, hu2, hro, hal, hr32, hsz⟩
  obtain ⟨A2, c2, rfl, _⟩ := hro.slice
  have HU2 := Lib.hid (HU1.out.trans hu2)
  have HLAID := Lib.hid (laid18_ok (c := c2) K (srow_rds hro) (HK.out.unch (HU1.out.trans hu2) (fun h => h)) hsz room hr32 o HO.out)
  clear hu2 hro hsz HMADE HU1
  generalize all.length = na at *
  go_wp2_with fail
  with_reducible refine HLAID.out.mono ?_
  rintro _ w3 ⟨b, es, bs, p, rfl, hv, hel, hu3⟩
  obtain ⟨L, hL, hH⟩ := vheads_ok hv
  have hL13 : L.length ≤ 13 := by omega
  have HH := Lib.hid (show ∀ W, Unch none_ w3 W → HeadsP b L W from fun W hu W' hu' => hH W' (hu.trans hu'))
  have HU3 := Lib.hid (HU2.out.trans hu3)
  clear hv hu3 hL hH HLAID HU2 hel hal
  -- Ask
  have HA := Lib.hid (ask_ok (c := d) (RdS.fresh H2.out HU3.out) (by omega))
  go_wp2_with fail
  with_reducible refine HA.out.mono ?_
  rintro _ w4 ⟨v4, f4, rfl, hf4, hp4⟩
  have HB := Lib.hid (lawask_ok (c := d) (RdS.fresh (RdS.fresh H2.out HU3.out) hf4.u) (by omega))
  have HF4 := Lib.hid hf4
  have HP4 := Lib.hid hp4
  clear hf4 hp4 HA
  go_wp2_with fail
  with_reducible refine HB.out.mono ?_
  rintro _ w5 ⟨v5, f5, rfl, hf5, hp5⟩
  obtain ⟨A4, c4, rfl, _⟩ := HF4.out.form
  obtain ⟨A5, c5, rfl, _⟩ := hf5.form
  have hleq : f4.map Fr.p = f5.map Fr.p := by rw [HP4.out, hp5]
  have hll : f5.length = f4.length := by
    have := congrArg List.length hleq
    simpa using this.symm
  rw [hll] at hf5 ⊢
  have HS := Lib.hid (same18_ok (HF4.out.fresh hf5.u) hf5 rfl hleq)
  have HU5 := Lib.hid ((HU3.out.trans HF4.out.u).trans hf5.u)
  have HUH := Lib.hid (HF4.out.u.trans hf5.u)
  clear hf5 hp5 hleq hll HF4 HP4 HB
  generalize f4.length = n4 at *
  go_wp2_with fail
  with_reducible refine HS.out.mono ?_
  rintro _ w6 ⟨rfl, hu6⟩
  have HU6 := Lib.hid (HU5.out.trans hu6)
  have HUH6 := Lib.hid (HUH.out.trans hu6)
  clear hu6 HU5 HUH HS
  -- Asks
  have HA := Lib.hid (asks_ok (c := d) (RdS.fresh H2.out HU6.out) (RdS.fresh H3.out HU6.out) HE.out (by omega) (by omega))
  go_wp2_with fail
  with_reducible refine HA.out.mono ?_
  rintro _ w7 ⟨v7, f7, rfl, hf7, hp7⟩
  have HB := Lib.hid (lawasks_ok (c := d) (d := e) (RdS.fresh (RdS.fresh H2.out HU6.out) hf7.u) (RdS.fresh (RdS.fresh H3.out HU6.out) hf7.u) (by omega) (by omega))
  have HF7 := Lib.hid hf7
  have HP7 := Lib.hid hp7
  clear hf7 hp7 HA
  go_wp2_with fail
  with_reducible refine HB.out.mono ?_
  rintro _ w8 ⟨v8, f8, rfl, hf8, hp8⟩
  obtain ⟨A7, c7, rfl, _⟩ := HF7.out.form
  obtain ⟨A8, c8, rfl, _⟩ := hf8.form
  have hleq : f7.map Fr.p = f8.map Fr.p := by rw [HP7.out, hp8]
  have hll : f8.length = f7.length := by
    have := congrArg List.length hleq
    simpa using this.symm
  rw [hll] at hf8 ⊢
  have HS := Lib.hid (same18_ok (HF7.out.fresh hf8.u) hf8 rfl hleq)
  have HU8 := Lib.hid ((HU6.out.trans HF7.out.u).trans hf8.u)
  have HUH := Lib.hid ((HUH6.out.trans HF7.out.u).trans hf8.u)
  clear hf8 hp8 hleq hll HF7 HP7 HB HU6 HUH6 H2 H3
  generalize f7.length = n7 at *
  go_wp2_with fail
  with_reducible refine HS.out.mono ?_
  rintro _ w9 ⟨rfl, hu9⟩
  have HU9 := Lib.hid (HU8.out.trans hu9)
  have HUH9 := Lib.hid (HUH.out.trans hu9)
  clear hu9 HU8 HUH HS
  -- Greet
  have HG := Lib.hid (greet_ok (HH.out w9 HUH9.out) (by omega))
  go_wp2_with fail
  with_reducible refine HG.out.mono ?_
  rintro _ wa ⟨Aa, ca, rfl, hsa⟩
  have HB := Lib.hid (HH.out w9 HUH9.out wa hsa.hu)
  have HSA := Lib.hid hsa
  clear hsa HG
  go_wp2_with fail
  with_reducible refine HB.out.mono ?_
  rintro _ wb ⟨vb, rfl, hsb⟩
  obtain ⟨Ab, cb, rfl, _⟩ := hsb.row.slice
  have HS := Lib.hid (frsame_ok (W := wb) (f := ⟨1, 0, .slice Aa L.length ca, L, ⟨#[]⟩, .slice none 0 0, []⟩) (g := ⟨1, 0, .slice Ab L.length cb, L, ⟨#[]⟩, .slice none 0 0, []⟩) ⟨(HSA.out.fresh hsb.hu).row, Row.nil _ _ _⟩ ⟨hsb.row, Row.nil _ _ _⟩ rfl)
  simp only [Fr.cells] at HS
  have HUB := Lib.hid ((HU9.out.trans HSA.out.hu).trans hsb.hu)
  clear hsb HSA HB HU9 HUH9 HH
  generalize L.length = nl at *
  go_wp2_with fail
  with_reducible refine HS.out.mono ?_
  rintro _ wc ⟨rfl, huc⟩
  go_wp2_with fail
  go_ret
  exact ⟨rfl, HUB.out.trans huc⟩
end Go.Proofs.YtblpbbcckfocoaaGreatDoor
/- The key table that the row's premise lays. -/
set_option linter.unusedVariables false
set_option maxRecDepth 100000
namespace Go.Proofs.YtblpbbcckfocoaaGreatDoor
open Go Go.ChangeShapes Go.WideShapes Go.ChangeAt Go.RowKit Go.Proofs.YtblpbbcckfocoaaGreatDoor.Pal

theorem keysN : Tryz.prog.globalNamed "palaver/sha.keys" = some 0 := by kernel_rfl
theorem keysT : (Tryz.prog.globals[0]?).map (·.type) = some 216 := by kernel_rfl
theorem kys_of_laid {W : World} {d : DataW Unit} (h : laidMet Tryz.prog [("palaver/sha.keys", d)] W) : ∃ K, Kys K W := by
  obtain ⟨ps, ⟨g, t, cs, fuel, p, q, hg, ht, hvar, hd, _, _⟩, _⟩ := h
  obtain rfl := Option.some.inj (keysN.symm.trans hg)
  obtain rfl := Option.some.inj (keysT.symm.trans ht)
  obtain ⟨xs, m, rfl, _, hlen, hxl, hf⟩ := DataW.trod_array Tryz.underlying216 hd
  have hc1 : Tryz.prog.cellsOf 81 = 1 := by kernel_rfl
  have hat : ∀ j, j < 64 → ∃ z : Int, cs[j]? = some (.int .u32 z) := fun j hj => by
    have h1 := hf j hj
    obtain ⟨y, hy⟩ : ∃ y, xs[j]? = some y := ⟨_, List.getElem?_eq_getElem (by omega)⟩
    rw [hy] at h1
    obtain ⟨z, hz, _⟩ := DataW.trod_int Tryz.underlying81 h1
    rw [hc1, Nat.mul_one] at hz
    refine ⟨z, ?_⟩
    have h2 : (cs.toList.drop j)[0]? = some (.int .u32 z) := by
      have h3 : ((cs.toList.drop j).take 1)[0]? = some (.int .u32 z) := by rw [hz]; rfl
      rw [List.getElem?_take] at h3
      simpa using h3
    rw [List.getElem?_drop, Nat.add_zero] at h2
    simpa using h2
  refine ⟨fun j => match cs[j]? with | some (.int .u32 z) => z | _ => 0, fun j hj => ?_⟩
  obtain ⟨z, hz⟩ := hat j hj
  rw [World.var?_cell keysN hvar j, hz]
  simp only [hz]
theorem open_str {H : Type} {enc : TypeId × Value → H} {w : World} {base : Nat} {spare : Nat → Bool} {held : Bool} (fuel : Nat) (cs : List Value) (y : DataW H × List MemPlace)
    (h : DataW.trod enc Tryz.prog w base spare held fuel 9 cs = some y) : ∃ z : ByteArray, StrR z cs := by
  obtain ⟨m0, h0, _, _⟩ := DataW.trod_string Tryz.underlying9 h
  exact ⟨m0, h0⟩
theorem u16_wf {x : Int} (h : (Lit.int .u16 x).wf = true) : 0 ≤ x ∧ x ≤ 65535 := by
  simp [Lit.wf, IntKind.min, IntKind.max, IntKind.signed, IntKind.bits] at h
  omega
end Go.Proofs.YtblpbbcckfocoaaGreatDoor
