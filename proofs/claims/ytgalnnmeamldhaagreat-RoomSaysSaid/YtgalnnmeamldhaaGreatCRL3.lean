/-
  palaverref16.Look: the walk.
-/
import Derived.Test.YtgalnnmeamldhaaGreatCRL2
import Derived.Test.YtgalnnmeamldhaaGreatCSB
/- palaverref16.Look: the walk. -/
set_option linter.unusedVariables false
set_option linter.unusedSimpArgs false
namespace Go.Proofs.YtgalnnmeamldhaaGreat
open Go Go.RowKit Go.Proofs.YtgalnnmeamldhaaGreat.Pal Go.Proofs.YtgalnnmeamldhaaGreat.Plan

set_option maxRecDepth 100000 in
set_option maxHeartbeats 8000000 in
theorem rlook_ok {w : World} {A : Option Addr} {n c : Nat} {l : List Ent} (h : Ents w A n l) (hc : n ≤ c) (room : ByteArray) (hb : closedB l = true) {r : Nat} (hr : rootN room l = some r) :
    Calls Tryz.prog 12 #[.string room, .slice A n c] w fun e w' => ∃ ys tp ps vm vp L, e = .returned (.agg #[.string (ent l r).body, .string tp, vm, vp]) ∧ (OrdP l ys ∧ LeastP l ys ∧ ys.length = l.length) ∧ viewV l (goodS l r).holding ys = (tp, ps) ∧ MemL (goodS l r) L ∧ ViewR w w' vm vp L ps := by
  have hC := closed_iff.1 hb
  have hl := h.len
  have h300 := hC.len
  rw [hl] at h300
  obtain ⟨hrl, hrid, hrk⟩ := rootN_some hr
  have HCL : Hid (∀ w2, Unch none_ w w2 → Calls Tryz.prog 27 #[.slice A n c] w2 fun e w' => e = .returned (.bool true) ∧ Unch none_ w2 w') := Lib.hid fun w2 hu => by
    have := rclosed_ok (h.fresh hu) hc
    rw [hb] at this
    exact this
  have HROOT : Hid (∀ w2, Unch none_ w w2 → Calls Tryz.prog 28 #[.string room, .slice A n c] w2 fun e w' => e = .returned (.int .i64 (r : Int)) ∧ Unch none_ w2 w') := Lib.hid fun w2 hu => by
    have := rroot_ok (h.fresh hu) hc room
    rw [hr] at this
    exact this
  have HOF : Hid (∀ w2, Unch none_ w w2 → Calls Tryz.prog 16 #[.string room, .slice A n c] w2 fun e w' => (∃ p, e = .returned (setV p (goodS l r)) ∧ p.AL = A ∧ p.n = n ∧ SetOk w' p (goodS l r)) ∧ Unch none_ w2 w') := Lib.hid fun w2 hu => of_ok (h.fresh hu) hc hC room hr
  have hTr : (goodS l r).r = r := rfl
  obtain ⟨T0, hT0⟩ : ∃ T0, goodS l r = T0 := ⟨_, rfl⟩
  obtain ⟨G, hG⟩ : ∃ G, T0.holding = G := ⟨_, rfl⟩
  rw [hT0] at HOF hTr ⊢
  rw [hG]
  have HG := Lib.hid hG
  have HTR := Lib.hid hTr
  have HC := Lib.hid hC
  have HH := Lib.hid h
  have HL := Lib.hid hl
  have HRL := Lib.hid hrl
  have z0 : ¬ (r : Int) < 0 := by omega
  obtain ⟨bo, oo, hA, hbo, _⟩ := h.at (ent_get hrl)
  subst hA
  clear h hb hr hrl hrid hrk hl hC hT0 hTr hG
  go_enter Tryz.func12, Tryz.ntmps12
  go_wp2_with fail
  change Calls _ _ _ (w.alloc zeroView) _
  have hbz := blk_new w zeroView
  have hu0 : Unch none_ w (w.alloc zeroView) := (Unch.refl none_ w).alloc _
  generalize hbze : w.heap.size = bz at *
  generalize w.alloc zeroView = w0 at *
  refine (HCL.out w0 hu0).mono ?_
  rintro e w1 ⟨rfl, hu1⟩
  have hu01 := hu0.trans hu1
  have HU1 := Lib.hid hu01
  have HBZ1 := Lib.hid (hu1.heap hbz (fun h => h))
  clear hu0 hu1 hu01 hbz
  go_wp2_with fail
  refine (HROOT.out w1 HU1.out).mono ?_
  rintro e w2 ⟨rfl, hu2⟩
  have HU2 := Lib.hid (HU1.out.trans hu2)
  have HBZ2 := Lib.hid (hu2.heap HBZ1.out (fun h => h))
  clear hu2
  go_wp2_with fail
  refine (HOF.out w2 HU2.out).mono ?_
  rintro e w3 ⟨⟨p, rfl, hpA, hpn, hset⟩, hu3⟩
  have HU3 := Lib.hid (HU2.out.trans hu3)
  have HBZ3 := Lib.hid (hu3.heap HBZ2.out (fun h => h))
  obtain ⟨pn, pAL, pcL, pAP, pcP, pAI, pcI⟩ := p
  simp only at hpA hpn
  subst hpA; subst hpn
  have HSET := Lib.hid hset
  unfold setV setC
  dsimp only
  rw [HTR.out]
  clear hu3 hset
  go_upto_region 4 with fail
  obtain ⟨bs, hbs⟩ : ∃ bs, w3.heap.size = bs := ⟨_, rfl⟩
  have hu34 : Unch none_ w3 (w3.alloc (.cells #[.slice (some ⟨bo, oo, none⟩) pn pcL, .slice pAP pn pcP, .int .i64 (r : Int), .slice pAI pn pcI] 46)) := (Unch.refl none_ w3).alloc _
  have bS := blk_new w3 (.cells #[.slice (some ⟨bo, oo, none⟩) pn pcL, .slice pAP pn pcP, .int .i64 (r : Int), .slice pAI pn pcI] 46)
  rw [hbs] at bS ⊢
  generalize w3.alloc _ = w4 at *
  have hset4 := HSET.out.fresh hu34
  have hh := rHolding_ok hset4
  unfold setV setC at hh
  dsimp only at hh
  rw [HTR.out, HG.out] at hh
  have HHO := Lib.hid hh
  have HSET4 := Lib.hid hset4
  have HBS4 := Lib.hid bS
  have HBZ4 := Lib.hid (hu34.heap HBZ3.out (fun h => h))
  have HU4 := Lib.hid (HU3.out.trans hu34)
  have y0 := blk_cell bS (j := 0) rfl
  have y1 := blk_cell bS (j := 1) rfl
  have y2 := blk_cell bS (j := 2) rfl
  have y3 := blk_cell bS (j := 3) rfl
  clear hset4 hh hu34 hbs bS HSET HCL HROOT HOF HBZ1 HBZ2 HBZ3 HU1 HU2 HU3
  go_wp2_with fail
  refine HHO.out.mono ?_
  rintro e w5a ⟨gH, rfl, hbr, hgl, hu5a⟩
  obtain ⟨w5, rfl⟩ : ∃ w5, w5 = w5a := ⟨_, rfl⟩
  have HBR := Lib.hid hbr
  have HU5 := Lib.hid (HU4.out.trans hu5a)
  have HBZ5 := Lib.hid (hu5a.heap HBZ4.out (fun h => h))
  have HBS5 := Lib.hid (hu5a.heap HBS4.out (fun h => h))
  have HSET5 := Lib.hid (HSET4.out.fresh hu5a)
  clear hbr hu5a y0 y1 y2 y3 HHO HSET4 HBS4 HBZ4
  go_wp2_with fail
  go_loopg [7, 8] pn (fun gk v7 i8 wr => ∃ i : Nat, gk = pn - i ∧ i ≤ pn ∧ i8 = .int .i64 (i : Int) ∧ RMid w5 wr v7 (l.take i))
  case atStart => exact ⟨0, rfl, Nat.zero_le _, rfl, Unch.refl _ _, (fun b hb => by cases hb), Row.nil _ _ _⟩
  case round =>
    obtain ⟨i, rfl, hi, rfl, hs⟩ := hrel
    obtain ⟨w2, rfl⟩ : ∃ w2, w2 = wr := ⟨_, rfl⟩
    have hel : l.length = pn := HL.out
    have htl : (l.take i).length = i := ent_len i pn hel.symm hi
    by_cases hin : i < pn
    · have hil : i < l.length := by rw [hel]; exact hin
      have z1 : (0 : Int) ≤ (i : Int) := by omega
      have z2 : (i : Int) < (pn : Int) := by omega
      have h2 := HH.out.fresh (HU5.out.trans hs.hu)
      obtain ⟨x0, x1, x2, x3, x4⟩ := h2.at2 (ent_get hil)
      obtain ⟨A2, c2, hpv, _, _⟩ := (h2.ok _ (List.mem_of_getElem? (ent_get hil))).ps
      obtain ⟨m2, hm2⟩ : ∃ m2, (ent l i).ps.length = m2 := ⟨_, rfl⟩
      rw [hpv, hm2] at x3
      have hcells : (ent l i).rcells = [.string (ent l i).id, .slice A2 m2 c2] := by unfold Ent.rcells; rw [hpv, hm2]
      have HCE := Lib.hid hcells
      have HSS := Lib.hid hs
      have HTK := Lib.hid (take_ent hil)
      have hrow := hs.row
      rw [htl] at hrow
      have hd2 : Unch none_ w2 w2.drew := (Unch.refl none_ w2).drew
      have HROW := Lib.hid (hrow.unch hd2 (fun _ _ h => h))
      have HD2 := Lib.hid hd2
      have hone : ∀ u ∈ [Value.string (ent l i).id, .slice A2 m2 c2], u.oneCell' = true := by
        intro u hu
        simp only [List.mem_cons, List.not_mem_nil, or_false] at hu
        rcases hu with rfl | rfl <;> rfl
      have HONE := Lib.hid hone
      clear hs h2 x1 x2 x4 hpv hm2 hcells hrow hone
      go_upto_region 9 with fail
      refine wp_planP (fun W => Unch none_ w2 W) [0] [1, 2, 3, 4, 5, 6, 7, 8, 9, 10, 11] [12, 13, 14] 0 (by kernel_rfl) (by kernel_rfl) rfl rfl rfl (fun c a d v w h => by cases d <;> exact h) ((Unch.refl _ _).drew) ?_
      intro S S0 HS _ _
      simp only [pickIn, List.getElem?_toArray, List.getElem?_cons_succ, List.getElem?_cons_zero]
      repeat (go_big_quiet_step (fail))
      refine wpQuiet_nil ?_
      have f0 : ∀ G2 : In S, G2.w.cell? ⟨bo, oo + i * 5, none⟩ = some (.string (ent l i).id) := fun G2 => ((HS.out _).1 G2.h).cell x0 (fun h => h)
      have f3 : ∀ G2 : In S, G2.w.cell? ⟨bo, oo + i * 5 + 3, none⟩ = some (.slice A2 m2 c2) := fun G2 => ((HS.out _).1 G2.h).cell x3 (fun h => h)
      repeat (go_big_quiet_step (fail))
      refine wpQuiet_nil ?_
      clear f0 f3 x0 x3
      refine tail_all ?_
      go_wp2_with (at_builtin; refine wpList_append1 w2.drew rfl (.tmp 34) (.tmp 46) 33 37 _ 2 40 rfl Tryz.underlying33 info_rent rfl (by omega) u7 i (rcells (l.take i)) (by rfl) HROW.out [.string (ent l i).id, .slice A2 m2 c2] rfl HONE.out (by rfl) (by simp only [maxLen]; omega) (by omega) ?_; intro v5 w6 hr5 hu5 hat5; have hs5 := HSS.out.app (e := ent l i) (v2 := v5) (w2 := w6) (by rw [htl, HCE.out]; exact hr5) (HD2.out.mono (fun _ _ h => h.elim) |>.step hu5 (fun _ _ h => h)) (by rcases hat5 with h | ⟨b, h, h'⟩; exact .inl h; exact .inr ⟨b, h, h'⟩); have HS5 := Lib.hid hs5; clear hr5 hu5 hat5 hs5)
      go_roundg (pn - (i + 1))
      case measure => omega
      case rel => exact ⟨i + 1, rfl, by omega, by go_num, by rw [HTK.out]; exact HS5.out⟩
    · obtain rfl : pn = i := by omega
      obtain ⟨A4, c4, hv4, _⟩ := hs.row.slice
      subst hv4
      rw [htl] at hs ⊢
      rw [show l.take pn = l by rw [← hel]; exact List.take_length] at hs
      have hu02 := HU5.out.trans hs.hu
      have hE := HH.out.fresh hu02
      have hre := hs.rd hel.symm (fun e he => hE.ok e he)
      obtain ⟨_, _, _, _, x4⟩ := hE.at2 (ent_get HRL.out)
      have hbs2 := hs.hu.heap HBS5.out (fun h => h)
      have y0 := blk_cell hbs2 (j := 0) rfl
      have y1 := blk_cell hbs2 (j := 1) rfl
      have y2 := blk_cell hbs2 (j := 2) rfl
      have y3 := blk_cell hbs2 (j := 3) rfl
      have hrn : r < pn := by rw [← hel]; exact HRL.out
      have w1' : (0 : Int) ≤ (r : Int) := by omega
      have w2' : (r : Int) < (pn : Int) := by omega
      have hset2 := HSET5.out.fresh hs.hu
      have HMEM : Hid (∀ w3, Unch none_ w2 w3 → Calls Tryz.prog 30 #[.agg #[.slice (some ⟨bo, oo, none⟩) pn pcL, .slice pAP pn pcP, .int .i64 (r : Int), .slice pAI pn pcI]] w3 fun e w' => ∃ v L, e = .returned v ∧ MemL T0 L ∧ SMid w3 w' v L.length L) := Lib.hid fun w3 hu => by
        have := rMembers_ok (hset2.fresh hu)
        unfold setV setC at this
        dsimp only at this
        rw [HTR.out] at this
        exact this
      have HU02 := Lib.hid hu02
      have HREN := Lib.hid hre
      have HBZ2 := Lib.hid (hs.hu.heap HBZ5.out (fun h => h))
      have HBR2 := Lib.hid (HBR.out.unch hs.hu (fun h => h))
      clear hE hre hset2 hu02 hs htl HSET5 HBS5 HBZ5 HBR
      obtain ⟨nm, hnm⟩ : ∃ nm, (ent l r).body = nm := ⟨_, rfl⟩
      rw [hnm] at x4
      go_wp2_with fail
      refine wp_planI (fun W => Unch none_ w2 W) [0, 1, 2, 3, 4, 5, 6] [7, 8, 9, 10] (by kernel_rfl) (by kernel_rfl) rfl (fun c a d v w h => by cases d <;> exact h) ((Unch.refl _ _).drew) ?_
      intro S HS _
      have f0 : ∀ G2 : In S, G2.w.cell? ⟨bs, 0, none⟩ = some (.slice (some ⟨bo, oo, none⟩) pn pcL) := fun G2 => ((HS.out _).1 G2.h).cell y0 (fun h => h)
      have f1 : ∀ G2 : In S, G2.w.cell? ⟨bs, 1, none⟩ = some (.slice pAP pn pcP) := fun G2 => ((HS.out _).1 G2.h).cell y1 (fun h => h)
      have f2 : ∀ G2 : In S, G2.w.cell? ⟨bs, 2, none⟩ = some (.int .i64 (r : Int)) := fun G2 => ((HS.out _).1 G2.h).cell y2 (fun h => h)
      have f3 : ∀ G2 : In S, G2.w.cell? ⟨bs, 3, none⟩ = some (.slice pAI pn pcI) := fun G2 => ((HS.out _).1 G2.h).cell y3 (fun h => h)
      have f4 : ∀ G2 : In S, G2.w.cell? ⟨bo, oo + r * 5 + 4, none⟩ = some (.string nm) := fun G2 => ((HS.out _).1 G2.h).cell x4 (fun h => h)
      simp only [pickIn, List.getElem?_toArray, List.getElem?_cons_succ, List.getElem?_cons_zero]
      repeat (go_big_quiet_step (fail))
      refine wpQuiet_nil ?_
      clear f0 f1 f2 f3 f4 y0 y1 y2 y3 x4
      refine free_slots2 [55, 56, 9] (VI w2 7 8 9 10 55 56 9 T0 nm) (fun x => .inl ⟨rfl, (Unch.refl _ _).drew, by simp, by simp, by simp⟩) ?_ ?_
      · intro D x w6 hI i hi o ho hun hdep
        obtain ⟨hd10, hpre⟩ : D 10 = false ∧ VPre w2 7 8 9 55 56 9 T0 nm D x w6 := by
          rcases hI with h | ⟨hall, _⟩
          · exact h
          · rw [hall i hi] at hun; cases hun
        simp only [List.mem_cons, List.not_mem_nil, or_false] at hi
        have hCw : ∀ w', Unch none_ w2 w' → ∃ g : In S, w' = g.w := fun w' hu => ⟨⟨w', (HS.out _).2 hu⟩, rfl⟩
        have HCw := Lib.hid hCw
        have hw26 := hpre.u
        have HPRE := Lib.hid hpre
        have HDEP := Lib.hid hdep
        have HD10 := Lib.hid hd10
        have HUN := Lib.hid hun
        clear hCw hpre hdep hd10 hun
        rcases hi with rfl | rfl | rfl | rfl
        · simp only [List.getElem?_toArray, List.getElem?_cons_succ, List.getElem?_cons_zero, Option.some.injEq] at ho
          subst ho
          simp only [putsF, List.foldl]
          go_wp2_with fail
          refine (HMEM.out w6 (hw26)).mono ?_
          rintro e w7 ⟨v, L, rfl, hm, hs⟩
          obtain ⟨Av, cv, rfl, _⟩ := hs.row.slice
          have hcall := Lib.hid (HPRE.out.call HUN.out (by decide) (by decide) (by decide) hm hs)
          have hu57 := Lib.hid (hw26.trans hs.hu)
          clear hm hs
          go_wp2_with fail
          exact ⟨HCw.out _ hu57.out, upd x 55 (.slice Av L.length cv), rfl, .inl ⟨by simpa using HD10.out, hcall.out⟩⟩
        · simp only [List.getElem?_toArray, List.getElem?_cons_succ, List.getElem?_cons_zero, Option.some.injEq] at ho
          subst ho
          simp only [putsF, List.foldl]
          have kA := HDEP.out ⟨7, .data⟩ (by simp) rfl (by simp)
          obtain ⟨Av, cv, L, eA, _, _⟩ := HPRE.out.d1 kA
          have hbld := HPRE.out.build kA (by decide) (by decide) (by decide) (by decide)
          have EA := Lib.hid eA
          rw [eA] at hbld
          have HBLD := Lib.hid hbld
          clear hbld kA
          go_wp2_with fail
          refine ⟨HCw.out _ hw26, upd (upd x 55 (.slice Av L.length cv)) 56 (.agg #[.string nm, .string ⟨#[]⟩, .slice Av L.length cv, .slice none 0 0]), rfl, .inl ⟨by simpa using HD10.out, ?_⟩⟩
          rw [upd_same EA.out]
          exact HBLD.out
        · simp only [List.getElem?_toArray, List.getElem?_cons_succ, List.getElem?_cons_zero, Option.some.injEq] at ho
          subst ho
          simp only [putsF, List.foldl]
          have hbx := Lib.hid (HPRE.out.box (by decide) (by decide) (by decide) (by decide))
          go_wp2_with fail
          exact ⟨HCw.out _ hbx.out.u, upd x 9 (.pointer (some ⟨w6.heap.size, 0, none⟩)), rfl, .inl ⟨by simpa using HD10.out, hbx.out⟩⟩
        · simp only [List.getElem?_toArray, List.getElem?_cons_succ, List.getElem?_cons_zero, Option.some.injEq] at ho
          subst ho
          simp only [putsF, List.foldl]
          have kB := HDEP.out ⟨8, .data⟩ (by simp) rfl (by simp)
          have kC := HDEP.out ⟨9, .data⟩ (by simp) rfl (by simp)
          obtain ⟨kA, eB⟩ := HPRE.out.d2 kB
          obtain ⟨Av, cv, L, eA, hm, hmr⟩ := HPRE.out.d1 kA
          obtain ⟨bv, eC, hbvl, hbz⟩ := HPRE.out.d3 kC
          rw [eA] at eB hmr
          have K : Hid (∀ i ∈ [7, 8, 9, 10], (decide (i = 10) || D i) = true) := fun i hi => by
            simp only [List.mem_cons, List.not_mem_nil, or_false] at hi
            rcases hi with rfl | rfl | rfl | rfl
            · rw [kA]; rfl
            · rw [kB]; rfl
            · rw [kC]; rfl
            · rfl
          have HFIN := Lib.hid (vfin_of (nm := nm) hw26 hbz hbvl hm hmr (x := upd (upd x 9 (.pointer (some ⟨bv, 0, none⟩))) 56 (.agg #[.string nm, .string ⟨#[]⟩, .slice Av L.length cv, .slice none 0 0])) (s3 := 9) (by simp [upd]))
          unfold zeroView at hbz
          have y0 := blk_cell hbz (j := 0) rfl
          have y1 := blk_cell hbz (j := 1) rfl
          have y2 := blk_cell hbz (j := 2) rfl
          have y3 := blk_cell hbz (j := 3) rfl
          have q0 := blk_free hbz 0
          have q1 := blk_free hbz 1
          have q2 := blk_free hbz 2
          have q3 := blk_free hbz 3
          clear kA kB kC hbz eA hm hmr
          go_wp2_with fail
          exact ⟨HCw.out _ HFIN.out.1, upd (upd x 9 (.pointer (some ⟨bv, 0, none⟩))) 56 (.agg #[.string nm, .string ⟨#[]⟩, .slice Av L.length cv, .slice none 0 0]), rfl, .inr ⟨K.out, HFIN.out⟩⟩
      · intro D x w6 hI hall
        rcases hI with ⟨hd10, _⟩ | ⟨_, hfin⟩
        · rw [hall 10 (by simp)] at hd10; cases hd10
        obtain ⟨hu56, vm, L, bv, eC, hm, hmr, hvb⟩ := hfin
        simp only [putsF, List.foldl]
        rw [eC]
        generalize x 55 = x55
        generalize x 56 = x56
        clear eC hall
        have HR6 := Lib.hid (order_ok (c := c4) (HREN.out.fresh hu56) HC.out)
        have HU6 := Lib.hid (HU02.out.trans hu56)
        have HMR := Lib.hid hmr
        have HVB := Lib.hid hvb
        have HM := Lib.hid hm
        have HNM := Lib.hid hnm
        have HBZ6 := Lib.hid (hu56.heap HBZ2.out (fun h => h))
        have HBR6 := Lib.hid (HBR2.out.unch hu56 (fun h => h))
        have nbv : bv ≠ bz := fun e => by
          have h1 := lt_of_heap HBZ2.out
          have h2 := HVB.out.hb
          omega
        clear hu56 hmr hvb hm hnm HREN HMEM
        go_wp2_with fail
        refine HR6.out.mono ?_
        rintro e w8 ⟨vy, ys, rfl, ho, hyl, hs, hle⟩
        have hsz4 := HU02.out.size
        have hlo : LO w w8 bz gH pn G vm L vy ys := ⟨hs.hu.heap HBZ6.out (fun h => h), HBR6.out.unch hs.hu (fun h => h), ⟨(HMR.out.fresh hs.hu).row, fun b hb => by have := HMR.out.own b hb; omega⟩, MRow.of hs HU6.out⟩
        have hvb6 := HVB.out.fresh hs.hu
        have hvb : VB w w8 bv nm vm (.slice none 0 0) (⟨#[]⟩, []) := ⟨hvb6.blk, hvb6.row, (fun b hb => by cases hb), by have := hvb6.hb; omega⟩
        have HLO := Lib.hid hlo
        have HVB8 := Lib.hid hvb
        have HU8 := Lib.hid (HU6.out.trans hs.hu)
        obtain ⟨Ay, cy, hvy, _⟩ := hs.row.slice
        obtain ⟨ny, hny⟩ : ∃ ny, ys.length = ny := ⟨_, rfl⟩
        rw [hny] at hvy
        rw [hvy]
        have hn300 : ny ≤ 300 := by have := HL.out; omega
        have HO := Lib.hid ho
        have HLE := Lib.hid hle
        have HYL := Lib.hid hyl
        have HNY := Lib.hid hny
        have HVY := Lib.hid hvy
        clear hlo hvb6 hvb hs ho hle hyl hny hvy HR6 HU6 HMR HVB HBZ6 HBR6
        go_wp2_with fail
        go_loopg [11, 12] ny (fun gk i11 _ wr => ∃ (q : Nat) (vp : Value), gk = ny - q ∧ q ≤ ny ∧ i11 = .int .i64 (q : Int) ∧ Unch none_ w wr ∧ LO w wr bz gH pn G vm L vy ys ∧ VB w wr bv nm vm vp (viewV l G (ys.take q)))
        case atStart => exact ⟨0, _, rfl, Nat.zero_le _, rfl, HU8.out, HLO.out, by rw [List.take_zero, viewV_nil]; exact HVB8.out⟩
        case round =>
          clear HLO HVB8 HU8
          obtain ⟨q, vp, rfl, hq, rfl, hu, hlo, hvb⟩ := hrel
          obtain ⟨w7, rfl⟩ : ∃ w7, w7 = wr := ⟨_, rfl⟩
          by_cases hqn : q < ny
          · have zq : (q : Int) < (ny : Int) := by omega
            have zq0 : (0 : Int) ≤ (q : Int) := by omega
            have hyr := hlo.ysr.row
            rw [HVY.out, HNY.out] at hyr
            obtain ⟨id, hid⟩ := get_some HNY.out hqn
            obtain ⟨by_, oy, rfl, _, xy⟩ := RdS.str (srow_rds hyr) hid
            obtain ⟨i, hi, rfl⟩ := HO.out.sub id (List.mem_of_getElem? hid)
            have hik : i < pn := by have := HL.out; omega
            have y1' : (0 : Int) ≤ (i : Int) := by omega
            have y2' : (i : Int) < (pn : Int) := by omega
            have h7 := HH.out.fresh hu
            obtain ⟨x0, x1, x2, x3, x4⟩ := h7.at2 (ent_get hi)
            have hfind := find_ok h7 hc (ent l i).id
            rw [HC.out.find hi] at hfind
            have HFIND := Lib.hid hfind
            have hview := viewV_take l G hid
            rw [ixL_id HC.out hi] at hview
            obtain ⟨idB, hidB⟩ : ∃ idB, (ent l i).id = idB := ⟨_, rfl⟩
            obtain ⟨kd, hkd⟩ : ∃ kd, (ent l i).kind = kd := ⟨_, rfl⟩
            obtain ⟨au, hau⟩ : ∃ au, (ent l i).author = au := ⟨_, rfl⟩
            obtain ⟨bo2, hbo2⟩ : ∃ bo2, (ent l i).body = bo2 := ⟨_, rfl⟩
            unfold stepV at hview
            rw [hkd, hau, hbo2] at hview
            rw [hidB] at xy HFIND
            rw [hkd] at x1
            rw [hau] at x2
            rw [hbo2] at x4
            obtain ⟨s, hs⟩ : ∃ s, viewV l G (ys.take q) = s := ⟨_, rfl⟩
            rw [hs] at hview hvb
            have hslen : s.2.length ≤ 300 := by
              rw [← hs]
              have h1 := viewV_len l G (ys.take q)
              rw [List.length_take] at h1
              omega
            have yg := hlo.hg.at (j := i) hik
            obtain ⟨gi, hgi⟩ : ∃ gi, G i = gi := ⟨_, rfl⟩
            rw [hgi] at yg hview
            have HGI := Lib.hid hgi
            have HXI := Lib.hid x1
            have HU7 := Lib.hid hu
            have HLO7 := Lib.hid hlo
            have HVB7 := Lib.hid hvb
            clear hu hlo hvb hyr hid hi h7 hfind hidB hkd hau hbo2 hs x0 x3 hgi
            unfold optI at HFIND
            cases gi with
            | false =>
              rw [if_neg (by decide)] at hview
              have HV := Lib.hid hview
              clear hview
              go_wp2_with fail
              refine HFIND.out.mono ?_
              rintro e w9 ⟨rfl, rfl⟩
              go_wp2
              go_roundg (ny - (q + 1))
              case measure => omega
              case rel => exact ⟨q + 1, vp, rfl, by omega, by go_num, HU7.out, HLO7.out, by rw [HV.out]; exact HVB7.out⟩
            | true =>
              rw [if_pos rfl] at hview
              by_cases hk3 : kd = 3
              · subst hk3
                rw [if_pos rfl] at hview
                have HV := Lib.hid hview
                have t1 := blk_cell HVB7.out.blk (j := 1) rfl
                have q1 := blk_free HVB7.out.blk 1
                clear hview
                go_wp2_with fail
                refine HFIND.out.mono ?_
                rintro e w9 ⟨rfl, rfl⟩
                go_upto_region 18 with fail
                have huT : Unch (fun j => j = bv) w7 (w7.setCell ⟨bv, 1, none⟩ (.string bo2)) := (Unch.refl _ _).setCell _ (fun _ => rfl)
                have nbo : bo ≠ bv := fun e => by have := HVB7.out.hb; omega
                have x1' := huT.cell HXI.out nbo
                have hN := And.intro (HU7.out.step huT (fun j hj e => by have := HVB7.out.hb; omega)) (And.intro (HLO7.out.unch huT (HVB7.out.isB nbv)) (HVB7.out.topic bo2))
                have yg' := hN.2.1.hg.at (j := i) hik
                rw [HGI.out] at yg'
                have HN := Lib.hid hN
                clear hN huT yg x1 x2 x4
                generalize w7.setCell ⟨bv, 1, none⟩ (.string bo2) = w8 at *
                go_wp2
                go_roundg (ny - (q + 1))
                case measure => omega
                case rel => exact ⟨q + 1, vp, rfl, by omega, by go_num, HN.out.1, HN.out.2.1, by rw [HV.out]; exact HN.out.2.2⟩
              · rw [if_neg hk3] at hview
                have d3 := int_bne hk3
                have d3' : (kd == 3) = false := by simpa using hk3
                by_cases hk2 : kd = 2
                · subst hk2
                  rw [if_pos rfl] at hview
                  have HV := Lib.hid hview
                  have t3 := blk_cell HVB7.out.blk (j := 3) rfl
                  obtain ⟨m, hm⟩ : ∃ m, s.2.length = m := ⟨_, rfl⟩
                  have hrow := HVB7.out.row
                  rw [hm] at hrow hslen
                  obtain ⟨Ap, cp, hvp, _⟩ := hrow.slice
                  rw [hvp] at hrow t3
                  have hd7 : Unch none_ w7 w7.drew := (Unch.refl none_ w7).drew
                  have ha7 : Unch none_ w7 (w7.drew.alloc (.cells #[.string au, .string bo2] 53)) := hd7.alloc _
                  have HROW := Lib.hid (hrow.unch hd7 (fun _ _ h => h))
                  have HROW7 := Lib.hid hrow
                  have HVP := Lib.hid hvp
                  have HMM := Lib.hid hm
                  have HA7 := Lib.hid ha7
                  have HD7 := Lib.hid hd7
                  clear hview hrow hvp hm hk3 hd7 ha7
                  go_wp2_with fail
                  refine HFIND.out.mono ?_
                  rintro e w9 ⟨rfl, rfl⟩
                  go_wp2_with fail
                  refine wp_planC (fun W => Unch none_ w7 W) [0, 1, 2, 3, 4, 5, 6, 7, 8, 9, 10, 11, 12] [13, 14, 15, 16] 1 (by kernel_rfl) (by kernel_rfl) rfl rfl (fun c a d v w h => by cases d <;> exact h) ((Unch.refl _ _).drew) ?_
                  intro S HS _
                  have f0 : ∀ G2 : In S, G2.w.cell? ⟨bv, 3, none⟩ = some (.slice Ap m cp) := fun G2 => ((HS.out _).1 G2.h).cell t3 (fun h => h)
                  have f1 : ∀ G2 : In S, G2.w.cell? ⟨bo, oo + i * 5 + 2, none⟩ = some (.string au) := fun G2 => ((HS.out _).1 G2.h).cell x2 (fun h => h)
                  have f2 : ∀ G2 : In S, G2.w.cell? ⟨bo, oo + i * 5 + 4, none⟩ = some (.string bo2) := fun G2 => ((HS.out _).1 G2.h).cell x4 (fun h => h)
                  simp only [pickIn, List.getElem?_toArray, List.getElem?_cons_succ, List.getElem?_cons_zero]
                  repeat (go_big_quiet_step (fail))
                  refine wpQuiet_nil ?_
                  clear f0 f1 f2 t3 x1 x2 x4
                  refine tail_step ?_
                  go_wp2_with fail
                  refine tail_midS ((HS.out _).2 HA7.out) (tail_all ?_)
                  go_wp2_with (at_builtin; refine wpList_append1 w7.drew rfl (.tmp 102) (.tmp 114) 28 53 _ 2 32 rfl Tryz.underlying28 info_said rfl (by omega) (.slice Ap m cp) m (pcells s.2) (by rfl) HROW.out [.string au, .string bo2] rfl (by intro u hu; simp at hu; rcases hu with rfl | rfl <;> rfl) (by rfl) (by simp only [maxLen]; omega) (by omega) ?_; intro v9 w9 hr9 hu9 hat9; have hb9 := hu9.heap (HD7.out.heap HVB7.out.blk (fun h => h)) (fun e => said_ne HROW7.out HVB7.out.blk e rfl); have t3' := blk_cell hb9 (j := 3) rfl; have q3' := blk_free hb9 3; obtain ⟨A9, c9, rfl, _⟩ := hr9.slice; have HR9 := Lib.hid hr9; have HU9 := Lib.hid hu9; have HAT9 := Lib.hid (hat_of hat9); clear hr9 hu9 hat9 hb9)
                  have hu9' : Unch (fun k => vp.ownBlock = some k) w7 w9 := by
                    rw [HVP.out]
                    exact (HD7.out.mono (fun _ _ h => h.elim)).trans HU9.out
                  have hvb9 := HVB7.out.post (a := au) (b := bo2) HU7.out.size (by rw [HMM.out]; exact HR9.out) hu9' (by rw [HVP.out]; exact HAT9.out)
                  have hb9 := hu9'.heap HVB7.out.blk (fun e => said_ne HVB7.out.row HVB7.out.blk e rfl)
                  have huT : Unch (fun j => j = bv) w9 (w9.setCell ⟨bv, 3, none⟩ (.slice A9 (m + 1) c9)) := (Unch.refl _ _).setCell _ (fun _ => rfl)
                  have hiv : ∀ j, j = bv → isV w9 bz j := fun j e => by subst e; exact ⟨_, _, _, hb9, .inl ⟨rfl, nbv⟩⟩
                  have hlo9 := HLO7.out.unch hu9' (fun j e => HVB7.out.isP j e)
                  have hu09 := HU7.out.step hu9' (fun j hj e => by have := HVB7.out.own j e; omega)
                  have HN := Lib.hid (And.intro (hu09.step huT (fun j hj e => by have := HVB7.out.hb; omega)) (And.intro (hlo9.unch huT hiv) hvb9))
                  clear hvb9 hb9 huT hiv hlo9 hu09 hu9'
                  go_roundg (ny - (q + 1))
                  case measure => omega
                  case rel => exact ⟨q + 1, _, rfl, by omega, by go_num, HN.out.1, HN.out.2.1, by rw [HV.out]; exact HN.out.2.2⟩
                · rw [if_neg hk2] at hview
                  have d2 := int_bne hk2
                  have d2' : (kd == 2) = false := by simpa using hk2
                  have HV := Lib.hid hview
                  clear hview
                  go_wp2_with fail
                  refine HFIND.out.mono ?_
                  rintro e w9 ⟨rfl, rfl⟩
                  go_wp2
                  go_roundg (ny - (q + 1))
                  case measure => omega
                  case rel => exact ⟨q + 1, vp, rfl, by omega, by go_num, HU7.out, HLO7.out, by rw [HV.out]; exact HVB7.out⟩
          · obtain rfl : q = ny := by omega
            rw [← HNY.out, List.take_length] at hvb
            obtain ⟨s, hs⟩ : ∃ s, viewV l G ys = s := ⟨_, rfl⟩
            rw [hs] at hvb
            obtain ⟨Ap, cp, hvp, _⟩ := hvb.row.slice
            obtain ⟨Am, cm, hvm, _⟩ := hlo.mem.row.slice
            obtain ⟨m, hm⟩ : ∃ m, s.2.length = m := ⟨_, rfl⟩
            obtain ⟨ml, hml⟩ : ∃ ml, L.length = ml := ⟨_, rfl⟩
            rw [hm] at hvp
            rw [hml] at hvm
            have hblk := hvb.blk
            rw [hvp, hvm] at hblk
            obtain ⟨tp, htp⟩ : ∃ tp, s.1 = tp := ⟨_, rfl⟩
            rw [htp] at hblk
            have y0 := blk_cell hblk (j := 0) rfl
            have y1 := blk_cell hblk (j := 1) rfl
            have y2 := blk_cell hblk (j := 2) rfl
            have y3 := blk_cell hblk (j := 3) rfl
            have hz := hlo.bz
            unfold zeroView at hz
            have z0 := blk_cell hz (j := 0) rfl
            have z1 := blk_cell hz (j := 1) rfl
            have z2 := blk_cell hz (j := 2) rfl
            have z3 := blk_cell hz (j := 3) rfl
            have p0 := blk_free hz 0
            have p1 := blk_free hz 1
            have p2 := blk_free hz 2
            have p3 := blk_free hz 3
            have HZ := Lib.hid hz
            have HVB := Lib.hid hvb
            have HLO := Lib.hid hlo
            have HU := Lib.hid hu
            have HS := Lib.hid hs
            have HTP := Lib.hid htp
            have HVP := Lib.hid hvp
            have HVM := Lib.hid hvm
            clear hz hvb hlo hu hblk hs htp hvp hvm hm hml
            go_wp2
            have huW : Unch (fun j => j = bz) w7 ((((w7.setCell ⟨bz, 0, none⟩ (.string nm)).setCell ⟨bz, 1, none⟩ (.string tp)).setCell ⟨bz, 2, none⟩ (.slice Am ml cm)).setCell ⟨bz, 3, none⟩ (.slice Ap m cp)) :=
              ((((Unch.refl (fun j => j = bz) w7).setCell _ (fun _ => rfl)).setCell _ (fun _ => rfl)).setCell _ (fun _ => rfl)).setCell _ (fun _ => rfl)
            have hbW := blk_set (blk_set (blk_set (blk_set HZ.out 0 (.string nm)) 1 (.string tp)) 2 (.slice Am ml cm)) 3 (.slice Ap m cp)
            refine bodyPost_ret (results_c1 rfl _ _ bz _ _ _ _ rfl hbW Tryz.underlying30 rfl (by kernel_rfl)) rfl ?_
            refine ⟨ys, tp, s.2, vm, vp, L, ?_, ⟨HO.out, HLE.out, HYL.out⟩, by rw [HS.out, ← HTP.out], HM.out, ⟨HU.out.step huW (fun j hj e => by omega), HLO.out.mem.unch (bz := bz + 1) huW (fun j e => ?_), HVB.out.row.unch huW (fun j hj e => said_ne HVB.out.row HZ.out hj e), HVB.out.own⟩⟩
            · rw [HNM.out, HVM.out, HVP.out]; rfl
            · subst e; exact ⟨_, _, _, HZ.out, .inl ⟨rfl, by omega⟩⟩
end Go.Proofs.YtgalnnmeamldhaaGreat
