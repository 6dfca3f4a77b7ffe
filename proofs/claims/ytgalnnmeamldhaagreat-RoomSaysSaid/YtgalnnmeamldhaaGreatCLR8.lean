/-
  RoomSays, a topic: the walk.
-/
import Derived.Test.YtgalnnmeamldhaaGreatCSB
import Derived.Test.YtgalnnmeamldhaaGreatCLV1
import Derived.Test.YtgalnnmeamldhaaGreatCVP3
import Derived.Test.YtgalnnmeamldhaaGreatCHD1
/- RoomSays, a topic: the walk. -/
set_option linter.unusedVariables false
set_option linter.unusedSimpArgs false
namespace Go.Proofs.YtgalnnmeamldhaaGreat
open Go Go.RowKit Go.Proofs.YtgalnnmeamldhaaGreat.Pal Go.Proofs.YtgalnnmeamldhaaGreat.Plan

set_option maxRecDepth 100000 in
set_option maxHeartbeats 16000000 in
theorem roomSaysT_walk (A : Option Addr) (n c : Nat) (l : List Say) (who : Int) (w : World) (h : RdS w 5 (SayRW w) A n l) (hc : n ≤ c) :
    Calls Tryz.prog 7 #[.slice A n c, .int .i64 who, .bool true] w fun e w' => e = .returned (.bool true) ∧ Unch none_ w w' := by
  have hs := says_of h
  have hmax := h.max
  have hfew := few16_ok (w := w) (A := A) (c := c) hmax
  by_cases hn : n ≤ 24
  · rw [decide_eq_true hn] at hfew
    have HF := Lib.hid hfew
    have HL := Lib.hid (laidX (c := c) hs (Nat.le_refl n) (by omega) (.inl rfl))
    clear hs h hfew hmax
    go_enter Tryz.func7, Tryz.ntmps7
    go_wp2_with fail
    refine HF.out.mono ?_
    rintro e w0 ⟨rfl, rfl⟩
    go_wp2_with fail
    refine HL.out.mono ?_
    rintro e w1 ⟨A1, n1, c1, es, rfl, hld, hok, hn1, hu1⟩
    have HPS := Lib.hid hok.hps
    have hn25 : n1 ≤ 25 := by omega
    have HOK := Lib.hid hok
    clear hok hn1
    have HLD := Lib.hid hld
    have HU1 := Lib.hid hu1
    clear hld hu1 HF HL
    go_wp2_with fail
    go_loopg [8, 9] n1 (fun gk v4 i5 wr => ∃ i : Nat, gk = n1 - i ∧ i ≤ n1 ∧ i5 = .int .i64 (i : Int) ∧ RMid w1 wr v4 (es.take i))
    case atStart => exact ⟨0, rfl, Nat.zero_le _, rfl, Unch.refl _ _, (fun b hb => by cases hb), Row.nil _ _ _⟩
    case round =>
      obtain ⟨i, rfl, hi, rfl, hs⟩ := hrel
      obtain ⟨w2, rfl⟩ : ∃ w2, w2 = wr := ⟨_, rfl⟩
      have hel : es.length = n1 := HLD.out.len
      have htl : (es.take i).length = i := ent_len i n1 hel.symm hi
      by_cases hin : i < n1
      · have hil : i < es.length := by rw [hel]; exact hin
        have z0 : (0 : Int) ≤ (i : Int) := by omega
        have z1 : (i : Int) < (n1 : Int) := by omega
        have h2 := HLD.out.ents.fresh hs.hu
        obtain ⟨b, o, rfl, _, x0, x1, x2, x3, x4⟩ := h2.at (ent_get hil)
        obtain ⟨A2, c2, hpv, _, _⟩ := (h2.ok _ (List.mem_of_getElem? (ent_get hil))).ps
        obtain ⟨m2, hm2⟩ : ∃ m2, (ent es i).ps.length = m2 := ⟨_, rfl⟩
        rw [hpv, hm2] at x3
        have hcells : (ent es i).rcells = [.string (ent es i).id, .slice A2 m2 c2] := by unfold Ent.rcells; rw [hpv, hm2]
        have HCE := Lib.hid hcells
        have HSS := Lib.hid hs
        have HTK := Lib.hid (take_ent hil)
        have hrow := hs.row
        rw [htl] at hrow
        have hd2 : Unch none_ w2 w2.drew := (Unch.refl none_ w2).drew
        have HROW := Lib.hid (hrow.unch hd2 (fun _ _ h => h))
        have HD2 := Lib.hid hd2
        have hone : ∀ u ∈ [Value.string (ent es i).id, .slice A2 m2 c2], u.oneCell' = true := by
          intro u hu
          simp only [List.mem_cons, List.not_mem_nil, or_false] at hu
          rcases hu with rfl | rfl <;> rfl
        have HONE := Lib.hid hone
        clear hs h2 x1 x2 x4 hpv hm2 hcells hrow hone
        go_upto_region 8 with fail
        refine wp_planP (fun W => Unch none_ w2 W) [0] [1, 2, 3, 4, 5, 6, 7, 8, 9, 10, 11] [12, 13, 14] 0 (by kernel_rfl) (by kernel_rfl) rfl rfl rfl (fun c a d v w h => by cases d <;> exact h) ((Unch.refl _ _).drew) ?_
        intro S S0 HS _ _
        simp only [pickIn, List.getElem?_toArray, List.getElem?_cons_succ, List.getElem?_cons_zero]
        repeat (go_big_quiet_step (fail))
        refine wpQuiet_nil ?_
        have f0 : ∀ G2 : In S, G2.w.cell? ⟨b, o + i * 5, none⟩ = some (.string (ent es i).id) := fun G2 => ((HS.out _).1 G2.h).cell x0 (fun h => h)
        have f3 : ∀ G2 : In S, G2.w.cell? ⟨b, o + i * 5 + 3, none⟩ = some (.slice A2 m2 c2) := fun G2 => ((HS.out _).1 G2.h).cell x3 (fun h => h)
        repeat (go_big_quiet_step (fail))
        refine wpQuiet_nil ?_
        clear f0 f3 x0 x3
        refine tail_all ?_
        go_wp2_with (at_builtin; refine wpList_append1 w2.drew rfl (.tmp 25) (.tmp 37) 33 37 _ 2 40 rfl Tryz.underlying33 info_rent rfl (by omega) u8 i (rcells (es.take i)) (by rfl) HROW.out [.string (ent es i).id, .slice A2 m2 c2] rfl HONE.out (by rfl) (by simp only [maxLen]; omega) (by omega) ?_; intro v5 w5 hr5 hu5 hat5; have hs5 := HSS.out.app (e := ent es i) (v2 := v5) (w2 := w5) (by rw [htl, HCE.out]; exact hr5) (HD2.out.mono (fun _ _ h => h.elim) |>.step hu5 (fun _ _ h => h)) (by rcases hat5 with h | ⟨b, h, h'⟩; exact .inl h; exact .inr ⟨b, h, h'⟩); have HS5 := Lib.hid hs5; clear hr5 hu5 hat5 hs5)
        go_roundg (n1 - (i + 1))
        case measure => omega
        case rel => exact ⟨i + 1, rfl, by omega, by go_num, by rw [HTK.out]; exact HS5.out⟩
      · obtain rfl : n1 = i := by omega
        obtain ⟨A4, c4, hv4, _⟩ := hs.row.slice
        subst hv4
        rw [htl] at hs ⊢
        rw [show es.take n1 = es by rw [← hel]; exact List.take_length] at hs
        have hE := HLD.out.fresh hs.hu
        have hre := hs.rd hel.symm (fun e he => hE.ents.ok e he)
        have hh : ∀ W, Unch none_ w2 W → Calls Tryz.prog 18 #[.slice A4 n1 c4] W fun e w' => ∃ v ys, e = .returned v ∧ SMid W w' v ys.length ys ∧ HeadsOf es ys := fun W hW => (heads_ok (hre.fresh hW) (by omega)).mono fun e w' ⟨v, ys, a, b, c, d⟩ => ⟨v, ys, a, b, by rw [hel]; exact c, d⟩
        have HH := Lib.hid hh
        have HE := Lib.hid hE
        have HU2 := Lib.hid (HU1.out.trans hs.hu)
        clear hs hE hre hh HLD HU1 htl
        go_wp2_with fail
        refine wp_planI (fun W => Unch none_ w2 W) [0, 1, 2, 3, 4, 5, 8] [6, 7, 9, 10, 11, 12] (by kernel_rfl) (by kernel_rfl) rfl (fun c a d v w h => by cases d <;> exact h) ((Unch.refl _ _).drew) ?_
        intro S HS _
        simp only [pickIn, List.getElem?_toArray, List.getElem?_cons_succ, List.getElem?_cons_zero]
        repeat (go_big_quiet_step (fail))
        refine wpQuiet_nil ?_
        rw [show wrap64 (65 + wrap64 ((IntKind.u64.wrap who).tmod 5)) % 256 = keyN who from rfl]
        refine free_slots2 [45, 46, 48, 49, 10] (SJ w2 es who) (fun x => .inl ⟨rfl, (Unch.refl _ _).drew, by simp, by simp, by simp, by simp, by simp⟩) ?_ ?_
        · intro D y w5 hI i hi op ho hun hdep
          obtain ⟨hd12, hpre⟩ : D 12 = false ∧ SP w2 es who D y w5 := by
            rcases hI with h | ⟨hall, _⟩
            · exact h
            · rw [hall i hi] at hun; cases hun
          simp only [List.mem_cons, List.not_mem_nil, or_false] at hi
          have hCw : ∀ w', Unch none_ w2 w' → ∃ g : In S, w' = g.w := fun w' hu => ⟨⟨w', (HS.out _).2 hu⟩, rfl⟩
          have HCw := Lib.hid hCw
          have hw45 := hpre.u
          have HPRE := Lib.hid hpre
          have HDEP := Lib.hid hdep
          have HD12 := Lib.hid hd12
          have HUN := Lib.hid hun
          clear hCw hpre hdep hd12 hun hI
          rcases hi with rfl | rfl | rfl | rfl | rfl | rfl
          · simp only [List.getElem?_toArray, List.getElem?_cons_succ, List.getElem?_cons_zero, Option.some.injEq] at ho
            subst ho
            simp only [putsF, List.foldl]
            have hs := Lib.hid HPRE.out.put6
            go_wp2_with fail
            exact ⟨HCw.out _ hs.out.u, upd y 45 (.slice (some ⟨w5.heap.size, 0, none⟩) 1 1), rfl, .inl ⟨by simpa using HD12.out, hs.out⟩⟩
          · simp only [List.getElem?_toArray, List.getElem?_cons_succ, List.getElem?_cons_zero, Option.some.injEq] at ho
            subst ho
            simp only [putsF, List.foldl]
            have k6 := HDEP.out ⟨6, .data⟩ (by simp) rfl (by simp)
            obtain ⟨g, e45, hg⟩ := HPRE.out.d6 k6
            have hs := Lib.hid (HPRE.out.put7 k6)
            have hcv := conv1 w5 g who hg
            have E45 := Lib.hid e45
            clear k6 hg
            rw [e45]
            clear e45
            go_wp2_with fail
            refine ⟨HCw.out _ hs.out.u, upd (upd y 45 (.slice (some ⟨g, 0, none⟩) 1 1)) 46 (.string (keyB who)), rfl, .inl ⟨by simpa using HD12.out, ?_⟩⟩
            rw [upd_same E45.out]
            exact hs.out
          · simp only [List.getElem?_toArray, List.getElem?_cons_succ, List.getElem?_cons_zero, Option.some.injEq] at ho
            subst ho
            simp only [putsF, List.foldl]
            go_wp2_with fail
            refine (HH.out w5 hw45).mono ?_
            rintro e w6 ⟨v, ys, rfl, hsm, hho⟩
            obtain ⟨Av, cv, rfl, _⟩ := hsm.row.slice
            have hs := Lib.hid (HPRE.out.put9 HUN.out hsm.hu (MRow.of hsm HPRE.out.u) hho)
            clear hsm hho
            go_wp2_with fail
            exact ⟨HCw.out _ hs.out.u, upd y 48 (.slice Av ys.length cv), rfl, .inl ⟨by simpa using HD12.out, hs.out⟩⟩
          · simp only [List.getElem?_toArray, List.getElem?_cons_succ, List.getElem?_cons_zero, Option.some.injEq] at ho
            subst ho
            simp only [putsF, List.foldl]
            have k7 := HDEP.out ⟨7, .data⟩ (by simp) rfl (by simp)
            have k9 := HDEP.out ⟨9, .data⟩ (by simp) rfl (by simp)
            have e46 := (HPRE.out.d7 k7).2
            obtain ⟨Av, cv, ys, e48, _, _⟩ := HPRE.out.d9 k9
            have hs := HPRE.out.put10 k7 k9 (v := .agg #[.string zzzB, .int .i64 2, .string (keyB who), .slice Av ys.length cv, .string newB]) (by rw [e48])
            have HS2 := Lib.hid hs
            have E46 := Lib.hid e46
            have E48 := Lib.hid e48
            clear k7 k9 hs
            rw [e46, e48]
            clear e46 e48
            go_wp2_with fail
            refine ⟨HCw.out _ HS2.out.u, upd (upd (upd y 46 (.string (keyB who))) 48 (.slice Av ys.length cv)) 49 (.agg #[.string zzzB, .int .i64 2, .string (keyB who), .slice Av ys.length cv, .string newB]), rfl, .inl ⟨by simpa using HD12.out, ?_⟩⟩
            rw [upd_same E46.out, upd_same E48.out]
            exact HS2.out
          · simp only [List.getElem?_toArray, List.getElem?_cons_succ, List.getElem?_cons_zero, Option.some.injEq] at ho
            subst ho
            simp only [putsF, List.foldl]
            have hs := Lib.hid HPRE.out.put11
            go_wp2_with fail
            exact ⟨HCw.out _ hs.out.u, upd y 10 (.pointer (some ⟨w5.heap.size, 0, none⟩)), rfl, .inl ⟨by simpa using HD12.out, hs.out⟩⟩
          · simp only [List.getElem?_toArray, List.getElem?_cons_succ, List.getElem?_cons_zero, Option.some.injEq] at ho
            subst ho
            simp only [putsF, List.foldl]
            have k10 := HDEP.out ⟨10, .data⟩ (by simp) rfl (by simp)
            have k11 := HDEP.out ⟨11, .data⟩ (by simp) rfl (by simp)
            obtain ⟨⟨k7, k9⟩, e49⟩ := HPRE.out.d10 k10
            have k6 := (HPRE.out.d7 k7).1
            have K : Hid (∀ i ∈ [6, 7, 9, 10, 11, 12], (decide (i = 12) || D i) = true) := fun i hi => by
              simp only [List.mem_cons, List.not_mem_nil, or_false] at hi
              rcases hi with rfl | rfl | rfl | rfl | rfl | rfl
              · rw [k6]; rfl
              · rw [k7]; rfl
              · rw [k9]; rfl
              · rw [k10]; rfl
              · rw [k11]; rfl
              · rfl
            obtain ⟨Av, cv, ys, e48, hmr, hho⟩ := HPRE.out.d9 k9
            obtain ⟨p, e10, hp4, hpz⟩ := HPRE.out.d11 k11
            rw [e48] at e49
            have BZ := Lib.hid hpz
            unfold zeroEnt at hpz
            have y0 := blk_cell hpz (j := 0) rfl
            have y1 := blk_cell hpz (j := 1) rfl
            have y2 := blk_cell hpz (j := 2) rfl
            have y3 := blk_cell hpz (j := 3) rfl
            have y4 := blk_cell hpz (j := 4) rfl
            have q0 := blk_free hpz 0
            have q1 := blk_free hpz 1
            have q2 := blk_free hpz 2
            have q3 := blk_free hpz 3
            have q4 := blk_free hpz 4
            have E10 := Lib.hid e10
            have E49 := Lib.hid e49
            have hmr2 := mrow_set (mrow_set (mrow_set (mrow_set (mrow_set hmr hpz (j := 0) (.string zzzB)) (blk_set hpz 0 (.string zzzB)) (j := 1) (.int .i64 2)) (blk_set (blk_set hpz 0 (.string zzzB)) 1 (.int .i64 2)) (j := 2) (.string (keyB who))) (blk_set (blk_set (blk_set hpz 0 (.string zzzB)) 1 (.int .i64 2)) 2 (.string (keyB who))) (j := 3) (.slice Av ys.length cv)) (blk_set (blk_set (blk_set (blk_set hpz 0 (.string zzzB)) 1 (.int .i64 2)) 2 (.string (keyB who))) 3 (.slice Av ys.length cv)) (j := 4) (.string newB)
            have HMR := Lib.hid hmr2
            have HHO := Lib.hid hho
            rw [e10, e49]
            clear k6 k7 k9 k10 k11 hpz hmr hmr2 hho e10 e49 e48
            go_wp2_with fail
            have huW : Unch (fun k => k = p) w5 (((((w5.setCell ⟨p, 0, none⟩ (.string zzzB)).setCell ⟨p, 1, none⟩ (.int .i64 2)).setCell ⟨p, 2, none⟩ (.string (keyB who))).setCell ⟨p, 3, none⟩ (.slice Av ys.length cv)).setCell ⟨p, 4, none⟩ (.string newB)) :=
              (((((Unch.refl (fun k => k = p) w5).setCell _ (fun _ => rfl)).setCell _ (fun _ => rfl)).setCell _ (fun _ => rfl)).setCell _ (fun _ => rfl)).setCell _ (fun _ => rfl)
            have hbW : (((((w5.setCell ⟨p, 0, none⟩ (.string zzzB)).setCell ⟨p, 1, none⟩ (.int .i64 2)).setCell ⟨p, 2, none⟩ (.string (keyB who))).setCell ⟨p, 3, none⟩ (.slice Av ys.length cv)).setCell ⟨p, 4, none⟩ (.string newB)).heap[p]? = some (.cells #[.string zzzB, .int .i64 2, .string (keyB who), .slice Av ys.length cv, .string newB] 35 (0, 0)) :=
              blk_set (blk_set (blk_set (blk_set (blk_set BZ.out 0 _) 1 _) 2 _) 3 _) 4 _
            have hu4 := hw45.step huW (fun i hi e => by omega)
            refine ⟨HCw.out _ hu4, upd (upd y 10 (.pointer (some ⟨p, 0, none⟩))) 49 (.agg #[.string zzzB, .int .i64 2, .string (keyB who), .slice Av ys.length cv, .string newB]), by rfl, .inr ⟨K.out, hu4, p, Av, cv, ys, by rfl, hp4, hbW, HMR.out, HHO.out⟩⟩
        · intro D y w5 hI hall
          rcases hI with ⟨hd12, _⟩ | ⟨_, hfin⟩
          · rw [hall 12 (by simp)] at hd12; cases hd12
          obtain ⟨hu25, p, Ah, ch, ys, e10, hp4, hbp, hmr, hho⟩ := hfin
          simp only [putsF, List.foldl]
          rw [e10]
          generalize y 45 = y45
          generalize y 46 = y46
          generalize y 48 = y48
          generalize y 49 = y49
          clear e10 hall
          have p1 := blk_cell hbp (j := 1) rfl
          have q1 := blk_free hbp 1
          have huS : Unch none_ w2 (w5.setCell ⟨p, 1, none⟩ (.int .i64 3)) := hu25.step (Y := fun k => k = p) ((Unch.refl _ _).setCell _ (fun _ => rfl)) (fun i hi e => by omega)
          have hbS := blk_set hbp 1 (.int .i64 3)
          have hmS := mrow_set hmr hbp (j := 1) (.int .i64 3)
          have HUS := Lib.hid huS
          have HBS := Lib.hid hbS
          have HMS := Lib.hid hmS
          clear huS hbS hmS hu25 hbp hmr
          go_upto_region 12 with fail
          have hu25 := HUS.out
          have hbp := HBS.out
          have hmr := HMS.out
          clear HUS HBS HMS p1 q1
          generalize w5.setCell ⟨p, 1, none⟩ (.int .i64 3) = w6 at *
          obtain ⟨m2, hm2⟩ : ∃ m2, ys.length = m2 := ⟨_, rfl⟩
          rw [hm2] at hbp hmr
          have hrow := hmr.row
          rw [hm2] at hrow
          have hle : m2 ≤ ch := by
            obtain ⟨_, _, heq, hle⟩ := hrow.slice
            injection heq with _ _ heq
            rw [heq]; exact hle
          obtain ⟨X, hX⟩ : ∃ X : Ent, X = ⟨zzzB, 3, keyB who, .slice Ah m2 ch, ys, newB⟩ := ⟨_, rfl⟩
          have hXv : (.agg #[.string zzzB, .int .i64 3, .string (keyB who), .slice Ah m2 ch, .string newB] : Value) = X.val := by rw [hX]; rfl
          have hXc : X.cells = [.string zzzB, .int .i64 3, .string (keyB who), .slice Ah m2 ch, .string newB] := by rw [hX]; rfl
          have hXk : X.kind = 3 := by rw [hX]
          have hXa : X.author = keyB who := by rw [hX]
          have hXb : X.body = newB := by rw [hX]
          have hXp : X.ps.length ≤ 1048576 := by
            have h1 := hho.1
            rw [hX]
            show ys.length ≤ 1048576
            omega
          have hbeh : Behind es X := hho.behind HOK.out (by omega) (by rw [hX]) (by rw [hX])
          have hcl := closed_iff.2 hbeh.cm
          have hrt := root_app hbeh HE.out.root
          have hXok : EntOk w6 X := by
            rw [hX]
            refine ⟨⟨Ah, ch, by show _ = Value.slice Ah ys.length ch; rw [hm2], by show ys.length ≤ ch; rw [hm2]; exact hle, by show RdS w6 1 StrR Ah ys.length ys; rw [hm2]; exact srow_rds hrow⟩, by show 3 ≤ maxLen; decide, by show 1 ≤ maxLen; decide, by show 3 ≤ maxLen; decide, fun s hs => ?_⟩
            obtain ⟨i, hi, _, e⟩ := (hho.2 s).1 hs
            rw [← e]
            exact Nat.le_trans (HE.out.cl.hi i hi) (by decide)
          have hpos : 0 < n1 := by have := HE.out.pos; omega
          have hmay := may_ok (c := c1) (HE.out.fresh hu25).ents hpos HE.out.hc rootB (by decide) hXok hcl hrt hXv
          obtain ⟨gB, hgB⟩ : ∃ gB, goodL (es ++ [X]) 0 n1 = gB := ⟨_, rfl⟩
          rw [hgB] at hmay
          have hlk : ∀ W B cB, Unch none_ w6 W → n1 + 1 ≤ cB → Row W 35 5 (.slice B (n1 + 1) cB) (n1 + 1) (ecells es ++ [.string zzzB, .int .i64 3, .string (keyB who), .slice Ah m2 ch, .string newB]) → Calls Tryz.prog 11 #[.string ⟨#[114, 111, 111, 116]⟩, .slice B (n1 + 1) cB] W fun e w' => ∃ v, e = .returned v ∧ LooksP (es ++ [X]) 0 W v w' := fun W B cB hW hc2 hR => by
            have hEW := HE.out.fresh (hu25.trans hW)
            refine lookP (ents_row (c := cB) (by rw [ecells_app, hXc]; exact hR) (by rw [Behind.len, hel]) (fun e he => ?_)) hc2 hcl hrt (fun e he => ?_)
            · rcases List.mem_append.1 he with h1 | h1
              · exact hEW.ents.ok e h1
              · rw [List.mem_singleton.1 h1]; exact hXok.fresh hW
            · rcases List.mem_append.1 he with h1 | h1
              · exact HPS.out e h1
              · rw [List.mem_singleton.1 h1]; exact hXp
          have HMAY := Lib.hid hmay
          have HLK := Lib.hid hlk
          have HGB := Lib.hid hgB
          have HBEH := Lib.hid hbeh
          have HXK := Lib.hid hXk
          have HXA := Lib.hid hXa
          have HXB := Lib.hid hXb
          have HBP := Lib.hid hbp
          have HU6 := Lib.hid (HU2.out.trans hu25)
          have HU26 := Lib.hid hu25
          have p0 := blk_cell hbp (j := 0) rfl
          have p1 := blk_cell hbp (j := 1) rfl
          have p2 := blk_cell hbp (j := 2) rfl
          have p3 := blk_cell hbp (j := 3) rfl
          have p4 := blk_cell hbp (j := 4) rfl
          clear hm2 hX hXv hXc hXk hXa hXb hXp hbeh hcl hrt hXok hmay hgB hlk hbp hmr hrow hu25 hho HH
          go_wp2_with fail
          refine HMAY.out.mono ?_
          rintro e w7 ⟨rfl, hu7⟩
          have HU7 := Lib.hid (HU6.out.trans hu7)
          have HU67 := Lib.hid hu7
          have hb7 := hu7.heap HBP.out (fun h => h)
          have HB7 := Lib.hid hb7
          clear p0 p1 p2 p3 p4 hu7
          cases gB with
          | false =>
            clear hb7
            go_wp2_with fail
            refine (awake16_ok w7).mono ?_
            rintro e w8 ⟨rfl, hu8⟩
            go_wp2
            go_ret
            exact ⟨rfl, HU7.out.trans hu8⟩
          | true =>
            have p0 := blk_cell hb7 (j := 0) rfl
            have p1 := blk_cell hb7 (j := 1) rfl
            have p2 := blk_cell hb7 (j := 2) rfl
            have p3 := blk_cell hb7 (j := 3) rfl
            have p4 := blk_cell hb7 (j := 4) rfl
            have hone : ∀ u ∈ [Value.string zzzB, .int .i64 3, .string (keyB who), .slice Ah m2 ch, .string newB], u.oneCell' = true := by
              intro u hu
              simp only [List.mem_cons, List.not_mem_nil, or_false] at hu
              rcases hu with rfl | rfl | rfl | rfl | rfl <;> rfl
            have HONE := Lib.hid hone
            have HECL := Lib.hid (show (ecells es).length = n1 * 5 by rw [ecells_len, hel])
            have HEC1 := Lib.hid HE.out.ents.one.cells
            have hnews : ∀ W, Unch none_ w7 W → 0 < n1 → ∃ ad, A1 = some ad ∧ ∀ j u, (ecells es)[j]? = some u → W.cell? (ad.add j) = some u := fun W hW h0 => by
              obtain ⟨ad, hA, hr⟩ := HE.out.ents.place h0
              exact ⟨ad, hA, fun j u hu => ((HU26.out.trans HU67.out).trans hW).cell (rds_news hr hu) (fun h => h)⟩
            have HNEWS := Lib.hid hnews
            clear hb7 hone hnews
            go_wp2_with fail
            refine wp_planI (fun W => Unch none_ w7 W) [1, 3] [0, 2, 4, 5, 6, 7, 8] (by kernel_rfl) (by kernel_rfl) rfl (fun c a d v w h => by cases d <;> exact h) ((Unch.refl _ _).drew) ?_
            intro S HS _
            have f0 : ∀ G2 : In S, G2.w.cell? ⟨p, 0, none⟩ = some (.string zzzB) := fun G2 => ((HS.out _).1 G2.h).cell p0 (fun h => h)
            have f1 : ∀ G2 : In S, G2.w.cell? ⟨p, 1, none⟩ = some (.int .i64 3) := fun G2 => ((HS.out _).1 G2.h).cell p1 (fun h => h)
            have f2 : ∀ G2 : In S, G2.w.cell? ⟨p, 2, none⟩ = some (.string (keyB who)) := fun G2 => ((HS.out _).1 G2.h).cell p2 (fun h => h)
            have f3 : ∀ G2 : In S, G2.w.cell? ⟨p, 3, none⟩ = some (.slice Ah m2 ch) := fun G2 => ((HS.out _).1 G2.h).cell p3 (fun h => h)
            have f4 : ∀ G2 : In S, G2.w.cell? ⟨p, 4, none⟩ = some (.string newB) := fun G2 => ((HS.out _).1 G2.h).cell p4 (fun h => h)
            simp only [pickIn, List.getElem?_toArray, List.getElem?_cons_succ, List.getElem?_cons_zero]
            repeat (go_big_quiet_step (fail))
            refine wpQuiet_nil ?_
            clear f0 f1 f2 f3 f4 p0 p1 p2 p3 p4
            refine free_slots2 [57, 59, 61, 62, 63, 11] (SKI w7 n1 es [.string zzzB, .int .i64 3, .string (keyB who), .slice Ah m2 ch, .string newB] (es ++ [X])) (fun x => .inl ⟨rfl, SK.start ((Unch.refl _ _).drew)⟩) ?_ ?_
            · intro D y w8 hI i hi op ho hun hdep
              obtain ⟨hd8, hI⟩ : D 8 = false ∧ SK w7 n1 es [.string zzzB, .int .i64 3, .string (keyB who), .slice Ah m2 ch, .string newB] (es ++ [X]) D y w8 := by
                rcases hI with h | ⟨hall, _⟩
                · exact h
                · rw [hall i hi] at hun; cases hun
              simp only [List.mem_cons, List.not_mem_nil, or_false] at hi
              have hCw : ∀ w', Unch none_ w7 w' → ∃ g : In S, w' = g.w := fun w' hu => ⟨⟨w', (HS.out _).2 hu⟩, rfl⟩
              have HCw := Lib.hid hCw
              have HI := Lib.hid hI
              have HDEP := Lib.hid hdep
              have HD8 := Lib.hid hd8
              have HUN := Lib.hid hun
              clear hCw hI hdep hun hd8
              rcases hi with rfl | rfl | rfl | rfl | rfl | rfl | rfl
              · simp only [List.getElem?_toArray, List.getElem?_cons_succ, List.getElem?_cons_zero, Option.some.injEq] at ho
                subst ho
                simp only [putsF, List.foldl]
                have ha := (Unch.refl none_ w8).alloc (.cells #[] 35)
                have hs := Lib.hid (HI.out.of (w2 := w8.alloc (.cells #[] 35)) (i := 0) (s := 57) (by decide) (by decide) (fun h => by cases h) (fun h => by cases h) (fun _ => ha) (fun g hg => ha.heap hg (fun h => h)) (HI.out.ap.put0 apn14))
                clear ha
                go_wp2_with fail
                exact ⟨HCw.out _ hs.out.ap.u, upd y 57 (.slice (some ⟨w8.heap.size, 0, none⟩) 0 0), rfl, .inl ⟨by simpa using HD8.out, hs.out⟩⟩
              · simp only [List.getElem?_toArray, List.getElem?_cons_succ, List.getElem?_cons_zero, Option.some.injEq] at ho
                subst ho
                simp only [putsF, List.foldl]
                have k0 := HDEP.out ⟨0, .data⟩ (by simp) rfl (by simp)
                have k5 : D 5 = false := by
                  cases h5 : D 5 with
                  | false => rfl
                  | true => have := HI.out.ap.e5 h5; rw [HUN.out] at this; cases this
                have k6 : D 6 = true → False := fun h6 => by have := HI.out.e6 h6; rw [k5] at this; cases this
                obtain ⟨g, e0, hgl, hg⟩ := HI.out.ap.d0 k5 HUN.out k0
                have HK0 := Lib.hid k0
                have HK5 := Lib.hid k5
                have HK6 := Lib.hid k6
                have E0 := Lib.hid e0
                have HG := Lib.hid hg
                have HN8 := Lib.hid (HNEWS.out w8 HI.out.ap.u)
                clear k0 k5 k6 e0 hg
                go_wp2_with (at_builtin; refine wpList_append_any w8 rfl (.tmp 57) (.tmp 58) 23 35 _ 5 80 rfl Tryz.underlying23 info_ent rfl (by omega) (.slice (some ⟨g, 0, none⟩) 0 0) 0 [] (by exact E0.out) (empty_row HG.out) A1 n1 c1 (ecells es) (by rfl) HECL.out HN8.out HEC1.out (by simp only [maxLen]; omega) (by omega) ?_; intro B cB' w9 hcB' hr hu hat; rw [Nat.zero_add] at hr hat hcB'; rw [List.nil_append] at hr; rw [Nat.zero_add]; have hz := zv_ne (empty_row (sz := 5) HG.out) hu; have hp := HI.out.ap.put2 apn14 HK5.out (Nat.zero_lt_succ 4) HG.out hgl hr (hu.mono (fun k _ e => by injection e with e; exact e.symm)) (fun b hb => by rcases hat b hb with h1 | h1; (injection h1 with h1; subst h1; exact hgl); (exact Nat.le_trans HI.out.ap.u.size h1)); have hs := HI.out.of (by decide) (by decide) (fun h => by cases h) (fun _ => HK0.out) (fun h6 => (HK6.out h6).elim) hz hp; have HS6 := Lib.hid hs; clear hr hu hat hp hs hz)
                exact ⟨HCw.out _ HS6.out.ap.u, upd y 59 (.slice B n1 cB'), rfl, .inl ⟨by simpa using HD8.out, HS6.out⟩⟩
              · simp only [List.getElem?_toArray, List.getElem?_cons_succ, List.getElem?_cons_zero, Option.some.injEq] at ho
                subst ho
                simp only [putsF, List.foldl]
                have ha := (Unch.refl none_ w8).alloc (.cells #[.string zzzB, .int .i64 3, .string (keyB who), .slice Ah m2 ch, .string newB] 35)
                have hs := Lib.hid (HI.out.of (w2 := w8.alloc (.cells #[.string zzzB, .int .i64 3, .string (keyB who), .slice Ah m2 ch, .string newB] 35)) (i := 4) (s := 61) (by decide) (by decide) (fun h => by cases h) (fun h => by cases h) (fun _ => ha) (fun g hg => ha.heap hg (fun h => h)) (HI.out.ap.put4 apn14))
                clear ha
                go_wp2_with fail
                exact ⟨HCw.out _ hs.out.ap.u, upd y 61 (.slice (some ⟨w8.heap.size, 0, none⟩) 1 1), rfl, .inl ⟨by simpa using HD8.out, hs.out⟩⟩
              · simp only [List.getElem?_toArray, List.getElem?_cons_succ, List.getElem?_cons_zero, Option.some.injEq] at ho
                subst ho
                simp only [putsF, List.foldl]
                have k2 := HDEP.out ⟨2, .data⟩ (by simp) rfl (by simp)
                have k4 := HDEP.out ⟨4, .data⟩ (by simp) rfl (by simp)
                have k6 : D 6 = true → False := fun h6 => by have := HI.out.e6 h6; rw [HUN.out] at this; cases this
                obtain ⟨B, cB', e2, hr2, hown⟩ := HI.out.ap.d2 HUN.out k2
                obtain ⟨g4, e4, _, hg4⟩ := HI.out.ap.d4 HUN.out k4
                have HK2 := Lib.hid k2
                have HK4 := Lib.hid k4
                have HK6 := Lib.hid k6
                have E2 := Lib.hid e2
                have E4 := Lib.hid e4
                have HR2 := Lib.hid hr2
                have HOWN := Lib.hid hown
                have HG4 := Lib.hid hg4
                clear k2 k4 k6 e2 e4 hr2 hown hg4
                go_wp2_with (at_builtin; refine wpList_append_any w8 rfl (.tmp 59) (.tmp 61) 23 35 _ 5 80 rfl Tryz.underlying23 info_ent rfl (by omega) (.slice B n1 cB') n1 (ecells es) (by exact E2.out) HR2.out (some ⟨g4, 0, none⟩) 1 1 [.string zzzB, .int .i64 3, .string (keyB who), .slice Ah m2 ch, .string newB] (by exact E4.out) rfl (fun _ => ⟨_, rfl, World.news_of_block HG4.out⟩) HONE.out (by simp only [maxLen]; omega) (by omega) ?_; intro B2 cB2 w9 hcB2 hr hu hat; have hz := zv_ne HR2.out hu; have hp := HI.out.ap.put5 (by decide) HK2.out HOWN.out hcB2 hr hu; have hs := HI.out.of (by decide) (by decide) (fun _ => HK4.out) (fun h => by cases h) (fun h6 => (HK6.out h6).elim) hz hp; have HS6 := Lib.hid hs; clear hr hu hat hp hs hz)
                exact ⟨HCw.out _ HS6.out.ap.u, upd y 62 (.slice B2 (n1 + 1) cB2), rfl, .inl ⟨by simpa using HD8.out, HS6.out⟩⟩
              · simp only [List.getElem?_toArray, List.getElem?_cons_succ, List.getElem?_cons_zero, Option.some.injEq] at ho
                subst ho
                simp only [putsF, List.foldl]
                have k5 := HDEP.out ⟨5, .data⟩ (by simp) rfl (by simp)
                obtain ⟨B, cB', e5, hcB', hr5⟩ := HI.out.ap.d5 k5
                have hl := HLK.out w8 B cB' (HU67.out.trans HI.out.ap.u) hcB' hr5
                rw [← e5] at hl
                have HL := Lib.hid hl
                have HK5 := Lib.hid k5
                clear k5 e5 hr5 hl
                go_wp2_with fail
                refine HL.out.mono ?_
                rintro e w9 ⟨v, rfl, nm, tp, L, ps, hv⟩
                have hs := Lib.hid (HI.out.call HK5.out hv.hu ⟨nm, tp, L, ps, hv.is, hv.lies⟩)
                clear hv
                go_wp2_with fail
                exact ⟨HCw.out _ hs.out.ap.u, upd y 63 v, rfl, .inl ⟨by simpa using HD8.out, hs.out⟩⟩
              · simp only [List.getElem?_toArray, List.getElem?_cons_succ, List.getElem?_cons_zero, Option.some.injEq] at ho
                subst ho
                simp only [putsF, List.foldl]
                have hs := Lib.hid HI.out.box
                go_wp2_with fail
                exact ⟨HCw.out _ hs.out.ap.u, upd y 11 (.pointer (some ⟨w8.heap.size, 0, none⟩)), rfl, .inl ⟨by simpa using HD8.out, hs.out⟩⟩
              · simp only [List.getElem?_toArray, List.getElem?_cons_succ, List.getElem?_cons_zero, Option.some.injEq] at ho
                subst ho
                simp only [putsF, List.foldl]
                have k6 := HDEP.out ⟨6, .data⟩ (by simp) rfl (by simp)
                have k7 := HDEP.out ⟨7, .data⟩ (by simp) rfl (by simp)
                have k5 := HI.out.e6 k6
                have k4 := HI.out.e5 k5
                have k2 := HI.out.ap.e5 k5
                have k0 := HI.out.e2 k2
                have K : Hid (∀ i ∈ [0, 2, 4, 5, 6, 7, 8], (decide (i = 8) || D i) = true) := fun i hi => by
                  simp only [List.mem_cons, List.not_mem_nil, or_false] at hi
                  rcases hi with rfl | rfl | rfl | rfl | rfl | rfl | rfl
                  · rw [k0]; rfl
                  · rw [k2]; rfl
                  · rw [k4]; rfl
                  · rw [k5]; rfl
                  · rw [k6]; rfl
                  · rw [k7]; rfl
                  · rfl
                obtain ⟨nm, tp, L, ps, his, hvl⟩ := HI.out.d6 k6
                obtain ⟨Am, cm, Pp, dp, e63, hrd, hrp⟩ := hvl.ex
                obtain ⟨g, e11, hgl, hgz⟩ := HI.out.d7 k7
                have HIS := Lib.hid his
                have BZ := Lib.hid hgz
                have E63 := Lib.hid e63
                have E11 := Lib.hid e11
                have HRP := Lib.hid hrp
                have HU8 := Lib.hid HI.out.ap.u
                unfold zeroView at hgz
                have y0 := blk_cell hgz (j := 0) rfl
                have y1 := blk_cell hgz (j := 1) rfl
                have y2 := blk_cell hgz (j := 2) rfl
                have y3 := blk_cell hgz (j := 3) rfl
                have q0 := blk_free hgz 0
                have q1 := blk_free hgz 1
                have q2 := blk_free hgz 2
                have q3 := blk_free hgz 3
                rw [e63, e11]
                clear k0 k2 k4 k5 k6 k7 his hvl hrd hrp e63 e11 hgz
                go_wp2_with fail
                have huW : Unch (fun k => k = g) w8 ((((w8.setCell ⟨g, 0, none⟩ (.string nm)).setCell ⟨g, 1, none⟩ (.string tp)).setCell ⟨g, 2, none⟩ (.slice Am L.length cm)).setCell ⟨g, 3, none⟩ (.slice Pp ps.length dp)) :=
                  ((((Unch.refl (fun k => k = g) w8).setCell _ (fun _ => rfl)).setCell _ (fun _ => rfl)).setCell _ (fun _ => rfl)).setCell _ (fun _ => rfl)
                have hbW := blk_set (blk_set (blk_set (blk_set BZ.out 0 (.string nm)) 1 (.string tp)) 2 (.slice Am L.length cm)) 3 (.slice Pp ps.length dp)
                have hu9 := HU8.out.step huW (fun i hi e => by omega)
                refine ⟨HCw.out _ hu9, upd (upd y 63 (.agg #[.string nm, .string tp, .slice Am L.length cm, .slice Pp ps.length dp])) 11 (.pointer (some ⟨g, 0, none⟩)), by rfl, .inr ⟨K.out, hu9, g, nm, tp, L, ps, Am, cm, Pp, dp, upd_at, HIS.out, hbW, HRP.out.unch huW (fun j hj e => said_ne HRP.out BZ.out hj e)⟩⟩
            · intro D y w8 hI hall
              rcases hI with ⟨hd8, _⟩ | ⟨_, hfin⟩
              · rw [hall 8 (by simp)] at hd8; cases hd8
              obtain ⟨hu8, g, nm, tp, L, ps, Am, cm, Pp, dp, e11, his, hbg, hrp⟩ := hfin
              simp only [putsF, List.foldl]
              rw [e11]
              generalize y 57 = y57
              generalize y 59 = y59
              generalize y 61 = y61
              generalize y 62 = y62
              generalize y 63 = y63
              clear e11 hall
              have HU8 := Lib.hid (HU7.out.trans hu8)
              have hpe := hu8.heap HB7.out (fun h => h)
              have hg0 := HGB.out
              rw [← hel] at hg0
              obtain rfl := says_topic HBEH.out HE.out.pos (rootN_some HE.out.root).2.2 HXK.out hg0 his
              rw [HXB.out] at hbg
              have v1 : w8.cell? ⟨g, 1, none⟩ = some (.string ⟨#[110, 101, 119]⟩) := blk_cell hbg (j := 1) rfl
              clear hu8 hpe hg0 his hbg hrp HBP HB7
              go_wp2_with fail
              refine (awake16_ok w8).mono ?_
              rintro e w9 ⟨rfl, hu9⟩
              go_wp2
              go_ret
              exact ⟨rfl, HU8.out.trans hu9⟩
  · rw [decide_eq_false hn] at hfew
    have HF := Lib.hid hfew
    clear hs h hfew hmax
    go_enter Tryz.func7, Tryz.ntmps7
    go_wp2_with fail
    refine HF.out.mono ?_
    rintro e w0 ⟨rfl, rfl⟩
    go_wp2_with fail
    refine (awake16_ok w).mono ?_
    rintro e w6 ⟨rfl, hu6⟩
    go_wp2
    go_ret
    exact ⟨rfl, hu6⟩
end Go.Proofs.YtgalnnmeamldhaaGreat
