/-
  RoomTurned.
-/
import Derived.Test.YtgalnnmeamldhaaGreatCSB
import Derived.Test.YtgalnnmeamldhaaGreatCLV1
/- RoomTurned. -/
set_option linter.unusedVariables false
set_option linter.unusedSimpArgs false
namespace Go.Proofs.YtgalnnmeamldhaaGreat
open Go Go.RowKit Go.Proofs.YtgalnnmeamldhaaGreat.Pal Go.Proofs.YtgalnnmeamldhaaGreat.Plan

theorem OrdP.sur {es : List Ent} (hC : Closed es) {ys : List ByteArray} (h : OrdP es ys) (hl : ys.length = es.length) : ∀ j, j < es.length → ∃ k, k < (mE es ys).length ∧ ixO es ys k = j := fun j hj => by
  have hm := h.all hC hl hj
  obtain ⟨k, hk⟩ := List.mem_iff_getElem?.1 hm
  have hkl := (List.getElem?_eq_some_iff.1 hk).1
  refine ⟨k, by rw [mE_len]; exact hkl, ?_⟩
  unfold ixO ixE
  rw [List.getD_eq_getElem?_getD, hk]
  show (findN es (ent es j).id).getD 0 = j
  rw [hC.find hj]
  rfl
theorem turned_view {es em : List Ent} {r' : Nat} {σ : Nat → Nat} (h : MSub (goodS es 0) (goodS em r') σ) (hs : ∀ j, j < es.length → ∃ k, k < em.length ∧ σ k = j) (hl : em.length = es.length) {nm tp : ByteArray} {L : List ByteArray} {ps : List (ByteArray × ByteArray)} (hv : IsView em r' nm tp L ps) : IsView es 0 nm tp L ps := by
  obtain ⟨a, b, ys, o1, o2, o3, o4⟩ := hv
  have hS : Sub es em σ := h.sub
  have hr : r' < em.length := h.r
  have e : σ r' = 0 := h.rr
  refine ⟨?_, h.memL b, ys, hS.ordP hs o1, hS.leastP hs o2, by rw [o3, hl], ?_⟩
  · rw [a, hS.same r' hr, e]
  · rw [← o4]
    exact (hS.view (fun i hi => h.holding hi) o1.sub).symm
set_option maxRecDepth 100000 in
set_option maxHeartbeats 2000000 in
theorem roomTurned_walk (A : Option Addr) (n c : Nat) (l : List Say) (w : World) (h : RdS w 5 (SayRW w) A n l) (hc : n ≤ c) :
    Calls Tryz.prog 4 #[.slice A n c] w fun e w' => e = .returned (.bool true) ∧ Unch none_ w w' := by
  have hs := says_of h
  have hmax := h.max
  have hfew := few16_ok (w := w) (A := A) (c := c) hmax
  by_cases hn : n ≤ 24
  · rw [decide_eq_true hn] at hfew
    have HF := Lib.hid hfew
    have HL := Lib.hid (laidX (c := c) hs (Nat.le_refl n) (by omega) (.inl rfl))
    clear hs h hfew hmax
    go_enter Tryz.func4, Tryz.ntmps4
    go_wp2_with fail
    refine HF.out.mono ?_
    rintro e w0 ⟨rfl, rfl⟩
    go_wp2_with fail
    refine HL.out.mono ?_
    rintro e w1 ⟨A1, n1, c1, es, rfl, hld, hok, hn1, hu1⟩
    have HPS := Lib.hid hok.hps
    have hn25 : n1 ≤ 25 := by omega
    clear hok hn1
    have HLD := Lib.hid hld
    have HU1 := Lib.hid hu1
    clear hld hu1 HF HL
    go_wp2_with fail
    go_loopg [4, 5] n1 (fun gk v4 i5 wr => ∃ i : Nat, gk = n1 - i ∧ i ≤ n1 ∧ i5 = .int .i64 (i : Int) ∧ RMid w1 wr v4 (es.take i))
    case atStart => exact ⟨0, rfl, Nat.zero_le _, rfl, Unch.refl _ _, (fun b hb => by cases hb), Row.nil _ _ _⟩
    case round =>
      obtain ⟨i, rfl, hi, rfl, hs⟩ := hrel
      obtain ⟨w2, rfl⟩ : ∃ w2, w2 = wr := ⟨_, rfl⟩
      have hel : es.length = n1 := HLD.out.len
      have htl : (es.take i).length = i := ent_len i n1 hel.symm hi
      by_cases hin : i < n1
      · have hil : i < es.length := by rw [hel]; exact hin
        have z0 : (0 : Int) ≤ (i : Int) := by omega
        have z1 : (i : Int) < (n1 : Int) := by omega
        have h2 := HLD.out.ents.fresh hs.hu
        obtain ⟨b, o, rfl, _, x0, x1, x2, x3, x4⟩ := h2.at (ent_get hil)
        obtain ⟨A2, c2, hpv, _, _⟩ := (h2.ok _ (List.mem_of_getElem? (ent_get hil))).ps
        obtain ⟨m2, hm2⟩ : ∃ m2, (ent es i).ps.length = m2 := ⟨_, rfl⟩
        rw [hpv, hm2] at x3
        have hcells : (ent es i).rcells = [.string (ent es i).id, .slice A2 m2 c2] := by unfold Ent.rcells; rw [hpv, hm2]
        have HCE := Lib.hid hcells
        have HSS := Lib.hid hs
        have HTK := Lib.hid (take_ent hil)
        have hrow := hs.row
        rw [htl] at hrow
        have hd2 : Unch none_ w2 w2.drew := (Unch.refl none_ w2).drew
        have HROW := Lib.hid (hrow.unch hd2 (fun _ _ h => h))
        have HD2 := Lib.hid hd2
        have hone : ∀ u ∈ [Value.string (ent es i).id, .slice A2 m2 c2], u.oneCell' = true := by
          intro u hu
          simp only [List.mem_cons, List.not_mem_nil, or_false] at hu
          rcases hu with rfl | rfl <;> rfl
        have HONE := Lib.hid hone
        clear hs h2 x1 x2 x4 hpv hm2 hcells hrow hone
        go_upto_region 8 with fail
        refine wp_planP (fun W => Unch none_ w2 W) [0] [1, 2, 3, 4, 5, 6, 7, 8, 9, 10, 11] [12, 13, 14] 0 (by kernel_rfl) (by kernel_rfl) rfl rfl rfl (fun c a d v w h => by cases d <;> exact h) ((Unch.refl _ _).drew) ?_
        intro S S0 HS _ _
        simp only [pickIn, List.getElem?_toArray, List.getElem?_cons_succ, List.getElem?_cons_zero]
        repeat (go_big_quiet_step (fail))
        refine wpQuiet_nil ?_
        have f0 : ∀ G2 : In S, G2.w.cell? ⟨b, o + i * 5, none⟩ = some (.string (ent es i).id) := fun G2 => ((HS.out _).1 G2.h).cell x0 (fun h => h)
        have f3 : ∀ G2 : In S, G2.w.cell? ⟨b, o + i * 5 + 3, none⟩ = some (.slice A2 m2 c2) := fun G2 => ((HS.out _).1 G2.h).cell x3 (fun h => h)
        repeat (go_big_quiet_step (fail))
        refine wpQuiet_nil ?_
        clear f0 f3 x0 x3
        refine tail_all ?_
        go_wp2_with (at_builtin; refine wpList_append1 w2.drew rfl (.tmp 21) (.tmp 33) 33 37 _ 2 40 rfl Tryz.underlying33 info_rent rfl (by omega) u4 i (rcells (es.take i)) (by rfl) HROW.out [.string (ent es i).id, .slice A2 m2 c2] rfl HONE.out (by rfl) (by simp only [maxLen]; omega) (by omega) ?_; intro v5 w5 hr5 hu5 hat5; have hs5 := HSS.out.app (e := ent es i) (v2 := v5) (w2 := w5) (by rw [htl, HCE.out]; exact hr5) (HD2.out.mono (fun _ _ h => h.elim) |>.step hu5 (fun _ _ h => h)) (by rcases hat5 with h | ⟨b, h, h'⟩; exact .inl h; exact .inr ⟨b, h, h'⟩); have HS5 := Lib.hid hs5; clear hr5 hu5 hat5 hs5)
        go_roundg (n1 - (i + 1))
        case measure => omega
        case rel => exact ⟨i + 1, rfl, by omega, by go_num, by rw [HTK.out]; exact HS5.out⟩
      · obtain rfl : n1 = i := by omega
        obtain ⟨A4, c4, hv4, _⟩ := hs.row.slice
        subst hv4
        rw [htl] at hs ⊢
        rw [show es.take n1 = es by rw [← hel]; exact List.take_length] at hs
        have hE := HLD.out.fresh hs.hu
        have hre := hs.rd hel.symm (fun e he => hE.ents.ok e he)
        have HO := Lib.hid (order_ok (c := c4) hre hE.cl)
        have HE := Lib.hid hE
        have HU2 := Lib.hid (HU1.out.trans hs.hu)
        clear hs hE hre HLD HU1 htl
        go_wp2_with fail
        refine HO.out.mono ?_
        rintro e w3 ⟨v6, ys, rfl, hord, hyl, hsm, _⟩
        obtain ⟨A6, c6, hv6, hc6⟩ := hsm.row.slice
        subst hv6
        rw [hyl, hel] at hsm hc6 ⊢
        have HYS := Lib.hid (srow_rds hsm.row)
        have HE3 := Lib.hid (HE.out.fresh hsm.hu)
        have HU3 := Lib.hid (HU2.out.trans hsm.hu)
        have hml : (mE es ys).length = n1 := by rw [mE_len, hyl, hel]
        have HSUR := Lib.hid (hord.sur HE.out.cl hyl)
        obtain ⟨r', hr', hsub⟩ := turned HE.out.cl hord hyl HE.out.pos (rootN_some HE.out.root).2.2
        rw [(rootN_some HE.out.root).2.1] at hr'
        have HORD := Lib.hid hord
        have HRR := Lib.hid hr'
        have HSUB := Lib.hid hsub
        have HYL := Lib.hid (hyl.trans hel)
        have HML := Lib.hid hml
        have n3 := HE.out.n3
        clear hord hyl hsm hr' hsub hml HO HE HU2
        go_wp2_with fail
        go_loopg [7, 8] n1 (fun gk v7 i8 wr => ∃ i : Nat, gk = n1 - i ∧ i ≤ n1 ∧ i8 = .int .i64 (i : Int) ∧ EMid w3 wr v7 ((mE es ys).take i))
        case atStart => exact ⟨0, rfl, Nat.zero_le _, rfl, Unch.refl _ _, (fun b hb => by cases hb), Row.nil _ _ _⟩
        case round =>
          obtain ⟨i, rfl, hi, rfl, hs⟩ := hrel
          obtain ⟨w4, rfl⟩ : ∃ w4, w4 = wr := ⟨_, rfl⟩
          have htl : ((mE es ys).take i).length = i := ent_len i n1 HML.out.symm hi
          by_cases hin : i < n1
          · have z0 : (0 : Int) ≤ (i : Int) := by omega
            have z1 : (i : Int) < (n1 : Int) := by omega
            have hiy : i < ys.length := by rw [HYL.out]; exact hin
            have hys := getD_of hiy
            obtain ⟨sI, hsI⟩ : ∃ sI, ys.getD i ByteArray.empty = sI := ⟨_, rfl⟩
            obtain ⟨x, hx⟩ : ∃ x, ixO es ys i = x := ⟨_, rfl⟩
            have hix := HORD.out.ix HE3.out.cl (List.mem_of_getElem? hys)
            have hxe : ixE es (ys.getD i ByteArray.empty) = x := hx
            rw [hxe] at hix
            rw [hsI] at hys hix
            have hme := mE_ent (es := es) hiy
            rw [hx] at hme
            have htk := take_ent (es := mE es ys) (i := i) (by rw [HML.out]; exact hin)
            rw [hme] at htk
            have hE4 := HE3.out.ents.fresh hs.hu
            have hxl := hix.2.1
            have zx0 : (0 : Int) ≤ (x : Int) := by omega
            have zx1 : (x : Int) < (n1 : Int) := by have := HE3.out.len; omega
            have hfo := find_ok hE4 HE3.out.hc sI
            rw [hix.1] at hfo
            obtain ⟨b, o, rfl, _, x0, x1, x2, x3, x4⟩ := hE4.at (ent_get hxl)
            obtain ⟨A2, c2, hpv, _, _⟩ := (hE4.ok _ (List.mem_of_getElem? (ent_get hxl))).ps
            obtain ⟨m2, hm2⟩ : ∃ m2, (ent es x).ps.length = m2 := ⟨_, rfl⟩
            rw [hpv, hm2] at x3
            have hcells : (ent es x).cells = [.string (ent es x).id, .int .i64 (ent es x).kind, .string (ent es x).author, .slice A2 m2 c2, .string (ent es x).body] := by unfold Ent.cells; rw [hpv, hm2]
            obtain ⟨bY, oY, rfl, _, yy⟩ := RdS.str (RdS.fresh HYS.out hs.hu) hys
            have hone : ∀ u ∈ [Value.string (ent es x).id, .int .i64 (ent es x).kind, .string (ent es x).author, .slice A2 m2 c2, .string (ent es x).body], u.oneCell' = true := by
              intro u hu
              simp only [List.mem_cons, List.not_mem_nil, or_false] at hu
              rcases hu with rfl | rfl | rfl | rfl | rfl <;> rfl
            have HONE := Lib.hid hone
            have HCE := Lib.hid hcells
            have HSS := Lib.hid hs
            have HTK := Lib.hid htk
            have HFO := Lib.hid hfo
            have hrow := hs.row
            rw [htl] at hrow
            have HROW := Lib.hid hrow
            clear hone hcells hs htk hfo hrow hpv hm2 hys hix hme hE4 hsI hx hxe
            simp only [optI] at HFO
            go_wp2_with fail
            refine HFO.out.mono ?_
            rintro e w5 ⟨rfl, rfl⟩
            go_wp2_with (at_builtin; refine wpList_append1 w4 rfl (.tmp 43) (.tmp 53) 23 35 _ 5 80 rfl Tryz.underlying23 info_ent rfl (by omega) u7 i (ecells ((mE es ys).take i)) (by rfl) HROW.out [.string (ent es x).id, .int .i64 (ent es x).kind, .string (ent es x).author, .slice A2 m2 c2, .string (ent es x).body] rfl HONE.out (by rfl) (by simp only [maxLen]; omega) (by omega) ?_; intro v5 w5 hr5 hu5 hat5; have hs5 := HSS.out.app (e := ent es x) (v2 := v5) (w2 := w5) (by rw [htl, HCE.out]; exact hr5) hu5 hat5; have HS5 := Lib.hid hs5; clear hr5 hu5 hat5 hs5)
            go_roundg (n1 - (i + 1))
            case measure => omega
            case rel => exact ⟨i + 1, rfl, by omega, by go_num, by rw [HTK.out]; exact HS5.out⟩
          · obtain rfl : n1 = i := by omega
            obtain ⟨A7, c7, hv7, hc7⟩ := hs.row.slice
            subst hv7
            rw [htl] at hs hc7 ⊢
            rw [show (mE es ys).take n1 = mE es ys by rw [← HML.out]; exact List.take_length] at hs
            have hE4 := HE3.out.fresh hs.hu
            have hEm := hs.rd HML.out.symm (fun e he => by
              obtain ⟨s, hs', rfl⟩ := List.mem_map.1 he
              exact hE4.ents.ok _ (List.mem_of_getElem? (ent_get (HORD.out.ix hE4.cl hs').2.1)))
            obtain ⟨em, hem⟩ : ∃ em, mE es ys = em := ⟨_, rfl⟩
            rw [hem] at hEm HRR HSUB HML HSUR
            have hclm := closed_iff.2 HSUB.out.sub.cm
            have HML2 := Lib.hid (show em.length = es.length by rw [HML.out, hE4.len])
            have HEM := Lib.hid hEm
            have HCM := Lib.hid hclm
            have HE4 := Lib.hid hE4
            have HU4 := Lib.hid (HU3.out.trans hs.hu)
            have HK1 := Lib.hid (lookP hE4.ents hE4.hc hE4.clB hE4.root HPS.out)
            have HPSM : Hid (∀ e ∈ em, e.ps.length ≤ 1048576) := Lib.hid (fun e he => by
              rw [← hem] at he
              obtain ⟨s, hs', rfl⟩ := List.mem_map.1 he
              have hix := (HORD.out.ix hE4.cl hs').2.1
              exact HPS.out (ent es (ixE es s)) (List.mem_of_getElem? (ent_get hix)))
            clear hs hE4 hEm hclm htl HE3 HU3 HYS hem
            go_wp2_with fail
            refine HK1.out.mono ?_
            rintro e w5 ⟨v1, rfl, nm, tp, L, ps, hk1⟩
            have HKA := Lib.hid hk1
            have HK2 := Lib.hid (lookP (HEM.out.fresh hk1.hu) hc7 HCM.out HRR.out HPSM.out)
            clear hk1 HK1
            go_wp2_with fail
            refine HK2.out.mono ?_
            rintro e w6 ⟨v2, rfl, nm', tp', L', ps', hk2⟩
            obtain ⟨rfl, rfl, rfl, rfl⟩ := HKA.out.is.uniq HE4.out.cl (turned_view HSUB.out HSUR.out HML2.out hk2.is)
            have HS := Lib.hid (same_view (HKA.out.lies.fresh hk2.hu) hk2.lies)
            have HU6 := Lib.hid ((HU4.out.trans HKA.out.hu).trans hk2.hu)
            clear hk2 HK2 HKA
            go_wp2_with fail
            refine HS.out.mono ?_
            rintro e w7 ⟨rfl, hu7⟩
            have HU7 := Lib.hid (HU6.out.trans hu7)
            clear hu7 HS HU6
            go_wp2_with fail
            refine (awake16_ok w7).mono ?_
            rintro e w8 ⟨rfl, hu8⟩
            go_wp2
            go_ret
            exact ⟨rfl, HU7.out.trans hu8⟩
  · rw [decide_eq_false hn] at hfew
    have HF := Lib.hid hfew
    clear hs h hfew hmax
    go_enter Tryz.func4, Tryz.ntmps4
    go_wp2_with fail
    refine HF.out.mono ?_
    rintro e w0 ⟨rfl, rfl⟩
    go_wp2_with fail
    refine (awake16_ok w).mono ?_
    rintro e w6 ⟨rfl, hu6⟩
    go_wp2
    go_ret
    exact ⟨rfl, hu6⟩
end Go.Proofs.YtgalnnmeamldhaaGreat
