/-
  member.of: the walk.
-/
import Derived.Test.YtgcpoppinnnciaaGreatDoorCMC1
/- member.of: the walk. -/
set_option linter.unusedVariables false
set_option linter.unusedSimpArgs false
namespace Go.Proofs.YtgcpoppinnnciaaGreatDoor
open Go Go.RowKit Go.Proofs.YtgcpoppinnnciaaGreatDoor.Pal Go.Proofs.YtgcpoppinnnciaaGreatDoor.Plan

theorem Ents.at2 {w : World} {b o n : Nat} {l : List Ent} (h : Ents w (some ⟨b, o, none⟩) n l) {k : Nat} {e : Ent} (he : l[k]? = some e) :
    w.cell? ⟨b, o + k * 5, none⟩ = some (.string e.id) ∧ w.cell? ⟨b, o + k * 5 + 1, none⟩ = some (.int .i64 e.kind) ∧ w.cell? ⟨b, o + k * 5 + 2, none⟩ = some (.string e.author) ∧
    w.cell? ⟨b, o + k * 5 + 3, none⟩ = some e.pv ∧ w.cell? ⟨b, o + k * 5 + 4, none⟩ = some (.string e.body) := by
  obtain ⟨b', o', h1, _, h2⟩ := h.at he
  injection h1 with h1
  injection h1 with h1 h3
  subst h1
  subst h3
  exact h2
set_option maxRecDepth 100000 in
set_option maxHeartbeats 4000000 in
theorem of_some {w : World} {A : Option Addr} {n c : Nat} {l : List Ent} (h : Ents w A n l) (hc : n ≤ c) (room : ByteArray) (hmax : room.size ≤ maxLen) (hb : closedB l = true) {r : Nat} (hr : rootN room l = some r) :
    Calls Tryz.prog 181 #[.string room, .slice A n c] w fun e w' => ∃ q, e = .returned (.pointer (some ⟨q.bs, 0, none⟩)) ∧ PSet w' l r q (goodL l r) ∧ Unch none_ w w' := by
  obtain ⟨hu1, x1⟩ := room_start w room
  have hC := closed_iff.1 hb
  have hcl := pClosed_ok (h.fresh hu1) hc
  rw [hb] at hcl
  have hix : ∀ w2, Unch none_ (w.alloc (.cells #[.string room] 9)) w2 → _ := fun w2 hu2 => rootIx_ok (c := c) (h.fresh (hu1.trans hu2)) hC (hu2.cell x1 (fun h => h))
  rw [hr] at hix
  simp only [optI] at hix
  obtain ⟨hrl, hrid, hrk⟩ := rootN_some hr
  have hn := h.rd.max
  have hl := h.len
  unfold maxLen at hn
  have zr : (r : Int) < (n : Int) := by rw [← hl]; omega
  have zr' : ¬ (r : Int) < 0 := by omega
  have hS := ents_sized h
  have hmm := @run_makeMap Tryz.prog
  have HCL := Lib.hid hcl
  have HIX := Lib.hid hix
  have HH := Lib.hid h
  have HC := Lib.hid hC
  have HSZ := Lib.hid hS
  have HL := Lib.hid hl
  have HU1 := Lib.hid hu1
  have X1 := Lib.hid x1
  have HRK := Lib.hid hrk
  have HRID := Lib.hid hrid
  have HRL := Lib.hid hrl
  clear hcl hb h hix x1 hC hS hl hu1 hrk hrid hrl hr
  go_enter Tryz.func181, Tryz.ntmps181
  go_wp2_with fail
  refine HCL.out.mono ?_
  rintro e w2 ⟨rfl, hu2⟩
  have HI := Lib.hid (HIX.out w2 hu2)
  have HU2 := Lib.hid hu2
  clear hu2 HCL
  go_wp2_with fail
  refine HI.out.mono ?_
  rintro e w3 ⟨rfl, hu3⟩
  have hu03 := (HU1.out.trans HU2.out).trans hu3
  have h3 := HH.out.fresh hu03
  obtain ⟨b, o, rfl, hbl, y0, y1, y2, y3, y4⟩ := h3.at (ent_get HRL.out)
  obtain ⟨Ap, mp, cp, hpv⟩ := HSZ.out.pv r HRL.out
  rw [hpv] at y3
  have hx3 := (HU2.out.trans hu3).cell X1.out (fun h => h)
  have HX3 := Lib.hid hx3
  have HU03 := Lib.hid hu03
  have H3 := Lib.hid h3
  have HPV := Lib.hid hpv
  clear hu3 HIX HI hx3 hu03 h3 hpv HU1 HU2 X1
  go_upto_region 7 with fail
  have ho := fun wx hw => of1_start (wx := wx) (l := l) (r := r) (pb := fun _ => 0) w HU03.out hw
  rw [HPV.out] at ho
  have hO := ho _ rfl
  clear ho
  generalize hw6 : (((w3.alloc _).alloc _).alloc _).alloc _ = w6 at hO ⊢
  have hu36 : Unch none_ w3 w6 := hw6 ▸ ((((Unch.refl none_ w3).alloc _).alloc _).alloc _).alloc _
  have h6 := H3.out.fresh hu36
  have hx6 := hu36.cell HX3.out (fun h => h)
  clear hw6 y0 y1 y2 y3 y4
  obtain ⟨bs, hbs⟩ : ∃ x, w3.heap.size + 1 + 1 + 1 = x := ⟨_, rfl⟩
  obtain ⟨bgood, hbg⟩ : ∃ x, w3.heap.size + 1 + 1 = x := ⟨_, rfl⟩
  obtain ⟨bpast, hbp⟩ : ∃ x, w3.heap.size + 1 = x := ⟨_, rfl⟩
  obtain ⟨bby, hbb⟩ : ∃ x, w3.heap.size = x := ⟨_, rfl⟩
  rw [hbs, hbg, hbp, hbb] at hO
  rw [hbs, hbg, hbp, hbb]
  obtain ⟨bx, hbx⟩ : ∃ x, w.heap.size = x := ⟨_, rfl⟩
  rw [hbx] at hx6
  rw [hbx]
  have nbx : bx < bby := by rw [← hbb, ← hbx]; exact World.block_lt_of_cell? _ _ HX3.out
  have HBX := Lib.hid hbx
  have HX6 := Lib.hid hx6
  have H6 := Lib.hid h6
  have HO := Lib.hid hO
  have HU06 := Lib.hid (HU03.out.trans hu36)
  clear hbs hbg hbp hbb hbx hx6 h6 hO hu36 H3 HX3 HU03 hbl HPV zr zr'
  go_wp2
  go_loopg [8, 9, 11, 33] n (fun gk _ _ _ i33 wr => ∃ (k : Nat) (pb : Nat → Nat), gk = n - k ∧ k ≤ n ∧ i33 = .int .i64 (k : Int) ∧ Of1 w wr l r bs bby bpast bgood pb k k ∧ wr.cell? ⟨bx, 0, none⟩ = some (.string room))
  case atStart => exact ⟨0, _, rfl, Nat.zero_le _, rfl, HO.out, HX6.out⟩
  case round =>
    clear HO
    obtain ⟨k, pb, rfl, hk, rfl, ho, hx⟩ := hrel
    obtain ⟨w7, rfl⟩ : ∃ w7, w7 = wr := ⟨_, rfl⟩
    by_cases hkn : k < n
    · have hkl : k < l.length := by rw [HL.out]; exact hkn
      have z1 : (k : Int) < (n : Int) := by omega
      have z2 : (0 : Int) ≤ (k : Int) := by omega
      have h7 := HH.out.fresh ho.u
      obtain ⟨x0, x1, x2, x3, x4⟩ := h7.at2 (ent_get hkl)
      obtain ⟨A2, c2, hpv, hc2, hrp⟩ := (HH.out.ok _ (List.mem_of_getElem? (ent_get hkl))).ps
      have hsid := (h7.ok _ (List.mem_of_getElem? (ent_get hkl))).sid
      have hsps := (h7.ok _ (List.mem_of_getElem? (ent_get hkl))).sps
      obtain ⟨np, hnp⟩ : ∃ np, (ent l k).ps.length = np := ⟨_, rfl⟩
      have hval : (ent l k).val = .agg #[.string (ent l k).id, .int .i64 (ent l k).kind, .string (ent l k).author, .slice A2 np c2, .string (ent l k).body] := by unfold Ent.val; rw [hpv, hnp]
      rw [hpv, hnp] at x3
      have hnpm := hrp.max
      rw [hnp] at hnpm hc2
      unfold maxLen at hnpm
      have HSPS := Lib.hid hsps
      have HSID := Lib.hid hsid
      have HRP := Lib.hid hrp
      have HNP := Lib.hid hnp
      have HPV := Lib.hid hpv
      have HVAL := Lib.hid hval
      have HO := Lib.hid ho
      have HX := Lib.hid hx
      clear h7 hsps hsid hrp hnp hpv hval ho hx
      go_upto_region 10 with fail
      have hu7 : Unch none_ w7 (w7.alloc (.cells #[.string (ent l k).id, .int .i64 (ent l k).kind, .string (ent l k).author, .slice A2 np c2, .string (ent l k).body] 114)) := (Unch.refl none_ w7).alloc _
      have bE := blk_new w7 (.cells #[.string (ent l k).id, .int .i64 (ent l k).kind, .string (ent l k).author, .slice A2 np c2, .string (ent l k).body] 114)
      have hge7 := HO.out.u.size
      generalize hge : w7.heap.size = ge at *
      generalize w7.alloc _ = w8 at *
      clear x0 x1 x2 x3 x4 hge
      have ho8 := HO.out.fresh hu7
      have hx8 := hu7.cell HX.out (fun h => h)
      have HO8 := Lib.hid ho8
      have HX8 := Lib.hid hx8
      have HU7 := Lib.hid hu7
      have HBE := Lib.hid bE
      have HGE := Lib.hid hge7
      clear ho8 hx8 hu7 bE HO HX
      refine wp_planC (fun W => Unch none_ w8 W) [0, 1, 2, 3, 4, 5, 6] [7] 0 (by kernel_rfl) (by kernel_rfl) rfl rfl (fun c a d v w h => by cases d <;> exact h) ((Unch.refl _ _).drew) ?_
      intro S HS _
      have f0 : ∀ G2 : In S, G2.w.cell? ⟨bs, 5, none⟩ = some (.map (some bby)) := fun G2 => blk_cell (((HS.out _).1 G2.h).heap HO8.out.blk (fun h => h)) (j := 5) rfl
      have f1 : ∀ G2 : In S, G2.w.heap[ge]? = some (.cells #[.string (ent l k).id, .int .i64 (ent l k).kind, .string (ent l k).author, .slice A2 np c2, .string (ent l k).body] 114 (0, 0)) := fun G2 => ((HS.out _).1 G2.h).heap HBE.out (fun h => h)
      have g0 : ∀ G2 : In S, G2.w.cell? ⟨ge, 0, none⟩ = some (.string (ent l k).id) := fun G2 => blk_cell (f1 G2) (j := 0) rfl
      have g1 : ∀ G2 : In S, G2.w.cell? ⟨ge, 1, none⟩ = some (.int .i64 (ent l k).kind) := fun G2 => blk_cell (f1 G2) (j := 1) rfl
      have g2 : ∀ G2 : In S, G2.w.cell? ⟨ge, 2, none⟩ = some (.string (ent l k).author) := fun G2 => blk_cell (f1 G2) (j := 2) rfl
      have g3 : ∀ G2 : In S, G2.w.cell? ⟨ge, 3, none⟩ = some (.slice A2 np c2) := fun G2 => blk_cell (f1 G2) (j := 3) rfl
      have g4 : ∀ G2 : In S, G2.w.cell? ⟨ge, 4, none⟩ = some (.string (ent l k).body) := fun G2 => blk_cell (f1 G2) (j := 4) rfl
      clear f1
      simp only [pickIn, List.getElem?_toArray, List.getElem?_cons_succ, List.getElem?_cons_zero]
      repeat (go_big_quiet_step (fail))
      refine wpQuiet_nil ?_
      clear f0 g0 g1 g2 g3 g4
      refine tail_all ?_
      have hmd := HO8.out.by_.unch ((Unch.refl none_ w8).drew) (fun h => h)
      have HMD := Lib.hid hmd
      clear hmd
      go_wp2_with (at_mapUpdate; refine wpList_sm_put w8.drew rfl (.tmp 40) (.tmp 42) (.tmp 43) 240 rfl 9 114 Tryz.underlying240 Tryz.underlying9 bby _ rfl HMD.out (ent l k).id rfl HSID.out (.agg #[.string (ent l k).id, .int .i64 (ent l k).kind, .string (ent l k).author, .slice A2 np c2, .string (ent l k).body]) (by rfl) ?_; intro w9 hsm9 hu9; have hbe9 := (((Unch.refl (fun j => j = bby) w8).drew).trans hu9).heap HBE.out (fun e => sm_ne_cells HO8.out.by_ HBE.out e.symm); have y3 : (w9.alloc (.map #[] 0)).cell? ⟨ge, 3, none⟩ = some (.slice A2 np c2) := blk_cell (((Unch.refl none_ w9).alloc _).heap hbe9 (fun h => h)) (j := 3) rfl; clear hbe9; have HSM9 := Lib.hid hsm9; have HU9 := Lib.hid hu9; clear hsm9 hu9)
      go_simp
      have hsm9 := HSM9.out
      rw [← HVAL.out] at hsm9
      have hu89 := ((Unch.refl (fun j => j = bby) w8).drew).trans HU9.out
      have HO9 := Lib.hid (HO8.out.byput HC.out hkl hu89 hsm9)
      have HX9 := Lib.hid (hu89.cell HX8.out (fun e => by have e : bx = bby := e; omega))
      have HBE9 := Lib.hid (hu89.heap HBE.out (fun e => sm_ne_cells HO8.out.by_ HBE.out e.symm))
      clear hsm9 hu89 HSM9 HU9
      clear HMD HO8 HX8 HBE HU7
      have hu10 : Unch none_ w9 (w9.alloc (.map #[] 0)) := (Unch.refl none_ w9).alloc _
      have hm10 := Sm.made w9
      have HO10 := Lib.hid (HO9.out.fresh hu10)
      have HX10 := Lib.hid (hu10.cell HX9.out (fun h => h))
      have HBE10 := Lib.hid (hu10.heap HBE9.out (fun h => h))
      have hsz9 := HO9.out.u.size
      have hb9 := lt_of_heap HO9.out.blk
      have hb9p := fun i hi => (HO9.out.rows i hi).elim fun m h => h.1.lt
      have hb9g := lt_of_heap HBE9.out
      have HM10 := Lib.hid hm10
      have HU10 := Lib.hid hu10
      clear hm10 hu10
      have HB9P := Lib.hid hb9p
      clear hb9p
      generalize hbm : w9.heap.size = bm at *
      generalize w9.alloc _ = w10 at *
      clear hbm HO9 HX9 HBE9 HU10
      go_wp2
      clear y3
      go_loopg [11, 48] np (fun gk _ i48 wr => ∃ (t : Nat) (m : Asc), gk = np - t ∧ t ≤ np ∧ i48 = .int .i64 (t : Int) ∧ Sm wr bm m ∧ PastP l (ent l k).ps t m ∧ Unch (fun j => j = bm) w10 wr)
      case atStart => exact ⟨0, [], rfl, Nat.zero_le _, rfl, HM10.out, PastP.start _ _, Unch.refl _ _⟩
      case round =>
        clear HM10
        obtain ⟨t, m, rfl, ht, rfl, hsm, hpp, hu⟩ := hrel
        obtain ⟨w11, rfl⟩ : ∃ w11, w11 = wr := ⟨_, rfl⟩
        have hO := HO10.out.other hu hsz9 (by omega) (by have := HO10.out.ord; omega) (by have := HO10.out.ord; omega) (by have := HO10.out.ord; omega) (fun i hi => by have := HB9P.out i hi; omega)
        have HOR := Lib.hid hO
        have HSM := Lib.hid hsm
        have HPP := Lib.hid hpp
        have HU := Lib.hid hu
        clear hO hsm hpp hu
        by_cases htn : t < np
        · obtain ⟨s0, hs0⟩ := get_some HNP.out htn
          obtain ⟨j, hjk, hjid⟩ := HC.out.pars k s0 hkl (List.mem_of_getElem? hs0)
          have zt : (t : Int) < (np : Int) := by omega
          have zt0 : (0 : Int) ≤ (t : Int) := by omega
          have hrp := RdS.fresh HRP.out HOR.out.u
          obtain ⟨bp, op, hA2, _, xp⟩ := RdS.str hrp hs0
          subst hA2
          have hps0 := HSPS.out s0 (List.mem_of_getElem? hs0)
          have hfj := HC.out.find (show j < l.length by omega)
          rw [hjid] at hfj
          have HPS0 := Lib.hid hps0
          have HFJ := Lib.hid hfj
          have HJID := Lib.hid hjid
          have HS0 := Lib.hid hs0
          clear hps0 hfj hjid hs0 hrp
          go_wp2_with (at_mapUpdate; refine wpList_sm_put w11 rfl (.tmp 52) (.tmp 53) (.const (.bool true)) 148 rfl 9 4 Tryz.underlying148 Tryz.underlying9 bm m rfl HSM.out s0 rfl HPS0.out (.bool true) (by rfl) ?_; intro w12 hsm12 hu12; have hO12 := HOR.out.other hu12 hsz9 (by omega) (by have := HO10.out.ord; omega) (by have := HO10.out.ord; omega) (by have := HO10.out.ord; omega) (fun i hi => by have := HB9P.out i hi; omega); have y6 : w12.cell? ⟨bs, 6, none⟩ = some (.map (some bpast)) := blk_cell hO12.blk (j := 6) rfl; have hlk := look_m hO12.past HPS0.out (x := .map (some (pb j))) (by rw [← HJID.out, idA_get HC.out _ _ (Nat.le_of_lt hkl) (by omega), if_pos ⟨hjk, rfl⟩]); have HO12 := Lib.hid hO12; have HSM12 := Lib.hid hsm12; have HU12 := Lib.hid hu12; clear hsm12 hu12 hO12)
          clear xp
          have hO12 := HO12.out
          obtain ⟨mp, hmp, hpm⟩ := hO12.rows j hjk
          have hcp := copy_ok HSM12.out hmp (by have := HB9P.out j hjk; omega)
          have hone := hmp.one
          have HONE := Lib.hid hone
          have HPM := Lib.hid hpm
          have HCP := Lib.hid hcp
          clear hmp hpm hcp hO12 hone HO12
          go_simp
          go_wp2_with fail
          refine HCP.out.mono ?_
          rintro e w13 ⟨m13, rfl, hsm13, hg13, hu13⟩
          have hpp := HPP.out.step HC.out HS0.out HFJ.out (by omega) HJID.out HPM.out HONE.out hg13
          have HPP2 := Lib.hid hpp
          have HSM13 := Lib.hid hsm13
          have HU13 := Lib.hid ((HU.out.trans HU12.out).trans hu13)
          clear hpp hsm13 hg13 hu13 hlk y6
          go_wp2
          go_roundg (np - (t + 1))
          case measure => omega
          case rel => exact ⟨t + 1, m13, rfl, by omega, by go_num, HSM13.out, HPP2.out, HU13.out⟩
        · obtain rfl : t = np := by omega
          have hbe11 := HU.out.heap HBE10.out (fun e => by have e : ge = bm := e; omega)
          have hx11 := HU.out.cell HX10.out (fun e => by have e : bx = bm := e; have := HOR.out.ord; have := World.block_lt_of_cell? _ _ HX10.out; omega)
          have HBE11 := Lib.hid hbe11
          have HX11 := Lib.hid hx11
          have hpm := HPP.out
          rw [← HNP.out] at hpm
          have HPM := Lib.hid (PastP.done HC.out hkl HSM.out.one hpm)
          clear hbe11 hx11 HO10 HX10 HBE10 HPP hpm HU
          go_upto_region 18 with fail
          refine wp_planC (fun W => Unch none_ w11 W) [0, 1, 2, 3, 4, 5, 6] [7] 0 (by kernel_rfl) (by kernel_rfl) rfl rfl (fun c a d v w h => by cases d <;> exact h) ((Unch.refl _ _).drew) ?_
          intro S HS _
          have f0 : ∀ G2 : In S, G2.w.cell? ⟨bs, 6, none⟩ = some (.map (some bpast)) := fun G2 => blk_cell (((HS.out _).1 G2.h).heap HOR.out.blk (fun h => h)) (j := 6) rfl
          have g0 : ∀ G2 : In S, G2.w.cell? ⟨ge, 0, none⟩ = some (.string (ent l k).id) := fun G2 => blk_cell (((HS.out _).1 G2.h).heap HBE11.out (fun h => h)) (j := 0) rfl
          simp only [pickIn, List.getElem?_toArray, List.getElem?_cons_succ, List.getElem?_cons_zero]
          repeat (go_big_quiet_step (fail))
          refine wpQuiet_nil ?_
          clear f0 g0
          refine tail_all ?_
          have HPD := Lib.hid (HOR.out.past.unch ((Unch.refl none_ w11).drew) (fun h => h))
          go_wp2_with (at_mapUpdate; refine wpList_sm_put w11.drew rfl (.tmp 66) (.tmp 68) (.tmp 69) 241 rfl 9 148 Tryz.underlying241 Tryz.underlying9 bpast _ rfl HPD.out (ent l k).id rfl HSID.out (.map (some bm)) (by rfl) ?_; intro w14 hsm14 hu14; have HSM14 := Lib.hid hsm14; have HU14 := Lib.hid hu14; clear hsm14 hu14)
          have hu1114 := ((Unch.refl (fun j => j = bpast) w11).drew).trans HU14.out
          have hbsm : bs < bm := by have := lt_of_heap HOR.out.blk; omega
          have HON := Lib.hid (HOR.out.pastput HC.out hkl HSM.out HPM.out hbsm hu1114 HSM14.out)
          have HXN := Lib.hid (hu1114.cell HX11.out (fun e => by have e : bx = bpast := e; have := HOR.out.ord; omega))
          clear hu1114 HSM14 HU14 HPD HOR HX11 HBE11 HSM HPM
          go_simp
          go_roundg (n - (k + 1))
          case measure => omega
          case rel => exact ⟨k + 1, _, rfl, by omega, by go_num, HON.out, HXN.out⟩
    · obtain rfl : k = n := by omega
      have hO2 := ho
      rw [← HL.out] at hO2
      have hd := Of1.done hO2 HC.out HSZ.out HRL.out HRK.out
      have H2 := Lib.hid hd
      have HX7 := Lib.hid hx
      have HORD := Lib.hid ho.ord
      clear hO2 hd ho hx
      go_wp2
      obtain ⟨q, hq⟩ : ∃ q : PB, q = ⟨bs, bby, bpast, bgood, pb⟩ := ⟨_, rfl⟩
      have hqs : bs = q.bs := by rw [hq]
      have hqg : bx < q.bgood := by rw [hq]; show bx < bgood; have := HORD.out; omega
      rw [← hq] at H2
      subst hqs
      clear hq
      go_loopg [13, 73] k (fun gk _ i73 wr => ∃ t : Nat, gk = k - t ∧ t ≤ k ∧ i73 = .int .i64 (t : Int) ∧ Of2 w wr l r q t ∧ wr.cell? ⟨bx, 0, none⟩ = some (.string room))
      case atStart => exact ⟨0, rfl, Nat.zero_le _, rfl, H2.out, HX7.out⟩
      case round =>
        clear H2 HX7
        obtain ⟨t, rfl, ht, rfl, ho, hx⟩ := hrel
        obtain ⟨w8, rfl⟩ : ∃ w8, w8 = wr := ⟨_, rfl⟩
        by_cases htn : t < k
        · have htl : t < l.length := by rw [HL.out]; exact htn
          have zt : (t : Int) < (k : Int) := by omega
          have zt0 : (0 : Int) ≤ (t : Int) := by omega
          have h8 := HH.out.fresh ho.u
          obtain ⟨x0, x1, x2, x3, x4⟩ := h8.at2 (ent_get htl)
          obtain ⟨A2, m2, c2, hpv⟩ := HSZ.out.pv t htl
          have hsid := (h8.ok _ (List.mem_of_getElem? (ent_get htl))).sid
          have hval : (ent l t).val = .agg #[.string (ent l t).id, .int .i64 (ent l t).kind, .string (ent l t).author, .slice A2 m2 c2, .string (ent l t).body] := by unfold Ent.val; rw [hpv]
          rw [hpv] at x3
          have HSID := Lib.hid hsid
          have HVAL := Lib.hid hval
          have HO := Lib.hid ho
          have HX := Lib.hid hx
          clear h8 hsid hpv hval ho hx
          go_upto_region 23 with fail
          have hu8 : Unch none_ w8 (w8.alloc (.cells #[.string (ent l t).id, .int .i64 (ent l t).kind, .string (ent l t).author, .slice A2 m2 c2, .string (ent l t).body] 114)) := (Unch.refl none_ w8).alloc _
          have bE := blk_new w8 (.cells #[.string (ent l t).id, .int .i64 (ent l t).kind, .string (ent l t).author, .slice A2 m2 c2, .string (ent l t).body] 114)
          generalize hge : w8.heap.size = ge at *
          generalize w8.alloc _ = w9 at *
          clear x0 x1 x2 x3 x4 hge
          have HO9 := Lib.hid (HO.out.fresh hu8)
          have HX9 := Lib.hid (hu8.cell HX.out (fun h => h))
          have HBE := Lib.hid bE
          clear hu8 bE HO HX
          obtain ⟨gB, hgB⟩ : ∃ gB, goodU l r (t + 1) t = gB := ⟨_, rfl⟩
          have hgE : gB = (decide (t = r) || (!decide ((ent l t).kind = 1) && (past l t r && (Ms.mk l r (fun j => goodU l r t j && past l t j)).member (ent l t).author))) := by rw [← hgB, goodU_succ, if_pos rfl]
          have HGB := Lib.hid hgB
          have HGE := Lib.hid hgE
          clear hgB hgE
          go_cut [101] from 77 to 101 (fun v wx => v = .bool gB ∧ Unch none_ w9 wx)
          case first =>
            have f0 := cellU HX9.out
            have f6 := cellU HO9.out.ps.c6
            have g0 := cellU (blk_cell HBE.out (j := 0) rfl)
            have g1 := cellU (blk_cell HBE.out (j := 1) rfl)
            have g2 := cellU (blk_cell HBE.out (j := 2) rfl)
            have g3 := cellU (blk_cell HBE.out (j := 3) rfl)
            have g4 := cellU (blk_cell HBE.out (j := 4) rfl)
            have fp : ∀ G2 : UW w9, (Instr.lookup 241 (.map (some q.bpast)) (.string (ent l t).id) false).run Tryz.prog G2.w' = .ok (.map (some (q.pb t))) G2.w' := fun G2 => (HO9.out.ps.fresh G2.h).lookPast htl
            have fr : ∀ G2 : UW w9, (Instr.lookup 148 (.map (some (q.pb t))) (.string (ent l r).id) false).run Tryz.prog G2.w' = .ok (.bool (past l t r)) G2.w' := fun G2 => (HO9.out.ps.fresh G2.h).lookRow htl HRL.out
            rw [HRID.out] at fr
            refine wp_region_quiet_u (by kernel_rfl) (by kernel_rfl) (fun _ => ?_)
            by_cases c0 : t = r
            · have HF : Hid (gB = true) := by rw [HGE.out, decide_eq_true c0]; rfl
              subst c0
              rw [HRID.out] at g0
              repeat (go_big_quiet_step (fail))
              refine wpQuiet_nil ?_
              intro wq hw'
              obtain ⟨⟨wqq, huq⟩, hw''⟩ := hw'
              subst hw''
              go_wp2
              go_meet
              exact ⟨by rw [HF.out], huq⟩
            · have hne : (ent l t).id ≠ room := fun e => c0 (HC.out.ids t r htl HRL.out (by rw [HRID.out]; exact e))
              have d1 := str_ne hne
              have hgE := HGE.out
              rw [decide_eq_false c0, Bool.false_or] at hgE
              by_cases c1 : (ent l t).kind = 1
              · have HF : Hid (gB = false) := by rw [hgE, decide_eq_true c1]; rfl
                rw [c1] at g1
                clear hgE c0 c1 hne
                repeat (go_big_quiet_step (fail))
                refine wpQuiet_nil ?_
                intro wq hw'
                obtain ⟨⟨wqq, huq⟩, hw''⟩ := hw'
                subst hw''
                go_wp2
                go_meet
                exact ⟨by rw [HF.out], huq⟩
              · rw [decide_eq_false c1, Bool.not_false, Bool.true_and] at hgE
                have d2 := int_bne c1
                cases c2 : past l t r with
                | false =>
                  have HF : Hid (gB = false) := by rw [hgE, c2]; rfl
                  simp only [c2] at fr
                  clear hgE c0 c1 c2 hne
                  repeat (go_big_quiet_step (fail))
                  refine wpQuiet_nil ?_
                  intro wq hw'
                  obtain ⟨⟨wqq, huq⟩, hw''⟩ := hw'
                  subst hw''
                  go_wp2
                  go_meet
                  exact ⟨by rw [HF.out], huq⟩
                | true =>
                  simp only [c2] at fr
                  have hrt := past_lt l t r c2
                  have hw : QC Tryz.prog 194 #[.pointer (some ⟨q.bs, 0, none⟩), (ent l t).val] (.bool ((Ms.mk l r (fun j => goodU l r t j && past l t j)).member (ent l t).author)) w9 := fun W hW => within_ok (HO9.out.ps.fresh hW) (fun i _ hg hk => goodU_root t i hg hk) (goodU_self hrt) htl c2
                  rw [HVAL.out] at hw
                  rw [c2, Bool.true_and] at hgE
                  rw [← hgE] at hw
                  have HW := Lib.hid hw
                  clear hw hgE c0 c1 c2 hne
                  repeat (go_big_quiet_step ((go_at_call 194; with_reducible exact HW.out.u _)))
                  refine wpQuiet_nil ?_
                  intro wq hw'
                  obtain ⟨⟨wqq, huq⟩, hw''⟩ := hw'
                  subst hw''
                  go_wp2
                  go_meet
                  exact ⟨rfl, huq⟩
          case rest =>
            obtain ⟨rfl, hu9⟩ := hcut
            have HOC := Lib.hid (HO9.out.fresh hu9)
            have HXC := Lib.hid (hu9.cell HX9.out (fun h => h))
            have HBC := Lib.hid (hu9.heap HBE.out (fun h => h))
            clear hu9 HO9 HX9 HBE HGE
            cases gB with
            | true =>
              go_upto_region 24 with fail
              refine wp_planC (fun W => Unch none_ wc W) [0, 1, 2, 3, 4, 5] [6] 0 (by kernel_rfl) (by kernel_rfl) rfl rfl (fun c a d v w h => by cases d <;> exact h) ((Unch.refl _ _).drew) ?_
              intro S HS _
              have f0 : ∀ G2 : In S, G2.w.cell? ⟨q.bs, 7, none⟩ = some (.map (some q.bgood)) := fun G2 => (HOC.out.ps.fresh ((HS.out _).1 G2.h)).c7
              have g0 : ∀ G2 : In S, G2.w.cell? ⟨ge, 0, none⟩ = some (.string (ent l t).id) := fun G2 => blk_cell (((HS.out _).1 G2.h).heap HBC.out (fun h => h)) (j := 0) rfl
              simp only [pickIn, List.getElem?_toArray, List.getElem?_cons_succ, List.getElem?_cons_zero]
              repeat (go_big_quiet_step (fail))
              refine wpQuiet_nil ?_
              clear f0 g0
              refine tail_all ?_
              have HGD := Lib.hid (HOC.out.ps.good.unch ((Unch.refl none_ wc).drew) (fun h => h))
              go_wp2_with (at_mapUpdate; refine wpList_sm_put wc.drew rfl (.tmp 105) (.tmp 107) (.const (.bool true)) 148 rfl 9 4 Tryz.underlying148 Tryz.underlying9 q.bgood _ rfl HGD.out (ent l t).id rfl HSID.out (.bool true) (by rfl) ?_; intro w14 hsm14 hu14; have HSM14 := Lib.hid hsm14; have HU14 := Lib.hid hu14; clear hsm14 hu14)
              have hu1114 := ((Unch.refl (fun j => j = q.bgood) wc).drew).trans HU14.out
              have HON := Lib.hid (HOC.out.put htl HGB.out hu1114 HSM14.out)
              have HXN := Lib.hid (hu1114.cell HXC.out (fun e => by have e : bx = q.bgood := e; omega))
              clear hu1114 HSM14 HU14 HGD HOC HXC HBC
              go_simp
              go_roundg (k - (t + 1))
              case measure => omega
              case rel => exact ⟨t + 1, rfl, by omega, by go_num, HON.out, HXN.out⟩
            | false =>
              have HON := Lib.hid (HOC.out.no htl HGB.out)
              go_wp2
              go_roundg (k - (t + 1))
              case measure => omega
              case rel => exact ⟨t + 1, rfl, by omega, by go_num, HON.out, HXC.out⟩
        · obtain rfl : t = k := by omega
          have hps := ho.ps
          rw [← HL.out] at hps
          have HPS := Lib.hid hps
          have HU := Lib.hid ho.u
          clear hps ho hx
          go_wp2
          go_ret
          exact ⟨q, rfl, HPS.out, HU.out⟩
end Go.Proofs.YtgcpoppinnnciaaGreatDoor
