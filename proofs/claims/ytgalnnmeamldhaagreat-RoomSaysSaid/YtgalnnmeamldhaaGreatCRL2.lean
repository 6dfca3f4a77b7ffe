/-
  room.Look: the walk.
-/
import Derived.Test.YtgalnnmeamldhaaGreatCRL1
import Derived.Laws.Cover3
/- room.Look: the walk. -/
set_option linter.unusedVariables false
set_option linter.unusedSimpArgs false
namespace Go.Proofs.YtgalnnmeamldhaaGreat
open Go Go.RowKit Go.Proofs.YtgalnnmeamldhaaGreat.Pal Go.Proofs.YtgalnnmeamldhaaGreat.Plan

theorem Dg.other {w w1 : World} {bd bp bk ba : Nat} {es : List Ent} {k : Nat} {pv : Nat → Value} {m : Asc} (h : Dg w bd bp bk es k pv) (hm : Sm w ba m) (h1 : ba ≠ bp) (h2 : ba ≠ bk) (hu : Unch (fun j => j = ba) w w1) : Dg w1 bd bp bk es k pv :=
  ⟨hu.heap h.blk (fun e => sm_ne_cells hm h.blk e.symm), h.par.unch hu (fun e => h1 e.symm), by obtain ⟨mk, a, b⟩ := h.kid; exact ⟨mk, a.unch hu (fun e => h2 e.symm), b⟩, fun i hi => by
    obtain ⟨A, m', c, e1, e2, e3⟩ := h.ps i hi
    exact ⟨A, m', c, e1, e2, rds_cells e3 (by decide) hu (fun j e => by subst e; exact fun cs e fr => sm_no_cells hm cs e fr)⟩, h.hne⟩
theorem made_ne_nil (W : World) (g k : Nat) : (binOp .eql 44 (.slice (some ⟨g, 0, none⟩) k k) (.slice none 0 0)).run Tryz.prog W = .ok (.bool false) W := by
  simp [binOp, run_equal_slice_nil W _ _ _ _ _ Tryz.underlying44]
def atA (l : List Ent) (k : Nat) : Asc := idA l allT (fun j => .int .i64 (j : Int)) k
structure LK (w wr : World) (l : List Ent) (bd bp bk ba bz gH n : Nat) (G : Nat → Bool) (i k : Nat) (pv : Nat → Value) : Prop where
  hu : Unch none_ w wr
  dg : Dg wr bd bp bk l i pv
  at_ : Sm wr ba (atA l k)
  bz : wr.heap[bz]? = some zeroView
  hg : Brow wr gH n G
  hp : w.heap.size ≤ bp
  hk : w.heap.size ≤ bk
  ha : w.heap.size ≤ ba
  ne1 : ba ≠ bp
  ne2 : ba ≠ bk
section
variable {w wr w2 : World} {l : List Ent} {bd bp bk ba bz gH n : Nat} {G : Nat → Bool} {i k : Nat} {pv pv2 : Nat → Value}
theorem LK.fresh (h : LK w wr l bd bp bk ba bz gH n G i k pv) (hu : Unch none_ wr w2) : LK w w2 l bd bp bk ba bz gH n G i k pv :=
  ⟨h.hu.trans hu, h.dg.fresh hu, h.at_.unch hu (fun h => h), hu.heap h.bz (fun h => h), h.hg.unch hu (fun h => h), h.hp, h.hk, h.ha, h.ne1, h.ne2⟩
theorem LK.add (h : LK w wr l bd bp bk ba bz gH n G i k pv) (hd : Dg w2 bd bp bk l (i + 1) pv2) (hu : Unch (fun j => j = bp ∨ j = bk) wr w2) : LK w w2 l bd bp bk ba bz gH n G (i + 1) k pv2 := by
  obtain ⟨mk, hmk, _⟩ := h.dg.kid
  have hb := h.hg
  unfold Brow at hb
  refine ⟨h.hu.step hu (fun j hj e => by have := h.hp; have := h.hk; omega), hd, h.at_.unch hu (fun e => ?_), hu.heap h.bz (fun e => ?_), h.hg.unch hu (fun e => ?_), h.hp, h.hk, h.ha, h.ne1, h.ne2⟩
  · rcases e with e | e
    · exact h.ne1 e
    · exact h.ne2 e
  · have hz := h.bz
    unfold zeroView at hz
    rcases e with e | e
    · exact sm_ne_cells h.dg.par hz e.symm
    · exact sm_ne_cells hmk hz e.symm
  · rcases e with e | e
    · exact sm_ne_cells h.dg.par hb e.symm
    · exact sm_ne_cells hmk hb e.symm
theorem LK.atput (h : LK w wr l bd bp bk ba bz gH n G i k pv) (hC : Closed l) (hk : k < l.length) (hu : Unch (fun j => j = ba) wr w2) (hs : Sm w2 ba (mput (atA l k) (ent l k).id (.int .i64 (k : Int)))) : LK w w2 l bd bp bk ba bz gH n G i (k + 1) pv := by
  have hb := h.hg
  unfold Brow at hb
  have hz := h.bz
  unfold zeroView at hz
  have hs2 : Sm w2 ba (atA l (k + 1)) := by
    unfold atA at hs ⊢
    rw [idA_put hC allT (fun j => .int .i64 (j : Int)) hk] at hs
    rw [idA_succ_t (G := allT) rfl]
    exact hs
  exact ⟨h.hu.step hu (fun j hj e => by have := h.ha; omega), h.dg.other h.at_ h.ne1 h.ne2 hu, hs2, hu.heap h.bz (fun e => sm_ne_cells h.at_ hz e.symm), h.hg.unch hu (fun e => sm_ne_cells h.at_ hb e.symm), h.hp, h.hk, h.ha, h.ne1, h.ne2⟩
end
set_option maxRecDepth 100000 in
set_option maxHeartbeats 8000000 in
theorem look_ok {w : World} {A : Option Addr} {n c : Nat} {l : List Ent} (h : Ents w A n l) (hc : n ≤ c) (room : ByteArray) (hmax : room.size ≤ maxLen) (hb : closedB l = true) {r : Nat} (hr : rootN room l = some r) (hps : ∀ e ∈ l, e.ps.length ≤ 1048576) :
    Calls Tryz.prog 11 #[.string room, .slice A n c] w fun e w' => ∃ ys tp ps vm vp L, e = .returned (.agg #[.string (ent l r).body, .string tp, vm, vp]) ∧ (OrdP l ys ∧ LeastP l ys ∧ ys.length = l.length) ∧ viewV l (goodS l r).holding ys = (tp, ps) ∧ MemL (goodS l r) L ∧ ViewR w w' vm vp L ps := by
  have hC := closed_iff.1 hb
  have hl := h.len
  have h300 := hC.len
  rw [hl] at h300
  obtain ⟨hrl, hrid, hrk⟩ := rootN_some hr
  have hmm := @run_makeMap Tryz.prog
  have HOLD : Hid (∀ w2, Unch none_ w w2 → Calls Tryz.prog 22 #[.string room, .slice A n c] w2 (MadeB w2 n (goodS l r).holding)) := Lib.hid fun w2 hu => pHolds_ok (h.fresh hu) hc room hmax hb hr
  have HMEM : Hid (∀ w2, Unch none_ w w2 → Calls Tryz.prog 25 #[.string room, .slice A n c] w2 fun e w' => ∃ v L, e = .returned v ∧ MemL (goodS l r) L ∧ SMid w2 w' v L.length L) := Lib.hid fun w2 hu => pMembers_ok (h.fresh hu) hc room hmax hb hr
  obtain ⟨T0, hT0⟩ : ∃ T0, goodS l r = T0 := ⟨_, rfl⟩
  obtain ⟨G, hG⟩ : ∃ G, T0.holding = G := ⟨_, rfl⟩
  rw [hT0] at HOLD HMEM ⊢
  rw [hG] at HOLD ⊢
  have HC := Lib.hid hC
  have HH := Lib.hid h
  have HL := Lib.hid hl
  have HPSL := Lib.hid hps
  have HRL := Lib.hid hrl
  have HRID := Lib.hid hrid
  obtain ⟨bo, oo, hA, _⟩ := h.at (ent_get hrl)
  subst hA
  clear h hb hr hps hrl hrid hrk hl hC hT0 hG
  go_enter Tryz.func11, Tryz.ntmps11
  go_wp2_with fail
  change Calls _ _ _ (w.alloc zeroView) _
  have hbz := blk_new w zeroView
  have hu0 : Unch none_ w (w.alloc zeroView) := (Unch.refl none_ w).alloc _
  generalize hbze : w.heap.size = bz at *
  generalize w.alloc zeroView = w0 at *
  refine (HOLD.out w0 hu0).mono ?_
  rintro e w1 ⟨gH, rfl, hbr, hgl, hu1⟩
  have HBZ := Lib.hid (hu1.heap hbz (fun h => h))
  have HBR := Lib.hid hbr
  have HU1 := Lib.hid (hu0.trans hu1)
  clear hbz hbr hu0 hu1
  have hnn := made_ne_nil w1 gH n
  go_wp2_with fail
  refine (new_ok l w1).mono ?_
  rintro e w2 ⟨bd, bp, bk, pv, rfl, hdg, hu2, hbd, hbp, hbk⟩
  have HDG := Lib.hid hdg
  have HU2 := Lib.hid hu2
  clear hdg hu2
  clear hnn
  go_upto_region 6 with fail
  have m3 := Sm.made w2
  have hu3 : Unch none_ w2 (w2.alloc (.map #[] 0)) := (Unch.refl none_ w2).alloc _
  have hlt2 := HDG.out.par.lt
  obtain ⟨mk0, hmk0, _⟩ := HDG.out.kid
  have hlt3 := hmk0.lt
  obtain ⟨ba, hba⟩ : ∃ ba, w2.heap.size = ba := ⟨_, rfl⟩
  rw [hba] at m3 hlt2 hlt3 ⊢
  have hs01 := HU1.out.size
  have hs12 := HU2.out.size
  have hlk0 : LK w (w2.alloc (.map #[] 0)) l bd bp bk ba bz gH n G 0 0 pv := ⟨(HU1.out.trans HU2.out).trans hu3, HDG.out.fresh hu3, m3, hu3.heap (HU2.out.heap HBZ.out (fun h => h)) (fun h => h), (HBR.out.unch HU2.out (fun h => h)).unch hu3 (fun h => h), by omega, by omega, by omega, by omega, by omega⟩
  have HLK0 := Lib.hid hlk0
  have nbz : bz < w2.heap.size := by have := lt_of_heap HBZ.out; omega
  clear m3 hu3 hmk0 hlk0
  generalize w2.alloc (.map #[] 0) = w3 at *
  go_wp2_with fail
  go_loopg [8, 9, 24] n (fun gk _ _ i24 wr => ∃ (k : Nat) (pv : Nat → Value), gk = n - k ∧ k ≤ n ∧ i24 = .int .i64 (k : Int) ∧ LK w wr l bd bp bk ba bz gH n G k k pv)
  case atStart => exact ⟨0, _, rfl, Nat.zero_le _, rfl, HLK0.out⟩
  case round =>
    clear HLK0
    obtain ⟨k, pv, rfl, hk, rfl, hlk⟩ := hrel
    obtain ⟨w4, rfl⟩ : ∃ w4, w4 = wr := ⟨_, rfl⟩
    by_cases hkn : k < n
    · have hkl : k < l.length := by rw [HL.out]; exact hkn
      have z1 : (k : Int) < (n : Int) := by omega
      have z2 : (0 : Int) ≤ (k : Int) := by omega
      have h4 := HH.out.fresh hlk.hu
      obtain ⟨x0, x1, x2, x3, x4⟩ := h4.at2 (ent_get hkl)
      obtain ⟨A2, c2, hpv, hc2, hrp⟩ := (HH.out.ok _ (List.mem_of_getElem? (ent_get hkl))).ps
      have hsid := (h4.ok _ (List.mem_of_getElem? (ent_get hkl))).sid
      have hnp1 := HPSL.out _ (List.mem_of_getElem? (ent_get hkl))
      obtain ⟨np, hnp⟩ : ∃ np, (ent l k).ps.length = np := ⟨_, rfl⟩
      rw [hpv, hnp] at x3
      rw [hnp] at hrp hnp1
      have HSID := Lib.hid hsid
      have HRP := Lib.hid hrp
      have HLK := Lib.hid hlk
      have HKL := Lib.hid hkl
      clear h4 hsid hrp hnp hpv hlk hkl
      go_upto_region 9 with fail
      have hu4 : Unch none_ w4 (w4.alloc (.cells #[.string (ent l k).id, .int .i64 (ent l k).kind, .string (ent l k).author, .slice A2 np c2, .string (ent l k).body] 35)) := (Unch.refl none_ w4).alloc _
      have bE := blk_new w4 (.cells #[.string (ent l k).id, .int .i64 (ent l k).kind, .string (ent l k).author, .slice A2 np c2, .string (ent l k).body] 35)
      generalize hge : w4.heap.size = ge at *
      generalize w4.alloc _ = w5 at *
      clear x0 x1 x2 x3 x4 hge
      have hlk5 := HLK.out.fresh hu4
      have HADD := Lib.hid (dadd_ok (c := c2) hlk5.dg HC.out HKL.out (RdS.fresh HRP.out hlk5.hu) hnp1)
      have HLK5 := Lib.hid hlk5
      have HBE := Lib.hid bE
      have y0 := blk_cell bE (j := 0) rfl
      have y3 := blk_cell bE (j := 3) rfl
      clear hu4 bE hlk5 HLK
      go_wp2_with fail
      refine HADD.out.mono ?_
      rintro e w6 ⟨⟨xe, rfl⟩, ⟨pv2, hdg2⟩, hu6⟩
      obtain ⟨mk1, hmk1, _⟩ := HLK5.out.dg.kid
      have y0' := blk_cell (hu6.heap HBE.out (fun e => by
        rcases e with e | e
        · exact sm_ne_cells HLK5.out.dg.par HBE.out e.symm
        · exact sm_ne_cells hmk1 HBE.out e.symm)) (j := 0) rfl
      have hlk6 := HLK5.out.add hdg2 hu6
      have HLK6 := Lib.hid hlk6
      clear hdg2 hu6 hlk6 hmk1 y0 y3
      go_wp2_with (at_mapUpdate; refine wpList_sm_put w6 rfl (.tmp 35) (.tmp 37) (.tmp 38) 61 rfl 9 3 Tryz.underlying61 Tryz.underlying9 ba _ rfl HLK6.out.at_ (ent l k).id rfl HSID.out (.int .i64 (k : Int)) (by rfl) ?_; intro w7 hsm7 hu7; have HSM7 := Lib.hid hsm7; have HU7 := Lib.hid hu7; clear hsm7 hu7)
      go_simp
      go_wp2
      go_roundg (n - (k + 1))
      case measure => omega
      case rel => exact ⟨k + 1, _, rfl, by omega, by go_num, HLK6.out.atput HC.out HKL.out HU7.out HSM7.out⟩
    · obtain rfl : k = n := by omega
      have HLK := Lib.hid hlk
      have h4 := HH.out.fresh hlk.hu
      obtain ⟨_, _, _, _, x4⟩ := h4.at2 (ent_get HRL.out)
      have hat : mget (atA l k) room = some (.int .i64 (r : Int)) := by
        unfold atA
        rw [← HRID.out, idA_get HC.out _ _ (by rw [HL.out]; exact Nat.le_refl _) HRL.out, if_pos ⟨by have := HRL.out; have := HL.out; omega, rfl⟩]
      have hrk' : r < k := by have := HRL.out; have := HL.out; omega
      have y1 : (0 : Int) ≤ (r : Int) := by omega
      have y2 : (r : Int) < (k : Int) := by omega
      have HAT := Lib.hid hat
      have HX4 := Lib.hid x4
      clear hlk h4 hat x4
      go_wp2_with fail
      refine wp_planI (fun W => Unch none_ w4 W) [0, 1, 2, 3, 4, 5, 6, 7, 8] [9, 10, 11, 12] (by kernel_rfl) (by kernel_rfl) rfl (fun c a d v w h => by cases d <;> exact h) ((Unch.refl _ _).drew) ?_
      intro S HS _
      have f0 : ∀ G2 : In S, (Instr.lookup 61 (.map (some ba)) (.string room) false).run Tryz.prog G2.w = .ok (.int .i64 (r : Int)) G2.w := fun G2 => look_i1 (HLK.out.at_.unch ((HS.out _).1 G2.h) (fun h => h)) hmax (by rw [HAT.out]; rfl)
      have f1 : ∀ G2 : In S, G2.w.cell? ⟨bo, oo + r * 5 + 4, none⟩ = some (.string (ent l r).body) := fun G2 => ((HS.out _).1 G2.h).cell HX4.out (fun h => h)
      simp only [pickIn, List.getElem?_toArray, List.getElem?_cons_succ, List.getElem?_cons_zero]
      repeat (go_big_quiet_step (fail))
      refine wpQuiet_nil ?_
      clear f0 f1
      have hu4w : Unch none_ w w4 := HLK.out.hu
      have HU4W := Lib.hid hu4w
      clear hu4w
      obtain ⟨nm, hnm⟩ : ∃ nm, (ent l r).body = nm := ⟨_, rfl⟩
      rw [hnm]
      refine free_slots2 [49, 50, 10] (VI w4 9 10 11 12 49 50 10 T0 nm) (fun x => .inl ⟨rfl, (Unch.refl _ _).drew, by simp, by simp, by simp⟩) ?_ ?_
      · intro D x w5 hI i hi o ho hun hdep
        obtain ⟨hd12, hpre⟩ : D 12 = false ∧ VPre w4 9 10 11 49 50 10 T0 nm D x w5 := by
          rcases hI with h | ⟨hall, _⟩
          · exact h
          · rw [hall i hi] at hun; cases hun
        simp only [List.mem_cons, List.not_mem_nil, or_false] at hi
        have hCw : ∀ w', Unch none_ w4 w' → ∃ g : In S, w' = g.w := fun w' hu => ⟨⟨w', (HS.out _).2 hu⟩, rfl⟩
        have HCw := Lib.hid hCw
        have hw45 := hpre.u
        have HPRE := Lib.hid hpre
        have HDEP := Lib.hid hdep
        have HD12 := Lib.hid hd12
        have HUN := Lib.hid hun
        clear hCw hpre hdep hd12 hun
        rcases hi with rfl | rfl | rfl | rfl
        · simp only [List.getElem?_toArray, List.getElem?_cons_succ, List.getElem?_cons_zero, Option.some.injEq] at ho
          subst ho
          simp only [putsF, List.foldl]
          go_wp2_with fail
          refine (HMEM.out w5 (HU4W.out.trans hw45)).mono ?_
          rintro e w6 ⟨v, L, rfl, hm, hs⟩
          obtain ⟨Av, cv, rfl, _⟩ := hs.row.slice
          have hcall := Lib.hid (HPRE.out.call HUN.out (by decide) (by decide) (by decide) hm hs)
          have hu46 := Lib.hid (hw45.trans hs.hu)
          clear hm hs
          go_wp2_with fail
          exact ⟨HCw.out _ hu46.out, upd x 49 (.slice Av L.length cv), rfl, .inl ⟨by simpa using HD12.out, hcall.out⟩⟩
        · simp only [List.getElem?_toArray, List.getElem?_cons_succ, List.getElem?_cons_zero, Option.some.injEq] at ho
          subst ho
          simp only [putsF, List.foldl]
          have k9 := HDEP.out ⟨9, .data⟩ (by simp) rfl (by simp)
          obtain ⟨Av, cv, L, e49, _, _⟩ := HPRE.out.d1 k9
          have hbld := HPRE.out.build k9 (by decide) (by decide) (by decide) (by decide)
          have E49 := Lib.hid e49
          rw [e49] at hbld
          have HBLD := Lib.hid hbld
          clear hbld k9
          go_wp2_with fail
          refine ⟨HCw.out _ hw45, upd (upd x 49 (.slice Av L.length cv)) 50 (.agg #[.string nm, .string ⟨#[]⟩, .slice Av L.length cv, .slice none 0 0]), rfl, .inl ⟨by simpa using HD12.out, ?_⟩⟩
          rw [upd_same E49.out]
          exact HBLD.out
        · simp only [List.getElem?_toArray, List.getElem?_cons_succ, List.getElem?_cons_zero, Option.some.injEq] at ho
          subst ho
          simp only [putsF, List.foldl]
          have hbx := Lib.hid (HPRE.out.box (by decide) (by decide) (by decide) (by decide))
          go_wp2_with fail
          exact ⟨HCw.out _ hbx.out.u, upd x 10 (.pointer (some ⟨w5.heap.size, 0, none⟩)), rfl, .inl ⟨by simpa using HD12.out, hbx.out⟩⟩
        · simp only [List.getElem?_toArray, List.getElem?_cons_succ, List.getElem?_cons_zero, Option.some.injEq] at ho
          subst ho
          simp only [putsF, List.foldl]
          have k10 := HDEP.out ⟨10, .data⟩ (by simp) rfl (by simp)
          have k11 := HDEP.out ⟨11, .data⟩ (by simp) rfl (by simp)
          obtain ⟨k9, e50⟩ := HPRE.out.d2 k10
          obtain ⟨Av, cv, L, e49, hm, hmr⟩ := HPRE.out.d1 k9
          obtain ⟨bv, e10, hbvl, hbz⟩ := HPRE.out.d3 k11
          rw [e49] at e50 hmr
          have K : Hid (∀ i ∈ [9, 10, 11, 12], (decide (i = 12) || D i) = true) := fun i hi => by
            simp only [List.mem_cons, List.not_mem_nil, or_false] at hi
            rcases hi with rfl | rfl | rfl | rfl
            · rw [k9]; rfl
            · rw [k10]; rfl
            · rw [k11]; rfl
            · rfl
          have HFIN := Lib.hid (vfin_of (nm := nm) hw45 hbz hbvl hm hmr (x := upd (upd x 10 (.pointer (some ⟨bv, 0, none⟩))) 50 (.agg #[.string nm, .string ⟨#[]⟩, .slice Av L.length cv, .slice none 0 0])) (s3 := 10) (by simp [upd]))
          unfold zeroView at hbz
          have y0 := blk_cell hbz (j := 0) rfl
          have y1 := blk_cell hbz (j := 1) rfl
          have y2 := blk_cell hbz (j := 2) rfl
          have y3 := blk_cell hbz (j := 3) rfl
          have q0 := blk_free hbz 0
          have q1 := blk_free hbz 1
          have q2 := blk_free hbz 2
          have q3 := blk_free hbz 3
          clear k9 k10 k11 hbz e49 hm hmr
          go_wp2_with fail
          exact ⟨HCw.out _ HFIN.out.1, upd (upd x 10 (.pointer (some ⟨bv, 0, none⟩))) 50 (.agg #[.string nm, .string ⟨#[]⟩, .slice Av L.length cv, .slice none 0 0]), rfl, .inr ⟨K.out, HFIN.out⟩⟩
      · intro D x w5 hI hall
        rcases hI with ⟨hd12, _⟩ | ⟨_, hfin⟩
        · rw [hall 12 (by simp)] at hd12; cases hd12
        obtain ⟨hu45, vm, L, bv, e10, hm, hmr, hvb⟩ := hfin
        simp only [putsF, List.foldl]
        rw [e10]
        generalize x 49 = x49
        generalize x 50 = x50
        clear e10 hall
        have HLK5 := Lib.hid (HLK.out.fresh hu45)
        have HMR := Lib.hid hmr
        have HVB := Lib.hid hvb
        have HM := Lib.hid hm
        have HNM := Lib.hid hnm
        clear hu45 hmr hvb hm hnm HAT HX4
        have HORD := Lib.hid (dorder_ok (by rw [HL.out]; exact HLK5.out.dg) HC.out)
        have nbv : bv ≠ bz := fun e => by
          have h1 := lt_of_heap HLK.out.bz
          have h2 := HVB.out.hb
          omega
        go_wp2_with fail
        refine HORD.out.mono ?_
        rintro e w6 ⟨vy, ys, rfl, ho, hle, hyl, hs⟩
        have hsz4 := HU4W.out.size
        have hlo : LO w w6 bz gH k G vm L vy ys := ⟨hs.hu.heap HLK5.out.bz (fun h => h), HLK5.out.hg.unch hs.hu (fun h => h), ⟨(HMR.out.fresh hs.hu).row, fun b hb => by have := HMR.out.own b hb; omega⟩, MRow.of hs HLK5.out.hu⟩
        have hvb6 := HVB.out.fresh hs.hu
        have hvb : VB w w6 bv nm vm (.slice none 0 0) (⟨#[]⟩, []) := ⟨hvb6.blk, hvb6.row, (fun b hb => by cases hb), by have := hvb6.hb; omega⟩
        have HLO := Lib.hid hlo
        have HVB6 := Lib.hid hvb
        have HU6 := Lib.hid (HLK5.out.hu.trans hs.hu)
        have HAT6 := Lib.hid (HLK5.out.at_.unch hs.hu (fun h => h))
        obtain ⟨Ay, cy, hvy, _⟩ := hs.row.slice
        obtain ⟨ny, hny⟩ : ∃ ny, ys.length = ny := ⟨_, rfl⟩
        rw [hny] at hvy
        rw [hvy]
        have hn300 : ny ≤ 300 := by have := HL.out; omega
        have HO := Lib.hid ho
        have HLE := Lib.hid hle
        have HYL := Lib.hid hyl
        have HNY := Lib.hid hny
        have HVY := Lib.hid hvy
        clear hlo hvb6 hvb hs ho hle hyl hny hvy HORD HLK5 HMR HVB
        go_wp2_with fail
        go_loopg [12, 13, 54] ny (fun gk _ _ i54 wr => ∃ (q : Nat) (vp : Value), gk = ny - q ∧ q ≤ ny ∧ i54 = .int .i64 (q : Int) ∧ Unch none_ w wr ∧ LO w wr bz gH k G vm L vy ys ∧ Sm wr ba (atA l k) ∧ VB w wr bv nm vm vp (viewV l G (ys.take q)))
        case atStart => exact ⟨0, _, rfl, Nat.zero_le _, rfl, HU6.out, HLO.out, HAT6.out, by rw [List.take_zero, viewV_nil]; exact HVB6.out⟩
        case round =>
          clear HLO HVB6 HU6 HAT6
          obtain ⟨q, vp, rfl, hq, rfl, hu, hlo, hat, hvb⟩ := hrel
          obtain ⟨w7, rfl⟩ : ∃ w7, w7 = wr := ⟨_, rfl⟩
          by_cases hqn : q < ny
          · have zq : (q : Int) < (ny : Int) := by omega
            have hyr := hlo.ysr.row
            rw [HVY.out, HNY.out] at hyr
            obtain ⟨id, hid⟩ := get_some HNY.out hqn
            obtain ⟨by_, oy, rfl, _, xy⟩ := RdS.str (srow_rds hyr) hid
            obtain ⟨i, hi, rfl⟩ := HO.out.sub id (List.mem_of_getElem? hid)
            have hik : i < k := by have := HL.out; omega
            have y1' : (0 : Int) ≤ (i : Int) := by omega
            have y2' : (i : Int) < (k : Int) := by omega
            have hmg : mget (atA l k) (ent l i).id = some (.int .i64 (i : Int)) := by
              unfold atA
              rw [idA_get HC.out _ _ (by rw [HL.out]; exact Nat.le_refl _) hi, if_pos ⟨hik, rfl⟩]
            have h7 := HH.out.fresh hu
            have hsid := (h7.ok _ (List.mem_of_getElem? (ent_get hi))).sid
            obtain ⟨x0, x1, x2, x3, x4⟩ := h7.at2 (ent_get hi)
            obtain ⟨A2, c2, hpv, _, _⟩ := (HH.out.ok _ (List.mem_of_getElem? (ent_get hi))).ps
            obtain ⟨np, hnp⟩ : ∃ np, (ent l i).ps.length = np := ⟨_, rfl⟩
            rw [hpv, hnp] at x3
            have hlk7 := look_i1 hat hsid (x := .int .i64 (i : Int)) (by rw [hmg]; rfl)
            have hview := viewV_take l G hid
            rw [ixL_id HC.out hi] at hview
            obtain ⟨idB, hidB⟩ : ∃ idB, (ent l i).id = idB := ⟨_, rfl⟩
            obtain ⟨kd, hkd⟩ : ∃ kd, (ent l i).kind = kd := ⟨_, rfl⟩
            obtain ⟨au, hau⟩ : ∃ au, (ent l i).author = au := ⟨_, rfl⟩
            obtain ⟨bo2, hbo2⟩ : ∃ bo2, (ent l i).body = bo2 := ⟨_, rfl⟩
            unfold stepV at hview
            rw [hkd, hau, hbo2] at hview
            rw [hidB] at x0 xy hlk7 hsid hmg
            rw [hkd] at x1
            rw [hau] at x2
            rw [hbo2] at x4
            obtain ⟨s, hs⟩ : ∃ s, viewV l G (ys.take q) = s := ⟨_, rfl⟩
            rw [hs] at hview hvb
            have hslen : s.2.length ≤ 300 := by
              rw [← hs]
              have h1 := viewV_len l G (ys.take q)
              rw [List.length_take] at h1
              omega
            have HVIEW := Lib.hid hview
            have HU7 := Lib.hid hu
            have HLO7 := Lib.hid hlo
            have HAT7 := Lib.hid hat
            have HVB7 := Lib.hid hvb
            have HMG := Lib.hid hmg
            clear hview hu hlo hat hvb hmg hyr hid hi h7 hpv hnp hidB hkd hau hbo2 hs
            go_upto_region 17 with fail
            have hu8 : Unch none_ w7 (w7.alloc (.cells #[.string idB, .int .i64 kd, .string au, .slice A2 np c2, .string bo2] 35)) := (Unch.refl none_ w7).alloc _
            have bE := blk_new w7 (.cells #[.string idB, .int .i64 kd, .string au, .slice A2 np c2, .string bo2] 35)
            generalize hge : w7.heap.size = ge at *
            generalize w7.alloc _ = w8 at *
            clear x0 x1 x2 x3 x4 hge hlk7
            have hlo8 := HLO7.out.fresh hu8
            have hat8 := HAT7.out.unch hu8 (fun h => h)
            have hvb8 := HVB7.out.fresh hu8
            have hlk8 := look_i1 hat8 hsid (x := .int .i64 (i : Int)) (by rw [HMG.out]; rfl)
            have yg := hlo8.hg.at (j := i) hik
            have e1 := blk_cell bE (j := 1) rfl
            have e2 := blk_cell bE (j := 2) rfl
            have e4 := blk_cell bE (j := 4) rfl
            have HLO8 := Lib.hid hlo8
            have HAT8 := Lib.hid hat8
            have HVB8 := Lib.hid hvb8
            have HU8 := Lib.hid (HU7.out.trans hu8)
            clear hlo8 hat8 hvb8 hu8 HLO7 HAT7 HVB7 HU7 bE
            obtain ⟨gi, hgi⟩ : ∃ gi, G i = gi := ⟨_, rfl⟩
            have hview := HVIEW.out
            rw [hgi] at yg hview
            clear HVIEW hgi
            cases gi with
            | false =>
              rw [if_neg (by decide)] at hview
              have HV := Lib.hid hview
              clear hview
              go_wp2
              go_roundg (ny - (q + 1))
              case measure => omega
              case rel => exact ⟨q + 1, vp, rfl, by omega, by go_num, HU8.out, HLO8.out, HAT8.out, by rw [HV.out]; exact HVB8.out⟩
            | true =>
              rw [if_pos rfl] at hview
              by_cases hk3 : kd = 3
              · subst hk3
                rw [if_pos rfl] at hview
                have HV := Lib.hid hview
                have t1 := blk_cell HVB8.out.blk (j := 1) rfl
                have q1 := blk_free HVB8.out.blk 1
                clear hview
                go_wp2
                have huT : Unch (fun j => j = bv) w8 (w8.setCell ⟨bv, 1, none⟩ (.string bo2)) := (Unch.refl _ _).setCell _ (fun _ => rfl)
                go_roundg (ny - (q + 1))
                case measure => omega
                case rel => exact ⟨q + 1, vp, rfl, by omega, by go_num, HU8.out.step huT (fun j hj e => by have := HVB8.out.hb; omega), HLO8.out.unch huT (HVB8.out.isB nbv), HAT8.out.unch huT (fun e => isV.not_map HAT8.out (HVB8.out.isB nbv _ e)), by rw [HV.out]; exact HVB8.out.topic bo2⟩
              · rw [if_neg hk3] at hview
                have d3 := int_bne hk3
                have d3' : (kd == 3) = false := by simpa using hk3
                by_cases hk2 : kd = 2
                · subst hk2
                  rw [if_pos rfl] at hview
                  have HV := Lib.hid hview
                  have t3 := blk_cell HVB8.out.blk (j := 3) rfl
                  obtain ⟨m, hm⟩ : ∃ m, s.2.length = m := ⟨_, rfl⟩
                  have hrow := HVB8.out.row
                  rw [hm] at hrow hslen
                  obtain ⟨Ap, cp, hvp, _⟩ := hrow.slice
                  rw [hvp] at hrow t3
                  have HROW := Lib.hid hrow
                  have HVP := Lib.hid hvp
                  have HMM := Lib.hid hm
                  clear hview hrow hvp hm hk3
                  go_wp2_with (at_builtin; refine wpList_append1 w8 rfl (.tmp 84) (.tmp 90) 28 53 _ 2 32 rfl Tryz.underlying28 info_said rfl (by omega) (.slice Ap m cp) m (pcells s.2) (by rfl) HROW.out [.string au, .string bo2] rfl (by intro u hu; simp at hu; rcases hu with rfl | rfl <;> rfl) (by rfl) (by simp only [maxLen]; omega) (by omega) ?_; intro v9 w9 hr9 hu9 hat9; have hb9 := hu9.heap HVB8.out.blk (fun e => said_ne HROW.out HVB8.out.blk e rfl); have t3' := blk_cell hb9 (j := 3) rfl; have q3' := blk_free hb9 3; obtain ⟨A9, c9, rfl, _⟩ := hr9.slice; have HR9 := Lib.hid hr9; have HU9 := Lib.hid hu9; have HAT9 := Lib.hid (hat_of hat9); clear hr9 hu9 hat9 hb9)
                  have hu9' : Unch (fun k => vp.ownBlock = some k) w8 w9 := by rw [HVP.out]; exact HU9.out
                  have hvb9 := HVB8.out.post (a := au) (b := bo2) HU8.out.size (by rw [HMM.out]; exact HR9.out) hu9' (by rw [HVP.out]; exact HAT9.out)
                  have hb9 := HU9.out.heap HVB8.out.blk (fun e => said_ne HROW.out HVB8.out.blk e rfl)
                  have huT : Unch (fun j => j = bv) w9 (w9.setCell ⟨bv, 3, none⟩ (.slice A9 (m + 1) c9)) := (Unch.refl _ _).setCell _ (fun _ => rfl)
                  have hiv : ∀ j, j = bv → isV w9 bz j := fun j e => by subst e; exact ⟨_, _, _, hb9, .inl ⟨rfl, nbv⟩⟩
                  have hlo9 := HLO8.out.unch hu9' (fun j e => HVB8.out.isP j e)
                  have hat9 := HAT8.out.unch hu9' (fun e => isV.not_map (bz := bz) HAT8.out (HVB8.out.isP _ e))
                  have hu09 := HU8.out.step hu9' (fun j hj e => by have := HVB8.out.own j e; omega)
                  have HN := Lib.hid (And.intro (hu09.step huT (fun j hj e => by have := HVB8.out.hb; omega)) (And.intro (hlo9.unch huT hiv) (And.intro (hat9.unch huT (fun e => isV.not_map hat9 (hiv _ e))) hvb9)))
                  clear hvb9 hb9 huT hiv hlo9 hat9 hu09 hu9'
                  go_roundg (ny - (q + 1))
                  case measure => omega
                  case rel => exact ⟨q + 1, _, rfl, by omega, by go_num, HN.out.1, HN.out.2.1, HN.out.2.2.1, by rw [HV.out]; exact HN.out.2.2.2⟩
                · rw [if_neg hk2] at hview
                  have d2 := int_bne hk2
                  have d2' : (kd == 2) = false := by simpa using hk2
                  have HV := Lib.hid hview
                  clear hview
                  go_wp2
                  go_roundg (ny - (q + 1))
                  case measure => omega
                  case rel => exact ⟨q + 1, vp, rfl, by omega, by go_num, HU8.out, HLO8.out, HAT8.out, by rw [HV.out]; exact HVB8.out⟩
          · obtain rfl : q = ny := by omega
            rw [← HNY.out, List.take_length] at hvb
            obtain ⟨s, hs⟩ : ∃ s, viewV l G ys = s := ⟨_, rfl⟩
            rw [hs] at hvb
            obtain ⟨Ap, cp, hvp, _⟩ := hvb.row.slice
            obtain ⟨Am, cm, hvm, _⟩ := hlo.mem.row.slice
            obtain ⟨m, hm⟩ : ∃ m, s.2.length = m := ⟨_, rfl⟩
            obtain ⟨ml, hml⟩ : ∃ ml, L.length = ml := ⟨_, rfl⟩
            rw [hm] at hvp
            rw [hml] at hvm
            have hblk := hvb.blk
            rw [hvp, hvm] at hblk
            obtain ⟨tp, htp⟩ : ∃ tp, s.1 = tp := ⟨_, rfl⟩
            rw [htp] at hblk
            have y0 := blk_cell hblk (j := 0) rfl
            have y1 := blk_cell hblk (j := 1) rfl
            have y2 := blk_cell hblk (j := 2) rfl
            have y3 := blk_cell hblk (j := 3) rfl
            have hz := hlo.bz
            unfold zeroView at hz
            have z0 := blk_cell hz (j := 0) rfl
            have z1 := blk_cell hz (j := 1) rfl
            have z2 := blk_cell hz (j := 2) rfl
            have z3 := blk_cell hz (j := 3) rfl
            have p0 := blk_free hz 0
            have p1 := blk_free hz 1
            have p2 := blk_free hz 2
            have p3 := blk_free hz 3
            have HZ := Lib.hid hz
            have HVB := Lib.hid hvb
            have HLO := Lib.hid hlo
            have HU := Lib.hid hu
            have HS := Lib.hid hs
            have HTP := Lib.hid htp
            have HVP := Lib.hid hvp
            have HVM := Lib.hid hvm
            clear hz hvb hlo hu hat hblk hs htp hvp hvm hm hml
            go_wp2
            have huW : Unch (fun j => j = bz) w7 ((((w7.setCell ⟨bz, 0, none⟩ (.string nm)).setCell ⟨bz, 1, none⟩ (.string tp)).setCell ⟨bz, 2, none⟩ (.slice Am ml cm)).setCell ⟨bz, 3, none⟩ (.slice Ap m cp)) :=
              ((((Unch.refl (fun j => j = bz) w7).setCell _ (fun _ => rfl)).setCell _ (fun _ => rfl)).setCell _ (fun _ => rfl)).setCell _ (fun _ => rfl)
            have hbW := blk_set (blk_set (blk_set (blk_set HZ.out 0 (.string nm)) 1 (.string tp)) 2 (.slice Am ml cm)) 3 (.slice Ap m cp)
            refine bodyPost_ret (results_c1 rfl _ _ bz _ _ _ _ rfl hbW Tryz.underlying30 rfl (by kernel_rfl)) rfl ?_
            refine ⟨ys, tp, s.2, vm, vp, L, ?_, ⟨HO.out, HLE.out, HYL.out⟩, by rw [HS.out, ← HTP.out], HM.out, ⟨HU.out.step huW (fun j hj e => by omega), HLO.out.mem.unch (bz := bz + 1) huW (fun j e => ?_), HVB.out.row.unch huW (fun j hj e => said_ne HVB.out.row HZ.out hj e), HVB.out.own⟩⟩
            · rw [HNM.out, HVM.out, HVP.out]; rfl
            · subst e; exact ⟨_, _, _, HZ.out, .inl ⟨rfl, by omega⟩⟩
end Go.Proofs.YtgalnnmeamldhaaGreat
