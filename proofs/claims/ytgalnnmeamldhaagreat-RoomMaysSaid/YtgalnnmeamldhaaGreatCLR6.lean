/-
  RoomMays: the walk.
-/
import Derived.Test.YtgalnnmeamldhaaGreatCLR4
import Derived.Test.YtgalnnmeamldhaaGreatCPlan
import Derived.Laws.MakeOwn
/- RoomMays: the walk. -/
set_option linter.unusedVariables false
set_option linter.unusedSimpArgs false
namespace Go.Proofs.YtgalnnmeamldhaaGreat
open Go Go.RowKit Go.Proofs.YtgalnnmeamldhaaGreat.Pal Go.Proofs.YtgalnnmeamldhaaGreat.Plan

theorem ViewOf.same {es : List Ent} (hC : Closed es) {w : World} {v1 v2 : Value} (h1 : ViewOf es w v1) (h2 : ViewOf es w v2) : Calls Tryz.prog 10 #[v1, v2] w fun e w' => e = .returned (.bool true) ∧ Unch none_ w w' := by
  obtain ⟨nm, tp, L, ps, a1, a2⟩ := h1
  obtain ⟨nm', tp', L', ps', b1, b2⟩ := h2
  obtain ⟨rfl, rfl, rfl, rfl⟩ := a1.uniq hC b1
  exact same_view a2 b2
theorem field_in16 (v0 v1 v2 v3 : Value) (W : World) : (Instr.field 46 (.agg #[v0, v1, v2, v3]) 3).run Tryz.prog W = .ok v3 W := by
  simp [Instr.field, run_underlying Tryz.underlying46, asAgg, part, Tryz.isAgg44, go_sem]
/-- make([]Entry, 0, k + 4). -/
theorem make_ents (w : World) (k : Nat) (hk : k ≤ 1000) : ∃ w', (Instr.makeSlice 23 (.int .i64 0) (.int .i64 ((k : Int) + 1 + 3))).run Tryz.prog w = .ok (.slice (some ⟨w.heap.size, 0, none⟩) 0 (k + 4)) w' ∧ Row w' 35 5 (.slice (some ⟨w.heap.size, 0, none⟩) 0 (k + 4)) 0 [] ∧ Unch none_ w w' := by
  obtain ⟨i0, hi, hzz⟩ := Option.map_eq_some_iff.1 info_ent
  simp only [Prod.mk.injEq] at hzz
  obtain ⟨hz0, hz1, hz2⟩ := hzz
  obtain ⟨w', h1, h2, h3⟩ := run_make_own (P := Tryz.prog) w 0 23 35 i0 _ 5 Tryz.underlying23 hi hz0 hz1 .i64 .i64 (k + 4) (by rw [hz2]; omega) (by unfold maxLen; omega) (Nat.zero_le _)
  have e : (((k + 4 : Nat)) : Int) = (k : Int) + 1 + 3 := by omega
  rw [e] at h1
  exact ⟨w', h1, Row.of_own h2, (Unch.refl _ _).grown h3 (fun k _ h => by cases h)⟩
set_option maxRecDepth 100000 in
set_option maxHeartbeats 20000000 in
theorem roomMays_walk (A : Option Addr) (n c : Nat) (l : List Say) (x : Say) (w : World) (h : RdS w 5 (SayRW w) A n l) (hc : n ≤ c) (hx : SayOk w x) :
    Calls Tryz.prog 5 #[.slice A n c, x.val] w fun e w' => e = .returned (.bool true) ∧ Unch none_ w w' := by
  have hs := says_of h
  have hmax := h.max
  obtain ⟨AB, cB, hbv, hcB, _⟩ := hx.bs
  obtain ⟨mB, hmB⟩ : ∃ mB, x.behind.length = mB := ⟨_, rfl⟩
  rw [hmB] at hbv hcB
  have hxv : x.val = .agg #[.int .i64 x.kind, .int .i64 x.who, .int .i64 x.whom, .slice AB mB cB, .int .u8 x.name] := by unfold Say.val; rw [hbv]
  have hxc : x.cells = [.int .i64 x.kind, .int .i64 x.who, .int .i64 x.whom, .slice AB mB cB, .int .u8 x.name] := by unfold Say.cells; rw [hbv]
  rw [hxv]
  have bX := blk_new w (.cells #[.int .i64 x.kind, .int .i64 x.who, .int .i64 x.whom, .slice AB mB cB, .int .u8 x.name] 42)
  have hu1 : Unch none_ w (w.alloc (.cells #[.int .i64 x.kind, .int .i64 x.who, .int .i64 x.whom, .slice AB mB cB, .int .u8 x.name] 42)) := (Unch.refl none_ w).alloc _
  have HU1 := Lib.hid hu1
  have HXC := Lib.hid hxc
  have HSY := Lib.hid hs
  have HX := Lib.hid hx
  have hone := hx.one
  rw [hxc] at hone
  have HONE := Lib.hid hone
  have HMAX := Lib.hid hmax
  have x0 := blk_cell bX (j := 0) rfl
  have x1 := blk_cell bX (j := 1) rfl
  have x2 := blk_cell bX (j := 2) rfl
  have x3 := blk_cell bX (j := 3) rfl
  have x4 := blk_cell bX (j := 4) rfl
  clear hone hs hmax hx hbv hmB hxv hxc bX hu1 h
  go_enter Tryz.func5, Tryz.ntmps5
  go_upto_region 1 with fail
  generalize w.alloc (.cells #[.int .i64 x.kind, .int .i64 x.who, .int .i64 x.whom, .slice AB mB cB, .int .u8 x.name] 42) = w1 at *
  generalize w.heap.size = gX at *
  have hfew := few16_ok (w := w1) (A := A) (c := c) HMAX.out
  by_cases hn : n ≤ 24
  · rw [decide_eq_true hn] at hfew
    have HF := Lib.hid hfew
    clear hfew
    go_wp2_with fail
    refine HF.out.mono ?_
    rintro e w2 ⟨rfl, rfl⟩
    go_wp2_with fail
    refine wp_planI (fun W => Unch none_ w1 W) [1, 3] [0, 2, 4, 5, 6, 7] (by kernel_rfl) (by kernel_rfl) rfl (fun c a d v w h => by cases d <;> exact h) ((Unch.refl _ _).drew) ?_
    intro S HS _
    have f0 : ∀ G2 : In S, G2.w.cell? ⟨gX, 0, none⟩ = some (.int .i64 x.kind) := fun G2 => ((HS.out _).1 G2.h).cell x0 (fun h => h)
    have f1 : ∀ G2 : In S, G2.w.cell? ⟨gX, 1, none⟩ = some (.int .i64 x.who) := fun G2 => ((HS.out _).1 G2.h).cell x1 (fun h => h)
    have f2 : ∀ G2 : In S, G2.w.cell? ⟨gX, 2, none⟩ = some (.int .i64 x.whom) := fun G2 => ((HS.out _).1 G2.h).cell x2 (fun h => h)
    have f3 : ∀ G2 : In S, G2.w.cell? ⟨gX, 3, none⟩ = some (.slice AB mB cB) := fun G2 => ((HS.out _).1 G2.h).cell x3 (fun h => h)
    have f4 : ∀ G2 : In S, G2.w.cell? ⟨gX, 4, none⟩ = some (.int .u8 x.name) := fun G2 => ((HS.out _).1 G2.h).cell x4 (fun h => h)
    simp only [pickIn, List.getElem?_toArray, List.getElem?_cons_succ, List.getElem?_cons_zero]
    repeat (go_big_quiet_step (fail))
    refine wpQuiet_nil ?_
    clear f0 f1 f2 f3 f4
    refine free_slots2 [13, 15, 17, 18, 19, 5] (LI w1 n l [.int .i64 x.kind, .int .i64 x.who, .int .i64 x.whom, .slice AB mB cB, .int .u8 x.name] 13 15 17 18 19 5) (fun x => LI.start ((Unch.refl _ _).drew)) ?_ ?_
    · intro D y w5 hI i hi o ho hun hdep
      simp only [List.mem_cons, List.not_mem_nil, or_false] at hi
      have hCw : ∀ w', Unch none_ w1 w' → ∃ g : In S, w' = g.w := fun w' hu => ⟨⟨w', (HS.out _).2 hu⟩, rfl⟩
      have hN : LIn 13 15 17 18 19 5 := ⟨⟨by decide, by decide⟩, by decide, by decide, by decide⟩
      have HN := Lib.hid hN
      have HCw := Lib.hid hCw
      have HI := Lib.hid hI
      have HDEP := Lib.hid hdep
      have HUN := Lib.hid hun
      clear hCw hI hdep hun hN x0 x1 x2 x3 x4
      rcases hi with rfl | rfl | rfl | rfl | rfl | rfl
      · simp only [List.getElem?_toArray, List.getElem?_cons_succ, List.getElem?_cons_zero, Option.some.injEq] at ho
        subst ho
        simp only [putsF, List.foldl]
        have hs := Lib.hid (HI.out.of (w2 := w5.alloc (.cells #[] 42)) HN.out (i := 0) (s := 13) (by decide) (by decide) (fun _ => (Unch.refl _ _).alloc _) (HI.out.ap.put0 HN.out.n))
        go_wp2_with fail
        exact ⟨HCw.out _ hs.out.ap.u, upd y 13 (.slice (some ⟨w5.heap.size, 0, none⟩) 0 0), rfl, hs.out⟩
      · simp only [List.getElem?_toArray, List.getElem?_cons_succ, List.getElem?_cons_zero, Option.some.injEq] at ho
        subst ho
        simp only [putsF, List.foldl]
        have k0 := HDEP.out ⟨0, .data⟩ (by simp) rfl (by simp)
        have k5 : D 5 = false := by
          cases h5 : D 5 with
          | false => rfl
          | true => have := HI.out.ap.e5 h5; rw [HUN.out] at this; cases this
        have k6 : D 6 = true → False := fun h6 => by have := HI.out.e6 h6; rw [k5] at this; cases this
        obtain ⟨g, e0, hgl, hg⟩ := HI.out.ap.d0 k5 HUN.out k0
        have hsy := HSY.out.fresh (HU1.out.trans HI.out.ap.u)
        have HK5 := Lib.hid k5
        have HK6 := Lib.hid k6
        have E0 := Lib.hid e0
        have HG := Lib.hid hg
        have HSY5 := Lib.hid hsy
        have hsl : (scells l).length = n * 5 := by rw [scells_len, hsy.len]
        have HSL := Lib.hid hsl
        clear k0 k5 k6 e0 hg hsy hsl
        go_wp2_with (at_builtin; refine wpList_append_any w5 rfl (.tmp 13) (.tmp 14) 22 42 _ 5 56 rfl Tryz.underlying22 info_say rfl (by omega) (.slice (some ⟨g, 0, none⟩) 0 0) 0 [] (by exact E0.out) (empty_row HG.out) A n c (scells l) (by rfl) HSL.out HSY5.out.news HSY5.out.one (by simp only [maxLen]; omega) (by omega) ?_; intro B cB' w6 hcB' hr hu hat; rw [Nat.zero_add] at hr hat hcB'; rw [List.nil_append] at hr; rw [Nat.zero_add]; have hp := HI.out.ap.put2 HN.out.n HK5.out (Nat.zero_lt_succ 4) HG.out hgl hr (hu.mono (fun k _ e => by injection e with e; exact e.symm)) (fun b hb => by rcases hat b hb with h1 | h1; (injection h1 with h1; subst h1; exact hgl); (exact Nat.le_trans HI.out.ap.u.size h1)); have hs := HI.out.of HN.out (by decide) (by decide) (fun h6 => (HK6.out h6).elim) hp; have HS6 := Lib.hid hs; clear hr hu hat hp hs)
        exact ⟨HCw.out _ HS6.out.ap.u, upd y 15 (.slice B n cB'), rfl, HS6.out⟩
      · simp only [List.getElem?_toArray, List.getElem?_cons_succ, List.getElem?_cons_zero, Option.some.injEq] at ho
        subst ho
        simp only [putsF, List.foldl]
        have hs := Lib.hid (HI.out.of (w2 := w5.alloc (.cells #[.int .i64 x.kind, .int .i64 x.who, .int .i64 x.whom, .slice AB mB cB, .int .u8 x.name] 42)) HN.out (i := 4) (s := 17) (by decide) (by decide) (fun _ => (Unch.refl _ _).alloc _) (HI.out.ap.put4 HN.out.n))
        go_wp2_with fail
        exact ⟨HCw.out _ hs.out.ap.u, upd y 17 (.slice (some ⟨w5.heap.size, 0, none⟩) 1 1), rfl, hs.out⟩
      · simp only [List.getElem?_toArray, List.getElem?_cons_succ, List.getElem?_cons_zero, Option.some.injEq] at ho
        subst ho
        simp only [putsF, List.foldl]
        have k2 := HDEP.out ⟨2, .data⟩ (by simp) rfl (by simp)
        have k4 := HDEP.out ⟨4, .data⟩ (by simp) rfl (by simp)
        have k6 : D 6 = true → False := fun h6 => by have := HI.out.e6 h6; rw [HUN.out] at this; cases this
        obtain ⟨B, cB', e2, hr2, hown⟩ := HI.out.ap.d2 HUN.out k2
        obtain ⟨g4, e4, _, hg4⟩ := HI.out.ap.d4 HUN.out k4
        have HK2 := Lib.hid k2
        have HK6 := Lib.hid k6
        have E2 := Lib.hid e2
        have E4 := Lib.hid e4
        have HR2 := Lib.hid hr2
        have HOWN := Lib.hid hown
        have HG4 := Lib.hid hg4
        clear k2 k4 k6 e2 e4 hr2 hown hg4
        go_wp2_with (at_builtin; refine wpList_append_any w5 rfl (.tmp 15) (.tmp 17) 22 42 _ 5 56 rfl Tryz.underlying22 info_say rfl (by omega) (.slice B n cB') n (scells l) (by exact E2.out) HR2.out (some ⟨g4, 0, none⟩) 1 1 [.int .i64 x.kind, .int .i64 x.who, .int .i64 x.whom, .slice AB mB cB, .int .u8 x.name] (by exact E4.out) rfl (fun _ => ⟨_, rfl, World.news_of_block HG4.out⟩) HONE.out (by simp only [maxLen]; omega) (by omega) ?_; intro B2 cB2 w6 hcB2 hr hu hat; have hp := HI.out.ap.put5 (by decide) HK2.out HOWN.out hcB2 hr hu; have hs := HI.out.of HN.out (by decide) (by decide) (fun h6 => (HK6.out h6).elim) hp; have HS6 := Lib.hid hs; clear hr hu hat hp hs)
        exact ⟨HCw.out _ HS6.out.ap.u, upd y 18 (.slice B2 (n + 1) cB2), rfl, HS6.out⟩
      · simp only [List.getElem?_toArray, List.getElem?_cons_succ, List.getElem?_cons_zero, Option.some.injEq] at ho
        subst ho
        simp only [putsF, List.foldl]
        have k5 := HDEP.out ⟨5, .data⟩ (by simp) rfl (by simp)
        obtain ⟨B, cB', e5, hcB', hr5⟩ := HI.out.ap.d5 k5
        have hu15 := HU1.out.trans HI.out.ap.u
        rw [← HXC.out, ← scells_app] at hr5
        have hsy := says_row (c := cB') hr5 (by rw [List.length_append, HSY.out.len]; rfl) (fun z hz => by
          rcases List.mem_append.1 hz with h1 | h1
          · exact (HSY.out.ok z h1).fresh hu15
          · rw [List.mem_singleton.1 h1]; exact HX.out.fresh hu15)
        have hl := laidX (c := cB') hsy (Nat.le_refl (n + 1)) (by omega) (.inl rfl)
        rw [← e5] at hl
        have HL := Lib.hid hl
        have HK5 := Lib.hid k5
        clear k5 e5 hr5 hu15 hsy hl
        go_wp2_with fail
        refine HL.out.mono ?_
        rintro e w6 ⟨A1, n1, c1, es, rfl, hld, hok, hn1, hu6⟩
        have hs := HI.out.call HK5.out HN.out hu6 (v := .slice A1 n1 c1) ⟨A1, n1, c1, es, rfl, hld, hok, hn1⟩
        have HS6 := Lib.hid hs
        clear hld hok hn1 hu6 hs
        go_wp2_with fail
        exact ⟨HCw.out _ HS6.out.ap.u, upd y 19 (.slice A1 n1 c1), rfl, HS6.out⟩
      · simp only [List.getElem?_toArray, List.getElem?_cons_succ, List.getElem?_cons_zero, Option.some.injEq] at ho
        subst ho
        simp only [putsF, List.foldl]
        have k6 := HDEP.out ⟨6, .data⟩ (by simp) rfl (by simp)
        have hs := Lib.hid (HI.out.put HN.out k6)
        clear k6
        go_wp2_with fail
        exact ⟨HCw.out _ hs.out.ap.u, upd y 5 (y 19), rfl, hs.out⟩
    · intro D y w5 hI hall
      obtain ⟨A1, n1, c1, es, e7, hld, hok, hn1⟩ := hI.d7 (hall 7 (by simp))
      have HU5 := Lib.hid (HU1.out.trans hI.ap.u)
      simp only [putsF, List.foldl]
      rw [e7]
      generalize y 13 = y0
      generalize y 15 = y2
      generalize y 17 = y4
      generalize y 18 = y5
      generalize y 19 = y6
      clear e7 hall hI x0 x1 x2 x3 x4
      obtain ⟨k, hk⟩ : ∃ k, k = n + 1 := ⟨_, rfl⟩
      obtain rfl : n1 = k + 1 := by omega
      have hkl : es.length = k + 1 := hld.len
      have hk0 : 0 < k := by omega
      have hk2 : k ≤ 25 := by omega
      clear hk hn1
      have hC := hld.cl
      have hts := take_last hkl
      have hS := prefix_sub hC k
      have htl : (es.take k).length = k := by rw [List.length_take]; omega
      have hclT := closed_iff.2 hS.cm
      have hrT := root_take hC hk0 (by omega) hld.root
      have hkc : k ≤ c1 := by have := hld.hc; omega
      obtain ⟨b, o, rfl, _, z0, z1, z2, z3, z4⟩ := hld.ents.at (ent_get (show k < es.length by omega))
      obtain ⟨A2, c2, hpv, _, _⟩ := (hld.ents.ok _ (List.mem_of_getElem? (ent_get (show k < es.length by omega)))).ps
      obtain ⟨m2, hm2⟩ : ∃ m2, (ent es k).ps.length = m2 := ⟨_, rfl⟩
      rw [hpv, hm2] at z3
      have hval : (.agg #[.string (ent es k).id, .int .i64 (ent es k).kind, .string (ent es k).author, .slice A2 m2 c2, .string (ent es k).body] : Value) = (ent es k).val := by unfold Ent.val; rw [hpv, hm2]
      obtain ⟨gB, hgB⟩ : ∃ gB, goodL es 0 k = gB := ⟨_, rfl⟩
      have HLD := Lib.hid hld
      have HPS := Lib.hid hok.hps
      have HGB := Lib.hid hgB
      have HKL := Lib.hid hkl
      have HCT := Lib.hid hclT
      have HRT := Lib.hid hrT
      have HTS := Lib.hid hts
      have HVAL := Lib.hid hval
      have hET := hld.ents.take k (by omega)
      have hnews : ∀ j u, (ecells (es.take k))[j]? = some u → w5.cell? ((⟨b, o, none⟩ : Addr).add j) = some u := fun j u hu => rds_news hET.rd hu
      have hnl : (ecells (es.take k)).length = k * 5 := by rw [ecells_len, htl]
      have HNEWS := Lib.hid hnews
      have HNL := Lib.hid hnl
      have HN1 := Lib.hid hET.one.cells
      have HET := Lib.hid hET
      have y0' : (0 : Int) ≤ (k : Int) := by omega
      have y1' : (k : Int) < ((k + 1 : Nat) : Int) := by omega
      have HZ := Lib.hid (show w5.cell? ⟨b, o + k * 5, none⟩ = some (.string (ent es k).id) ∧ w5.cell? ⟨b, o + k * 5 + 1, none⟩ = some (.int .i64 (ent es k).kind) ∧ w5.cell? ⟨b, o + k * 5 + 2, none⟩ = some (.string (ent es k).author) ∧ w5.cell? ⟨b, o + k * 5 + 3, none⟩ = some (.slice A2 m2 c2) ∧ w5.cell? ⟨b, o + k * 5 + 4, none⟩ = some (.string (ent es k).body) from ⟨z0, z1, z2, z3, z4⟩)
      clear hC hts hS htl hclT hrT hpv hm2 hval hgB hld hok hkl HF hET hnews hnl z0 z1 z2 z3 z4
      go_wp2
      refine wp_planP (fun W => Unch none_ w5 W) [0, 1, 2, 4, 5, 6] [] [3, 7, 8] 0 (by kernel_rfl) (by kernel_rfl) rfl rfl rfl (fun c a d v w h => by cases d <;> exact h) ((Unch.refl _ _).drew) ?_
      intro S S0 HS _ _
      simp only [pickIn, List.getElem?_toArray, List.getElem?_cons_succ, List.getElem?_cons_zero]
      repeat (go_big_quiet_step (fail))
      refine wpQuiet_nil ?_
      repeat (go_big_quiet_step (fail))
      refine wpQuiet_nil ?_
      refine tail_all ?_
      obtain ⟨wm, hmk, hrow0, hum⟩ := make_ents w5.drew k (by omega)
      have hum5 : Unch none_ w5 wm := (Unch.refl none_ w5).drew.trans hum
      have hmk' : (Instr.makeSlice 23 (.int .i64 0) (.int .i64 ((k : Int) + 1 + 3))).run Tryz.prog w5.drew = .ok (.slice (some ⟨w5.heap.size, 0, none⟩) 0 (k + 4)) wm := hmk
      have hrow1 : Row wm 35 5 (.slice (some ⟨w5.heap.size, 0, none⟩) 0 (k + 4)) 0 [] := hrow0
      have HROW1 := Lib.hid hrow1
      have HUM := Lib.hid hum5
      clear hmk hrow0 hum hrow1 hum5
      go_wp2_with (at_builtin; refine wpList_append_any wm rfl (.tmp 26) (.tmp 29) 23 35 _ 5 80 rfl Tryz.underlying23 info_ent rfl (by omega) (.slice (some ⟨w5.heap.size, 0, none⟩) 0 (k + 4)) 0 [] (by rfl) HROW1.out (some ⟨b, o, none⟩) k c1 (ecells (es.take k)) (by rfl) HNL.out (fun _ => ⟨_, rfl, fun j u hu => HUM.out.cell (HNEWS.out j u hu) (fun h => h)⟩) HN1.out (by simp only [maxLen]; omega) (by omega) ?_; intro B2 cB2 w6 hcB2 hr hu hat; rw [Nat.zero_add] at hr hat hcB2; rw [List.nil_append] at hr; rw [Nat.zero_add]; have hu56 := HUM.out.step hu (fun i hi e => by injection e with e; have e : w5.heap.size = i := e; omega); have hEB := ents_row (c := cB2) hr (by rw [List.length_take, HKL.out]; omega) (fun e he => (HET.out.ok e he).fresh hu56); have HU56 := Lib.hid hu56; have HEB := Lib.hid hEB; clear hr hu hat hu56 hEB)
      obtain ⟨e0, he0⟩ := get_some HEB.out.len hk0
      obtain ⟨bb, ob, rfl, _⟩ := HEB.out.at he0
      have HO := Lib.hid (HLD.out.fresh HU56.out).of
      clear hmk' he0
      refine HO.out.mono ?_
      rintro e w7 ⟨⟨p, rfl, hpA, hpn, hset⟩, hu7⟩
      obtain ⟨bi, oi, hAI, xin0⟩ := hset.inAt (k := k) (by omega)
      have xin : w7.cell? ⟨bi, oi + k, none⟩ = some (.bool (goodL es 0 k)) := xin0
      rw [HGB.out] at xin
      clear xin0
      have hu57 := HU56.out.trans hu7
      obtain ⟨z0, z1, z2, z3, z4⟩ := HZ.out
      have z0 := hu57.cell z0 (fun h => h)
      have z1 := hu57.cell z1 (fun h => h)
      have z2 := hu57.cell z2 (fun h => h)
      have z3 := hu57.cell z3 (fun h => h)
      have z4 := hu57.cell z4 (fun h => h)
      have hmay : ∀ W, Unch none_ w7 W → Calls Tryz.prog 17 #[.string ⟨#[114, 111, 111, 116]⟩, .slice (some ⟨bb, ob, none⟩) k cB2, .agg #[.string (ent es k).id, .int .i64 (ent es k).kind, .string (ent es k).author, .slice A2 m2 c2, .string (ent es k).body]] W fun e w' => e = .returned (.bool gB) ∧ Unch none_ W w' := fun W hu => by
        have hE := (HLD.out.fresh hu57).ents.fresh hu
        have hm := may_ok ((HEB.out.fresh hu7).fresh hu) hk0 hcB2 rootB (by decide) (x := ent es k) (r := 0) (hE.ok _ (List.mem_of_getElem? (ent_get (show k < es.length by rw [HKL.out]; omega)))) (by rw [HTS.out]; exact HLD.out.clB) (by rw [HTS.out]; exact HLD.out.root) HVAL.out
        rw [HTS.out, HGB.out] at hm
        exact hm
      have hla : ∀ W, Unch none_ w7 W → Calls Tryz.prog 11 #[.string ⟨#[114, 111, 111, 116]⟩, .slice (some ⟨bb, ob, none⟩) k cB2] W fun e w' => ∃ v, e = .returned v ∧ LooksP (es.take k) 0 W v w' := fun W hu => lookP ((HEB.out.fresh hu7).fresh hu) hcB2 HCT.out HRT.out (fun e he => HPS.out e (List.mem_of_mem_take he))
      have hlb : ∀ W, Unch none_ w7 W → Calls Tryz.prog 12 #[.string ⟨#[114, 111, 111, 116]⟩, .slice (some ⟨b, o, none⟩) k c1] W fun e w' => ∃ v, e = .returned v ∧ LooksP (es.take k) 0 W v w' := fun W hu => rlookP ((HET.out.fresh hu57).fresh hu) hkc HCT.out HRT.out
      have HMAY := Lib.hid hmay
      have HLA := Lib.hid hla
      have HLB := Lib.hid hlb
      have HU7 := Lib.hid (HU5.out.trans hu57)
      have HPN := Lib.hid hpn
      have HAI := Lib.hid hAI
      clear hmay hla hlb hset hu7 hu57 hpA hpn hAI HO HNEWS HNL HN1 HROW1 HUM HZ
      unfold setV setC
      rw [HPN.out, HAI.out]
      have hfd := field_in16 (.slice p.AL (k + 1) p.cL) (.slice p.AP (k + 1) p.cP) (.int .i64 ((goodS es 0).r : Int)) (.slice (some ⟨bi, oi, none⟩) (k + 1) p.cI) w7
      go_wp2_with fail
      clear hfd xin
      refine wp_planI (fun W => Unch none_ w7 W) [0, 1, 2, 3, 4, 6] [5, 7, 8, 9, 10, 11, 12, 13, 14, 15, 16, 17, 18, 19, 20] (by kernel_rfl) (by kernel_rfl) rfl (fun c a d v w h => by cases d <;> exact h) ((Unch.refl _ _).drew) ?_
      intro S HS _
      have f0 : ∀ G2 : In S, G2.w.cell? ⟨b, o + k * 5, none⟩ = some (.string (ent es k).id) := fun G2 => ((HS.out _).1 G2.h).cell z0 (fun h => h)
      have f1 : ∀ G2 : In S, G2.w.cell? ⟨b, o + k * 5 + 1, none⟩ = some (.int .i64 (ent es k).kind) := fun G2 => ((HS.out _).1 G2.h).cell z1 (fun h => h)
      have f2 : ∀ G2 : In S, G2.w.cell? ⟨b, o + k * 5 + 2, none⟩ = some (.string (ent es k).author) := fun G2 => ((HS.out _).1 G2.h).cell z2 (fun h => h)
      have f3 : ∀ G2 : In S, G2.w.cell? ⟨b, o + k * 5 + 3, none⟩ = some (.slice A2 m2 c2) := fun G2 => ((HS.out _).1 G2.h).cell z3 (fun h => h)
      have f4 : ∀ G2 : In S, G2.w.cell? ⟨b, o + k * 5 + 4, none⟩ = some (.string (ent es k).body) := fun G2 => ((HS.out _).1 G2.h).cell z4 (fun h => h)
      simp only [pickIn, List.getElem?_toArray, List.getElem?_cons_succ, List.getElem?_cons_zero]
      repeat (go_big_quiet_step (fail))
      refine wpQuiet_nil ?_
      clear f0 f1 f2 f3 f4 z0 z1 z2 z3 z4
      refine free_slots2 [42, 44, 45, 46, 47, 48, 49, 50, 51, 52, 53, 54, 55, 56, 4] (RI w7 [(5, 42, .bool gB), (7, 44, .bool true), (8, 45, .bool true), (9, 46, .slice (some ⟨bb, ob, none⟩) k cB2), (11, 48, .slice (some ⟨b, o, none⟩) (k + 1) c1), (12, 49, .int .i64 (k : Int)), (13, 50, .slice (some ⟨b, o, none⟩) k c1), (15, 52, .bool true), (16, 53, .bool true), (17, 54, .bool true), (18, 55, .bool true), (19, 56, .bool true), (20, 4, .bool true)] 10 47 (es.take k) 14 51 (es.take k)) (fun x => RI.start ((Unch.refl _ _).drew)) ?_ ?_
      · intro D y w8 hI i hi op ho hun hdep
        simp only [List.mem_cons, List.not_mem_nil, or_false] at hi
        have hCw : ∀ w', Unch none_ w7 w' → ∃ g : In S, w' = g.w := fun w' hu => ⟨⟨w', (HS.out _).2 hu⟩, rfl⟩
        have HCw := Lib.hid hCw
        have HI := Lib.hid hI
        have HDEP := Lib.hid hdep
        have HUN := Lib.hid hun
        clear hCw hI hdep hun
        rcases hi with rfl | rfl | rfl | rfl | rfl | rfl | rfl | rfl | rfl | rfl | rfl | rfl | rfl | rfl | rfl
        · simp only [List.getElem?_toArray, List.getElem?_cons_succ, List.getElem?_cons_zero, Option.some.injEq] at ho
          subst ho
          simp only [putsF, List.foldl]
          go_wp2_with fail
          refine (HMAY.out w8 HI.out.u).mono ?_
          rintro e w9 ⟨rfl, hu9⟩
          have hs := Lib.hid (HI.out.det hu9 (i := 5) (s := 42) (v := .bool gB) (by decide) (by decide) (by intro p hp; simp at hp; rcases hp with rfl | rfl | rfl | rfl | rfl | rfl | rfl | rfl | rfl | rfl | rfl | rfl | rfl <;> first | exact .inl ⟨rfl, rfl, rfl⟩ | exact .inr ⟨by simp, by simp⟩))
          clear hu9
          go_wp2_with fail
          refine ⟨HCw.out _ hs.out.u, upd y 42 (.bool gB), (by simp only [putsF, List.foldl, upd]; go_simp), ?_⟩
          exact hs.out
        · simp only [List.getElem?_toArray, List.getElem?_cons_succ, List.getElem?_cons_zero, Option.some.injEq] at ho
          subst ho
          simp only [putsF, List.foldl]
          have k5 : D 5 = true := HDEP.out ⟨5, .data⟩ (by simp) rfl (by simp)
          have E5 := Lib.hid (show y 42 = .bool gB from HI.out.d (5, 42, .bool gB) (by simp) k5)
          have hs := Lib.hid (HI.out.det (Unch.refl _ _) (i := 7) (s := 44) (v := .bool true) (by decide) (by decide) (by intro p hp; simp at hp; rcases hp with rfl | rfl | rfl | rfl | rfl | rfl | rfl | rfl | rfl | rfl | rfl | rfl | rfl <;> first | exact .inl ⟨rfl, rfl, rfl⟩ | exact .inr ⟨by simp, by simp⟩))
          clear k5
          rw [E5.out]
          go_wp2_with fail
          refine ⟨HCw.out _ hs.out.u, upd (upd y 42 (.bool gB)) 44 (.bool true), rfl, ?_⟩
          rw [upd_same E5.out]
          exact hs.out
        · simp only [List.getElem?_toArray, List.getElem?_cons_succ, List.getElem?_cons_zero, Option.some.injEq] at ho
          subst ho
          simp only [putsF, List.foldl]
          have k7 : D 7 = true := HDEP.out ⟨7, .data⟩ (by simp) rfl (by simp)
          have E7 := Lib.hid (show y 44 = .bool true from HI.out.d (7, 44, .bool true) (by simp) k7)
          have hs := Lib.hid (HI.out.det (Unch.refl _ _) (i := 8) (s := 45) (v := .bool true) (by decide) (by decide) (by intro p hp; simp at hp; rcases hp with rfl | rfl | rfl | rfl | rfl | rfl | rfl | rfl | rfl | rfl | rfl | rfl | rfl <;> first | exact .inl ⟨rfl, rfl, rfl⟩ | exact .inr ⟨by simp, by simp⟩))
          clear k7
          rw [E7.out]
          go_wp2_with fail
          refine ⟨HCw.out _ hs.out.u, upd (upd y 44 (.bool true)) 45 (.bool true), rfl, ?_⟩
          rw [upd_same E7.out]
          exact hs.out
        · simp only [List.getElem?_toArray, List.getElem?_cons_succ, List.getElem?_cons_zero, Option.some.injEq] at ho
          subst ho
          simp only [putsF, List.foldl]
          have k8 : D 8 = true := HDEP.out ⟨8, .guard⟩ (by simp) rfl (by simp)
          have E8 := Lib.hid (show y 45 = .bool true from HI.out.d (8, 45, .bool true) (by simp) k8)
          have hs := Lib.hid (HI.out.det (Unch.refl _ _) (i := 9) (s := 46) (v := .slice (some ⟨bb, ob, none⟩) k cB2) (by decide) (by decide) (by intro p hp; simp at hp; rcases hp with rfl | rfl | rfl | rfl | rfl | rfl | rfl | rfl | rfl | rfl | rfl | rfl | rfl <;> first | exact .inl ⟨rfl, rfl, rfl⟩ | exact .inr ⟨by simp, by simp⟩))
          clear k8
          rw [E8.out]
          go_wp2_with fail
          refine ⟨HCw.out _ hs.out.u, upd (upd y 45 (.bool true)) 46 (.slice (some ⟨bb, ob, none⟩) k cB2), rfl, ?_⟩
          rw [upd_same E8.out]
          exact hs.out
        · simp only [List.getElem?_toArray, List.getElem?_cons_succ, List.getElem?_cons_zero, Option.some.injEq] at ho
          subst ho
          simp only [putsF, List.foldl]
          have k8 : D 8 = true := HDEP.out ⟨8, .guard⟩ (by simp) rfl (by simp)
          have E8 := Lib.hid (show y 45 = .bool true from HI.out.d (8, 45, .bool true) (by simp) k8)
          have k9 : D 9 = true := HDEP.out ⟨9, .data⟩ (by simp) rfl (by simp)
          have E9 := Lib.hid (show y 46 = .slice (some ⟨bb, ob, none⟩) k cB2 from HI.out.d (9, 46, .slice (some ⟨bb, ob, none⟩) k cB2) (by simp) k9)
          clear k8 k9
          rw [E8.out, E9.out]
          go_wp2_with fail
          refine (HLA.out w8 HI.out.u).mono ?_
          rintro e w9 ⟨v, rfl, nm, tp, L, ps, hv⟩
          have hs := Lib.hid (HI.out.lookA hv.hu ⟨nm, tp, L, ps, hv.is, hv.lies⟩ (by decide) (by decide) (by intro p hp; simp at hp; rcases hp with rfl | rfl | rfl | rfl | rfl | rfl | rfl | rfl | rfl | rfl | rfl | rfl | rfl <;> exact ⟨by simp, by simp⟩))
          clear hv
          go_wp2_with fail
          refine ⟨HCw.out _ hs.out.u, upd (upd (upd y 45 (.bool true)) 46 (.slice (some ⟨bb, ob, none⟩) k cB2)) 47 (v), (by simp only [putsF, List.foldl, upd]; go_simp), ?_⟩
          rw [upd_same E8.out, upd_same E9.out]
          exact hs.out
        · simp only [List.getElem?_toArray, List.getElem?_cons_succ, List.getElem?_cons_zero, Option.some.injEq] at ho
          subst ho
          simp only [putsF, List.foldl]
          have k8 : D 8 = true := HDEP.out ⟨8, .guard⟩ (by simp) rfl (by simp)
          have E8 := Lib.hid (show y 45 = .bool true from HI.out.d (8, 45, .bool true) (by simp) k8)
          have hs := Lib.hid (HI.out.det (Unch.refl _ _) (i := 11) (s := 48) (v := .slice (some ⟨b, o, none⟩) (k + 1) c1) (by decide) (by decide) (by intro p hp; simp at hp; rcases hp with rfl | rfl | rfl | rfl | rfl | rfl | rfl | rfl | rfl | rfl | rfl | rfl | rfl <;> first | exact .inl ⟨rfl, rfl, rfl⟩ | exact .inr ⟨by simp, by simp⟩))
          clear k8
          rw [E8.out]
          go_wp2_with fail
          refine ⟨HCw.out _ hs.out.u, upd (upd y 45 (.bool true)) 48 (.slice (some ⟨b, o, none⟩) (k + 1) c1), rfl, ?_⟩
          rw [upd_same E8.out]
          exact hs.out
        · simp only [List.getElem?_toArray, List.getElem?_cons_succ, List.getElem?_cons_zero, Option.some.injEq] at ho
          subst ho
          simp only [putsF, List.foldl]
          have k8 : D 8 = true := HDEP.out ⟨8, .guard⟩ (by simp) rfl (by simp)
          have E8 := Lib.hid (show y 45 = .bool true from HI.out.d (8, 45, .bool true) (by simp) k8)
          have hs := Lib.hid (HI.out.det (Unch.refl _ _) (i := 12) (s := 49) (v := .int .i64 (k : Int)) (by decide) (by decide) (by intro p hp; simp at hp; rcases hp with rfl | rfl | rfl | rfl | rfl | rfl | rfl | rfl | rfl | rfl | rfl | rfl | rfl <;> first | exact .inl ⟨rfl, rfl, rfl⟩ | exact .inr ⟨by simp, by simp⟩))
          clear k8
          rw [E8.out]
          go_wp2_with fail
          refine ⟨HCw.out _ hs.out.u, upd (upd y 45 (.bool true)) 49 (.int .i64 (k : Int)), rfl, ?_⟩
          rw [upd_same E8.out]
          exact hs.out
        · simp only [List.getElem?_toArray, List.getElem?_cons_succ, List.getElem?_cons_zero, Option.some.injEq] at ho
          subst ho
          simp only [putsF, List.foldl]
          have k8 : D 8 = true := HDEP.out ⟨8, .guard⟩ (by simp) rfl (by simp)
          have E8 := Lib.hid (show y 45 = .bool true from HI.out.d (8, 45, .bool true) (by simp) k8)
          have k11 : D 11 = true := HDEP.out ⟨11, .data⟩ (by simp) rfl (by simp)
          have E11 := Lib.hid (show y 48 = .slice (some ⟨b, o, none⟩) (k + 1) c1 from HI.out.d (11, 48, .slice (some ⟨b, o, none⟩) (k + 1) c1) (by simp) k11)
          have k12 : D 12 = true := HDEP.out ⟨12, .data⟩ (by simp) rfl (by simp)
          have E12 := Lib.hid (show y 49 = .int .i64 (k : Int) from HI.out.d (12, 49, .int .i64 (k : Int)) (by simp) k12)
          have hs := Lib.hid (HI.out.det (Unch.refl _ _) (i := 13) (s := 50) (v := .slice (some ⟨b, o, none⟩) k c1) (by decide) (by decide) (by intro p hp; simp at hp; rcases hp with rfl | rfl | rfl | rfl | rfl | rfl | rfl | rfl | rfl | rfl | rfl | rfl | rfl <;> first | exact .inl ⟨rfl, rfl, rfl⟩ | exact .inr ⟨by simp, by simp⟩))
          clear k8 k11 k12
          rw [E8.out, E11.out, E12.out]
          go_wp2_with fail
          refine ⟨HCw.out _ hs.out.u, upd (upd (upd (upd y 45 (.bool true)) 48 (.slice (some ⟨b, o, none⟩) (k + 1) c1)) 49 (.int .i64 (k : Int))) 50 (.slice (some ⟨b, o, none⟩) k c1), rfl, ?_⟩
          rw [upd_same E8.out, upd_same E11.out, upd_same E12.out]
          exact hs.out
        · simp only [List.getElem?_toArray, List.getElem?_cons_succ, List.getElem?_cons_zero, Option.some.injEq] at ho
          subst ho
          simp only [putsF, List.foldl]
          have k8 : D 8 = true := HDEP.out ⟨8, .guard⟩ (by simp) rfl (by simp)
          have E8 := Lib.hid (show y 45 = .bool true from HI.out.d (8, 45, .bool true) (by simp) k8)
          have k13 : D 13 = true := HDEP.out ⟨13, .data⟩ (by simp) rfl (by simp)
          have E13 := Lib.hid (show y 50 = .slice (some ⟨b, o, none⟩) k c1 from HI.out.d (13, 50, .slice (some ⟨b, o, none⟩) k c1) (by simp) k13)
          clear k8 k13
          rw [E8.out, E13.out]
          go_wp2_with fail
          refine (HLB.out w8 HI.out.u).mono ?_
          rintro e w9 ⟨v, rfl, nm, tp, L, ps, hv⟩
          have hs := Lib.hid (HI.out.lookB hv.hu ⟨nm, tp, L, ps, hv.is, hv.lies⟩ (by decide) (by decide) (by intro p hp; simp at hp; rcases hp with rfl | rfl | rfl | rfl | rfl | rfl | rfl | rfl | rfl | rfl | rfl | rfl | rfl <;> exact ⟨by simp, by simp⟩))
          clear hv
          go_wp2_with fail
          refine ⟨HCw.out _ hs.out.u, upd (upd (upd y 45 (.bool true)) 50 (.slice (some ⟨b, o, none⟩) k c1)) 51 (v), (by simp only [putsF, List.foldl, upd]; go_simp), ?_⟩
          rw [upd_same E8.out, upd_same E13.out]
          exact hs.out
        · simp only [List.getElem?_toArray, List.getElem?_cons_succ, List.getElem?_cons_zero, Option.some.injEq] at ho
          subst ho
          simp only [putsF, List.foldl]
          have k8 : D 8 = true := HDEP.out ⟨8, .guard⟩ (by simp) rfl (by simp)
          have E8 := Lib.hid (show y 45 = .bool true from HI.out.d (8, 45, .bool true) (by simp) k8)
          have k10 : D 10 = true := HDEP.out ⟨10, .data⟩ (by simp) rfl (by simp)
          have k14 : D 14 = true := HDEP.out ⟨14, .data⟩ (by simp) rfl (by simp)
          have hsv := (HI.out.a k10).same (closed_iff.1 HCT.out) (HI.out.b k14)
          have HSV := Lib.hid hsv
          clear k8 k10 k14 hsv
          rw [E8.out]
          go_wp2_with fail
          refine HSV.out.mono ?_
          rintro e w9 ⟨rfl, hu9⟩
          have hs := Lib.hid (HI.out.det hu9 (i := 15) (s := 52) (v := .bool true) (by decide) (by decide) (by intro p hp; simp at hp; rcases hp with rfl | rfl | rfl | rfl | rfl | rfl | rfl | rfl | rfl | rfl | rfl | rfl | rfl <;> first | exact .inl ⟨rfl, rfl, rfl⟩ | exact .inr ⟨by simp, by simp⟩))
          clear hu9
          go_wp2_with fail
          refine ⟨HCw.out _ hs.out.u, upd (upd y 45 (.bool true)) 52 (.bool true), (by simp only [putsF, List.foldl, upd]; go_simp), ?_⟩
          rw [upd_same E8.out]
          exact hs.out
        · simp only [List.getElem?_toArray, List.getElem?_cons_succ, List.getElem?_cons_zero, Option.some.injEq] at ho
          subst ho
          simp only [putsF, List.foldl]
          have k8 : D 8 = true := HDEP.out ⟨8, .data⟩ (by simp) rfl (by simp)
          have E8 := Lib.hid (show y 45 = .bool true from HI.out.d (8, 45, .bool true) (by simp) k8)
          have k15 : D 15 = true := HDEP.out ⟨15, .data⟩ (by simp) rfl (by simp)
          have E15 := Lib.hid (show y 52 = .bool true from HI.out.d (15, 52, .bool true) (by simp) k15)
          have hs := Lib.hid (HI.out.det (Unch.refl _ _) (i := 16) (s := 53) (v := .bool true) (by decide) (by decide) (by intro p hp; simp at hp; rcases hp with rfl | rfl | rfl | rfl | rfl | rfl | rfl | rfl | rfl | rfl | rfl | rfl | rfl <;> first | exact .inl ⟨rfl, rfl, rfl⟩ | exact .inr ⟨by simp, by simp⟩))
          clear k8 k15
          rw [E8.out, E15.out]
          go_wp2_with fail
          refine ⟨HCw.out _ hs.out.u, upd (upd (upd y 45 (.bool true)) 52 (.bool true)) 53 (.bool true), rfl, ?_⟩
          rw [upd_same E8.out, upd_same E15.out]
          exact hs.out
        · simp only [List.getElem?_toArray, List.getElem?_cons_succ, List.getElem?_cons_zero, Option.some.injEq] at ho
          subst ho
          simp only [putsF, List.foldl]
          have k16 : D 16 = true := HDEP.out ⟨16, .data⟩ (by simp) rfl (by simp)
          have E16 := Lib.hid (show y 53 = .bool true from HI.out.d (16, 53, .bool true) (by simp) k16)
          have hs := Lib.hid (HI.out.det (Unch.refl _ _) (i := 17) (s := 54) (v := .bool true) (by decide) (by decide) (by intro p hp; simp at hp; rcases hp with rfl | rfl | rfl | rfl | rfl | rfl | rfl | rfl | rfl | rfl | rfl | rfl | rfl <;> first | exact .inl ⟨rfl, rfl, rfl⟩ | exact .inr ⟨by simp, by simp⟩))
          clear k16
          rw [E16.out]
          go_wp2_with fail
          refine ⟨HCw.out _ hs.out.u, upd (upd y 53 (.bool true)) 54 (.bool true), rfl, ?_⟩
          rw [upd_same E16.out]
          exact hs.out
        · simp only [List.getElem?_toArray, List.getElem?_cons_succ, List.getElem?_cons_zero, Option.some.injEq] at ho
          subst ho
          simp only [putsF, List.foldl]
          have k17 : D 17 = true := HDEP.out ⟨17, .guard⟩ (by simp) rfl (by simp)
          have E17 := Lib.hid (show y 54 = .bool true from HI.out.d (17, 54, .bool true) (by simp) k17)
          clear k17
          rw [E17.out]
          go_wp2_with fail
          refine (awake16_ok w8).mono ?_
          rintro e w9 ⟨rfl, hu9⟩
          have hs := Lib.hid (HI.out.det hu9 (i := 18) (s := 55) (v := .bool true) (by decide) (by decide) (by intro p hp; simp at hp; rcases hp with rfl | rfl | rfl | rfl | rfl | rfl | rfl | rfl | rfl | rfl | rfl | rfl | rfl <;> first | exact .inl ⟨rfl, rfl, rfl⟩ | exact .inr ⟨by simp, by simp⟩))
          clear hu9
          go_wp2_with fail
          refine ⟨HCw.out _ hs.out.u, upd (upd y 54 (.bool true)) 55 (.bool true), (by simp only [putsF, List.foldl, upd]; go_simp), ?_⟩
          rw [upd_same E17.out]
          exact hs.out
        · simp only [List.getElem?_toArray, List.getElem?_cons_succ, List.getElem?_cons_zero, Option.some.injEq] at ho
          subst ho
          simp only [putsF, List.foldl]
          have k17 : D 17 = true := HDEP.out ⟨17, .data⟩ (by simp) rfl (by simp)
          have E17 := Lib.hid (show y 54 = .bool true from HI.out.d (17, 54, .bool true) (by simp) k17)
          have k18 : D 18 = true := HDEP.out ⟨18, .data⟩ (by simp) rfl (by simp)
          have E18 := Lib.hid (show y 55 = .bool true from HI.out.d (18, 55, .bool true) (by simp) k18)
          have hs := Lib.hid (HI.out.det (Unch.refl _ _) (i := 19) (s := 56) (v := .bool true) (by decide) (by decide) (by intro p hp; simp at hp; rcases hp with rfl | rfl | rfl | rfl | rfl | rfl | rfl | rfl | rfl | rfl | rfl | rfl | rfl <;> first | exact .inl ⟨rfl, rfl, rfl⟩ | exact .inr ⟨by simp, by simp⟩))
          clear k17 k18
          rw [E17.out, E18.out]
          go_wp2_with fail
          refine ⟨HCw.out _ hs.out.u, upd (upd (upd y 54 (.bool true)) 55 (.bool true)) 56 (.bool true), rfl, ?_⟩
          rw [upd_same E17.out, upd_same E18.out]
          exact hs.out
        · simp only [List.getElem?_toArray, List.getElem?_cons_succ, List.getElem?_cons_zero, Option.some.injEq] at ho
          subst ho
          simp only [putsF, List.foldl]
          have k19 : D 19 = true := HDEP.out ⟨19, .data⟩ (by simp) rfl (by simp)
          have E19 := Lib.hid (show y 56 = .bool true from HI.out.d (19, 56, .bool true) (by simp) k19)
          have hs := Lib.hid (HI.out.det (Unch.refl _ _) (i := 20) (s := 4) (v := .bool true) (by decide) (by decide) (by intro p hp; simp at hp; rcases hp with rfl | rfl | rfl | rfl | rfl | rfl | rfl | rfl | rfl | rfl | rfl | rfl | rfl <;> first | exact .inl ⟨rfl, rfl, rfl⟩ | exact .inr ⟨by simp, by simp⟩))
          clear k19
          rw [E19.out]
          go_wp2_with fail
          refine ⟨HCw.out _ hs.out.u, upd (upd y 56 (.bool true)) 4 (.bool true), rfl, ?_⟩
          rw [upd_same E19.out]
          exact hs.out
      · intro D y w8 hI hall
        have E4 : y 4 = .bool true := hI.d (20, 4, .bool true) (by simp) (hall 20 (by simp))
        have HU8 := Lib.hid (HU7.out.trans hI.u)
        simp only [putsF, List.foldl]
        rw [E4]
        generalize y 42 = u42
        generalize y 44 = u44
        generalize y 45 = u45
        generalize y 46 = u46
        generalize y 47 = u47
        generalize y 48 = u48
        generalize y 49 = u49
        generalize y 50 = u50
        generalize y 51 = u51
        generalize y 52 = u52
        generalize y 53 = u53
        generalize y 54 = u54
        generalize y 55 = u55
        generalize y 56 = u56
        clear E4 hI hall
        go_simp
        go_wp2
        go_ret
        exact ⟨rfl, HU8.out⟩
  · rw [decide_eq_false hn] at hfew
    have HF := Lib.hid hfew
    clear hfew
    go_wp2_with fail
    refine HF.out.mono ?_
    rintro e w2 ⟨rfl, rfl⟩
    go_wp2_with fail
    refine (awake16_ok w1).mono ?_
    rintro e w6 ⟨rfl, hu6⟩
    go_wp2
    go_ret
    exact ⟨rfl, HU1.out.trans hu6⟩
end Go.Proofs.YtgalnnmeamldhaaGreat
