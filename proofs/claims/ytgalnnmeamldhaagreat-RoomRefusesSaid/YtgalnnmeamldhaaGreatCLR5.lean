/-
  RoomRefuses: the walk.
-/
import Derived.Test.YtgalnnmeamldhaaGreatCLR4
/- RoomRefuses: the walk. -/
set_option linter.unusedVariables false
set_option linter.unusedSimpArgs false
namespace Go.Proofs.YtgalnnmeamldhaaGreat
open Go Go.RowKit Go.Proofs.YtgalnnmeamldhaaGreat.Pal Go.Proofs.YtgalnnmeamldhaaGreat.Plan

set_option maxRecDepth 100000 in
set_option maxHeartbeats 8000000 in
theorem roomRefuses_walk (A : Option Addr) (n c : Nat) (l : List Say) (x : Say) (w : World) (h : RdS w 5 (SayRW w) A n l) (hc : n ≤ c) (hx : SayOk w x) :
    Calls Tryz.prog 6 #[.slice A n c, x.val] w fun e w' => e = .returned (.bool true) ∧ Unch none_ w w' := by
  have hs := says_of h
  have hmax := h.max
  obtain ⟨AB, cB, hbv, hcB, _⟩ := hx.bs
  obtain ⟨mB, hmB⟩ : ∃ mB, x.behind.length = mB := ⟨_, rfl⟩
  rw [hmB] at hbv hcB
  have hxv : x.val = .agg #[.int .i64 x.kind, .int .i64 x.who, .int .i64 x.whom, .slice AB mB cB, .int .u8 x.name] := by unfold Say.val; rw [hbv]
  have hxc : x.cells = [.int .i64 x.kind, .int .i64 x.who, .int .i64 x.whom, .slice AB mB cB, .int .u8 x.name] := by unfold Say.cells; rw [hbv]
  rw [hxv]
  have bX := blk_new w (.cells #[.int .i64 x.kind, .int .i64 x.who, .int .i64 x.whom, .slice AB mB cB, .int .u8 x.name] 42)
  have hu1 : Unch none_ w (w.alloc (.cells #[.int .i64 x.kind, .int .i64 x.who, .int .i64 x.whom, .slice AB mB cB, .int .u8 x.name] 42)) := (Unch.refl none_ w).alloc _
  have HU1 := Lib.hid hu1
  have HXC := Lib.hid hxc
  have HSY := Lib.hid hs
  have HX := Lib.hid hx
  have hone := hx.one
  rw [hxc] at hone
  have HONE := Lib.hid hone
  have HMAX := Lib.hid hmax
  have x0 := blk_cell bX (j := 0) rfl
  have x1 := blk_cell bX (j := 1) rfl
  have x2 := blk_cell bX (j := 2) rfl
  have x3 := blk_cell bX (j := 3) rfl
  have x4 := blk_cell bX (j := 4) rfl
  clear hone hs hmax hx hbv hmB hxv hxc bX hu1 h
  go_enter Tryz.func6, Tryz.ntmps6
  go_upto_region 1 with fail
  generalize w.alloc (.cells #[.int .i64 x.kind, .int .i64 x.who, .int .i64 x.whom, .slice AB mB cB, .int .u8 x.name] 42) = w1 at *
  generalize w.heap.size = gX at *
  have hfew := few16_ok (w := w1) (A := A) (c := c) HMAX.out
  by_cases hn : n ≤ 24
  · rw [decide_eq_true hn] at hfew
    have HF := Lib.hid hfew
    clear hfew
    go_wp2_with fail
    refine HF.out.mono ?_
    rintro e w2 ⟨rfl, rfl⟩
    go_wp2_with fail
    refine wp_planI (fun W => Unch none_ w1 W) [1, 3] [0, 2, 4, 5, 6, 7] (by kernel_rfl) (by kernel_rfl) rfl (fun c a d v w h => by cases d <;> exact h) ((Unch.refl _ _).drew) ?_
    intro S HS _
    have f0 : ∀ G2 : In S, G2.w.cell? ⟨gX, 0, none⟩ = some (.int .i64 x.kind) := fun G2 => ((HS.out _).1 G2.h).cell x0 (fun h => h)
    have f1 : ∀ G2 : In S, G2.w.cell? ⟨gX, 1, none⟩ = some (.int .i64 x.who) := fun G2 => ((HS.out _).1 G2.h).cell x1 (fun h => h)
    have f2 : ∀ G2 : In S, G2.w.cell? ⟨gX, 2, none⟩ = some (.int .i64 x.whom) := fun G2 => ((HS.out _).1 G2.h).cell x2 (fun h => h)
    have f3 : ∀ G2 : In S, G2.w.cell? ⟨gX, 3, none⟩ = some (.slice AB mB cB) := fun G2 => ((HS.out _).1 G2.h).cell x3 (fun h => h)
    have f4 : ∀ G2 : In S, G2.w.cell? ⟨gX, 4, none⟩ = some (.int .u8 x.name) := fun G2 => ((HS.out _).1 G2.h).cell x4 (fun h => h)
    simp only [pickIn, List.getElem?_toArray, List.getElem?_cons_succ, List.getElem?_cons_zero]
    repeat (go_big_quiet_step (fail))
    refine wpQuiet_nil ?_
    clear f0 f1 f2 f3 f4
    refine free_slots2 [11, 13, 15, 16, 17, 5] (LI w1 n l [.int .i64 x.kind, .int .i64 x.who, .int .i64 x.whom, .slice AB mB cB, .int .u8 x.name] 11 13 15 16 17 5) (fun x => LI.start ((Unch.refl _ _).drew)) ?_ ?_
    · intro D y w5 hI i hi o ho hun hdep
      simp only [List.mem_cons, List.not_mem_nil, or_false] at hi
      have hCw : ∀ w', Unch none_ w1 w' → ∃ g : In S, w' = g.w := fun w' hu => ⟨⟨w', (HS.out _).2 hu⟩, rfl⟩
      have hN : LIn 11 13 15 16 17 5 := ⟨⟨by decide, by decide⟩, by decide, by decide, by decide⟩
      have HN := Lib.hid hN
      have HCw := Lib.hid hCw
      have HI := Lib.hid hI
      have HDEP := Lib.hid hdep
      have HUN := Lib.hid hun
      clear hCw hI hdep hun hN x0 x1 x2 x3 x4
      rcases hi with rfl | rfl | rfl | rfl | rfl | rfl
      · simp only [List.getElem?_toArray, List.getElem?_cons_succ, List.getElem?_cons_zero, Option.some.injEq] at ho
        subst ho
        simp only [putsF, List.foldl]
        have hs := Lib.hid (HI.out.of (w2 := w5.alloc (.cells #[] 42)) HN.out (i := 0) (s := 11) (by decide) (by decide) (fun _ => (Unch.refl _ _).alloc _) (HI.out.ap.put0 HN.out.n))
        go_wp2_with fail
        exact ⟨HCw.out _ hs.out.ap.u, upd y 11 (.slice (some ⟨w5.heap.size, 0, none⟩) 0 0), rfl, hs.out⟩
      · simp only [List.getElem?_toArray, List.getElem?_cons_succ, List.getElem?_cons_zero, Option.some.injEq] at ho
        subst ho
        simp only [putsF, List.foldl]
        have k0 := HDEP.out ⟨0, .data⟩ (by simp) rfl (by simp)
        have k5 : D 5 = false := by
          cases h5 : D 5 with
          | false => rfl
          | true => have := HI.out.ap.e5 h5; rw [HUN.out] at this; cases this
        have k6 : D 6 = true → False := fun h6 => by have := HI.out.e6 h6; rw [k5] at this; cases this
        obtain ⟨g, e0, hgl, hg⟩ := HI.out.ap.d0 k5 HUN.out k0
        have hsy := HSY.out.fresh (HU1.out.trans HI.out.ap.u)
        have HK5 := Lib.hid k5
        have HK6 := Lib.hid k6
        have E0 := Lib.hid e0
        have HG := Lib.hid hg
        have HSY5 := Lib.hid hsy
        have hsl : (scells l).length = n * 5 := by rw [scells_len, hsy.len]
        have HSL := Lib.hid hsl
        clear k0 k5 k6 e0 hg hsy hsl
        go_wp2_with (at_builtin; refine wpList_append_any w5 rfl (.tmp 11) (.tmp 12) 22 42 _ 5 56 rfl Tryz.underlying22 info_say rfl (by omega) (.slice (some ⟨g, 0, none⟩) 0 0) 0 [] (by exact E0.out) (empty_row HG.out) A n c (scells l) (by rfl) HSL.out HSY5.out.news HSY5.out.one (by simp only [maxLen]; omega) (by omega) ?_; intro B cB' w6 hcB' hr hu hat; rw [Nat.zero_add] at hr hat hcB'; rw [List.nil_append] at hr; rw [Nat.zero_add]; have hp := HI.out.ap.put2 HN.out.n HK5.out (Nat.zero_lt_succ 4) HG.out hgl hr (hu.mono (fun k _ e => by injection e with e; exact e.symm)) (fun b hb => by rcases hat b hb with h1 | h1; (injection h1 with h1; subst h1; exact hgl); (exact Nat.le_trans HI.out.ap.u.size h1)); have hs := HI.out.of HN.out (by decide) (by decide) (fun h6 => (HK6.out h6).elim) hp; have HS6 := Lib.hid hs; clear hr hu hat hp hs)
        exact ⟨HCw.out _ HS6.out.ap.u, upd y 13 (.slice B n cB'), rfl, HS6.out⟩
      · simp only [List.getElem?_toArray, List.getElem?_cons_succ, List.getElem?_cons_zero, Option.some.injEq] at ho
        subst ho
        simp only [putsF, List.foldl]
        have hs := Lib.hid (HI.out.of (w2 := w5.alloc (.cells #[.int .i64 x.kind, .int .i64 x.who, .int .i64 x.whom, .slice AB mB cB, .int .u8 x.name] 42)) HN.out (i := 4) (s := 15) (by decide) (by decide) (fun _ => (Unch.refl _ _).alloc _) (HI.out.ap.put4 HN.out.n))
        go_wp2_with fail
        exact ⟨HCw.out _ hs.out.ap.u, upd y 15 (.slice (some ⟨w5.heap.size, 0, none⟩) 1 1), rfl, hs.out⟩
      · simp only [List.getElem?_toArray, List.getElem?_cons_succ, List.getElem?_cons_zero, Option.some.injEq] at ho
        subst ho
        simp only [putsF, List.foldl]
        have k2 := HDEP.out ⟨2, .data⟩ (by simp) rfl (by simp)
        have k4 := HDEP.out ⟨4, .data⟩ (by simp) rfl (by simp)
        have k6 : D 6 = true → False := fun h6 => by have := HI.out.e6 h6; rw [HUN.out] at this; cases this
        obtain ⟨B, cB', e2, hr2, hown⟩ := HI.out.ap.d2 HUN.out k2
        obtain ⟨g4, e4, _, hg4⟩ := HI.out.ap.d4 HUN.out k4
        have HK2 := Lib.hid k2
        have HK6 := Lib.hid k6
        have E2 := Lib.hid e2
        have E4 := Lib.hid e4
        have HR2 := Lib.hid hr2
        have HOWN := Lib.hid hown
        have HG4 := Lib.hid hg4
        clear k2 k4 k6 e2 e4 hr2 hown hg4
        go_wp2_with (at_builtin; refine wpList_append_any w5 rfl (.tmp 13) (.tmp 15) 22 42 _ 5 56 rfl Tryz.underlying22 info_say rfl (by omega) (.slice B n cB') n (scells l) (by exact E2.out) HR2.out (some ⟨g4, 0, none⟩) 1 1 [.int .i64 x.kind, .int .i64 x.who, .int .i64 x.whom, .slice AB mB cB, .int .u8 x.name] (by exact E4.out) rfl (fun _ => ⟨_, rfl, World.news_of_block HG4.out⟩) HONE.out (by simp only [maxLen]; omega) (by omega) ?_; intro B2 cB2 w6 hcB2 hr hu hat; have hp := HI.out.ap.put5 (by decide) HK2.out HOWN.out hcB2 hr hu; have hs := HI.out.of HN.out (by decide) (by decide) (fun h6 => (HK6.out h6).elim) hp; have HS6 := Lib.hid hs; clear hr hu hat hp hs)
        exact ⟨HCw.out _ HS6.out.ap.u, upd y 16 (.slice B2 (n + 1) cB2), rfl, HS6.out⟩
      · simp only [List.getElem?_toArray, List.getElem?_cons_succ, List.getElem?_cons_zero, Option.some.injEq] at ho
        subst ho
        simp only [putsF, List.foldl]
        have k5 := HDEP.out ⟨5, .data⟩ (by simp) rfl (by simp)
        obtain ⟨B, cB', e5, hcB', hr5⟩ := HI.out.ap.d5 k5
        have hu15 := HU1.out.trans HI.out.ap.u
        rw [← HXC.out, ← scells_app] at hr5
        have hsy := says_row (c := cB') hr5 (by rw [List.length_append, HSY.out.len]; rfl) (fun z hz => by
          rcases List.mem_append.1 hz with h1 | h1
          · exact (HSY.out.ok z h1).fresh hu15
          · rw [List.mem_singleton.1 h1]; exact HX.out.fresh hu15)
        have hl := laidX (c := cB') hsy (Nat.le_refl (n + 1)) (by omega) (.inl rfl)
        rw [← e5] at hl
        have HL := Lib.hid hl
        have HK5 := Lib.hid k5
        clear k5 e5 hr5 hu15 hsy hl
        go_wp2_with fail
        refine HL.out.mono ?_
        rintro e w6 ⟨A1, n1, c1, es, rfl, hld, hok, hn1, hu6⟩
        have hs := HI.out.call HK5.out HN.out hu6 (v := .slice A1 n1 c1) ⟨A1, n1, c1, es, rfl, hld, hok, hn1⟩
        have HS6 := Lib.hid hs
        clear hld hok hn1 hu6 hs
        go_wp2_with fail
        exact ⟨HCw.out _ HS6.out.ap.u, upd y 17 (.slice A1 n1 c1), rfl, HS6.out⟩
      · simp only [List.getElem?_toArray, List.getElem?_cons_succ, List.getElem?_cons_zero, Option.some.injEq] at ho
        subst ho
        simp only [putsF, List.foldl]
        have k6 := HDEP.out ⟨6, .data⟩ (by simp) rfl (by simp)
        have hs := Lib.hid (HI.out.put HN.out k6)
        clear k6
        go_wp2_with fail
        exact ⟨HCw.out _ hs.out.ap.u, upd y 5 (y 17), rfl, hs.out⟩
    · intro D y w5 hI hall
      obtain ⟨A1, n1, c1, es, e7, hld, hok, hn1⟩ := hI.d7 (hall 7 (by simp))
      have HU5 := Lib.hid (HU1.out.trans hI.ap.u)
      simp only [putsF, List.foldl]
      rw [e7]
      generalize y 11 = y0
      generalize y 13 = y2
      generalize y 15 = y4
      generalize y 16 = y5
      generalize y 17 = y6
      clear e7 hall hI x0 x1 x2 x3 x4
      obtain ⟨k, hk⟩ : ∃ k, k = n + 1 := ⟨_, rfl⟩
      obtain rfl : n1 = k + 1 := by omega
      have hkl : es.length = k + 1 := hld.len
      have hk0 : 0 < k := by omega
      have hk2 : k ≤ 25 := by omega
      clear hk hn1
      have hC := hld.cl
      have hts := take_last hkl
      have hS := prefix_sub hC k
      have htl : (es.take k).length = k := by rw [List.length_take]; omega
      have hclT := closed_iff.2 hS.cm
      have hrT := root_take hC hk0 (by omega) hld.root
      have hkc : k ≤ c1 := by have := hld.hc; omega
      obtain ⟨b, o, rfl, _, z0, z1, z2, z3, z4⟩ := hld.ents.at (ent_get (show k < es.length by omega))
      obtain ⟨A2, c2, hpv, _, _⟩ := (hld.ents.ok _ (List.mem_of_getElem? (ent_get (show k < es.length by omega)))).ps
      obtain ⟨m2, hm2⟩ : ∃ m2, (ent es k).ps.length = m2 := ⟨_, rfl⟩
      rw [hpv, hm2] at z3
      have hval : (.agg #[.string (ent es k).id, .int .i64 (ent es k).kind, .string (ent es k).author, .slice A2 m2 c2, .string (ent es k).body] : Value) = (ent es k).val := by unfold Ent.val; rw [hpv, hm2]
      obtain ⟨gB, hgB⟩ : ∃ gB, goodL es 0 k = gB := ⟨_, rfl⟩
      have hq : QC Tryz.prog 17 #[.string ⟨#[114, 111, 111, 116]⟩, .slice (some ⟨b, o, none⟩) k c1, .agg #[.string (ent es k).id, .int .i64 (ent es k).kind, .string (ent es k).author, .slice A2 m2 c2, .string (ent es k).body]] (.bool gB) w5 := fun W hu => by
        have hE := hld.ents.fresh hu
        have hm := may_ok (hE.take k (by omega)) hk0 hkc rootB (by decide) (x := ent es k) (r := 0) (hE.ok _ (List.mem_of_getElem? (ent_get (show k < es.length by omega)))) (by rw [hts]; exact hld.clB) (by rw [hts]; exact hld.root) hval
        rw [hts, hgB] at hm
        exact hm
      have HQ := Lib.hid hq
      have HLD := Lib.hid hld
      have HPS := Lib.hid hok.hps
      have HGB := Lib.hid hgB
      have HKL := Lib.hid hkl
      have HCT := Lib.hid hclT
      have HRT := Lib.hid hrT
      have y0' : (0 : Int) ≤ (k : Int) := by omega
      have y1' : (k : Int) < ((k + 1 : Nat) : Int) := by omega
      have z0 := cellU z0
      have z1 := cellU z1
      have z2 := cellU z2
      have z3 := cellU z3
      have z4 := cellU z4
      clear hC hts hS htl hclT hrT hpv hm2 hval hgB hq hld hok hkl HF
      go_wp2
      refine wp_region_quiet_u (by kernel_rfl) (by kernel_rfl) (fun _ => ?_)
      repeat (go_big_quiet_step ((go_at_call 17; with_reducible exact HQ.out.u _)))
      refine wpQuiet_nil ?_
      intro wq hw'
      obtain ⟨⟨wqq, huq⟩, hw''⟩ := hw'
      subst hw''
      clear z0 z1 z2 z3 z4
      have HU5q := Lib.hid (HU5.out.trans huq)
      have HLQ := Lib.hid (HLD.out.fresh huq)
      clear huq HU5 HLD HQ
      cases gB with
      | true =>
        go_wp2_with fail
        refine (awake16_ok wq).mono ?_
        rintro e w6 ⟨rfl, hu6⟩
        go_wp2
        go_ret
        exact ⟨rfl, HU5q.out.trans hu6⟩
      | false =>
        have hla : ∀ W, Unch none_ wq W → Calls Tryz.prog 11 #[.string ⟨#[114, 111, 111, 116]⟩, .slice (some ⟨b, o, none⟩) (k + 1) c1] W fun e w' => ∃ v, e = .returned v ∧ LooksP es 0 W v w' := fun W hu => lookP (HLQ.out.ents.fresh hu) HLQ.out.hc HLQ.out.clB HLQ.out.root HPS.out
        have hlb : ∀ W, Unch none_ wq W → Calls Tryz.prog 11 #[.string ⟨#[114, 111, 111, 116]⟩, .slice (some ⟨b, o, none⟩) k c1] W fun e w' => ∃ v, e = .returned v ∧ LooksP (es.take k) 0 W v w' := fun W hu => lookP ((HLQ.out.ents.fresh hu).take k (by omega)) hkc HCT.out HRT.out (fun e he => HPS.out e (List.mem_of_mem_take he))
        have HLA := Lib.hid hla
        have HLB := Lib.hid hlb
        clear hla hlb
        go_wp2_with fail
        refine wp_planI (fun W => Unch none_ wq W) [0, 2, 3, 4] [1, 5, 6, 7, 8, 9, 10] (by kernel_rfl) (by kernel_rfl) rfl (fun c a d v w h => by cases d <;> exact h) ((Unch.refl _ _).drew) ?_
        intro S HS _
        simp only [pickIn, List.getElem?_toArray, List.getElem?_cons_succ, List.getElem?_cons_zero]
        repeat (go_big_quiet_step (fail))
        refine wpQuiet_nil ?_
        refine free_slots2 [31, 35, 36, 37, 38, 39, 4] (RI wq [(6, 36, .bool true), (7, 37, .bool true), (8, 38, .bool true), (9, 39, .bool true), (10, 4, .bool true)] 1 31 es 5 35 (es.take k)) (fun x => RI.start ((Unch.refl _ _).drew)) ?_ ?_
        · intro D y w7 hI i hi o ho hun hdep
          simp only [List.mem_cons, List.not_mem_nil, or_false] at hi
          have hCw : ∀ w', Unch none_ wq w' → ∃ g : In S, w' = g.w := fun w' hu => ⟨⟨w', (HS.out _).2 hu⟩, rfl⟩
          have HCw := Lib.hid hCw
          have HI := Lib.hid hI
          have HDEP := Lib.hid hdep
          have HUN := Lib.hid hun
          clear hCw hI hdep hun
          rcases hi with rfl | rfl | rfl | rfl | rfl | rfl | rfl
          · simp only [List.getElem?_toArray, List.getElem?_cons_succ, List.getElem?_cons_zero, Option.some.injEq] at ho
            subst ho
            simp only [putsF, List.foldl]
            go_wp2_with fail
            refine (HLA.out w7 HI.out.u).mono ?_
            rintro e w8 ⟨v, rfl, nm, tp, L, ps, hv⟩
            have hs := Lib.hid (HI.out.lookA hv.hu ⟨nm, tp, L, ps, hv.is, hv.lies⟩ (by decide) (by decide) (by intro p hp; simp at hp; rcases hp with rfl | rfl | rfl | rfl | rfl <;> exact ⟨by decide, by decide⟩))
            clear hv
            go_wp2_with fail
            exact ⟨HCw.out _ hs.out.u, upd y 31 v, rfl, hs.out⟩
          · simp only [List.getElem?_toArray, List.getElem?_cons_succ, List.getElem?_cons_zero, Option.some.injEq] at ho
            subst ho
            simp only [putsF, List.foldl]
            go_wp2_with fail
            refine (HLB.out w7 HI.out.u).mono ?_
            rintro e w8 ⟨v, rfl, nm, tp, L, ps, hv⟩
            have hs := Lib.hid (HI.out.lookB hv.hu ⟨nm, tp, L, ps, hv.is, hv.lies⟩ (by decide) (by decide) (by intro p hp; simp at hp; rcases hp with rfl | rfl | rfl | rfl | rfl <;> exact ⟨by decide, by decide⟩))
            clear hv
            go_wp2_with fail
            exact ⟨HCw.out _ hs.out.u, upd y 35 v, rfl, hs.out⟩
          · simp only [List.getElem?_toArray, List.getElem?_cons_succ, List.getElem?_cons_zero, Option.some.injEq] at ho
            subst ho
            simp only [putsF, List.foldl]
            have k1 := HDEP.out ⟨1, .data⟩ (by simp) rfl (by simp)
            have k5 := HDEP.out ⟨5, .data⟩ (by simp) rfl (by simp)
            obtain ⟨nm, tp, L, ps, ha1, ha2⟩ := HI.out.a k1
            obtain ⟨nm', tp', L', ps', hb1, hb2⟩ := HI.out.b k5
            obtain ⟨rfl, rfl, rfl, rfl⟩ := refuse_is HLQ.out.cl HKL.out hk0 (rootN_some HLQ.out.root).2.2 HGB.out ha1 hb1
            have hsv := same_view ha2 hb2
            have HSV := Lib.hid hsv
            clear k1 k5 ha1 ha2 hb1 hb2 hsv
            go_wp2_with fail
            refine HSV.out.mono ?_
            rintro e w8 ⟨rfl, hu8⟩
            have hs := Lib.hid (HI.out.det hu8 (i := 6) (s := 36) (v := .bool true) (by decide) (by decide) (by intro p hp; simp at hp; rcases hp with rfl | rfl | rfl | rfl | rfl <;> first | exact .inl ⟨rfl, rfl, rfl⟩ | exact .inr ⟨by decide, by decide⟩))
            clear hu8
            go_wp2_with fail
            exact ⟨HCw.out _ hs.out.u, upd y 36 (.bool true), rfl, hs.out⟩
          · simp only [List.getElem?_toArray, List.getElem?_cons_succ, List.getElem?_cons_zero, Option.some.injEq] at ho
            subst ho
            simp only [putsF, List.foldl]
            have k6 := HDEP.out ⟨6, .data⟩ (by simp) rfl (by simp)
            have e6 := HI.out.d (6, 36, .bool true) (by simp) k6
            have hs := Lib.hid (HI.out.det (Unch.refl _ _) (i := 7) (s := 37) (v := .bool true) (by decide) (by decide) (by intro p hp; simp at hp; rcases hp with rfl | rfl | rfl | rfl | rfl <;> first | exact .inl ⟨rfl, rfl, rfl⟩ | exact .inr ⟨by decide, by decide⟩))
            have E6 := Lib.hid (show y 36 = .bool true from e6)
            clear k6 e6
            rw [E6.out]
            go_wp2_with fail
            refine ⟨HCw.out _ hs.out.u, upd (upd y 36 (.bool true)) 37 (.bool true), rfl, ?_⟩
            rw [upd_same E6.out]
            exact hs.out
          · simp only [List.getElem?_toArray, List.getElem?_cons_succ, List.getElem?_cons_zero, Option.some.injEq] at ho
            subst ho
            simp only [putsF, List.foldl]
            have k7 : D 7 = true := HDEP.out ⟨7, .guard⟩ (by simp) rfl (by simp)
            have E7 := Lib.hid (show y 37 = .bool true from HI.out.d (7, 37, .bool true) (by simp) k7)
            clear k7
            rw [E7.out]
            go_wp2_with fail
            refine (awake16_ok w7).mono ?_
            rintro e w8 ⟨rfl, hu8⟩
            have hs := Lib.hid (HI.out.det hu8 (i := 8) (s := 38) (v := .bool true) (by decide) (by decide) (by intro p hp; simp at hp; rcases hp with rfl | rfl | rfl | rfl | rfl <;> first | exact .inl ⟨rfl, rfl, rfl⟩ | exact .inr ⟨by decide, by decide⟩))
            clear hu8
            go_wp2_with fail
            refine ⟨HCw.out _ hs.out.u, upd (upd y 37 (.bool true)) 38 (.bool true), rfl, ?_⟩
            rw [upd_same E7.out]
            exact hs.out
          · simp only [List.getElem?_toArray, List.getElem?_cons_succ, List.getElem?_cons_zero, Option.some.injEq] at ho
            subst ho
            simp only [putsF, List.foldl]
            have k7 : D 7 = true := HDEP.out ⟨7, .data⟩ (by simp) rfl (by simp)
            have k8 : D 8 = true := HDEP.out ⟨8, .data⟩ (by simp) rfl (by simp)
            have E7 := Lib.hid (show y 37 = .bool true from HI.out.d (7, 37, .bool true) (by simp) k7)
            have E8 := Lib.hid (show y 38 = .bool true from HI.out.d (8, 38, .bool true) (by simp) k8)
            have hs := Lib.hid (HI.out.det (Unch.refl _ _) (i := 9) (s := 39) (v := .bool true) (by decide) (by decide) (by intro p hp; simp at hp; rcases hp with rfl | rfl | rfl | rfl | rfl <;> first | exact .inl ⟨rfl, rfl, rfl⟩ | exact .inr ⟨by decide, by decide⟩))
            clear k7 k8
            rw [E7.out, E8.out]
            go_wp2_with fail
            refine ⟨HCw.out _ hs.out.u, upd (upd (upd y 37 (.bool true)) 38 (.bool true)) 39 (.bool true), rfl, ?_⟩
            rw [upd_same E7.out, upd_same E8.out]
            exact hs.out
          · simp only [List.getElem?_toArray, List.getElem?_cons_succ, List.getElem?_cons_zero, Option.some.injEq] at ho
            subst ho
            simp only [putsF, List.foldl]
            have k9 : D 9 = true := HDEP.out ⟨9, .data⟩ (by simp) rfl (by simp)
            have E9 := Lib.hid (show y 39 = .bool true from HI.out.d (9, 39, .bool true) (by simp) k9)
            have hs := Lib.hid (HI.out.det (Unch.refl _ _) (i := 10) (s := 4) (v := .bool true) (by decide) (by decide) (by intro p hp; simp at hp; rcases hp with rfl | rfl | rfl | rfl | rfl <;> first | exact .inl ⟨rfl, rfl, rfl⟩ | exact .inr ⟨by decide, by decide⟩))
            clear k9
            rw [E9.out]
            go_wp2_with fail
            refine ⟨HCw.out _ hs.out.u, upd (upd y 39 (.bool true)) 4 (.bool true), rfl, ?_⟩
            rw [upd_same E9.out]
            exact hs.out
        · intro D y w7 hI hall
          have E4 : y 4 = .bool true := hI.d (10, 4, .bool true) (by simp) (hall 10 (by simp))
          have HU7 := Lib.hid (HU5q.out.trans hI.u)
          simp only [putsF, List.foldl]
          rw [E4]
          generalize y 31 = u31
          generalize y 35 = u35
          generalize y 36 = u36
          generalize y 37 = u37
          generalize y 38 = u38
          generalize y 39 = u39
          clear E4 hI hall
          go_wp2
          go_ret
          exact ⟨rfl, HU7.out⟩
  · rw [decide_eq_false hn] at hfew
    have HF := Lib.hid hfew
    clear hfew
    go_wp2_with fail
    refine HF.out.mono ?_
    rintro e w2 ⟨rfl, rfl⟩
    go_wp2_with fail
    refine (awake16_ok w1).mono ?_
    rintro e w6 ⟨rfl, hu6⟩
    go_wp2
    go_ret
    exact ⟨rfl, HU1.out.trans hu6⟩
end Go.Proofs.YtgalnnmeamldhaaGreat
