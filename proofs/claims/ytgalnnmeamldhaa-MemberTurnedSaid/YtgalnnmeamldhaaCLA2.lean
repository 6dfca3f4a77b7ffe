/-
  MemberGood, MemberFounder.
-/
import Derived.Test.YtgalnnmeamldhaaCKM2
/- MemberGood, MemberFounder. -/
set_option linter.unusedVariables false
set_option linter.unusedSimpArgs false
namespace Go.Proofs.Ytgalnnmeamldhaa
open Go Go.RowKit Go.Proofs.Ytgalnnmeamldhaa.Pal Go.Proofs.Ytgalnnmeamldhaa.Plan

theorem field_in (v0 v1 v2 v3 : Value) (W : World) : (Instr.field 32 (.agg #[v0, v1, v2, v3]) 3).run Try.prog W = .ok v3 W := by
  simp [Instr.field, run_underlying Try.underlying32, asAgg, part, Try.isAgg28, go_sem]
set_option maxRecDepth 100000 in
set_option maxHeartbeats 2000000 in
theorem memberGood_walk (A : Option Addr) (n c : Nat) (l : List Say) (w : World) (h : RdS w 5 (SayRW w) A n l) (hc : n ≤ c) :
    Calls Try.prog 5 #[.slice A n c] w fun e w' => e = .returned (.bool true) ∧ Unch none_ w w' := by
  have hs := says_of h
  have hmax := h.max
  have hfew := few_ok (w := w) (A := A) (c := c) hmax
  by_cases hn : n ≤ 24
  · rw [decide_eq_true hn] at hfew
    have HF := Lib.hid hfew
    have HL := Lib.hid (laidL (c := c) hs hn)
    clear hs h hfew hmax
    go_enter Try.func5, Try.ntmps5
    go_wp2_with fail
    refine HF.out.mono ?_
    rintro e w0 ⟨rfl, rfl⟩
    go_wp2_with fail
    refine HL.out.mono ?_
    rintro e w1 ⟨A1, n1, c1, es, rfl, hld, hn1, hu1⟩
    have HH := Lib.hid hld.good
    have HLD := Lib.hid hld
    have HU1 := Lib.hid hu1
    clear hld hu1 HF HL
    go_wp2_with fail
    refine HH.out.mono ?_
    rintro e w2 ⟨g, rfl, hb, hg, hu2⟩
    have HO := Lib.hid (HLD.out.fresh hu2).of
    have HB := Lib.hid (hb.rds (Nat.le_trans HLD.out.n3 (by decide)))
    have HU2 := Lib.hid (HU1.out.trans hu2)
    clear hb hg hu2
    go_wp2_with fail
    refine HO.out.mono ?_
    rintro e w3 ⟨⟨p, rfl, hpA, hpn, hset⟩, hu3⟩
    have hin : RdS w3 1 BoolR p.AI n1 ((List.range n1).map (goodL es 0)) := by have := hset.inn; rw [hpn] at this; exact this
    have hsame := lawsame_ok (c := n1) (d := p.cI) (RdS.fresh HB.out hu3) hin
    rw [decide_eq_true rfl] at hsame
    have HS := Lib.hid hsame
    have HU3 := Lib.hid (HU2.out.trans hu3)
    have HPN := Lib.hid hpn
    clear hset hu3 hpA hpn hin hsame
    unfold setV setC at *
    rw [HPN.out]
    have hfd := field_in (.slice p.AL n1 p.cL) (.slice p.AP n1 p.cP) (.int .i64 ((goodS es 0).r : Int)) (.slice p.AI n1 p.cI) w3
    go_wp2_with fail
    refine HS.out.mono ?_
    rintro e w5 ⟨rfl, hu5⟩
    go_wp2_with fail
    refine (awake_ok w5).mono ?_
    rintro e w6 ⟨rfl, hu6⟩
    go_wp2
    go_ret
    exact ⟨rfl, (HU3.out.trans hu5).trans hu6⟩
  · rw [decide_eq_false hn] at hfew
    have HF := Lib.hid hfew
    clear hs h hfew hmax
    go_enter Try.func5, Try.ntmps5
    go_wp2_with fail
    refine HF.out.mono ?_
    rintro e w0 ⟨rfl, rfl⟩
    go_wp2_with fail
    refine (awake_ok w).mono ?_
    rintro e w6 ⟨rfl, hu6⟩
    go_wp2
    go_ret
    exact ⟨rfl, hu6⟩
set_option maxRecDepth 100000 in
set_option maxHeartbeats 4000000 in
theorem memberFounder_walk (A : Option Addr) (n c : Nat) (l : List Say) (w : World) (h : RdS w 5 (SayRW w) A n l) (hc : n ≤ c) :
    Calls Try.prog 9 #[.slice A n c] w fun e w' => e = .returned (.bool true) ∧ Unch none_ w w' := by
  have hs := says_of h
  have hmax := h.max
  have hfew := few_ok (w := w) (A := A) (c := c) hmax
  by_cases hn : n ≤ 24
  · rw [decide_eq_true hn] at hfew
    have HF := Lib.hid hfew
    have HL := Lib.hid (laidL (c := c) hs hn)
    clear hs h hfew hmax
    go_enter Try.func9, Try.ntmps9
    go_wp2_with fail
    refine HF.out.mono ?_
    rintro e w0 ⟨rfl, rfl⟩
    go_wp2_with fail
    refine HL.out.mono ?_
    rintro e w1 ⟨A1, n1, c1, es, rfl, hld, hn1, hu1⟩
    have HH := Lib.hid hld.good
    have HLD := Lib.hid hld
    have HU1 := Lib.hid hu1
    clear hld hu1 HF HL
    go_wp2_with fail
    refine HH.out.mono ?_
    rintro e w2 ⟨g, rfl, hb, hg, hu2⟩
    have HO := Lib.hid (HLD.out.fresh hu2).holds
    have HB := Lib.hid hb
    have HU2 := Lib.hid (HU1.out.trans hu2)
    have HL2 := Lib.hid (HLD.out.fresh hu2)
    clear hb hg hu2 HH
    go_wp2_with fail
    refine HO.out.mono ?_
    rintro e w3 ⟨g2, rfl, hb2, hg2, hu3⟩
    have hG := HB.out.unch hu3 (fun h => h)
    have hL3 := HL2.out.fresh hu3
    have hn0 : 0 < n1 := by rw [← hL3.len]; exact hL3.pos
    have y1 := hG.at (j := 0) hn0
    have y2 := hb2.at (j := 0) hn0
    rw [goodL_root hL3.pos] at y1
    have hh0 : (goodS es 0).holding 0 = true := by
      have := founder_holds hL3.ok (i := 0) rfl
      show (goodL es 0 0 && (goodS es 0).holds 0) = true
      rw [this, goodL_root hL3.pos]; rfl
    rw [hh0] at y2
    have HG := Lib.hid hG
    have HB2 := Lib.hid hb2
    have HL3 := Lib.hid hL3
    have HU3 := Lib.hid (HU2.out.trans hu3)
    have hn0' : (0 : Int) < (n1 : Int) := by omega
    clear hG hb2 hL3 hg2 hu3 hh0 HO HB HL2 HLD HU1 HU2
    go_wp2
    clear y1 y2
    go_loopg [6] (n1 - 1 : Nat) (fun gk i6 wr => ∃ k : Nat, gk = n1 - k ∧ 1 ≤ k ∧ k ≤ n1 ∧ i6 = .int .i64 (k : Int) ∧ Unch none_ w3 wr)
    case atStart => exact ⟨1, rfl, Nat.le_refl _, hn0, rfl, Unch.refl _ _⟩
    case round =>
      obtain ⟨k, rfl, hk1, hk, rfl, hu⟩ := hrel
      obtain ⟨w4, rfl⟩ : ∃ w4, w4 = wr := ⟨_, rfl⟩
      by_cases hkn : k < n1
      · have hkl : k < es.length := by rw [HL3.out.len]; exact hkn
        have z1 : (k : Int) < (n1 : Int) := by omega
        have z2 : (0 : Int) ≤ (k : Int) := by omega
        have h4 := HL3.out.ents.fresh hu
        obtain ⟨bA, oA, rfl, _, x0, x1, x2, x3, x4⟩ := h4.at (ent_get hkl)
        have fg := cellU ((HG.out.unch hu (fun h => h)).at (j := k) hkn)
        have fh := cellU ((HB2.out.unch hu (fun h => h)).at (j := k) hkn)
        have fk := cellU x1
        have fa := cellU x2
        obtain ⟨k0, hk0⟩ : ∃ k0, keyB 0 = k0 := ⟨_, rfl⟩
        have hq : QC Try.prog 28 #[.int .i64 0] (.string k0) w4 := fun W hW => by rw [← hk0]; exact key_ok 0
        have HQ := Lib.hid hq
        have r1 : (goodS es 0).holding k = true → goodL es 0 k = true := fun h => by
          unfold Ms.holding at h
          rw [Bool.and_eq_true] at h
          exact h.1
        have r2 : goodL es 0 k = true → ¬ (ent es k).kind = 1 := fun h e => by
          have := goodL_create hkl h e
          omega
        have r3 : goodL es 0 k = true → (ent es k).author = k0 → (goodS es 0).holding k = true := fun h e => by
          unfold Ms.holding
          rw [founder_holds HL3.out.ok (show (goodS es 0).aut k = (goodS es 0).aut 0 by show (ent es k).author = (ent es 0).author; rw [HL3.out.rootA, hk0]; exact e)]
          show (goodL es 0 k && true) = true
          rw [h]; rfl
        generalize goodL es 0 k = gB at *
        generalize (goodS es 0).holding k = hB at *
        have HU := Lib.hid hu
        clear x0 x1 x2 x3 x4 h4 hk0 hq hu
        go_upto_region 10 with fail
        go_cut [93] from 47 to 93 (fun v wx => v = .bool false ∧ Unch none_ w4 wx)
        case first =>
          refine wp_region_quiet_u (by kernel_rfl) (by kernel_rfl) (fun _ => ?_)
          cases gB with
          | false =>
            have hf : hB = false := by
              cases hB with
              | false => rfl
              | true => exact absurd (r1 rfl) (by decide)
            subst hf
            clear r1 r2 r3
            by_cases c1 : (ent es k).kind = 1
            · rw [c1] at fk
              by_cases c2 : (ent es k).author = k0
              · rw [c2] at fa
                clear c1 c2
                repeat (go_big_quiet_step ((go_at_call 28; with_reducible exact HQ.out.u _)))
                refine wpQuiet_nil ?_
                intro wq hw'
                obtain ⟨⟨wqq, huq⟩, hw''⟩ := hw'
                subst hw''
                go_wp2
                go_meet
                exact ⟨rfl, huq⟩
              · have d2 := str_ne c2
                clear c1 c2
                repeat (go_big_quiet_step ((go_at_call 28; with_reducible exact HQ.out.u _)))
                refine wpQuiet_nil ?_
                intro wq hw'
                obtain ⟨⟨wqq, huq⟩, hw''⟩ := hw'
                subst hw''
                go_wp2
                go_meet
                exact ⟨rfl, huq⟩
            · have d1 := int_bne c1
              have d3 : ((ent es k).kind == 1) = false := by simpa using c1
              by_cases c2 : (ent es k).author = k0
              · rw [c2] at fa
                clear c1 c2
                repeat (go_big_quiet_step ((go_at_call 28; with_reducible exact HQ.out.u _)))
                refine wpQuiet_nil ?_
                intro wq hw'
                obtain ⟨⟨wqq, huq⟩, hw''⟩ := hw'
                subst hw''
                go_wp2
                go_meet
                exact ⟨rfl, huq⟩
              · have d2 := str_ne c2
                clear c1 c2
                repeat (go_big_quiet_step ((go_at_call 28; with_reducible exact HQ.out.u _)))
                refine wpQuiet_nil ?_
                intro wq hw'
                obtain ⟨⟨wqq, huq⟩, hw''⟩ := hw'
                subst hw''
                go_wp2
                go_meet
                exact ⟨rfl, huq⟩
          | true =>
            have c1 := r2 rfl
            have d1 := int_bne c1
            have d3 : ((ent es k).kind == 1) = false := by simpa using c1
            cases hB with
            | true =>
              by_cases c2 : (ent es k).author = k0
              · rw [c2] at fa
                clear c1 c2 r1 r2 r3
                repeat (go_big_quiet_step ((go_at_call 28; with_reducible exact HQ.out.u _)))
                refine wpQuiet_nil ?_
                intro wq hw'
                obtain ⟨⟨wqq, huq⟩, hw''⟩ := hw'
                subst hw''
                go_wp2
                go_meet
                exact ⟨rfl, huq⟩
              · have d2 := str_ne c2
                clear c1 c2 r1 r2 r3
                repeat (go_big_quiet_step ((go_at_call 28; with_reducible exact HQ.out.u _)))
                refine wpQuiet_nil ?_
                intro wq hw'
                obtain ⟨⟨wqq, huq⟩, hw''⟩ := hw'
                subst hw''
                go_wp2
                go_meet
                exact ⟨rfl, huq⟩
            | false =>
              have c2 : ¬ (ent es k).author = k0 := fun e => absurd (r3 rfl e) (by decide)
              have d2 := str_ne c2
              clear c1 c2 r1 r2 r3
              repeat (go_big_quiet_step ((go_at_call 28; with_reducible exact HQ.out.u _)))
              refine wpQuiet_nil ?_
              intro wq hw'
              obtain ⟨⟨wqq, huq⟩, hw''⟩ := hw'
              subst hw''
              go_wp2
              go_meet
              exact ⟨rfl, huq⟩
        case rest =>
          obtain ⟨rfl, hu9⟩ := hcut
          have HU9 := Lib.hid (HU.out.trans hu9)
          clear hu9 r1 r2 r3 fg fh fk fa
          go_wp2
          go_roundg (n1 - (k + 1))
          case measure => omega
          case rel => exact ⟨k + 1, rfl, by omega, by omega, by go_num, HU9.out⟩
      · obtain rfl : k = n1 := by omega
        have HU := Lib.hid (HU3.out.trans hu)
        clear hu
        go_wp2_with fail
        refine (awake_ok w4).mono ?_
        rintro e w6 ⟨rfl, hu6⟩
        go_wp2
        go_ret
        exact ⟨rfl, HU.out.trans hu6⟩
  · rw [decide_eq_false hn] at hfew
    have HF := Lib.hid hfew
    clear hs h hfew hmax
    go_enter Try.func9, Try.ntmps9
    go_wp2_with fail
    refine HF.out.mono ?_
    rintro e w0 ⟨rfl, rfl⟩
    go_wp2_with fail
    refine (awake_ok w).mono ?_
    rintro e w6 ⟨rfl, hu6⟩
    go_wp2
    go_ret
    exact ⟨rfl, hu6⟩
end Go.Proofs.Ytgalnnmeamldhaa
