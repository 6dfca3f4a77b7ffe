/-
  MemberPast.
-/
import Derived.Test.YtgalnnmeamldhaaCLA2
/- MemberPast. -/
set_option linter.unusedVariables false
set_option linter.unusedSimpArgs false
namespace Go.Proofs.Ytgalnnmeamldhaa
open Go Go.RowKit Go.Proofs.Ytgalnnmeamldhaa.Pal Go.Proofs.Ytgalnnmeamldhaa.Plan

theorem pastR {es : List Ent} (hC : Closed es) (h0 : 0 < es.length) (hid : (ent es 0).id = rootB) (hk1 : (ent es 0).kind = 1) {k : Nat} (hk : k < es.length) :
    (rootN rootB (subE es (pastL es k es.length)) = none → goodL es 0 k = false) ∧
    ∀ r', rootN rootB (subE es (pastL es k es.length)) = some r' → goodL (subE es (pastL es k es.length)) r' ((pastL es k es.length).length - 1) = goodL es 0 k := by
  have hS := sub_past hC hk
  have hL := pastL_eq (l := es) hk
  have hlen : (subE es (pastL es k es.length)).length = (pastL es k es.length).length := by simp [subE]
  have hpos : 0 < (pastL es k es.length).length := by rw [hL]; simp
  have hlast : (pastL es k es.length).getD ((pastL es k es.length).length - 1) 0 = k := by
    rw [List.getD_eq_getElem?_getD, hL]
    simp
  constructor
  · intro hn
    cases hg : goodL es 0 k with
    | false => rfl
    | true =>
      exfalso
      have hp : pastIx es k 0 = true := by
        rw [goodL_eq es 0 hk, Bool.or_eq_true] at hg
        unfold pastIx
        rcases hg with h | h
        · rw [decide_eq_true_eq] at h
          subst h
          simp
        · rw [Bool.and_eq_true, Bool.and_eq_true] at h
          rw [h.2.1]; rfl
      have hm : 0 ∈ pastL es k es.length := List.mem_filter.2 ⟨by simpa using h0, hp⟩
      obtain ⟨j, hj⟩ := List.mem_iff_getElem?.1 hm
      have hjl := (List.getElem?_eq_some_iff.1 hj).1
      have hjd : (pastL es k es.length).getD j 0 = 0 := by rw [List.getD_eq_getElem?_getD, hj]; rfl
      have hje := hS.same j (by rw [hlen]; exact hjl)
      simp only [hjd] at hje
      have hf := hS.cm.find (i := j) (by rw [hlen]; exact hjl)
      rw [hje, hid] at hf
      unfold rootN at hn
      rw [hf] at hn
      simp only [hje, hk1, if_true] at hn
      cases hn
  · intro r' hr
    obtain ⟨h1, h2, h3⟩ := rootN_some hr
    have hs := hS.same r' h1
    have hz : (pastL es k es.length).getD r' 0 = 0 := hC.ids _ _ (hS.lt r' h1) h0 (by rw [← hs, h2, hid])
    have := hS.good h1 h3 ((pastL es k es.length).length - 1) (by rw [hlen]; omega)
    simp only [hz, hlast] at this
    exact this
structure EMid (w wr : World) (v : Value) (es : List Ent) : Prop where
  hu : Unch none_ w wr
  own : ∀ b, v.ownBlock = some b → w.heap.size ≤ b
  row : Row wr 40 5 v es.length (ecells es)
theorem EMid.rd {w wr : World} {A : Option Addr} {n c : Nat} {es : List Ent} (h : EMid w wr (.slice A n c) es) (hn : n = es.length) (hE : ∀ e ∈ es, EntOk wr e) : Ents wr A n es := by
  subst hn
  refine ⟨⟨rfl, h.row.max, fun hn => ?_⟩, hE⟩
  obtain ⟨g, o, cap, cur, hv, hh, _⟩ := h.row.form hn
  injection hv with h1 h2 h3
  refine ⟨g, o, h1, lt_of_heap hh, fun i x hx => ⟨x.cells, rfl, rfl, fun j u hj => ?_⟩⟩
  have := h.row.at (by rw [h1]) (ecells_get es i j x u hx hj)
  rw [← Nat.add_assoc] at this
  exact this
theorem EMid.fresh {w wr w2 : World} {v : Value} {es : List Ent} (h : EMid w wr v es) (hu : Unch none_ wr w2) : EMid w w2 v es := ⟨h.hu.trans hu, h.own, h.row.unch hu (fun _ _ h => h)⟩
theorem EMid.app {w wr w2 : World} {v v2 : Value} {es : List Ent} {e : Ent} (h : EMid w wr v es) (hr : Row w2 40 5 v2 (es.length + 1) (ecells es ++ e.cells)) (hu : Unch (fun k => v.ownBlock = some k) wr w2)
    (hat : v2.ownBlock = v.ownBlock ∨ ∃ b, v2.ownBlock = some b ∧ wr.heap.size ≤ b) : EMid w w2 v2 (es ++ [e]) := by
  refine ⟨h.hu.step hu (fun k hk hb => absurd (h.own k hb) (by omega)), fun b hb => ?_, ?_⟩
  · rcases hat with h1 | ⟨b', h1, h2⟩
    · exact h.own b (h1 ▸ hb)
    · rw [h1] at hb; injection hb with hb; have := h.hu.size; omega
  · rw [ecells_app, List.length_append, List.length_singleton]
    exact hr
theorem pastL_t {es : List Ent} {k i : Nat} (h : pastIx es k i = true) : subE es (pastL es k (i + 1)) = subE es (pastL es k i) ++ [ent es i] := by
  unfold pastL subE
  rw [List.range_succ, List.filter_append, List.map_append]
  simp [h]
theorem pastL_f {es : List Ent} {k i : Nat} (h : pastIx es k i = false) : subE es (pastL es k (i + 1)) = subE es (pastL es k i) := by
  unfold pastL subE
  rw [List.range_succ, List.filter_append, List.map_append]
  simp [h]
theorem pastL_len (es : List Ent) (k i : Nat) : (subE es (pastL es k i)).length ≤ i := by
  unfold subE pastL
  rw [List.length_map]
  have := List.length_filter_le (pastIx es k) (List.range i)
  simpa using this
theorem at_ix (x : Int) (n : Nat) (h0 : 0 < n) (hn : n ≤ 100) : ∃ k : Nat, k < n ∧ wrap64 ((IntKind.u64.wrap x).tmod (n : Int)) = (k : Int) := by
  have h0' : 0 ≤ IntKind.u64.wrap x := by rw [IntKind.wrap_u64]; omega
  have h1 : 0 ≤ (IntKind.u64.wrap x).tmod (n : Int) := Int.tmod_nonneg _ h0'
  have h2 : (IntKind.u64.wrap x).tmod (n : Int) < n := Int.tmod_lt_of_pos _ (by omega)
  generalize (IntKind.u64.wrap x).tmod (n : Int) = z at h1 h2
  refine ⟨z.toNat, by omega, ?_⟩
  unfold wrap64
  omega
set_option maxRecDepth 100000 in
set_option maxHeartbeats 4000000 in
theorem memberPast_walk (A : Option Addr) (n c : Nat) (l : List Say) (x : Int) (w : World) (h : RdS w 5 (SayRW w) A n l) (hc : n ≤ c) :
    Calls Try.prog 8 #[.slice A n c, .int .i64 x] w fun e w' => e = .returned (.bool true) ∧ Unch none_ w w' := by
  have hs := says_of h
  have hmax := h.max
  have hfew := few_ok (w := w) (A := A) (c := c) hmax
  by_cases hn : n ≤ 24
  · rw [decide_eq_true hn] at hfew
    have HF := Lib.hid hfew
    have HL := Lib.hid (laidL (c := c) hs hn)
    clear hs h hfew hmax
    go_enter Try.func8, Try.ntmps8
    go_wp2_with fail
    refine HF.out.mono ?_
    rintro e w0 ⟨rfl, rfl⟩
    go_wp2_with fail
    refine HL.out.mono ?_
    rintro e w1 ⟨A1, n1, c1, es, rfl, hld, hn1, hu1⟩
    have hpos : 0 < n1 := by rw [← hld.len]; exact hld.pos
    have hz : (n1 : Int) ≠ 0 := by omega
    have hw : IntKind.u64.wrap (n1 : Int) = (n1 : Int) := by rw [IntKind.wrap_u64]; omega
    have HLD := Lib.hid hld
    have HU1 := Lib.hid hu1
    clear hld hu1 HF HL
    go_upto_region 5 with fail
    obtain ⟨k, hk, hkk⟩ := at_ix x n1 hpos (by omega)
    rw [hkk]
    have hkl : k < es.length := by rw [HLD.out.len]; exact hk
    have z1 : (k : Int) < (n1 : Int) := by omega
    have z2 : (0 : Int) ≤ (k : Int) := by omega
    have HP := Lib.hid (pasts_ok HLD.out.ents HLD.out.hc HLD.out.cl)
    clear hkk hz hw
    go_wp2_with fail
    refine HP.out.mono ?_
    rintro e w2 ⟨⟨Ap, cp, rfl, hcp, hpo⟩, hu2⟩
    obtain ⟨br, orr, cv, rfl, _, _, ⟨Ar, cr, rfl, hcr, hrow⟩, hcell⟩ := RdS.at hpo (i := k) (x := prow es k) (by simp [pastsL, hk])
    have y0 := hcell 0 _ rfl
    rw [Nat.mul_one, Nat.add_zero] at y0
    rw [prow_len, HLD.out.len] at y0 hcr hrow
    have HROW := Lib.hid hrow
    have HL2 := Lib.hid (HLD.out.fresh hu2)
    have HU2 := Lib.hid (HU1.out.trans hu2)
    clear hpo hcell hrow hu2 HP HLD HU1
    go_wp2_with fail
    clear y0
    go_loopg [8, 9] n1 (fun gk v8 i9 wr => ∃ i : Nat, gk = n1 - i ∧ i ≤ n1 ∧ i9 = .int .i64 (i : Int) ∧ EMid w2 wr v8 (subE es (pastL es k i)))
    case atStart => exact ⟨0, rfl, Nat.zero_le _, rfl, Unch.refl _ _, (fun b hb => by cases hb), Row.nil _ _ _⟩
    case round =>
      obtain ⟨i, rfl, hi, rfl, hs⟩ := hrel
      obtain ⟨w4, rfl⟩ : ∃ w4, w4 = wr := ⟨_, rfl⟩
      by_cases hin : i < n1
      · have hil : i < es.length := by rw [HL2.out.len]; exact hin
        have z3 : (i : Int) < (n1 : Int) := by omega
        have z4 : (0 : Int) ≤ (i : Int) := by omega
        have h4 := HL2.out.ents.fresh hs.hu
        obtain ⟨bA, oA, rfl, _, x0, x1, x2, x3, x4⟩ := h4.at (ent_get hil)
        obtain ⟨A2, c2, hpv, _, _⟩ := (h4.ok _ (List.mem_of_getElem? (ent_get hil))).ps
        obtain ⟨m2, hm2⟩ : ∃ m2, (ent es i).ps.length = m2 := ⟨_, rfl⟩
        rw [hpv, hm2] at x3
        have hcells : (ent es i).cells = [.string (ent es i).id, .int .i64 (ent es i).kind, .string (ent es i).author, .slice A2 m2 c2, .string (ent es i).body] := by unfold Ent.cells; rw [hpv, hm2]
        obtain ⟨bR, oR, rfl, _, yr⟩ := RdS.bool (RdS.fresh HROW.out hs.hu) (k := i) (prow_get es k hil)
        have hpl := pastL_len es k i
        have HS := Lib.hid hs
        have HCE := Lib.hid hcells
        clear h4 hs hpv hm2 hcells
        have hput : pastIx es k i = true → ∀ {v2 : Value} {w5 : World}, Row w5 40 5 v2 ((subE es (pastL es k i)).length + 1) (ecells (subE es (pastL es k i)) ++ [.string (ent es i).id, .int .i64 (ent es i).kind, .string (ent es i).author, .slice A2 m2 c2, .string (ent es i).body]) → Unch (fun k => u8.ownBlock = some k) w4 w5 → (v2.ownBlock = u8.ownBlock ∨ ∃ b, v2.ownBlock = some b ∧ w4.heap.size ≤ b) → EMid w2 w5 v2 (subE es (pastL es k (i + 1))) := fun hp v2 w5 hr hu hat => by
          rw [pastL_t hp]
          refine HS.out.app ?_ hu hat
          rw [HCE.out]
          exact hr
        have HPUT := Lib.hid @hput
        have hone : ∀ u ∈ [Value.string (ent es i).id, .int .i64 (ent es i).kind, .string (ent es i).author, .slice A2 m2 c2, .string (ent es i).body], u.oneCell' = true := by
          intro u hu
          simp only [List.mem_cons, List.not_mem_nil, or_false] at hu
          rcases hu with rfl | rfl | rfl | rfl | rfl <;> rfl
        have HONE := Lib.hid hone
        clear hput hone
        cases c1 : past es k i with
        | true =>
          rw [c1] at yr
          have HPT := Lib.hid (show pastIx es k i = true by unfold pastIx; rw [c1]; rfl)
          clear c1
          go_wp2_with (at_builtin; refine wpList_append1 w4 rfl (.tmp 45) (.tmp 50) 25 40 _ 5 80 rfl Try.underlying25 info_ent rfl (by omega) u8 _ (ecells (subE es (pastL es k i))) (by rfl) HS.out.row [.string (ent es i).id, .int .i64 (ent es i).kind, .string (ent es i).author, .slice A2 m2 c2, .string (ent es i).body] rfl HONE.out (by rfl) (by simp only [maxLen]; omega) (by omega) ?_; intro v5 w5 hr5 hu5 hat5; have hs5 := HPUT.out HPT.out hr5 hu5 hat5; have HS5 := Lib.hid hs5; clear hr5 hu5 hat5 hs5)
          go_roundg (n1 - (i + 1))
          case measure => omega
          case rel => exact ⟨i + 1, rfl, by omega, by go_num, HS5.out⟩
        | false =>
          rw [c1] at yr
          by_cases c2' : i = k
          · have HPT := Lib.hid (show pastIx es k i = true by unfold pastIx; rw [c1, decide_eq_true c2']; rfl)
            subst c2'
            clear c1
            go_wp2_with (at_builtin; refine wpList_append1 w4 rfl (.tmp 45) (.tmp 50) 25 40 _ 5 80 rfl Try.underlying25 info_ent rfl (by omega) u8 _ (ecells (subE es (pastL es i i))) (by rfl) HS.out.row [.string (ent es i).id, .int .i64 (ent es i).kind, .string (ent es i).author, .slice A2 m2 c2, .string (ent es i).body] rfl HONE.out (by rfl) (by simp only [maxLen]; omega) (by omega) ?_; intro v5 w5 hr5 hu5 hat5; have hs5 := HPUT.out HPT.out hr5 hu5 hat5; have HS5 := Lib.hid hs5; clear hr5 hu5 hat5 hs5)
            go_roundg (n1 - (i + 1))
            case measure => omega
            case rel => exact ⟨i + 1, rfl, by omega, by go_num, HS5.out⟩
          · have HPF := Lib.hid (pastL_f (es := es) (k := k) (i := i) (by unfold pastIx; rw [c1, decide_eq_false c2']; rfl))
            obtain ⟨e1, e2, e3, e4⟩ := nat_ne c2'
            clear c1 c2'
            go_wp2
            go_roundg (n1 - (i + 1))
            case measure => omega
            case rel => exact ⟨i + 1, rfl, by omega, by go_num, by rw [HPF.out]; exact HS.out⟩
      · obtain rfl : n1 = i := by omega
        have hL4 := HL2.out.fresh hs.hu
        have hS := sub_past hL4.cl hkl
        obtain ⟨hrl, hrid, hrk⟩ := rootN_some hL4.root
        have hpR := pastR hL4.cl hL4.pos hrid hrk hkl
        have hsl := hL4.len
        rw [hsl] at hS hpR
        have hll : (subE es (pastL es k n1)).length = (pastL es k n1).length := by simp [subE]
        rw [← hll] at hpR
        have hmem : ∀ e ∈ subE es (pastL es k n1), e ∈ es := fun e he => by
          obtain ⟨i, hi, rfl⟩ := List.mem_map.1 he
          have : i < n1 := by have := (List.mem_filter.1 hi).1; simpa using this
          exact List.mem_of_getElem? (ent_get (by rw [hsl]; exact this))
        obtain ⟨em, hem⟩ : ∃ em, subE es (pastL es k n1) = em := ⟨_, rfl⟩
        rw [hem] at hs hS hpR hmem hll
        obtain ⟨Am, cm, hv, hcm⟩ := hs.row.slice
        subst hv
        have hEm := hs.rd rfl (fun e he => hL4.ents.ok e (hmem e he))
        have hclm := closed_iff.2 hS.cm
        obtain ⟨nm, hnm⟩ : ∃ nm, em.length = nm := ⟨_, rfl⟩
        rw [hnm] at hcm hEm hpR ⊢
        have HG := Lib.hid hL4.good
        have HEM := Lib.hid hEm
        have HCM := Lib.hid hclm
        have HPR := Lib.hid hpR
        have HNM := Lib.hid hnm
        have HL4 := Lib.hid hL4
        have HU4 := Lib.hid (HU2.out.trans hs.hu)
        have n3 := hL4.n3
        have hmm := hEm.rd.max
        unfold maxLen at hmm
        clear hs hL4 hS hrl hrid hrk hpR hsl hll hmem hem hEm hclm hnm HL2 HU2 HROW
        go_wp2_with fail
        refine HG.out.mono ?_
        rintro e w5 ⟨g, rfl, hb, hg, hu5⟩
        have HB := Lib.hid hb
        have HU5 := Lib.hid (HU4.out.trans hu5)
        have HEM5 := Lib.hid (HEM.out.fresh hu5)
        clear hb hg hu5 HG HEM HU4
        cases hr : rootN rootB em with
        | none =>
          have HGM := Lib.hid (good_nil HEM5.out hcm rootB (fun _ => hr))
          have HGK := Lib.hid (HPR.out.1 hr)
          clear hr
          go_wp2_with fail
          refine HGM.out.mono ?_
          rintro e w6 ⟨rfl, hu6⟩
          have yk := (HB.out.unch hu6 (fun h => h)).at (j := k) hk
          rw [HGK.out] at yk
          have HU6 := Lib.hid (HU5.out.trans hu6)
          clear hu6 HGM
          go_wp2_with fail
          refine (awake_ok _).mono ?_
          rintro e w7 ⟨rfl, hu7⟩
          go_wp2
          go_ret
          exact ⟨rfl, HU6.out.trans hu7⟩
        | some r' =>
          have HGM := Lib.hid (good_ok HEM5.out hcm rootB (by decide) HCM.out hr)
          have HGK := Lib.hid (HPR.out.2 r' hr)
          obtain ⟨q, hq⟩ : ∃ q, nm = q + 1 := ⟨nm - 1, by have := (rootN_some hr).1; have := HNM.out; omega⟩
          have hq1 : nm - 1 = q := by omega
          rw [hq1] at HGK
          have z3 : (nm : Int) - 1 = (q : Int) := by omega
          have z4 : (q : Int) < (nm : Int) := by omega
          have z5 : (0 : Int) ≤ (q : Int) := by omega
          have z6 : ¬ (nm : Int) = 0 := by omega
          have z7 : ((nm : Int) == 0) = false := by simpa using z6
          have hqn : q < nm := by omega
          clear hr hq hq1
          go_wp2_with fail
          refine HGM.out.mono ?_
          rintro e w6 ⟨g6, rfl, hb6, _, hu6⟩
          obtain ⟨gB, hgB⟩ : ∃ gB, goodL es 0 k = gB := ⟨_, rfl⟩
          have y1 := (HB.out.unch hu6 (fun h => h)).at (j := k) hk
          have y2 := hb6.at (j := q) hqn
          rw [HGK.out, hgB] at y2
          rw [hgB] at y1
          have fg := cellU y1
          have fm := cellU y2
          have hq : QC Try.prog 12 #[] (.bool true) w6 := fun W hW => awake_ok W
          have HQ := Lib.hid hq
          have HU6 := Lib.hid (HU5.out.trans hu6)
          clear hu6 HGM y1 y2 hq hb6 hgB
          go_upto_region 17 with fail
          refine wp_region_quiet_u (by kernel_rfl) (by kernel_rfl) (fun _ => ?_)
          cases gB with
          | true =>
            repeat (go_big_quiet_step ((go_at_call 12; with_reducible exact HQ.out.u _)))
            refine wpQuiet_nil ?_
            intro wq hw'
            obtain ⟨⟨wqq, huq⟩, hw''⟩ := hw'
            subst hw''
            go_wp2
            go_ret
            exact ⟨rfl, HU6.out.trans huq⟩
          | false =>
            repeat (go_big_quiet_step ((go_at_call 12; with_reducible exact HQ.out.u _)))
            refine wpQuiet_nil ?_
            intro wq hw'
            obtain ⟨⟨wqq, huq⟩, hw''⟩ := hw'
            subst hw''
            go_wp2
            go_ret
            exact ⟨rfl, HU6.out.trans huq⟩
  · rw [decide_eq_false hn] at hfew
    have HF := Lib.hid hfew
    clear hs h hfew hmax
    go_enter Try.func8, Try.ntmps8
    go_wp2_with fail
    refine HF.out.mono ?_
    rintro e w0 ⟨rfl, rfl⟩
    go_wp2_with fail
    refine (awake_ok w).mono ?_
    rintro e w6 ⟨rfl, hu6⟩
    go_wp2
    go_ret
    exact ⟨rfl, hu6⟩
end Go.Proofs.Ytgalnnmeamldhaa
