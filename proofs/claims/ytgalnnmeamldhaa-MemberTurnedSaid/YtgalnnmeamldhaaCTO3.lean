/-
  MemberTurned.
-/
import Derived.Test.YtgalnnmeamldhaaCTO2
/- MemberTurned. -/
set_option linter.unusedVariables false
set_option linter.unusedSimpArgs false
namespace Go.Proofs.Ytgalnnmeamldhaa
open Go Go.RowKit Go.Proofs.Ytgalnnmeamldhaa.Pal Go.Proofs.Ytgalnnmeamldhaa.Plan

def Ent.rcells (e : Ent) : List Value := [.string e.id, e.pv]
def rcells (es : List Ent) : List Value := es.flatMap Ent.rcells
theorem rcells_get : ∀ (es : List Ent) (i j : Nat) (e : Ent) (u : Value), es[i]? = some e → e.rcells[j]? = some u → (rcells es)[i * 2 + j]? = some u
  | [], i, j, e, u, h, _ => by simp at h
  | a :: es, 0, j, e, u, h, hu => by
    have : a = e := by simpa using h
    subst this
    have hj : j < a.rcells.length := (List.getElem?_eq_some_iff.1 hu).1
    unfold rcells
    rw [List.flatMap_cons, Nat.zero_mul, Nat.zero_add, List.getElem?_append_left hj]
    exact hu
  | a :: es, i + 1, j, e, u, h, hu => by
    have h' : es[i]? = some e := by simpa using h
    have ih := rcells_get es i j e u h' hu
    unfold rcells at *
    rw [List.flatMap_cons, List.getElem?_append_right (by show 2 ≤ _; omega)]
    have : (i + 1) * 2 + j - a.rcells.length = i * 2 + j := by show (i + 1) * 2 + j - 2 = _; omega
    rw [this]
    exact ih
theorem rcells_app (es : List Ent) (e : Ent) : rcells (es ++ [e]) = rcells es ++ e.rcells := by simp [rcells]
theorem info_rent : (Try.prog.info? 46).map (fun i => (i.zero, i.size, i.bytes)) = some (some (.agg #[.string ⟨#[]⟩, .slice none 0 0]), 2, 40) := by kernel_rfl
structure RMid (w wr : World) (v : Value) (es : List Ent) : Prop where
  hu : Unch none_ w wr
  own : ∀ b, v.ownBlock = some b → w.heap.size ≤ b
  row : Row wr 46 2 v es.length (rcells es)
theorem RMid.rd {w wr : World} {A : Option Addr} {n c : Nat} {es : List Ent} (h : RMid w wr (.slice A n c) es) (hn : n = es.length) (hE : ∀ e ∈ es, EntOk wr e) : REnts wr A n es := by
  subst hn
  refine ⟨⟨rfl, h.row.max, fun hn => ?_⟩, hE⟩
  obtain ⟨g, o, cap, cur, hv, hh, _⟩ := h.row.form hn
  injection hv with h1 h2 h3
  refine ⟨g, o, h1, lt_of_heap hh, fun i x hx => ⟨x.rcells, rfl, rfl, fun j u hj => ?_⟩⟩
  have := h.row.at (by rw [h1]) (rcells_get es i j x u hx hj)
  rw [← Nat.add_assoc] at this
  exact this
theorem RMid.app {w wr w2 : World} {v v2 : Value} {es : List Ent} {e : Ent} (h : RMid w wr v es) (hr : Row w2 46 2 v2 (es.length + 1) (rcells es ++ e.rcells)) (hu : Unch (fun k => v.ownBlock = some k) wr w2)
    (hat : v2.ownBlock = v.ownBlock ∨ ∃ b, v2.ownBlock = some b ∧ wr.heap.size ≤ b) : RMid w w2 v2 (es ++ [e]) := by
  refine ⟨h.hu.step hu (fun k hk hb => absurd (h.own k hb) (by omega)), fun b hb => ?_, ?_⟩
  · rcases hat with h1 | ⟨b', h1, h2⟩
    · exact h.own b (h1 ▸ hb)
    · rw [h1] at hb; injection hb with hb; have := h.hu.size; omega
  · rw [rcells_app, List.length_append, List.length_singleton]
    exact hr
theorem take_ent {es : List Ent} {i : Nat} (h : i < es.length) : es.take (i + 1) = es.take i ++ [ent es i] := by
  rw [List.take_add_one, ent_get h]; rfl
theorem ent_len {l : List Ent} (i n : Nat) (h : n = l.length) (hi : i ≤ n) : (l.take i).length = i := by rw [List.length_take]; omega
set_option maxRecDepth 100000 in
set_option maxHeartbeats 6000000 in
theorem memberTurned_walk (A : Option Addr) (n c : Nat) (l : List Say) (w : World) (h : RdS w 5 (SayRW w) A n l) (hc : n ≤ c) :
    Calls Try.prog 7 #[.slice A n c] w fun e w' => e = .returned (.bool true) ∧ Unch none_ w w' := by
  have hs := says_of h
  have hmax := h.max
  have hfew := few_ok (w := w) (A := A) (c := c) hmax
  by_cases hn : n ≤ 24
  · rw [decide_eq_true hn] at hfew
    have HF := Lib.hid hfew
    have HL := Lib.hid (laidL (c := c) hs hn)
    clear hs h hfew hmax
    go_enter Try.func7, Try.ntmps7
    go_wp2_with fail
    refine HF.out.mono ?_
    rintro e w0 ⟨rfl, rfl⟩
    go_wp2_with fail
    refine HL.out.mono ?_
    rintro e w1 ⟨A1, n1, c1, es, rfl, hld, hn1, hu1⟩
    have HLD := Lib.hid hld
    have HU1 := Lib.hid hu1
    clear hld hu1 HF HL
    go_wp2_with fail
    go_loopg [4, 5] n1 (fun gk v4 i5 wr => ∃ i : Nat, gk = n1 - i ∧ i ≤ n1 ∧ i5 = .int .i64 (i : Int) ∧ RMid w1 wr v4 (es.take i))
    case atStart => exact ⟨0, rfl, Nat.zero_le _, rfl, Unch.refl _ _, (fun b hb => by cases hb), Row.nil _ _ _⟩
    case round =>
      obtain ⟨i, rfl, hi, rfl, hs⟩ := hrel
      obtain ⟨w2, rfl⟩ : ∃ w2, w2 = wr := ⟨_, rfl⟩
      have hel : es.length = n1 := HLD.out.len
      have htl : (es.take i).length = i := ent_len i n1 hel.symm hi
      by_cases hin : i < n1
      · have hil : i < es.length := by rw [hel]; exact hin
        have z0 : (0 : Int) ≤ (i : Int) := by omega
        have z1 : (i : Int) < (n1 : Int) := by omega
        have h2 := HLD.out.ents.fresh hs.hu
        obtain ⟨b, o, rfl, _, x0, x1, x2, x3, x4⟩ := h2.at (ent_get hil)
        obtain ⟨A2, c2, hpv, _, _⟩ := (h2.ok _ (List.mem_of_getElem? (ent_get hil))).ps
        obtain ⟨m2, hm2⟩ : ∃ m2, (ent es i).ps.length = m2 := ⟨_, rfl⟩
        rw [hpv, hm2] at x3
        have hcells : (ent es i).rcells = [.string (ent es i).id, .slice A2 m2 c2] := by unfold Ent.rcells; rw [hpv, hm2]
        have HCE := Lib.hid hcells
        have HSS := Lib.hid hs
        have HTK := Lib.hid (take_ent hil)
        have hrow := hs.row
        rw [htl] at hrow
        have hd2 : Unch none_ w2 w2.drew := (Unch.refl none_ w2).drew
        have HROW := Lib.hid (hrow.unch hd2 (fun _ _ h => h))
        have HD2 := Lib.hid hd2
        have hone : ∀ u ∈ [Value.string (ent es i).id, .slice A2 m2 c2], u.oneCell' = true := by
          intro u hu
          simp only [List.mem_cons, List.not_mem_nil, or_false] at hu
          rcases hu with rfl | rfl <;> rfl
        have HONE := Lib.hid hone
        clear hs h2 x1 x2 x4 hpv hm2 hcells hrow hone
        go_upto_region 8 with fail
        refine wp_planP (fun W => Unch none_ w2 W) [0] [1, 2, 3, 4, 5, 6, 7, 8, 9, 10, 11] [12, 13, 14] 0 (by kernel_rfl) (by kernel_rfl) rfl rfl rfl (fun c a d v w h => by cases d <;> exact h) ((Unch.refl _ _).drew) ?_
        intro S S0 HS _ _
        simp only [pickIn, List.getElem?_toArray, List.getElem?_cons_succ, List.getElem?_cons_zero]
        repeat (go_big_quiet_step (fail))
        refine wpQuiet_nil ?_
        have f0 : ∀ G2 : In S, G2.w.cell? ⟨b, o + i * 5, none⟩ = some (.string (ent es i).id) := fun G2 => ((HS.out _).1 G2.h).cell x0 (fun h => h)
        have f3 : ∀ G2 : In S, G2.w.cell? ⟨b, o + i * 5 + 3, none⟩ = some (.slice A2 m2 c2) := fun G2 => ((HS.out _).1 G2.h).cell x3 (fun h => h)
        repeat (go_big_quiet_step (fail))
        refine wpQuiet_nil ?_
        clear f0 f3 x0 x3
        refine tail_all ?_
        go_wp2_with (at_builtin; refine wpList_append1 w2.drew rfl (.tmp 27) (.tmp 39) 44 46 _ 2 40 rfl Try.underlying44 info_rent rfl (by omega) u4 i (rcells (es.take i)) (by rfl) HROW.out [.string (ent es i).id, .slice A2 m2 c2] rfl HONE.out (by rfl) (by simp only [maxLen]; omega) (by omega) ?_; intro v5 w5 hr5 hu5 hat5; have hs5 := HSS.out.app (e := ent es i) (v2 := v5) (w2 := w5) (by rw [htl, HCE.out]; exact hr5) (HD2.out.mono (fun _ _ h => h.elim) |>.step hu5 (fun _ _ h => h)) (by rcases hat5 with h | ⟨b, h, h'⟩; exact .inl h; exact .inr ⟨b, h, h'⟩); have HS5 := Lib.hid hs5; clear hr5 hu5 hat5 hs5)
        go_roundg (n1 - (i + 1))
        case measure => omega
        case rel => exact ⟨i + 1, rfl, by omega, by go_num, by rw [HTK.out]; exact HS5.out⟩
      · obtain rfl : n1 = i := by omega
        obtain ⟨A4, c4, hv4, _⟩ := hs.row.slice
        subst hv4
        rw [htl] at hs ⊢
        rw [show es.take n1 = es by rw [← hel]; exact List.take_length] at hs
        have hE := HLD.out.fresh hs.hu
        have hre := hs.rd hel.symm (fun e he => hE.ents.ok e he)
        have HO := Lib.hid (order_ok (c := c4) hre hE.cl)
        have HE := Lib.hid hE
        have HU2 := Lib.hid (HU1.out.trans hs.hu)
        clear hs hE hre HLD HU1 htl
        go_wp2_with fail
        refine HO.out.mono ?_
        rintro e w3 ⟨v6, ys, rfl, hord, hyl, hsm⟩
        obtain ⟨A6, c6, hv6, hc6⟩ := hsm.row.slice
        subst hv6
        rw [hyl, hel] at hsm hc6 ⊢
        have HYS := Lib.hid (srow_rds hsm.row)
        have HE3 := Lib.hid (HE.out.fresh hsm.hu)
        have HU3 := Lib.hid (HU2.out.trans hsm.hu)
        have hml : (mE es ys).length = n1 := by rw [mE_len, hyl, hel]
        obtain ⟨r', hr', hsub⟩ := turned HE.out.cl hord hyl HE.out.pos (rootN_some HE.out.root).2.2
        rw [(rootN_some HE.out.root).2.1] at hr'
        have HORD := Lib.hid hord
        have HRR := Lib.hid hr'
        have HSUB := Lib.hid hsub
        have HYL := Lib.hid (hyl.trans hel)
        have HML := Lib.hid hml
        have n3 := HE.out.n3
        clear hord hyl hsm hr' hsub hml HO HE HU2
        go_wp2_with fail
        go_loopg [7, 8] n1 (fun gk v7 i8 wr => ∃ i : Nat, gk = n1 - i ∧ i ≤ n1 ∧ i8 = .int .i64 (i : Int) ∧ EMid w3 wr v7 ((mE es ys).take i))
        case atStart => exact ⟨0, rfl, Nat.zero_le _, rfl, Unch.refl _ _, (fun b hb => by cases hb), Row.nil _ _ _⟩
        case round =>
          obtain ⟨i, rfl, hi, rfl, hs⟩ := hrel
          obtain ⟨w4, rfl⟩ : ∃ w4, w4 = wr := ⟨_, rfl⟩
          have htl : ((mE es ys).take i).length = i := ent_len i n1 HML.out.symm hi
          by_cases hin : i < n1
          · have z0 : (0 : Int) ≤ (i : Int) := by omega
            have z1 : (i : Int) < (n1 : Int) := by omega
            have hiy : i < ys.length := by rw [HYL.out]; exact hin
            have hys := getD_of hiy
            obtain ⟨sI, hsI⟩ : ∃ sI, ys.getD i ByteArray.empty = sI := ⟨_, rfl⟩
            obtain ⟨x, hx⟩ : ∃ x, ixO es ys i = x := ⟨_, rfl⟩
            have hix := HORD.out.ix HE3.out.cl (List.mem_of_getElem? hys)
            have hxe : ixE es (ys.getD i ByteArray.empty) = x := hx
            rw [hxe] at hix
            rw [hsI] at hys hix
            have hme := mE_ent (es := es) hiy
            rw [hx] at hme
            have htk := take_ent (es := mE es ys) (i := i) (by rw [HML.out]; exact hin)
            rw [hme] at htk
            have hE4 := HE3.out.ents.fresh hs.hu
            have hxl := hix.2.1
            have zx0 : (0 : Int) ≤ (x : Int) := by omega
            have zx1 : (x : Int) < (n1 : Int) := by have := HE3.out.len; omega
            have hfo := find_ok hE4 HE3.out.hc sI
            rw [hix.1] at hfo
            obtain ⟨b, o, rfl, _, x0, x1, x2, x3, x4⟩ := hE4.at (ent_get hxl)
            obtain ⟨A2, c2, hpv, _, _⟩ := (hE4.ok _ (List.mem_of_getElem? (ent_get hxl))).ps
            obtain ⟨m2, hm2⟩ : ∃ m2, (ent es x).ps.length = m2 := ⟨_, rfl⟩
            rw [hpv, hm2] at x3
            have hcells : (ent es x).cells = [.string (ent es x).id, .int .i64 (ent es x).kind, .string (ent es x).author, .slice A2 m2 c2, .string (ent es x).body] := by unfold Ent.cells; rw [hpv, hm2]
            obtain ⟨bY, oY, rfl, _, yy⟩ := RdS.str (RdS.fresh HYS.out hs.hu) hys
            have hone : ∀ u ∈ [Value.string (ent es x).id, .int .i64 (ent es x).kind, .string (ent es x).author, .slice A2 m2 c2, .string (ent es x).body], u.oneCell' = true := by
              intro u hu
              simp only [List.mem_cons, List.not_mem_nil, or_false] at hu
              rcases hu with rfl | rfl | rfl | rfl | rfl <;> rfl
            have HONE := Lib.hid hone
            have HCE := Lib.hid hcells
            have HSS := Lib.hid hs
            have HTK := Lib.hid htk
            have HFO := Lib.hid hfo
            have hrow := hs.row
            rw [htl] at hrow
            have HROW := Lib.hid hrow
            clear hone hcells hs htk hfo hrow hpv hm2 hys hix hme hE4 hsI hx hxe
            simp only [optI] at HFO
            go_wp2_with fail
            refine HFO.out.mono ?_
            rintro e w5 ⟨rfl, rfl⟩
            go_wp2_with (at_builtin; refine wpList_append1 w4 rfl (.tmp 49) (.tmp 59) 25 40 _ 5 80 rfl Try.underlying25 info_ent rfl (by omega) u7 i (ecells ((mE es ys).take i)) (by rfl) HROW.out [.string (ent es x).id, .int .i64 (ent es x).kind, .string (ent es x).author, .slice A2 m2 c2, .string (ent es x).body] rfl HONE.out (by rfl) (by simp only [maxLen]; omega) (by omega) ?_; intro v5 w5 hr5 hu5 hat5; have hs5 := HSS.out.app (e := ent es x) (v2 := v5) (w2 := w5) (by rw [htl, HCE.out]; exact hr5) hu5 hat5; have HS5 := Lib.hid hs5; clear hr5 hu5 hat5 hs5)
            go_roundg (n1 - (i + 1))
            case measure => omega
            case rel => exact ⟨i + 1, rfl, by omega, by go_num, by rw [HTK.out]; exact HS5.out⟩
          · obtain rfl : n1 = i := by omega
            obtain ⟨A7, c7, hv7, hc7⟩ := hs.row.slice
            subst hv7
            rw [htl] at hs hc7 ⊢
            rw [show (mE es ys).take n1 = mE es ys by rw [← HML.out]; exact List.take_length] at hs
            have hE4 := HE3.out.fresh hs.hu
            have hEm := hs.rd HML.out.symm (fun e he => by
              obtain ⟨s, hs', rfl⟩ := List.mem_map.1 he
              exact hE4.ents.ok _ (List.mem_of_getElem? (ent_get (HORD.out.ix hE4.cl hs').2.1)))
            obtain ⟨em, hem⟩ : ∃ em, mE es ys = em := ⟨_, rfl⟩
            have hmix : ∀ i, i < n1 → findN es (ent em i).id = some (ixO es ys i) ∧ ixO es ys i < n1 := fun i hi => by
              have hiy : i < ys.length := by rw [HYL.out]; exact hi
              have hix := HORD.out.ix hE4.cl (List.mem_of_getElem? (getD_of hiy))
              rw [← hem, mE_ent hiy]
              refine ⟨?_, by have := hix.2.1; rw [hE4.len] at this; exact this⟩
              have e : ixE es (ys.getD i ByteArray.empty) = ixO es ys i := rfl
              rw [e] at hix
              rw [hix.2.2]
              exact hix.1
            rw [hem] at hEm HRR HSUB HML
            have hclm := closed_iff.2 HSUB.out.sub.cm
            have HEM := Lib.hid hEm
            have HCM := Lib.hid hclm
            have HMIX := Lib.hid hmix
            have HE4 := Lib.hid hE4
            have HU4 := Lib.hid (HU3.out.trans hs.hu)
            have HG1 := Lib.hid hE4.good
            clear hs hE4 hEm hclm hmix htl HE3 HU3 HYS hem
            go_wp2_with fail
            refine HG1.out.mono ?_
            rintro e w5 ⟨g1, rfl, hb1, _, hu5⟩
            have HEM5 := Lib.hid (HEM.out.fresh hu5)
            have HG2 := Lib.hid (good_ok HEM5.out hc7 rootB (by decide) HCM.out HRR.out)
            have HB1 := Lib.hid hb1
            have HU5 := Lib.hid hu5
            clear hb1 hu5 HG1
            go_wp2_with fail
            refine HG2.out.mono ?_
            rintro e w6 ⟨g2, rfl, hb2, _, hu6⟩
            have HB1b := Lib.hid (HB1.out.unch hu6 (fun h => h))
            have HB2 := Lib.hid hb2
            have HU6 := Lib.hid (HU5.out.trans hu6)
            have HG3 := Lib.hid (HE4.out.fresh HU6.out).holds
            clear hb2 hu6 HG2 HB1 HU5 HEM5
            go_wp2_with fail
            refine HG3.out.mono ?_
            rintro e w7 ⟨g3, rfl, hb3, _, hu7⟩
            have HB1c := Lib.hid (HB1b.out.unch hu7 (fun h => h))
            have HB2c := Lib.hid (HB2.out.unch hu7 (fun h => h))
            have HB3 := Lib.hid hb3
            have HU7 := Lib.hid (HU6.out.trans hu7)
            have HG4 := Lib.hid (pHolds_ok (HEM.out.fresh HU7.out) hc7 rootB (by decide) HCM.out HRR.out)
            clear hb3 hu7 HG3 HB1b HB2 HU6
            go_wp2_with fail
            refine HG4.out.mono ?_
            rintro e w8 ⟨g4, rfl, hb4, _, hu8⟩
            have HB1d := Lib.hid (HB1c.out.unch hu8 (fun h => h))
            have HB2d := Lib.hid (HB2c.out.unch hu8 (fun h => h))
            have HB3d := Lib.hid (HB3.out.unch hu8 (fun h => h))
            have HB4 := Lib.hid hb4
            have HU8 := Lib.hid (HU7.out.trans hu8)
            have HE8 := Lib.hid (HE4.out.fresh HU8.out)
            have HM8 := Lib.hid (HEM.out.fresh HU8.out)
            have HW8 := Lib.hid (HU4.out.trans HU8.out)
            clear hb4 hu8 HG4 HB1c HB2c HB3 HU7 HU8 HEM HE4 HU4
            go_wp2_with fail
            go_loopg [13, 14] n1 (fun gk i13 _ wr => ∃ i : Nat, gk = n1 - i ∧ i ≤ n1 ∧ i13 = .int .i64 (i : Int) ∧ Unch none_ w8 wr)
            case atStart => exact ⟨0, rfl, Nat.zero_le _, rfl, Unch.refl _ _⟩
            case round =>
              obtain ⟨i, rfl, hi, rfl, hu⟩ := hrel
              obtain ⟨w9, rfl⟩ : ∃ w9, w9 = wr := ⟨_, rfl⟩
              by_cases hin : i < n1
              · have z0 : (0 : Int) ≤ (i : Int) := by omega
                have z1 : (i : Int) < (n1 : Int) := by omega
                have hil : i < em.length := by rw [HML.out]; exact hin
                obtain ⟨hfi, hxl⟩ := HMIX.out i hin
                have hgd : goodL em r' i = goodL es 0 (ixO es ys i) := HSUB.out.inn i hil
                have hhd : (goodS em r').holding i = (goodS es 0).holding (ixO es ys i) := HSUB.out.holding hil
                obtain ⟨x, hx⟩ : ∃ x, ixO es ys i = x := ⟨_, rfl⟩
                rw [hx] at hfi hxl hgd hhd
                have zx0 : (0 : Int) ≤ (x : Int) := by omega
                have zx1 : (x : Int) < (n1 : Int) := by omega
                obtain ⟨bM, oM, rfl, _, m0, _, _, _, _⟩ := (HM8.out.fresh hu).at (ent_get hil)
                have hfo := find_ok (HE8.out.ents.fresh hu) HE8.out.hc (ent em i).id
                rw [hfi] at hfo
                simp only [optI] at hfo
                have HFO := Lib.hid hfo
                have y1 := (HB1d.out.unch hu (fun h => h)).at (j := x) hxl
                have y2 := (HB2d.out.unch hu (fun h => h)).at (j := i) hin
                have y3 := (HB3d.out.unch hu (fun h => h)).at (j := x) hxl
                have y4 := (HB4.out.unch hu (fun h => h)).at (j := i) hin
                rw [hgd] at y2
                rw [hhd] at y4
                obtain ⟨gB, hgB⟩ : ∃ gB, goodL es 0 x = gB := ⟨_, rfl⟩
                obtain ⟨hB, hhB⟩ : ∃ hB, (goodS es 0).holding x = hB := ⟨_, rfl⟩
                rw [hgB] at y1 y2
                rw [hhB] at y3 y4
                have HU9 := Lib.hid hu
                clear hgd hhd hfi hfo hgB hhB hx hu
                go_wp2_with fail
                refine HFO.out.mono ?_
                rintro e w10 ⟨rfl, rfl⟩
                have t1 := cellU y1
                have t2 := cellU y2
                have t3 := cellU y3
                have t4 := cellU y4
                clear y1 y2 y3 y4 m0
                go_upto_region 23 with fail
                refine wp_region_quiet_u (by kernel_rfl) (by kernel_rfl) (fun _ => ?_)
                cases gB with
                | true =>
                  cases hB with
                  | true =>
                    repeat (go_big_quiet_step (fail))
                    refine wpQuiet_nil ?_
                    intro wq hw'
                    obtain ⟨⟨wqq, huq⟩, hw''⟩ := hw'
                    subst hw''
                    clear t1 t2 t3 t4
                    go_wp2
                    go_roundg (n1 - (i + 1))
                    case measure => omega
                    case rel => exact ⟨i + 1, rfl, by omega, by go_num, HU9.out.trans huq⟩
                  | false =>
                    repeat (go_big_quiet_step (fail))
                    refine wpQuiet_nil ?_
                    intro wq hw'
                    obtain ⟨⟨wqq, huq⟩, hw''⟩ := hw'
                    subst hw''
                    clear t1 t2 t3 t4
                    go_wp2
                    go_roundg (n1 - (i + 1))
                    case measure => omega
                    case rel => exact ⟨i + 1, rfl, by omega, by go_num, HU9.out.trans huq⟩
                | false =>
                  cases hB with
                  | true =>
                    repeat (go_big_quiet_step (fail))
                    refine wpQuiet_nil ?_
                    intro wq hw'
                    obtain ⟨⟨wqq, huq⟩, hw''⟩ := hw'
                    subst hw''
                    clear t1 t2 t3 t4
                    go_wp2
                    go_roundg (n1 - (i + 1))
                    case measure => omega
                    case rel => exact ⟨i + 1, rfl, by omega, by go_num, HU9.out.trans huq⟩
                  | false =>
                    repeat (go_big_quiet_step (fail))
                    refine wpQuiet_nil ?_
                    intro wq hw'
                    obtain ⟨⟨wqq, huq⟩, hw''⟩ := hw'
                    subst hw''
                    clear t1 t2 t3 t4
                    go_wp2
                    go_roundg (n1 - (i + 1))
                    case measure => omega
                    case rel => exact ⟨i + 1, rfl, by omega, by go_num, HU9.out.trans huq⟩
              · obtain rfl : n1 = i := by omega
                have HMM := Lib.hid (HE8.out.fresh hu).members
                have HU9 := Lib.hid hu
                clear hu
                go_wp2_with fail
                refine HMM.out.mono ?_
                rintro e w10 ⟨v1, L1, rfl, hm1, hs1⟩
                obtain ⟨AL1, cL1, hvL1, _⟩ := hs1.row.slice
                subst hvL1
                have HR1 := Lib.hid (srow_rds hs1.row)
                have HU10 := Lib.hid (HU9.out.trans hs1.hu)
                have HL1 := Lib.hid hm1
                have HM2 := Lib.hid (pMembers_ok (HM8.out.fresh HU10.out) hc7 rootB (by decide) HCM.out HRR.out)
                clear hs1 hm1 HMM
                go_wp2_with fail
                refine HM2.out.mono ?_
                rintro e w11 ⟨v2, L2, rfl, hm2, hs2⟩
                obtain rfl := (HSUB.out.memL hm2).uniq HL1.out
                obtain ⟨AL2, cL2, hvL2, _⟩ := hs2.row.slice
                subst hvL2
                have hsame := refsame_ok (c := cL1) (d := cL2) (RdS.fresh HR1.out hs2.hu) (srow_rds hs2.row)
                rw [decide_eq_true rfl] at hsame
                have HSM := Lib.hid hsame
                have HU11 := Lib.hid (HU10.out.trans hs2.hu)
                clear hsame hs2 hm2 HM2
                go_wp2_with fail
                refine HSM.out.mono ?_
                rintro e w12 ⟨rfl, hu12⟩
                go_wp2_with fail
                refine (awake_ok w12).mono ?_
                rintro e w13 ⟨rfl, hu13⟩
                go_wp2
                go_ret
                exact ⟨rfl, ((HW8.out.trans HU11.out).trans hu12).trans hu13⟩
  · rw [decide_eq_false hn] at hfew
    have HF := Lib.hid hfew
    clear hs h hfew hmax
    go_enter Try.func7, Try.ntmps7
    go_wp2_with fail
    refine HF.out.mono ?_
    rintro e w0 ⟨rfl, rfl⟩
    go_wp2_with fail
    refine (awake_ok w).mono ?_
    rintro e w6 ⟨rfl, hu6⟩
    go_wp2
    go_ret
    exact ⟨rfl, hu6⟩
end Go.Proofs.Ytgalnnmeamldhaa
