/-
  MemberOut.
-/
import Derived.Test.YtgalnnmeamldhaaCLA2
/- MemberOut. -/
set_option linter.unusedVariables false
set_option linter.unusedSimpArgs false
namespace Go.Proofs.Ytgalnnmeamldhaa
open Go Go.RowKit Go.Proofs.Ytgalnnmeamldhaa.Pal Go.Proofs.Ytgalnnmeamldhaa.Plan

theorem SMid.app1 {w wr w2 : World} {v v2 : Value} {m : Nat} {ys : List ByteArray} {x : ByteArray} (h : SMid w wr v m ys) (hr : Row w2 9 1 v2 (m + 1) (sv ys ++ [.string x])) (hu : Unch (fun k => v.ownBlock = some k) wr w2)
    (hat : v2.ownBlock = v.ownBlock ∨ ∃ b, v2.ownBlock = some b ∧ wr.heap.size ≤ b) : SMid w w2 v2 (m + 1) (ys ++ [x]) := by
  have := h.app hr hu hat
  rw [show gapS ys m x = ys ++ [x] by rw [← h.len]; exact gapS_end ys x] at this
  exact this
def addP (es : List Ent) (i : Nat) : Bool := decide ((ent es i).kind = 4) && goodL es 0 i
def addL (es : List Ent) (k : Nat) : List ByteArray := ((List.range k).filter (addP es)).map fun i => (ent es i).body
theorem addL_t {es : List Ent} {k : Nat} (h : addP es k = true) : addL es (k + 1) = addL es k ++ [(ent es k).body] := by
  unfold addL
  rw [List.range_succ, List.filter_append, List.map_append]
  simp [h]
theorem addL_f {es : List Ent} {k : Nat} (h : addP es k = false) : addL es (k + 1) = addL es k := by
  unfold addL
  rw [List.range_succ, List.filter_append, List.map_append]
  simp [h]
theorem addL_len (es : List Ent) (k : Nat) : (addL es k).length ≤ k := by
  unfold addL
  rw [List.length_map]
  have := List.length_filter_le (addP es) (List.range k)
  simpa using this
theorem addL_mem {es : List Ent} {k : Nat} {s : ByteArray} : s ∈ addL es k ↔ ∃ i, i < k ∧ goodL es 0 i = true ∧ (ent es i).kind = 4 ∧ (ent es i).body = s := by
  unfold addL addP
  rw [List.mem_map]
  constructor
  · rintro ⟨i, hi, h⟩
    obtain ⟨h1, h2⟩ := List.mem_filter.1 hi
    rw [Bool.and_eq_true, decide_eq_true_eq] at h2
    exact ⟨i, by simpa using h1, h2.2, h2.1, h⟩
  · rintro ⟨i, h1, h2, h3, h4⟩
    exact ⟨i, List.mem_filter.2 ⟨by simpa using h1, by rw [h2, decide_eq_true h3]; rfl⟩, h4⟩
set_option maxRecDepth 100000 in
set_option maxHeartbeats 4000000 in
theorem memberOut_walk (A : Option Addr) (n c : Nat) (l : List Say) (w : World) (h : RdS w 5 (SayRW w) A n l) (hc : n ≤ c) :
    Calls Try.prog 10 #[.slice A n c] w fun e w' => e = .returned (.bool true) ∧ Unch none_ w w' := by
  have hs := says_of h
  have hmax := h.max
  have hfew := few_ok (w := w) (A := A) (c := c) hmax
  by_cases hn : n ≤ 24
  · rw [decide_eq_true hn] at hfew
    have HF := Lib.hid hfew
    have HL := Lib.hid (laidL (c := c) hs hn)
    clear hs h hfew hmax
    go_enter Try.func10, Try.ntmps10
    go_wp2_with fail
    refine HF.out.mono ?_
    rintro e w0 ⟨rfl, rfl⟩
    go_wp2_with fail
    refine HL.out.mono ?_
    rintro e w1 ⟨A1, n1, c1, es, rfl, hld, hn1, hu1⟩
    have HH := Lib.hid hld.good
    have HLD := Lib.hid hld
    have HU1 := Lib.hid hu1
    clear hld hu1 HF HL
    go_wp2_with fail
    refine HH.out.mono ?_
    rintro e w2 ⟨g, rfl, hb, hg, hu2⟩
    have HO := Lib.hid (HLD.out.fresh hu2).members
    have HB := Lib.hid hb
    have HU2 := Lib.hid (HU1.out.trans hu2)
    have HL2 := Lib.hid (HLD.out.fresh hu2)
    clear hb hg hu2 HH
    go_wp2_with fail
    refine HO.out.mono ?_
    rintro e w3 ⟨v, L, rfl, hml, hsm⟩
    obtain ⟨AM, cM, hv, hcM⟩ := hsm.row.slice
    have hrow := hsm.row
    rw [hv] at hrow ⊢
    obtain ⟨nm, hnm⟩ : ∃ nm, L.length = nm := ⟨_, rfl⟩
    rw [hnm] at hrow hcM ⊢
    have hu3 := hsm.hu
    have HMR := Lib.hid (srow_rds hrow)
    have hmx := hrow.max
    unfold maxLen at hmx
    have HML := Lib.hid hml
    have HG := Lib.hid (HB.out.unch hu3 (fun h => h))
    have HL3 := Lib.hid (HL2.out.fresh hu3)
    have HU3 := Lib.hid (HU2.out.trans hu3)
    have HNM := Lib.hid hnm
    clear hml hsm hv hrow hnm hu3 HO HB HL2 HLD HU1 HU2
    go_wp2_with fail
    go_loopg [6, 7] n1 (fun gk v6 i7 wr => ∃ k : Nat, gk = n1 - k ∧ k ≤ n1 ∧ i7 = .int .i64 (k : Int) ∧ SMid w3 wr v6 (addL es k).length (addL es k))
    case atStart => exact ⟨0, rfl, Nat.zero_le _, rfl, Unch.refl _ _, (fun b hb => by cases hb), Row.nil _ _ _⟩
    case round =>
      obtain ⟨k, rfl, hk, rfl, hs⟩ := hrel
      obtain ⟨w4, rfl⟩ : ∃ w4, w4 = wr := ⟨_, rfl⟩
      by_cases hkn : k < n1
      · have hkl : k < es.length := by rw [HL3.out.len]; exact hkn
        have z1 : (k : Int) < (n1 : Int) := by omega
        have z2 : (0 : Int) ≤ (k : Int) := by omega
        have h4 := HL3.out.ents.fresh hs.hu
        obtain ⟨bA, oA, rfl, _, x0, x1, x2, x3, x4⟩ := h4.at (ent_get hkl)
        have fg := (HG.out.unch hs.hu (fun h => h)).at (j := k) hkn
        have hal := addL_len es k
        have HS := Lib.hid hs
        clear h4 hs x0 x2 x3
        by_cases c1 : (ent es k).kind = 4
        · rw [c1] at x1
          cases c2 : goodL es 0 k with
          | true =>
            rw [c2] at fg
            have HA := Lib.hid (addL_t (es := es) (k := k) (by unfold addP; rw [c2, decide_eq_true c1]; rfl))
            clear c1 c2
            go_wp2_with (at_builtin; refine wpList_append1 w4 rfl (.tmp 43) (.tmp 49) 36 9 _ 1 16 rfl Try.underlying36 info_str rfl (by omega) u6 _ (sv (addL es k)) (by rfl) HS.out.row [.string (ent es k).body] rfl (by intro u hu; simp at hu; subst hu; rfl) (by rfl) (by simp only [maxLen]; omega) (by omega) ?_; intro v5 w5 hr5 hu5 hat5; have hs5 := HS.out.app1 hr5 hu5 hat5; have HS5 := Lib.hid hs5; clear hr5 hu5 hat5 hs5)
            go_roundg (n1 - (k + 1))
            case measure => omega
            case rel => exact ⟨k + 1, rfl, by omega, by go_num, by rw [HA.out, List.length_append, List.length_singleton]; exact HS5.out⟩
          | false =>
            rw [c2] at fg
            have HA := Lib.hid (addL_f (es := es) (k := k) (by unfold addP; rw [c2, Bool.and_false]))
            clear c1 c2
            go_wp2
            go_roundg (n1 - (k + 1))
            case measure => omega
            case rel => exact ⟨k + 1, rfl, by omega, by go_num, by rw [HA.out]; exact HS.out⟩
        · have d1 : ((ent es k).kind == 4) = false := by simpa using c1
          have HA := Lib.hid (addL_f (es := es) (k := k) (by unfold addP; rw [decide_eq_false c1, Bool.false_and]))
          clear c1
          go_wp2
          go_roundg (n1 - (k + 1))
          case measure => omega
          case rel => exact ⟨k + 1, rfl, by omega, by go_num, by rw [HA.out]; exact HS.out⟩
      · obtain rfl : k = n1 := by omega
        have HS := Lib.hid hs
        have hal := addL_len es k
        clear hs
        go_wp2_with fail
        refine (key_ok 0).mono ?_
        rintro e w5 ⟨rfl, hu5⟩
        have HS5 := Lib.hid (HS.out.fresh hu5)
        clear hu5 HS
        have hadd : ∀ s, (∃ i, i < k ∧ goodL es 0 i = true ∧ (ent es i).kind = 4 ∧ (ent es i).body = s) ∨ s = keyB 0 → hasB (addL es k ++ [keyB 0]) s = true := fun s hs => by
          rw [hasB_iff, List.mem_append]
          rcases hs with h | h
          · exact .inl (addL_mem.2 h)
          · exact .inr (by rw [h]; exact List.mem_singleton.2 rfl)
        have hlen := HL3.out.len
        have F2 : Hid (∀ i, i < k → goodL es 0 i = true → hasB (addL es k ++ [keyB 0]) (ent es i).author = true) := Lib.hid fun i hi hgd => by
          rcases good_added (by rw [hlen]; exact hi) hgd with e | ⟨x, h1, h2, h3, h4⟩
          · exact hadd _ (.inr (by rw [e]; exact HL3.out.rootA))
          · exact hadd _ (.inl ⟨x, by omega, h2, h3, h4⟩)
        have F3 : Hid (∀ s, s ∈ L → hasB (addL es k ++ [keyB 0]) s = true) := Lib.hid fun s hs => by
          rcases member_added ((HML.out.2 s).1 hs) with e | ⟨x, h1, h2, h3, h4⟩
          · exact hadd _ (.inr (by rw [e]; exact HL3.out.rootA))
          · have h1 : x < es.length := h1
            exact hadd _ (.inl ⟨x, by omega, h2, h3, h4⟩)
        generalize keyB 0 = k0 at *
        clear hadd hlen
        obtain ⟨ad, had⟩ : ∃ ad, addL es k ++ [k0] = ad := ⟨_, rfl⟩
        rw [had] at F2 F3
        have HAD := Lib.hid had
        clear had
        go_wp2_with (at_builtin; refine wpList_append1 w5 rfl (.tmp 51) (.tmp 53) 36 9 _ 1 16 rfl Try.underlying36 info_str rfl (by omega) u6 _ (sv (addL es k)) (by rfl) HS5.out.row [.string k0] rfl (by intro u hu; simp at hu; subst hu; rfl) (by rfl) (by simp only [maxLen]; omega) (by omega) ?_; intro v5 w6 hr5 hu5 hat5; have hs5 := HS5.out.app1 hr5 hu5 hat5; obtain ⟨Aa, ca, hva, _⟩ := hr5.slice; subst hva; have HS6 := Lib.hid hs5; clear hr5 hu5 hat5 hs5)
        obtain ⟨na, hna⟩ : ∃ na, (addL es k).length + 1 = na := ⟨_, rfl⟩
        rw [hna] at HS6 ⊢
        have hs6 := HS6.out
        rw [HAD.out] at hs6
        have HAR := Lib.hid (srow_rds hs6.row)
        have HU6 := Lib.hid hs6.hu
        clear hs6 HS6 HS5 hna
        go_loopg [8] k (fun gk i8 wr => ∃ j : Nat, gk = k - j ∧ j ≤ k ∧ i8 = .int .i64 (j : Int) ∧ w6 = wr)
        case atStart => exact ⟨0, rfl, Nat.zero_le _, rfl, rfl⟩
        case round =>
          obtain ⟨j, rfl, hj, rfl, rfl⟩ := hrel
          by_cases hjk : j < k
          · have hjl : j < es.length := by rw [HL3.out.len]; exact hjk
            have z1 : (j : Int) < (k : Int) := by omega
            have z2 : (0 : Int) ≤ (j : Int) := by omega
            have h6 := HL3.out.ents.fresh HU6.out
            obtain ⟨bA, oA, rfl, _, x0, x1, x2, x3, x4⟩ := h6.at (ent_get hjl)
            have fg := (HG.out.unch HU6.out (fun h => h)).at (j := j) hjk
            have hh := has_ok (c := ca) HAR.out (ent es j).author
            have hf2 := F2.out j hjk
            clear h6 x0 x1 x3 x4
            cases c2 : goodL es 0 j with
            | false =>
              rw [c2] at fg
              clear c2 hh hf2
              go_wp2
              go_roundg (k - (j + 1))
              case measure => omega
              case rel => exact ⟨j + 1, rfl, by omega, by go_num, rfl⟩
            | true =>
              rw [c2] at fg
              rw [hf2 c2] at hh
              have HHS := Lib.hid hh
              clear c2 hh hf2
              go_wp2_with fail
              refine HHS.out.mono ?_
              rintro e w7 ⟨rfl, rfl⟩
              go_wp2
              go_roundg (k - (j + 1))
              case measure => omega
              case rel => exact ⟨j + 1, rfl, by omega, by go_num, rfl⟩
          · obtain rfl : j = k := by omega
            go_wp2_with fail
            go_loopg [9] nm (fun gk i9 wr => ∃ t : Nat, gk = nm - t ∧ t ≤ nm ∧ i9 = .int .i64 (t : Int) ∧ w6 = wr)
            case atStart => exact ⟨0, rfl, Nat.zero_le _, rfl, rfl⟩
            case round =>
              obtain ⟨t, rfl, ht, rfl, rfl⟩ := hrel
              by_cases htn : t < nm
              · have z1 : (t : Int) < (nm : Int) := by omega
                have z2 : (0 : Int) ≤ (t : Int) := by omega
                obtain ⟨s, hs⟩ := get_some HNM.out htn
                obtain ⟨bM, oM, rfl, _, xm⟩ := RdS.str (RdS.fresh HMR.out HU6.out) hs
                have hh := has_ok (c := ca) HAR.out s
                rw [F3.out s (List.mem_of_getElem? hs)] at hh
                have HHS := Lib.hid hh
                clear hh hs
                go_wp2_with fail
                refine HHS.out.mono ?_
                rintro e w7 ⟨rfl, rfl⟩
                go_wp2
                go_roundg (nm - (t + 1))
                case measure => omega
                case rel => exact ⟨t + 1, rfl, by omega, by go_num, rfl⟩
              · obtain rfl : t = nm := by omega
                go_wp2_with fail
                refine (awake_ok _).mono ?_
                rintro e w7 ⟨rfl, hu7⟩
                go_wp2
                go_ret
                exact ⟨rfl, (HU3.out.trans HU6.out).trans hu7⟩
  · rw [decide_eq_false hn] at hfew
    have HF := Lib.hid hfew
    clear hs h hfew hmax
    go_enter Try.func10, Try.ntmps10
    go_wp2_with fail
    refine HF.out.mono ?_
    rintro e w0 ⟨rfl, rfl⟩
    go_wp2_with fail
    refine (awake_ok w).mono ?_
    rintro e w6 ⟨rfl, hu6⟩
    go_wp2
    go_ret
    exact ⟨rfl, hu6⟩
end Go.Proofs.Ytgalnnmeamldhaa
