/-
  palaverref12, Order: the walk.
-/
import Derived.Test.YtgalnnmeamldhaaGreatCTO1
/- palaverref12, Order: the walk. -/
set_option linter.unusedVariables false
set_option linter.unusedSimpArgs false
namespace Go.Proofs.YtgalnnmeamldhaaGreat
open Go Go.RowKit Go.Proofs.YtgalnnmeamldhaaGreat.Pal Go.Proofs.YtgalnnmeamldhaaGreat.Plan

theorem ne_nil {s : ByteArray} (h : s ≠ ⟨#[]⟩) : ¬ s.toList = [] := fun e => h (str_eq.1 (by rw [e]; kernel_rfl))
def REntR (e : Ent) (c : List Value) : Prop := c = [.string e.id, e.pv]
structure REnts (w : World) (A : Option Addr) (n : Nat) (l : List Ent) : Prop where
  rd : RdS w 2 REntR A n l
  ok : ∀ e ∈ l, EntOk w e
theorem REnts.fresh {w w1 : World} {A : Option Addr} {n : Nat} {l : List Ent} (h : REnts w A n l) (hu : Unch none_ w w1) : REnts w1 A n l := ⟨RdS.fresh h.rd hu, fun e he => (h.ok e he).fresh hu⟩
theorem REnts.at {w : World} {A : Option Addr} {n : Nat} {l : List Ent} (h : REnts w A n l) {k : Nat} {e : Ent} (he : l[k]? = some e) : ∃ b o, A = some ⟨b, o, none⟩ ∧ b < w.heap.size ∧
    w.cell? ⟨b, o + k * 2, none⟩ = some (.string e.id) ∧ w.cell? ⟨b, o + k * 2 + 1, none⟩ = some e.pv := by
  obtain ⟨b, o, c, hA, hb, _, hc, hcell⟩ := h.rd.at he
  unfold REntR at hc
  subst hc
  exact ⟨b, o, hA, hb, hcell 0 _ rfl, hcell 1 _ rfl⟩
/-- The best so far, of the first i. -/
def BestP (es : List Ent) (ys : List ByteArray) (i : Nat) (best : ByteArray) : Prop :=
  (best = ⟨#[]⟩ ∧ ∀ j, j < i → readyB es ys j = false) ∨ ∃ j, j < es.length ∧ best = (ent es j).id ∧ readyB es ys j = true ∧ ∀ k, k < i → readyB es ys k = true → bl (ent es k).id best = false
theorem BestP.no {es : List Ent} {ys : List ByteArray} {i : Nat} {best : ByteArray} (h : BestP es ys i best) (hr : readyB es ys i = false) : BestP es ys (i + 1) best := by
  rcases h with ⟨h1, h2⟩ | ⟨j, h1, h2, h3, h4⟩
  · refine .inl ⟨h1, fun j hj => ?_⟩
    rcases Nat.lt_or_ge j i with h3 | h3
    · exact h2 j h3
    · obtain rfl : j = i := by omega
      exact hr
  · refine .inr ⟨j, h1, h2, h3, fun k hk hrk => ?_⟩
    rcases Nat.lt_or_ge k i with h5 | h5
    · exact h4 k h5 hrk
    · obtain rfl : k = i := by omega
      rw [hr] at hrk; cases hrk
theorem BestP.keep {es : List Ent} {ys : List ByteArray} {i : Nat} {best : ByteArray} (h : BestP es ys i best) (hne : best ≠ ⟨#[]⟩) (hb : bl (ent es i).id best = false) : BestP es ys (i + 1) best := by
  rcases h with ⟨h1, h2⟩ | ⟨j, h1, h2, h3, h4⟩
  · exact absurd h1 hne
  · refine .inr ⟨j, h1, h2, h3, fun k hk hrk => ?_⟩
    rcases Nat.lt_or_ge k i with h5 | h5
    · exact h4 k h5 hrk
    · obtain rfl : k = i := by omega
      exact hb
theorem BestP.new {es : List Ent} (hC : Closed es) {ys : List ByteArray} {i : Nat} {best : ByteArray} (hi : i < es.length) (h : BestP es ys i best) (hr : readyB es ys i = true) (hb : best = ⟨#[]⟩ ∨ bl (ent es i).id best = true) : BestP es ys (i + 1) (ent es i).id := by
  refine .inr ⟨i, hi, rfl, hr, fun k hk hrk => ?_⟩
  rcases Nat.lt_or_ge k i with h5 | h5
  · rcases h with ⟨h1, h2⟩ | ⟨j, h1, h2, h3, h4⟩
    · have := h2 k h5
      rw [hrk] at this; cases this
    · have h6 := h4 k h5 hrk
      rcases hb with hb | hb
      · exfalso
        have := hC.lo j h1
        rw [← h2, hb] at this
        exact absurd this (by decide)
      · cases h7 : bl (ent es k).id (ent es i).id with
        | false => rfl
        | true => rw [bl_trans h7 hb] at h6; cases h6
  · obtain rfl : k = i := by omega
    exact bl_irrefl _
theorem readyB_take {es : List Ent} {ys : List ByteArray} {i k : Nat} {s : ByteArray} (hs : (ent es i).ps[k]? = some s) : ((ent es i).ps.take (k + 1)).all (hasB ys) = (((ent es i).ps.take k).all (hasB ys) && hasB ys s) := by
  rw [List.take_add_one, hs, List.all_append]
  simp
set_option maxRecDepth 100000 in
set_option maxHeartbeats 4000000 in
theorem order_ok {w : World} {A : Option Addr} {n c : Nat} {es : List Ent} (h : REnts w A n es) (hC : Closed es) :
    Calls Tryz.prog 14 #[.slice A n c] w fun e w' => ∃ v ys, e = .returned v ∧ OrdP es ys ∧ ys.length = es.length ∧ SMid w w' v ys.length ys ∧ LeastP es ys := by
  have hlen : es.length = n := h.rd.len
  have n3 : n ≤ 300 := by rw [← hlen]; exact hC.len
  have HR := Lib.hid h
  have HC := Lib.hid hC
  have HL := Lib.hid hlen
  clear h hC hlen
  go_enter Tryz.func14, Tryz.ntmps14
  go_wp2_with fail
  go_loopg [3, 4, 5, 6, 7] n (fun gk v3 _ _ _ _ wr => ∃ (ys : List ByteArray), gk = n - ys.length ∧ ys.length ≤ n ∧ OrdP es ys ∧ LeastP es ys ∧ SMid w wr v3 ys.length ys)
  case atStart => exact ⟨[], rfl, Nat.zero_le _, OrdP.start es, LeastP.start es, Unch.refl _ _, (fun b hb => by cases hb), Row.nil _ _ _⟩
  case round =>
    obtain ⟨ys, rfl, hyn, hord, hleast, hs⟩ := hrel
    obtain ⟨w3, rfl⟩ : ∃ w3, w3 = wr := ⟨_, rfl⟩
    obtain ⟨A3, c3, hv3, hc3⟩ := hs.row.slice
    subst hv3
    obtain ⟨m, hm⟩ : ∃ m, ys.length = m := ⟨_, rfl⟩
    have hrow := srow_rds hs.row
    have HORD := Lib.hid hord
    have HLE := Lib.hid hleast
    rw [hm] at hrow hyn hc3 hs ⊢
    have HS := Lib.hid hs
    have hmx := hrow.max
    unfold maxLen at hmx
    have HROW := Lib.hid hrow
    have HM := Lib.hid hm
    clear hord hleast hs hm hrow
    by_cases hmn : m < n
    · have zm : (m : Int) < (n : Int) := by omega
      go_wp2_with fail
      go_loopg [4, 5, 6, 7] n (fun gk v4 i5 _ _ wr => ∃ (i : Nat) (best : ByteArray), gk = n - i ∧ i ≤ n ∧ i5 = .int .i64 (i : Int) ∧ v4 = .string best ∧ w3 = wr ∧ BestP es ys i best)
      case atStart => exact ⟨0, ⟨#[]⟩, rfl, Nat.zero_le _, rfl, rfl, rfl, .inl ⟨rfl, fun j hj => by omega⟩⟩
      case round =>
        obtain ⟨i, best, rfl, hi, rfl, rfl, rfl, hb⟩ := hrel
        have HB := Lib.hid hb
        clear hb
        by_cases hin : i < n
        · have hil : i < es.length := by rw [HL.out]; exact hin
          have z0 : (0 : Int) ≤ (i : Int) := by omega
          have z1 : (i : Int) < (n : Int) := by omega
          have h3 := HR.out.fresh HS.out.hu
          obtain ⟨b, o, rfl, _, x0, x1⟩ := h3.at (ent_get hil)
          obtain ⟨A2, c2, hpv, hc2, hrp⟩ := (h3.ok _ (List.mem_of_getElem? (ent_get hil))).ps
          obtain ⟨np, hnp⟩ : ∃ np, (ent es i).ps.length = np := ⟨_, rfl⟩
          rw [hpv, hnp] at x1
          rw [hnp] at hc2 hrp
          have hpm := hrp.max
          unfold maxLen at hpm
          have HRP := Lib.hid hrp
          have HNP := Lib.hid hnp
          have hh := has_ok (c := c3) HROW.out (ent es i).id
          have HH := Lib.hid hh
          clear h3 hpv hnp hrp hh
          go_wp2_with fail
          refine HH.out.mono ?_
          rintro e w7 ⟨rfl, rfl⟩
          go_wp2_with fail
          go_loopg [6, 7] np (fun gk v6 i7 wr => ∃ (k : Nat), gk = np - k ∧ k ≤ np ∧ i7 = .int .i64 (k : Int) ∧ v6 = .bool (!hasB ys (ent es i).id && ((ent es i).ps.take k).all (hasB ys)) ∧ w3 = wr)
          case atStart => exact ⟨0, rfl, Nat.zero_le _, rfl, by simp, rfl⟩
          case round =>
            obtain ⟨k, rfl, hk, rfl, hv6, rfl⟩ := hrel
            obtain ⟨rB, hrB⟩ : ∃ rB, (!hasB ys (ent es i).id && ((ent es i).ps.take k).all (hasB ys)) = rB := ⟨_, rfl⟩
            rw [hrB] at hv6
            subst hv6
            by_cases hkn : k < np
            · obtain ⟨s, hs⟩ := get_some HNP.out hkn
              have z2 : (0 : Int) ≤ (k : Int) := by omega
              have z3 : (k : Int) < (np : Int) := by omega
              obtain ⟨bp, op, rfl, _, xp⟩ := RdS.str HRP.out hs
              have htk := readyB_take (ys := ys) hs
              cases rB with
              | false =>
                have HN := Lib.hid (show (!hasB ys (ent es i).id && ((ent es i).ps.take (k + 1)).all (hasB ys)) = false by rw [htk, ← Bool.and_assoc, hrB]; rfl)
                clear hrB htk hs
                go_wp2
                go_roundg (np - (k + 1))
                case measure => omega
                case rel => exact ⟨k + 1, rfl, by omega, by go_num, by rw [HN.out], rfl⟩
              | true =>
                have HN := Lib.hid (show (!hasB ys (ent es i).id && ((ent es i).ps.take (k + 1)).all (hasB ys)) = hasB ys s by rw [htk, ← Bool.and_assoc, hrB]; rfl)
                have HH2 := Lib.hid (has_ok (c := c3) HROW.out s)
                clear hrB htk hs
                go_wp2_with fail
                refine HH2.out.mono ?_
                rintro e w8 ⟨rfl, rfl⟩
                go_wp2
                go_roundg (np - (k + 1))
                case measure => omega
                case rel => exact ⟨k + 1, rfl, by omega, by go_num, by rw [HN.out], rfl⟩
            · obtain rfl : k = np := by omega
              have hrd : readyB es ys i = rB := by
                unfold readyB
                rw [← hrB, ← HNP.out, List.take_length]
              have HRD := Lib.hid hrd
              clear hrB hrd
              cases rB with
              | false =>
                have HBN := Lib.hid (HB.out.no HRD.out)
                go_wp2
                go_roundg (n - (i + 1))
                case measure => omega
                case rel => exact ⟨i + 1, best, rfl, by omega, by go_num, rfl, rfl, HBN.out⟩
              | true =>
                by_cases hbe : best = ⟨#[]⟩
                · have HBY := Lib.hid (HB.out.new HC.out hil HRD.out (.inl hbe))
                  subst hbe
                  go_wp2
                  go_roundg (n - (i + 1))
                  case measure => omega
                  case rel => exact ⟨i + 1, _, rfl, by omega, by go_num, rfl, rfl, HBY.out⟩
                · have d1 := str_ne hbe
                  have d2 := ne_nil hbe
                  have d3 : (best.toList == ([] : List UInt8)) = false := by simpa using d2
                  have d4 : best.toList.isEmpty = false := by simpa using d2
                  have d5 : decide (best.toList = []) = false := decide_eq_false d2
                  have hkeep := fun hb => HB.out.keep (i := i) hbe hb
                  have hnew := fun hb => HB.out.new HC.out hil HRD.out (.inr hb)
                  have HKP := Lib.hid hkeep
                  have HNW := Lib.hid hnew
                  clear hkeep hnew
                  clear hbe
                  cases hless : Op.bytesLess (ent es i).id.toList best.toList with
                  | true =>
                    have HBY := Lib.hid (HNW.out hless)
                    go_wp2
                    go_roundg (n - (i + 1))
                    case measure => omega
                    case rel => exact ⟨i + 1, _, rfl, by omega, by go_num, rfl, rfl, HBY.out⟩
                  | false =>
                    have HBK := Lib.hid (HKP.out hless)
                    go_wp2
                    go_roundg (n - (i + 1))
                    case measure => omega
                    case rel => exact ⟨i + 1, _, rfl, by omega, by go_num, rfl, rfl, HBK.out⟩
        · obtain rfl : n = i := by omega
          obtain ⟨j0, hj0, hr0⟩ := HORD.out.go HC.out (by rw [HM.out, HL.out]; exact hmn)
          have hbst : ∃ j, j < es.length ∧ best = (ent es j).id ∧ readyB es ys j = true ∧ ∀ k, k < n → readyB es ys k = true → bl (ent es k).id best = false := by
            rcases HB.out with ⟨h1, h2⟩ | h1
            · have := h2 j0 (by rw [← HL.out]; exact hj0)
              rw [hr0] at this
              cases this
            · exact h1
          obtain ⟨j, hj, rfl, hrj, hlst⟩ := hbst
          have hne : (ent es j).id ≠ ⟨#[]⟩ := fun e => by
            have := HC.out.lo j hj
            rw [e] at this
            exact absurd this (by decide)
          have d1 := str_ne hne
          have d2 := ne_nil hne
          have d3 : ((ent es j).id.toList == ([] : List UInt8)) = false := by simpa using d2
          have d4 : (ent es j).id.toList.isEmpty = false := by simpa using d2
          have d5 : decide ((ent es j).id.toList = []) = false := decide_eq_false d2
          have HORD2 := Lib.hid (HORD.out.put HC.out hj hrj)
          have HLE2 := Lib.hid (HLE.out.put (fun k hk hr => hlst k (by rw [← HL.out]; exact hk) hr))
          obtain ⟨bs, hbs⟩ : ∃ bs, (ent es j).id = bs := ⟨_, rfl⟩
          rw [hbs] at HORD2 HLE2 d1 d2 d3 d4 d5 ⊢
          clear hj0 hr0 hj hrj hlst hne hbs HB
          go_wp2_with (at_builtin; refine wpList_append1 w3 rfl (.tmp 72) (.tmp 74) 27 9 _ 1 16 rfl Tryz.underlying27 info_str rfl (by omega) (.slice A3 m c3) m (sv ys) (by rfl) HS.out.row [.string bs] rfl (by intro u hu; simp at hu; subst hu; rfl) (by rfl) (by simp only [maxLen]; omega) (by omega) ?_; intro v5 w5 hr5 hu5 hat5; have hs5 := HS.out.app1 hr5 hu5 hat5; have HS5 := Lib.hid hs5; clear hr5 hu5 hat5 hs5)
          go_roundg (n - (m + 1))
          case measure => have := HM.out; omega
          case rel => exact ⟨ys ++ [bs], by rw [List.length_append, List.length_singleton, HM.out], by rw [List.length_append, List.length_singleton, HM.out]; omega, HORD2.out, HLE2.out, by rw [List.length_append, List.length_singleton, HM.out]; exact HS5.out⟩
    · obtain rfl : n = m := by omega
      have HS2 := Lib.hid HS.out
      go_wp2
      go_ret
      exact ⟨_, ys, rfl, HORD.out, by rw [HM.out, HL.out], by rw [HM.out]; exact HS2.out, HLE.out⟩
end Go.Proofs.YtgalnnmeamldhaaGreat
