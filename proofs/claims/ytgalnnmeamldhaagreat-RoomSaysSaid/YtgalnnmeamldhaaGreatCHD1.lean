/-
  palaverref12, Heads: those that are no other one's parents.
-/
import Derived.Test.YtgalnnmeamldhaaGreatCTO2
import Derived.Test.YtgalnnmeamldhaaGreatCKM2
/- palaverref12, Heads: those that are no other one's parents. -/
set_option linter.unusedVariables false
set_option linter.unusedSimpArgs false
namespace Go.Proofs.YtgalnnmeamldhaaGreat
open Go Go.RowKit Go.Proofs.YtgalnnmeamldhaaGreat.Pal Go.Proofs.YtgalnnmeamldhaaGreat.Plan

def noKid (es : List Ent) (i k : Nat) : Bool := (List.range k).all fun q => !hasB (ent es q).ps (ent es i).id
def headB (es : List Ent) (i : Nat) : Bool := noKid es i es.length
def headL (es : List Ent) (k : Nat) : List ByteArray := ((List.range k).filter (headB es)).map fun i => (ent es i).id
theorem noKid_succ (es : List Ent) (i k : Nat) : noKid es i (k + 1) = (noKid es i k && !hasB (ent es k).ps (ent es i).id) := by
  unfold noKid
  rw [List.range_succ, List.all_append]
  simp
theorem headL_t {es : List Ent} {k : Nat} (h : headB es k = true) : headL es (k + 1) = headL es k ++ [(ent es k).id] := by
  unfold headL
  rw [List.range_succ, List.filter_append]
  simp [h]
theorem headL_f {es : List Ent} {k : Nat} (h : headB es k = false) : headL es (k + 1) = headL es k := by
  unfold headL
  rw [List.range_succ, List.filter_append]
  simp [h]
theorem headL_len (es : List Ent) (k : Nat) : (headL es k).length ≤ k := by
  unfold headL
  rw [List.length_map]
  have := List.length_filter_le (headB es) (List.range k)
  rwa [List.length_range] at this
theorem headL_mem {es : List Ent} {k : Nat} {s : ByteArray} : s ∈ headL es k ↔ ∃ i, i < k ∧ headB es i = true ∧ (ent es i).id = s := by
  unfold headL
  rw [List.mem_map]
  constructor
  · rintro ⟨i, hi, rfl⟩
    obtain ⟨a, b⟩ := List.mem_filter.1 hi
    exact ⟨i, by simpa using a, b, rfl⟩
  · rintro ⟨i, hi, hb, rfl⟩
    exact ⟨i, List.mem_filter.2 ⟨by simpa using hi, hb⟩, rfl⟩
theorem headB_iff {es : List Ent} {i : Nat} : headB es i = true ↔ ∀ k, k < es.length → (ent es i).id ∉ (ent es k).ps := by
  unfold headB noKid
  rw [List.all_eq_true]
  constructor
  · intro h k hk hm
    have := h k (by simpa using hk)
    rw [hasB_iff.2 hm] at this
    cases this
  · intro h k hk
    cases hh : hasB (ent es k).ps (ent es i).id with
    | false => rfl
    | true => exact absurd (hasB_iff.1 hh) (h k (by simpa using hk))
set_option maxRecDepth 100000 in
set_option maxHeartbeats 4000000 in
theorem heads_ok {w : World} {A : Option Addr} {n c : Nat} {es : List Ent} (h : REnts w A n es) (hn : n ≤ 300) :
    Calls Tryz.prog 18 #[.slice A n c] w fun e w' => ∃ v ys, e = .returned v ∧ SMid w w' v ys.length ys ∧ ys.length ≤ n ∧ ∀ s, s ∈ ys ↔ ∃ i, i < es.length ∧ headB es i = true ∧ (ent es i).id = s := by
  have hlen : es.length = n := h.rd.len
  have HR := Lib.hid h
  have HL := Lib.hid hlen
  clear h hlen
  go_enter Tryz.func18, Tryz.ntmps18
  go_wp2_with fail
  go_loopg [3, 4, 5, 6] n (fun gk v3 i4 _ _ wr => ∃ (i : Nat), gk = n - i ∧ i ≤ n ∧ i4 = .int .i64 (i : Int) ∧ SMid w wr v3 (headL es i).length (headL es i))
  case atStart => exact ⟨0, rfl, Nat.zero_le _, rfl, Unch.refl _ _, (fun b hb => by cases hb), Row.nil _ _ _⟩
  case round =>
    obtain ⟨i, rfl, hi, rfl, hs⟩ := hrel
    obtain ⟨w3, rfl⟩ : ∃ w3, w3 = wr := ⟨_, rfl⟩
    obtain ⟨A3, c3, hv3, hc3⟩ := hs.row.slice
    subst hv3
    obtain ⟨m, hm⟩ : ∃ m, (headL es i).length = m := ⟨_, rfl⟩
    have hmi : m ≤ i := by rw [← hm]; exact headL_len es i
    rw [hm] at hc3 hs ⊢
    have HS := Lib.hid hs
    have HM := Lib.hid hm
    clear hs hm
    by_cases hin : i < n
    · have hil : i < es.length := by rw [HL.out]; exact hin
      have z0 : (0 : Int) ≤ (i : Int) := by omega
      have z1 : (i : Int) < (n : Int) := by omega
      have h3 := HR.out.fresh HS.out.hu
      obtain ⟨b, o, rfl, _, x0, x1⟩ := h3.at (ent_get hil)
      have HX0 := Lib.hid x0
      have HR3 := Lib.hid h3
      clear h3 x0 x1
      go_wp2_with fail
      go_loopg [5, 6] n (fun gk v5 i6 wr => ∃ (k : Nat), gk = n - k ∧ k ≤ n ∧ i6 = .int .i64 (k : Int) ∧ v5 = .bool (noKid es i k) ∧ Unch none_ w3 wr)
      case atStart => exact ⟨0, rfl, Nat.zero_le _, rfl, rfl, Unch.refl _ _⟩
      case round =>
        obtain ⟨k, rfl, hk, rfl, hv5, huk⟩ := hrel
        obtain ⟨w4, rfl⟩ : ∃ w4, w4 = wr := ⟨_, rfl⟩
        obtain ⟨rB, hrB⟩ : ∃ rB, noKid es i k = rB := ⟨_, rfl⟩
        rw [hrB] at hv5
        subst hv5
        by_cases hkn : k < n
        · have hkl : k < es.length := by rw [HL.out]; exact hkn
          have z2 : (0 : Int) ≤ (k : Int) := by omega
          have z3 : (k : Int) < (n : Int) := by omega
          obtain ⟨b2, o2, hA, _, y0, y1⟩ := (HR3.out.fresh huk).at (ent_get hkl)
          injection hA with hA
          injection hA with hA1 hA2
          subst hA1
          subst hA2
          have htk := noKid_succ es i k
          rw [hrB] at htk
          obtain ⟨A2, c2, hpv, hc2, hrp⟩ := ((HR3.out.fresh huk).ok _ (List.mem_of_getElem? (ent_get hkl))).ps
          obtain ⟨np, hnp⟩ : ∃ np, (ent es k).ps.length = np := ⟨_, rfl⟩
          rw [hpv, hnp] at y1
          rw [hnp] at hrp
          have HH := Lib.hid (fun W (hu : Unch none_ w4 W) => (has_ok (c := c2) (RdS.fresh hrp hu) (ent es i).id))
          have HQ : QC Tryz.prog 31 #[.slice A2 np c2, .string (ent es i).id] (.bool (hasB (ent es k).ps (ent es i).id)) w4 := fun W hu => (HH.out W hu).mono fun e w'' ⟨he, hw⟩ => ⟨he, by subst hw; exact Unch.refl _ _⟩
          have HQ2 := Lib.hid HQ
          have x0 := cellU (huk.cell HX0.out (fun h => h))
          have y1 := cellU y1
          have HU := Lib.hid huk
          clear y0 hpv hnp hrp hrB HQ HH
          cases rB with
          | false =>
            have HN := Lib.hid (show noKid es i (k + 1) = false by rw [htk]; rfl)
            clear htk
            go_wp2
            refine wp_region_quiet_u (by kernel_rfl) (by kernel_rfl) (fun _ => ?_)
            repeat (go_big_quiet_step (fail))
            refine wpQuiet_nil ?_
            intro wq hw'
            obtain ⟨⟨wqq, huq⟩, hw''⟩ := hw'
            subst hw''
            go_wp2
            go_roundg (n - (k + 1))
            case measure => omega
            case rel => exact ⟨k + 1, rfl, by omega, by go_num, by rw [HN.out], HU.out.trans huq⟩
          | true =>
            obtain ⟨hB, hhB⟩ : ∃ hB, hasB (ent es k).ps (ent es i).id = hB := ⟨_, rfl⟩
            rw [hhB] at HQ2 htk
            have HN := Lib.hid (show noKid es i (k + 1) = !hB by rw [htk]; rfl)
            clear htk hhB
            go_wp2
            refine wp_region_quiet_u (by kernel_rfl) (by kernel_rfl) (fun _ => ?_)
            repeat (go_big_quiet_step ((go_at_call 31; with_reducible exact HQ2.out.u _)))
            refine wpQuiet_nil ?_
            intro wq hw'
            obtain ⟨⟨wqq, huq⟩, hw''⟩ := hw'
            subst hw''
            go_wp2
            go_roundg (n - (k + 1))
            case measure => omega
            case rel => exact ⟨k + 1, rfl, by omega, by go_num, by rw [HN.out], HU.out.trans huq⟩
        · obtain rfl : k = n := by omega
          have hhb : headB es i = rB := by unfold headB; rw [HL.out]; exact hrB
          have hs4 := HS.out.fresh huk
          have hx0 := huk.cell HX0.out (fun h => h)
          clear hrB
          cases rB with
          | false =>
            have HN := Lib.hid (headL_f hhb)
            have HS4 := Lib.hid hs4
            clear hhb hs4 hx0
            go_wp2
            go_roundg (k - (i + 1))
            case measure => omega
            case rel => exact ⟨i + 1, rfl, by omega, by go_num, by rw [HN.out, HM.out]; exact HS4.out⟩
          | true =>
            have HN := Lib.hid (headL_t hhb)
            have HS4 := Lib.hid hs4
            clear hhb hs4
            go_wp2_with (at_builtin; refine wpList_append1 w4 rfl (.tmp 35) (.tmp 41) 27 9 _ 1 16 rfl Tryz.underlying27 info_str rfl (by omega) (.slice A3 m c3) m (sv (headL es i)) (by rfl) HS4.out.row [.string (ent es i).id] rfl (by intro u hu; simp at hu; subst hu; rfl) (by rfl) (by simp only [maxLen]; omega) (by omega) ?_; intro v5 w5 hr5 hu5 hat5; have hs5 := HS4.out.app1 hr5 hu5 hat5; have HS5 := Lib.hid hs5; clear hr5 hu5 hat5 hs5)
            go_roundg (k - (i + 1))
            case measure => omega
            case rel => exact ⟨i + 1, rfl, by omega, by go_num, by rw [HN.out, List.length_append, List.length_singleton, HM.out]; exact HS5.out⟩
    · obtain rfl : i = n := by omega
      have HSO := Lib.hid (sorted_ok (c := c3) (srow_rds HS.out.row) (by omega))
      go_wp2_with fail
      refine HSO.out.mono ?_
      rintro e w5 ⟨v5, rfl, hs5⟩
      have HS5 := Lib.hid hs5
      clear hs5 HSO
      go_wp2
      go_ret
      refine ⟨v5, sortS (headL es i), rfl, ⟨HS.out.hu.trans HS5.out.hu, fun b hb => by have := HS5.out.own b hb; have := HS.out.hu.size; omega, HS5.out.row⟩, Nat.le_trans (sortS_len _) (headL_len es i), fun s => ?_⟩
      rw [sortS_mem, headL_mem, HL.out]
end Go.Proofs.YtgalnnmeamldhaaGreat
