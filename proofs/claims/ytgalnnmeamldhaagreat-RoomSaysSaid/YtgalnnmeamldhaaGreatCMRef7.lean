/-
  palaverref15: holding, member, Member, Holding.
  palaverref15: member, Member, Holding.
  palaverref15: Member, Holding.
-/
import Derived.Test.YtgalnnmeamldhaaGreatCMRef2
import Derived.Deep.CutRange
import Derived.Test.YtgalnnmeamldhaaGreatCBase
/- palaverref15: holding, member, Member, Holding. -/
set_option linter.unusedVariables false
set_option linter.unusedSimpArgs false
namespace Go.Proofs.YtgalnnmeamldhaaGreat
open Go Go.RowKit Go.Proofs.YtgalnnmeamldhaaGreat.Pal

/-- A row of bools was made and is handed back. -/
def MadeB (w : World) (n : Nat) (f : Nat → Bool) (e : Ending) (w' : World) : Prop := ∃ g, e = .returned (.slice (some ⟨g, 0, none⟩) n n) ∧ Brow w' g n f ∧ w.heap.size ≤ g ∧ Unch none_ w w'
theorem holds_Q {w : World} {p : Pl} {s : Ms} (h : SetOk w p s) {i : Nat} (hi : i < p.n) : QC Tryz.prog 78 #[setV p s, .int .i64 (i : Int)] (.bool (s.holds i)) w :=
  fun w' hu => holds_ok (h.fresh hu) hi
set_option maxRecDepth 100000 in
set_option maxHeartbeats 2000000 in
theorem holding_ok {w : World} {p : Pl} {s : Ms} (h : SetOk w p s) :
    Calls Tryz.prog 51 #[setV p s] w (MadeB w p.n s.holding) := by
  have hu1 : Unch none_ w (w.alloc (Obj.cells (setC p s) 46)) := (Unch.refl none_ w).alloc _
  have bS := blk_new w (Obj.cells (setC p s) 46)
  have h1 := h.fresh hu1
  have hQ : ∀ k, k < p.n → QC Tryz.prog 78 #[setV p s, .int .i64 (k : Int)] (.bool (s.holds k)) (w.alloc (Obj.cells (setC p s) 46)) := fun k hk => holds_Q h1 hk
  have HQ := Lib.hid hQ
  clear hQ
  obtain ⟨n, AL, cL, AP, cP, AI, cI⟩ := p
  have n3 := h.n3
  simp only at n3
  have hmk := run_make_bool n (by omega)
  unfold setV setC at *
  go_enter Tryz.func51, Tryz.ntmps51
  go_wp2_with fail
  have hmade := Brow.made (w.alloc (Obj.cells #[.slice AL n cL, .slice AP n cP, .int .i64 (s.r : Int), .slice AI n cI] 46)) n
  rw [show (w.alloc (Obj.cells #[.slice AL n cL, .slice AP n cP, .int .i64 (s.r : Int), .slice AI n cI] 46)).heap.size = w.heap.size + 1 by simp] at hmade
  have hu2 : Unch none_ (w.alloc (Obj.cells #[.slice AL n cL, .slice AP n cP, .int .i64 (s.r : Int), .slice AI n cI] 46)) ((w.alloc (Obj.cells #[.slice AL n cL, .slice AP n cP, .int .i64 (s.r : Int), .slice AI n cI] 46)).alloc (.cells (madeCells #[.bool false] n) 4)) := (Unch.refl none_ _).alloc _
  generalize hg : w.heap.size = g at *
  generalize (w.alloc (Obj.cells #[.slice AL n cL, .slice AP n cP, .int .i64 (s.r : Int), .slice AI n cI] 46)).alloc (.cells (madeCells #[.bool false] n) 4) = w2 at *
  have hgw : w.heap.size ≤ g := by omega
  clear hg
  generalize w.alloc (Obj.cells #[.slice AL n cL, .slice AP n cP, .int .i64 (s.r : Int), .slice AI n cI] 46) = w1 at *
  have bg : g < w1.heap.size := lt_of_heap bS
  have hs1 : w1.heap.size ≤ g + 1 ∨ True := .inr trivial
  clear hs1
  go_loopg [4] n (fun gk i wr => ∃ k : Nat, k ≤ n ∧ gk = n - k ∧ i = .int .i64 (k : Int) ∧ Unch none_ w wr ∧ Unch (fun j => j = g + 1) w1 wr ∧ Brow wr (g + 1) n (fun j => decide (j < k) && s.holding j))
  case atStart => exact ⟨0, Nat.zero_le _, rfl, rfl, hu1.trans hu2, hu2.mono (fun _ _ h => h.elim), hmade.congr (fun i _ => by simp)⟩
  case round =>
    clear hmade hu2
    obtain ⟨k, hk, rfl, rfl, hu, huw, hb⟩ := hrel
    obtain ⟨w3, rfl⟩ : ∃ w3, w3 = wr := ⟨_, rfl⟩
    have bS2 := huw.heap bS (by omega)
    have s0 := blk_cell bS2 (j := 0) rfl
    have s1 := blk_cell bS2 (j := 1) rfl
    have s2 := blk_cell bS2 (j := 2) rfl
    have s3 := blk_cell bS2 (j := 3) rfl
    have h2 := h.fresh hu
    by_cases hkn : k < n
    · obtain ⟨bi, oi, hAI, yi⟩ := h2.inAt (k := k) hkn
      simp only at hAI
      subst hAI
      have z0 : (0 : Int) ≤ (k : Int) := by omega
      have z1 : (k : Int) < (n : Int) := by omega
      have fb := hb.free k
      have bk := hb.at (j := k) hkn
      cases hin : s.inn k with
      | false =>
        rw [hin] at yi
        have hset := (hb.set k false).congr (f' := fun j => decide (j < k + 1) && s.holding j) (fun j _ => by
          by_cases hj : j = k
          · subst hj; simp [Ms.holding, hin]
          · by_cases h1 : j < k
            · have : j < k + 1 := by omega
              simp [hj, h1, this]
            · have : ¬ j < k + 1 := by omega
              simp [hj, h1, this])
        have HSET := Lib.hid hset
        clear hset hin
        have hu4 := hu.setCell (p := ⟨g + 1, k, none⟩) (.bool false) (fun hlt => by have : g + 1 < w.heap.size := hlt; omega)
        have hu5 := huw.setCell (p := ⟨g + 1, k, none⟩) (.bool false) (fun _ => rfl)
        go_wp2
        go_roundg (n - (k + 1))
        case measure => omega
        case rel => exact ⟨k + 1, by omega, rfl, by go_num, hu4, hu5, HSET.out⟩
      | true =>
        rw [hin] at yi
        have HIN := Lib.hid hin
        clear hin
        have hh := holds_Q h2 (i := k) hkn
        have HH := Lib.hid hh.now
        unfold setV setC at HH
        clear hh
        go_wp2_with fail
        refine HH.out.mono ?_
        rintro e w5 ⟨rfl, hu5⟩
        have hb5 := hb.unch hu5 (fun h => h)
        have fb5 := hb5.free k
        have bk5 := hb5.at (j := k) hkn
        have hset := (hb5.set k (s.holds k)).congr (f' := fun j => decide (j < k + 1) && s.holding j) (fun j _ => by
          by_cases hj : j = k
          · subst hj; simp [Ms.holding, HIN.out]
          · by_cases h1 : j < k
            · have : j < k + 1 := by omega
              simp [hj, h1, this]
            · have : ¬ j < k + 1 := by omega
              simp [hj, h1, this])
        have HSET := Lib.hid hset
        clear hset s0 s1 s2 s3 fb bk
        have hu6 := (hu.trans hu5).setCell (p := ⟨g + 1, k, none⟩) (.bool (s.holds k)) (fun hlt => by have : g + 1 < w.heap.size := hlt; omega)
        have hu7 := (huw.step hu5 (fun _ _ h => h.elim)).setCell (p := ⟨g + 1, k, none⟩) (.bool (s.holds k)) (fun _ => rfl)
        go_wp2
        go_roundg (n - (k + 1))
        case measure => omega
        case rel => exact ⟨k + 1, by omega, rfl, by go_num, hu6, hu7, HSET.out⟩
    · obtain rfl : k = n := by omega
      have hfin := hb.congr (f' := s.holding) (fun j hj => by simp [hj])
      have HFIN := Lib.hid hfin
      clear hfin
      go_wp2
      go_ret
      exact ⟨g + 1, rfl, HFIN.out, by omega, hu⟩
end Go.Proofs.YtgalnnmeamldhaaGreat
/- palaverref15: member, Member, Holding. -/
set_option linter.unusedVariables false
set_option linter.unusedSimpArgs false
namespace Go.Proofs.YtgalnnmeamldhaaGreat
open Go Go.RowKit Go.Proofs.YtgalnnmeamldhaaGreat.Pal

theorem any_succ (f : Nat → Bool) (k : Nat) : (List.range (k + 1)).any f = ((List.range k).any f || f k) := by
  rw [List.range_succ, List.any_append]; simp
def foundsB (s : Ms) (key : ByteArray) (i : Nat) : Bool := decide (i = s.r) && decide (s.aut i = key)
set_option maxRecDepth 100000 in
set_option maxHeartbeats 4000000 in
theorem rmember_ok {w : World} {p : Pl} {s : Ms} (h : SetOk w p s) (key : ByteArray) {AH : Option Addr} {cH : Nat} (hH : RdS w 1 BoolR AH p.n ((List.range p.n).map s.holding)) :
    Calls Tryz.prog 53 #[setV p s, .string key, .slice AH p.n cH] w fun e w' => e = .returned (.bool (s.member key)) ∧ Unch none_ w w' := by
  have hno : (∀ i, i < p.n → (s.joins key i && !(List.range p.n).any (s.leaves key i)) = false) → s.member key = false := fun hh => by
    unfold Ms.member
    rw [h.n, List.any_eq_false]
    intro i hi
    rw [hh i (by simpa using hi)]
    decide
  have hyes : ∀ i, i < p.n → s.joins key i = true → (List.range p.n).any (s.leaves key i) = false → s.member key = true := fun i hi h1 h2 => by
    unfold Ms.member
    rw [h.n, List.any_eq_true]
    exact ⟨i, by simpa using hi, by rw [h1, h2]; rfl⟩
  obtain ⟨res, hres⟩ : ∃ res, s.member key = res := ⟨_, rfl⟩
  rw [hres]
  have HRES := Lib.hid hres
  have HNO := Lib.hid hno
  have HYES := Lib.hid hyes
  clear hres hno hyes
  have hu1 : Unch none_ w (w.alloc (Obj.cells (setC p s) 46)) := (Unch.refl none_ w).alloc _
  have bS := blk_new w (Obj.cells (setC p s) 46)
  obtain ⟨n, AL, cL, AP, cP, AI, cI⟩ := p
  have hr := h.r
  have n3 := h.n3
  simp only at hr n3 hH
  unfold setV setC at *
  go_enter Tryz.func53, Tryz.ntmps53
  go_wp2
  generalize hg : w.heap.size = g at *
  clear hg
  generalize w.alloc (Obj.cells #[.slice AL n cL, .slice AP n cP, .int .i64 (s.r : Int), .slice AI n cI] 46) = w1 at *
  go_loopg [7] n (fun gk i7 wr => ∃ i : Nat, i ≤ n ∧ gk = n - i ∧ i7 = .int .i64 (i : Int) ∧ Unch none_ w1 wr ∧ ∀ j, j < i → (s.joins key j && !(List.range n).any (s.leaves key j)) = false)
  case atStart => exact ⟨0, Nat.zero_le _, rfl, rfl, Unch.refl _ _, fun j hj => by omega⟩
  case round =>
    obtain ⟨i, hi, rfl, rfl, hu, hall⟩ := hrel
    obtain ⟨w2, rfl⟩ : ∃ w2, w2 = wr := ⟨_, rfl⟩
    have HALL := Lib.hid hall
    clear hall
    have bS2 := hu.heap bS (fun h => h)
    have s0 := blk_cell bS2 (j := 0) rfl
    have s1 := blk_cell bS2 (j := 1) rfl
    have s2 := blk_cell bS2 (j := 2) rfl
    have s3 := blk_cell bS2 (j := 3) rfl
    have h2 := h.fresh (hu1.trans hu)
    have hH2 := RdS.fresh hH (hu1.trans hu)
    by_cases hin : i < n
    · have hnext : (s.joins key i && !(List.range n).any (s.leaves key i)) = false → ∀ j, j < i + 1 → (s.joins key j && !(List.range n).any (s.leaves key j)) = false := fun hh j hj => by
        rcases Nat.lt_or_ge j i with h1 | h1
        · exact HALL.out j h1
        · obtain rfl : j = i := by omega
          exact hh
      have HNEXT := Lib.hid hnext
      clear hnext
      obtain ⟨b, o, A2, c2, hAL, _, _, x1, x2, _, x4⟩ := h2.entry (k := i) hin
      obtain ⟨bi, oi, hAI, yi⟩ := h2.inAt (k := i) hin
      obtain ⟨bp, op, Ai, ci, hAP, ri, hci, hrdi⟩ := h2.row (k := i) hin
      simp only at hAL hAI hAP ri hrdi
      subst hAL
      subst hAI
      subst hAP
      obtain ⟨bh, oh, rfl, _, yh⟩ := RdS.bool hH2 (k := i) (s := s.holding i) (by simp [hin])
      have z0 : (0 : Int) ≤ (i : Int) := by omega
      have z1 : (i : Int) < (n : Int) := by omega
      go_upto_region 4 with fail
      go_cut [8] from 18 to 31 (fun v8 wx => v8 = .bool (foundsB s key i) ∧ w2 = wx)
      case first =>
        by_cases c0 : i = s.r
        · by_cases c1 : s.aut i = key
          · have HF : Hid (foundsB s key i = true) := by unfold foundsB; rw [decide_eq_true c0, decide_eq_true c1]; rfl
            rw [c1] at x2
            subst c0
            clear c1
            go_wp2
            go_meet
            exact ⟨by rw [HF.out], rfl⟩
          · have HF : Hid (foundsB s key i = false) := by unfold foundsB; rw [decide_eq_false c1, Bool.and_false]; rfl
            have d1 := str_ne c1
            subst c0
            clear c1
            go_wp2
            go_meet
            exact ⟨by rw [HF.out], rfl⟩
        · have HF : Hid (foundsB s key i = false) := by unfold foundsB; rw [decide_eq_false c0, Bool.false_and]; rfl
          obtain ⟨e1, e2, e3, e4⟩ := nat_ne c0
          clear c0
          go_wp2
          go_meet
          exact ⟨by rw [HF.out], rfl⟩
      case rest =>
        obtain ⟨rfl, rfl⟩ := hcut
        obtain ⟨fB, hfB⟩ : ∃ fB, foundsB s key i = fB := ⟨_, rfl⟩
        rw [hfB]
        have HFB := Lib.hid hfB
        clear hfB
        go_upto_region 5 with fail
        go_cut [67] from 32 to 66 (fun v67 wx => v67 = .bool (!s.joins key i) ∧ w2 = wx)
        case first =>
          cases c0 : s.inn i with
          | false =>
            have HF : Hid (s.joins key i = false) := by unfold Ms.joins; rw [c0]; rfl
            rw [c0] at yi
            clear c0
            go_wp2
            go_meet
            exact ⟨by rw [HF.out]; rfl, rfl⟩
          | true =>
            have hf : s.joins key i = (foundsB s key i || (decide (s.kind i = 4) && (decide (s.body i = key) && s.holding i))) := by unfold Ms.joins foundsB; rw [c0, Bool.true_and]
            rw [c0] at yi
            clear c0
            rw [HFB.out] at hf
            cases fB with
            | true =>
              rw [Bool.true_or] at hf
              have HF := Lib.hid hf
              clear hf
              go_wp2
              go_meet
              exact ⟨by rw [HF.out]; rfl, rfl⟩
            | false =>
              rw [Bool.false_or] at hf
              by_cases c2 : s.kind i = 4
              · rw [decide_eq_true c2, Bool.true_and] at hf
                rw [c2] at x1
                clear c2
                by_cases c3 : s.body i = key
                · rw [decide_eq_true c3, Bool.true_and] at hf
                  rw [c3] at x4
                  clear c3
                  cases c4 : s.holding i with
                  | true =>
                    rw [c4] at yh hf
                    have HF := Lib.hid hf
                    clear c4 hf
                    go_wp2
                    go_meet
                    exact ⟨by rw [HF.out]; rfl, rfl⟩
                  | false =>
                    rw [c4] at yh hf
                    have HF := Lib.hid hf
                    clear c4 hf
                    go_wp2
                    go_meet
                    exact ⟨by rw [HF.out]; rfl, rfl⟩
                · rw [decide_eq_false c3, Bool.false_and] at hf
                  have d1 := str_ne c3
                  have d2 := str_bne c3
                  have HF := Lib.hid hf
                  clear c3 hf
                  go_wp2
                  go_meet
                  exact ⟨by rw [HF.out]; rfl, rfl⟩
              · rw [decide_eq_false c2, Bool.false_and] at hf
                have d1 : (s.kind i == 4) = false := by simpa using c2
                have d2 := int_bne c2
                have HF := Lib.hid hf
                clear c2 hf
                go_wp2
                go_meet
                exact ⟨by rw [HF.out]; rfl, rfl⟩
        case rest =>
          obtain ⟨rfl, rfl⟩ := hcut
          clear x1 x2 x4 yi yh s3
          cases hj : s.joins key i with
          | false =>
            have HN := Lib.hid (HNEXT.out (by rw [hj, Bool.false_and]))
            clear hj
            go_wp2
            go_roundg (n - (i + 1))
            case measure => omega
            case rel => exact ⟨i + 1, by omega, rfl, by go_num, hu, HN.out⟩
          | true =>
            have HJ := Lib.hid hj
            clear hj
            go_wp2
            go_loopg [9, 10] n (fun gk v9 v10 wr => ∃ k : Nat, k ≤ n ∧ gk = n - k ∧ v10 = .int .i64 (k : Int) ∧ v9 = .bool (!(List.range k).any (s.leaves key i)) ∧ w2 = wr)
            case atStart => exact ⟨0, Nat.zero_le _, rfl, rfl, rfl, rfl⟩
            case round =>
              obtain ⟨k, hk, rfl, rfl, rfl, rfl⟩ := hrel
              by_cases hkn : k < n
              · have hsucc := any_succ (s.leaves key i) k
                unfold Ms.leaves at hsucc
                rw [show (fun k => s.holding k && (decide (s.kind k = 5) && (decide (s.body k = key) && !past s.l i k))) = s.leaves key i from rfl] at hsucc
                obtain ⟨b', o', A3, c3, hAL', _, _, x1, _, _, x4⟩ := h2.entry (k := k) hkn
                simp only at hAL'
                obtain ⟨rfl, rfl⟩ : b = b' ∧ o = o' := by injection hAL' with h; injection h with h1 h2; exact ⟨h1, h2⟩
                obtain ⟨bh', oh', hAH', _, yh⟩ := RdS.bool hH2 (k := k) (s := s.holding k) (by simp [hkn])
                obtain ⟨rfl, rfl⟩ : bh = bh' ∧ oh = oh' := by injection hAH' with h; injection h with h1 h2; exact ⟨h1, h2⟩
                obtain ⟨bq, oq, rfl, yik⟩ := h2.pastAt hrdi (k := k) hkn
                have z2 : (0 : Int) ≤ (k : Int) := by omega
                have z3 : (k : Int) < (n : Int) := by omega
                clear hAL' hAH'
                cases c0 : s.holding k with
                | false =>
                  rw [c0] at yh hsucc
                  rw [Bool.false_and, Bool.or_false] at hsucc
                  have HS := Lib.hid hsucc
                  clear c0 hsucc
                  go_wp2
                  go_roundg (n - (k + 1))
                  case measure => omega
                  case rel => exact ⟨k + 1, by omega, rfl, by go_num, by rw [HS.out], rfl⟩
                | true =>
                  rw [c0] at yh hsucc
                  rw [Bool.true_and] at hsucc
                  clear c0
                  by_cases c1 : s.kind k = 5
                  · rw [decide_eq_true c1, Bool.true_and] at hsucc
                    rw [c1] at x1
                    clear c1
                    by_cases c2 : s.body k = key
                    · rw [decide_eq_true c2, Bool.true_and] at hsucc
                      rw [c2] at x4
                      clear c2
                      cases c3 : past s.l i k with
                      | true =>
                        rw [c3] at yik hsucc
                        rw [Bool.not_true, Bool.or_false] at hsucc
                        have HS := Lib.hid hsucc
                        clear c3 hsucc
                        go_wp2
                        go_roundg (n - (k + 1))
                        case measure => omega
                        case rel => exact ⟨k + 1, by omega, rfl, by go_num, by rw [HS.out], rfl⟩
                      | false =>
                        rw [c3] at yik hsucc
                        rw [Bool.not_false, Bool.or_true] at hsucc
                        have HS := Lib.hid hsucc
                        clear c3 hsucc
                        go_wp2
                        go_roundg (n - (k + 1))
                        case measure => omega
                        case rel => exact ⟨k + 1, by omega, rfl, by go_num, by rw [HS.out]; rfl, rfl⟩
                    · rw [decide_eq_false c2, Bool.false_and, Bool.or_false] at hsucc
                      have d1 := str_ne c2
                      have HS := Lib.hid hsucc
                      clear c2 hsucc
                      go_wp2
                      go_roundg (n - (k + 1))
                      case measure => omega
                      case rel => exact ⟨k + 1, by omega, rfl, by go_num, by rw [HS.out], rfl⟩
                  · rw [decide_eq_false c1, Bool.false_and, Bool.or_false] at hsucc
                    have d1 : (s.kind k == 5) = false := by simpa using c1
                    have HS := Lib.hid hsucc
                    clear c1 hsucc
                    go_wp2
                    go_roundg (n - (k + 1))
                    case measure => omega
                    case rel => exact ⟨k + 1, by omega, rfl, by go_num, by rw [HS.out], rfl⟩
              · obtain rfl : k = n := by omega
                cases hany : (List.range k).any (s.leaves key i) with
                | false =>
                  have hr0 := HYES.out i hin HJ.out hany
                  rw [HRES.out] at hr0
                  subst hr0
                  clear hany
                  go_wp2
                  go_ret
                  exact ⟨rfl, hu1.trans hu⟩
                | true =>
                  have HN := Lib.hid (HNEXT.out (by rw [hany, Bool.not_true, Bool.and_false]))
                  clear hany
                  go_wp2
                  go_roundg (k - (i + 1))
                  case measure => omega
                  case rel => exact ⟨i + 1, by omega, rfl, by go_num, hu, HN.out⟩
    · obtain rfl : i = n := by omega
      have hr0 := HNO.out HALL.out
      rw [HRES.out] at hr0
      subst hr0
      go_wp2
      go_ret
      exact ⟨rfl, hu1.trans hu⟩
end Go.Proofs.YtgalnnmeamldhaaGreat
/- palaverref15: Member, Holding. -/
set_option linter.unusedVariables false
set_option linter.unusedSimpArgs false
namespace Go.Proofs.YtgalnnmeamldhaaGreat
open Go Go.RowKit Go.Proofs.YtgalnnmeamldhaaGreat.Pal Go.Proofs.YtgalnnmeamldhaaGreat.Plan

set_option maxRecDepth 100000 in
set_option maxHeartbeats 2000000 in
theorem rMember_ok {w : World} {p : Pl} {s : Ms} (h : SetOk w p s) (key : ByteArray) :
    Calls Tryz.prog 33 #[setV p s, .string key] w fun e w' => e = .returned (.bool (s.member key)) ∧ Unch none_ w w' := by
  have hu1 : Unch none_ w (w.alloc (Obj.cells (setC p s) 46)).drew := ((Unch.refl none_ w).alloc _).drew
  have bS : (w.alloc (Obj.cells (setC p s) 46)).drew.heap[w.heap.size]? = some (.cells (setC p s) 46 (0, 0)) := blk_new w (Obj.cells (setC p s) 46)
  have h1 := h.fresh hu1
  have HH := Lib.hid (holding_ok h1)
  have hM : ∀ w2, Unch none_ (w.alloc (Obj.cells (setC p s) 46)).drew w2 → ∀ A c, RdS w2 1 BoolR A p.n ((List.range p.n).map s.holding) → Calls Tryz.prog 53 #[setV p s, .string key, .slice A p.n c] w2 fun e w' => e = .returned (.bool (s.member key)) ∧ Unch none_ w2 w' :=
    fun w2 hu A c hr => rmember_ok (h1.fresh hu) key hr
  have HM := Lib.hid hM
  clear hM
  generalize s.member key = res at *
  obtain ⟨n, AL, cL, AP, cP, AI, cI⟩ := p
  have n3 := h.n3
  simp only at n3
  unfold setV setC at *
  go_enter Tryz.func33, Tryz.ntmps33
  go_wp2_with fail
  have s0 := blk_cell bS (j := 0) rfl
  have s1 := blk_cell bS (j := 1) rfl
  have s2 := blk_cell bS (j := 2) rfl
  have s3 := blk_cell bS (j := 3) rfl
  refine wp_plan1 w.heap.size [0, 1, 2] [3, 4, 5] 1 (by kernel_rfl) (by kernel_rfl) rfl rfl (fun c a d v w h => by cases d <;> exact h) ?_
  intro S HS _ s1
  simp only [pickIn, List.getElem?_toArray, List.getElem?_cons_succ, List.getElem?_cons_zero]
  repeat (go_big_quiet_step (fail))
  refine wpQuiet_nil ?_
  refine tail_step ?_
  go_wp2_with fail
  refine HH.out.mono ?_
  rintro e w3 ⟨g, rfl, hb, hg, hu3⟩
  go_wp2_with fail
  refine tail_midS ((HS.out _).2 (hu3.block _ (lt_of_heap bS) (fun h => h))) (tail_all ?_)
  go_wp2_with fail
  refine (HM.out w3 hu3 _ _ (hb.rds (by unfold maxLen; omega))).mono ?_
  rintro e w4 ⟨rfl, hu4⟩
  go_wp2
  go_ret
  exact ⟨rfl, (hu1.trans hu3).trans hu4⟩
set_option maxRecDepth 100000 in
set_option maxHeartbeats 2000000 in
theorem rHolding_ok {w : World} {p : Pl} {s : Ms} (h : SetOk w p s) :
    Calls Tryz.prog 29 #[setV p s] w (MadeB w p.n s.holding) := by
  have hu1 : Unch none_ w (w.alloc (Obj.cells (setC p s) 46)) := (Unch.refl none_ w).alloc _
  have bS := blk_new w (Obj.cells (setC p s) 46)
  have HH := Lib.hid (holding_ok (h.fresh hu1))
  obtain ⟨n, AL, cL, AP, cP, AI, cI⟩ := p
  have s0 := blk_cell bS (j := 0) rfl
  have s1 := blk_cell bS (j := 1) rfl
  have s2 := blk_cell bS (j := 2) rfl
  have s3 := blk_cell bS (j := 3) rfl
  unfold setV setC at *
  go_enter Tryz.func29, Tryz.ntmps29
  go_wp2_with fail
  refine HH.out.mono ?_
  rintro e w3 ⟨g, rfl, hb, hg, hu3⟩
  go_wp2
  go_ret
  exact ⟨g, rfl, hb, Nat.le_trans hu1.size hg, hu1.trans hu3⟩
end Go.Proofs.YtgalnnmeamldhaaGreat
