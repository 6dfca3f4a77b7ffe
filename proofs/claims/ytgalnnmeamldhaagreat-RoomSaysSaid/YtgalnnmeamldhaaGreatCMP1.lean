/-
  cmp.Compare at int and at string, cmp.Or at int.
-/
import Derived.Test.YtgalnnmeamldhaaGreatCMRef17
import Derived.Shelf.SlSorted.Search
/- cmp.Compare at int and at string, cmp.Or at int. -/
set_option linter.unusedVariables false
set_option linter.unusedSimpArgs false
namespace Go.Proofs.YtgalnnmeamldhaaGreat
open Go Go.RowKit Go.Proofs.YtgalnnmeamldhaaGreat.Pal Go.Proofs.YtgalnnmeamldhaaGreat.Plan

def cmpI (a b : Int) : Int := if a < b then -1 else if b < a then 1 else 0
def cmpS (s t : ByteArray) : Int := if bl s t then -1 else if bl t s then 1 else 0
theorem nanI {w : World} (a : Int) : Calls Tryz.prog 72 #[.int .i64 a] w fun e w' => e = .returned (.bool false) ∧ w = w' := by
  go_enter Tryz.func72, Tryz.ntmps72
  go_wp2
  go_ret
  exact ⟨by simp, rfl⟩
theorem nanS {w : World} (s : ByteArray) : Calls Tryz.prog 82 #[.string s] w fun e w' => e = .returned (.bool false) ∧ w = w' := by
  go_enter Tryz.func82, Tryz.ntmps82
  go_wp2
  go_ret
  exact ⟨by simp, rfl⟩
theorem compareI {w : World} (a b : Int) : Calls Tryz.prog 46 #[.int .i64 a, .int .i64 b] w fun e w' => e = .returned (.int .i64 (cmpI a b)) ∧ w = w' := by
  by_cases h1 : a < b
  · have hr : cmpI a b = -1 := by simp [cmpI, h1]
    rw [hr]
    clear hr
    go_enter Tryz.func46, Tryz.ntmps46
    go_wp2_with fail
    refine (nanI a).mono ?_
    rintro e w' ⟨rfl, rfl⟩
    go_wp2_with fail
    refine (nanI b).mono ?_
    rintro e w' ⟨rfl, rfl⟩
    go_wp2
    go_ret
    exact ⟨rfl, rfl⟩
  · by_cases h2 : b < a
    · have hr : cmpI a b = 1 := by simp [cmpI, h1, h2]
      rw [hr]
      clear hr
      go_enter Tryz.func46, Tryz.ntmps46
      go_wp2_with fail
      refine (nanI a).mono ?_
      rintro e w' ⟨rfl, rfl⟩
      go_wp2_with fail
      refine (nanI b).mono ?_
      rintro e w' ⟨rfl, rfl⟩
      go_wp2
      go_ret
      exact ⟨rfl, rfl⟩
    · have hr : cmpI a b = 0 := by simp [cmpI, h1, h2]
      rw [hr]
      clear hr
      go_enter Tryz.func46, Tryz.ntmps46
      go_wp2_with fail
      refine (nanI a).mono ?_
      rintro e w' ⟨rfl, rfl⟩
      go_wp2_with fail
      refine (nanI b).mono ?_
      rintro e w' ⟨rfl, rfl⟩
      go_wp2
      go_ret
      exact ⟨rfl, rfl⟩
theorem compareS {w : World} (s t : ByteArray) : Calls Tryz.prog 62 #[.string s, .string t] w fun e w' => e = .returned (.int .i64 (cmpS s t)) ∧ w = w' := by
  cases h1 : bl s t with
  | true =>
    have hr : cmpS s t = -1 := by simp [cmpS, h1]
    unfold bl at h1
    rw [hr]
    clear hr
    go_enter Tryz.func62, Tryz.ntmps62
    go_wp2_with fail
    refine (nanS s).mono ?_
    rintro e w' ⟨rfl, rfl⟩
    go_wp2_with fail
    refine (nanS t).mono ?_
    rintro e w' ⟨rfl, rfl⟩
    go_wp2
    go_ret
    exact ⟨rfl, rfl⟩
  | false =>
    cases h2 : bl t s with
    | true =>
      have hr : cmpS s t = 1 := by simp [cmpS, h1, h2]
      have hne := str_ne (s := s) (t := t) (fun e => by subst e; rw [h1] at h2; cases h2)
      unfold bl at h1 h2
      rw [hr]
      clear hr
      go_enter Tryz.func62, Tryz.ntmps62
      go_wp2_with fail
      refine (nanS s).mono ?_
      rintro e w' ⟨rfl, rfl⟩
      go_wp2_with fail
      refine (nanS t).mono ?_
      rintro e w' ⟨rfl, rfl⟩
      go_wp2
      go_ret
      exact ⟨rfl, rfl⟩
    | false =>
      have hr : cmpS s t = 0 := by simp [cmpS, h1, h2]
      obtain rfl := bl_total h1 h2
      unfold bl at h1
      clear h2
      rw [hr]
      clear hr
      go_enter Tryz.func62, Tryz.ntmps62
      go_wp2_with fail
      refine (nanS s).mono ?_
      rintro e w' ⟨rfl, rfl⟩
      go_wp2_with fail
      refine (nanS s).mono ?_
      rintro e w' ⟨rfl, rfl⟩
      go_wp2
      go_ret
      exact ⟨rfl, rfl⟩
/-- cmp.Or of two. -/
theorem or2 {w : World} {g c : Nat} {fr : Nat × Nat} {e : TypeId} (a b : Int) (h : w.heap[g]? = some (.cells #[.int .i64 a, .int .i64 b] e fr)) : Calls Tryz.prog 61 #[.slice (some ⟨g, 0, none⟩) 2 c] w fun e w' => e = .returned (.int .i64 (if a = 0 then b else a)) ∧ w = w' := by
  have x0 := blk_cell h (j := 0) rfl
  have x1 := blk_cell h (j := 1) rfl
  clear h
  obtain ⟨res, hres⟩ : ∃ res, (if a = 0 then b else a) = res := ⟨_, rfl⟩
  rw [hres]
  have HR := Lib.hid hres
  clear hres
  go_enter Tryz.func61, Tryz.ntmps61
  go_wp2
  go_loopg [5, 8] 2 (fun gk _ i wr => ∃ k : Nat, k ≤ 2 ∧ gk = 2 - k ∧ i = .int .i64 (k : Int) ∧ w = wr ∧ (1 ≤ k → a = 0) ∧ (2 ≤ k → b = 0))
  case atStart => exact ⟨0, by omega, rfl, rfl, rfl, by omega, by omega⟩
  case round =>
    obtain ⟨k, hk, rfl, rfl, rfl, ha, hb⟩ := hrel
    have HA := Lib.hid ha
    have HB := Lib.hid hb
    clear ha hb
    rcases (show k = 0 ∨ k = 1 ∨ k = 2 by omega) with rfl | rfl | rfl
    · by_cases h0 : a = 0
      · subst h0
        go_wp2
        go_roundg 1
        case measure => omega
        case rel => exact ⟨1, by omega, rfl, rfl, rfl, by simp, by omega⟩
      · have d := int_bne h0
        have H0 := Lib.hid h0
        clear h0
        go_wp2
        go_ret
        exact ⟨by rw [← HR.out, if_neg H0.out]; rfl, rfl⟩
    · by_cases h0 : b = 0
      · subst h0
        go_wp2
        go_roundg 0
        case measure => omega
        case rel => exact ⟨2, by omega, rfl, rfl, rfl, fun _ => HA.out (by omega), by simp⟩
      · have d := int_bne h0
        clear h0
        go_wp2
        go_ret
        exact ⟨by rw [← HR.out, if_pos (HA.out (by omega))]; rfl, rfl⟩
    · go_wp2
      go_ret
      exact ⟨by rw [← HR.out, if_pos (HA.out (by omega)), HB.out (by omega)]; rfl, rfl⟩
end Go.Proofs.YtgalnnmeamldhaaGreat
