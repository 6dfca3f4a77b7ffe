/-
  slices.IndexFunc, slices.ContainsFunc over entries.
-/
import Derived.Test.YtgalnnmeamldhaaGreatCMP1
import Derived.Shelf.Abstract
/- slices.IndexFunc, slices.ContainsFunc over entries. -/
set_option linter.unusedVariables false
set_option linter.unusedSimpArgs false
namespace Go.Proofs.YtgalnnmeamldhaaGreat
open Go Go.RowKit Go.Proofs.YtgalnnmeamldhaaGreat.Pal Go.Proofs.YtgalnnmeamldhaaGreat.Plan

def firstP (p : Nat → Bool) (n : Nat) : Option Nat := (List.range n).find? p
theorem firstP_none {p : Nat → Bool} {n : Nat} (h : ∀ j, j < n → p j = false) : firstP p n = none := by
  unfold firstP
  rw [List.find?_eq_none]
  intro x hx
  rw [h x (by simpa using hx)]
  decide
theorem firstP_some {p : Nat → Bool} : ∀ {n k : Nat}, k < n → p k = true → (∀ j, j < k → p j = false) → firstP p n = some k
  | 0, _, h, _, _ => by omega
  | n + 1, k, h, hk, hlt => by
    unfold firstP
    rw [List.range_succ, List.find?_append]
    by_cases hn : k < n
    · have := firstP_some hn hk hlt
      unfold firstP at this
      rw [this]; rfl
    · obtain rfl : k = n := by omega
      have := firstP_none hlt
      unfold firstP at this
      rw [this]
      simp [hk]
theorem firstP_any (p : Nat → Bool) (n : Nat) : (List.range n).any p = (firstP p n).isSome := by
  unfold firstP
  rw [Bool.eq_iff_iff, List.any_eq_true, List.find?_isSome]
/-- A predicate's contract: a closure (function g, what it captured: lb), at each entry of l. -/
def PredC (g : Nat) (lb : Array Value) (l : List Ent) (p : Nat → Bool) (w : World) : Prop :=
  ∀ W, Unch none_ w W → ∀ i, i < l.length → Calls Tryz.prog g (#[(ent l i).val] ++ lb) W fun e W' => e = .returned (.bool (p i)) ∧ Unch none_ W W'
theorem PredC.next {g : Nat} {lb : Array Value} {l : List Ent} {p : Nat → Bool} {w w1 : World} (h : PredC g lb l p w) (hu : Unch none_ w w1) : PredC g lb l p w1 := fun W h1 => h W (hu.trans h1)
theorem RdS.ent {w : World} {A : Option Addr} {n : Nat} {l : List Ent} (h : RdS w 5 EntR A n l) {k : Nat} (hk : k < n) : ∃ b o, A = some ⟨b, o, none⟩ ∧ b < w.heap.size ∧
    w.cell? ⟨b, o + k * 5, none⟩ = some (.string (ent l k).id) ∧ w.cell? ⟨b, o + k * 5 + 1, none⟩ = some (.int .i64 (ent l k).kind) ∧ w.cell? ⟨b, o + k * 5 + 2, none⟩ = some (.string (ent l k).author) ∧
    w.cell? ⟨b, o + k * 5 + 3, none⟩ = some (ent l k).pv ∧ w.cell? ⟨b, o + k * 5 + 4, none⟩ = some (.string (ent l k).body) := by
  obtain ⟨b, o, c, hA, hb, _, hc, hcell⟩ := h.at (ent_get (l := l) (i := k) (by rw [h.len]; exact hk))
  unfold EntR at hc
  subst hc
  exact ⟨b, o, hA, hb, hcell 0 _ rfl, hcell 1 _ rfl, hcell 2 _ rfl, hcell 3 _ rfl, hcell 4 _ rfl⟩
set_option maxHeartbeats 1000000 in
theorem indexFunc_ok {w : World} {A : Option Addr} {n c : Nat} {l : List Ent} (h : RdS w 5 EntR A n l) {g : Nat} {lb : Array Value} (eg : ∀ args w, (callFunc g args).run Tryz.prog w = .ok (.enter g args) w) {p : Nat → Bool} (hp : PredC g lb l p w) :
    Calls Tryz.prog 55 #[.slice A n c, .func (.func g) #[] lb] w fun e w' => e = .returned (.int .i64 (optI (firstP p n))) ∧ Unch none_ w w' := by
  have hn := h.max
  have hl := h.len
  unfold maxLen at hn
  obtain ⟨res, hres⟩ : ∃ res, firstP p n = res := ⟨_, rfl⟩
  rw [hres]
  have HR := Lib.hid hres
  have HP := Lib.hid hp
  have HL := Lib.hid hl
  clear hres hp hl
  go_enter Tryz.func55, Tryz.ntmps55
  go_wp2
  go_loopg [5, 8] n (fun gk _ i wr => ∃ k : Nat, k ≤ n ∧ gk = n - k ∧ i = .int .i64 (k : Int) ∧ Unch none_ w wr ∧ ∀ j, j < k → p j = false)
  case atStart => exact ⟨0, Nat.zero_le _, rfl, rfl, Unch.refl _ _, fun j hj => by omega⟩
  case round =>
    obtain ⟨k, hk, rfl, rfl, hu, hall⟩ := hrel
    obtain ⟨w2, rfl⟩ : ∃ w2, w2 = wr := ⟨_, rfl⟩
    have HALL := Lib.hid hall
    clear hall
    by_cases hkn : k < n
    · obtain ⟨b, o, rfl, hb, x0, x1, x2, x3, x4⟩ := RdS.ent (RdS.fresh h hu) hkn
      have z0 : (0 : Int) ≤ (k : Int) := by omega
      have z1 : (k : Int) < (n : Int) := by omega
      have hcall := HP.out w2 hu k (by rw [HL.out]; exact hkn)
      unfold Ent.val at hcall
      cases hq : p k with
      | true =>
        rw [hq] at hcall
        have HF := Lib.hid (firstP_some hkn hq HALL.out)
        clear hq
        go_wp2_with (go_at_fn g; refine hcall.mono ?_; rintro e w' ⟨rfl, hu3⟩)
        go_ret
        exact ⟨by rw [← HR.out, HF.out]; rfl, hu.trans hu3⟩
      | false =>
        rw [hq] at hcall
        have HQ := Lib.hid hq
        clear hq
        go_wp2_with (go_at_fn g; refine hcall.mono ?_; rintro e w' ⟨rfl, hu3⟩)
        go_roundg (n - (k + 1))
        case measure => omega
        case rel =>
          refine ⟨k + 1, by omega, rfl, by go_num, hu.trans hu3, fun j hj => ?_⟩
          rcases Nat.lt_or_ge j k with h1 | h1
          · exact HALL.out j h1
          · obtain rfl : j = k := by omega
            exact HQ.out
    · obtain rfl : k = n := by omega
      have HF := Lib.hid (firstP_none HALL.out)
      go_wp2
      go_ret
      exact ⟨by rw [← HR.out, HF.out]; rfl, hu⟩
theorem containsFunc_ok {w : World} {A : Option Addr} {n c : Nat} {l : List Ent} (h : RdS w 5 EntR A n l) {g : Nat} {lb : Array Value} (eg : ∀ args w, (callFunc g args).run Tryz.prog w = .ok (.enter g args) w) {p : Nat → Bool} (hp : PredC g lb l p w) :
    Calls Tryz.prog 68 #[.slice A n c, .func (.func g) #[] lb] w fun e w' => e = .returned (.bool ((List.range n).any p)) ∧ Unch none_ w w' := by
  have hc := indexFunc_ok (c := c) h eg hp
  rw [firstP_any]
  cases hf : firstP p n with
  | none =>
    rw [hf] at hc
    simp only [optI] at hc
    have HC := Lib.hid hc
    clear hc hf hp h
    go_enter Tryz.func68, Tryz.ntmps68
    go_wp2_with fail
    refine HC.out.mono ?_
    rintro e w' ⟨rfl, hu⟩
    go_wp2
    go_ret
    exact ⟨rfl, hu⟩
  | some k =>
    rw [hf] at hc
    simp only [optI] at hc
    have HC := Lib.hid hc
    have z0 : (0 : Int) ≤ (k : Int) := by omega
    clear hc hf hp h
    go_enter Tryz.func68, Tryz.ntmps68
    go_wp2_with fail
    refine HC.out.mono ?_
    rintro e w' ⟨rfl, hu⟩
    go_wp2
    go_ret
    exact ⟨rfl, hu⟩
end Go.Proofs.YtgalnnmeamldhaaGreat
