/-
  Whose turn it is: of two that have something left, the one ahead comes first.
-/
set_option linter.unusedVariables false
namespace Go.Proofs.Ytmffpeblcaalgaa
/-- How far x is from the turn t. -/
def dist (n t x : Nat) : Nat := if t ≤ x then x - t else x + n - t
def Inv (n t : Nat) (C f : Nat → Nat) (s : Nat → Nat → Nat) : Prop :=
  ∀ i j, i < n → j < n → i ≠ j → f i < C i → s i j ≤ 1 ∧ (s i j = 1 → dist n t i < dist n t j)
theorem mod_small {a n : Nat} (h : a < 2 * n) : a % n = if a < n then a else a - n := by
  split
  · exact Nat.mod_eq_of_lt ‹_›
  · rename_i h1
    rw [Nat.mod_eq_sub_mod (by omega), Nat.mod_eq_of_lt (by omega)]
/-- One round of the law's inner loop, up to i. -/
def stp (s : Nat → Nat → Nat) (r i : Nat) : Nat → Nat → Nat := fun a b => if a = r ∧ b < i then 0 else if b = r ∧ a < i ∧ a ≠ r then s a r + 1 else s a b
theorem inv_first {n t k r : Nat} {C f : Nat → Nat} {s : Nat → Nat → Nat} (h : Inv n t C f s) (ht : t < n) (hk : k < n) (hr : (t + k) % n = r) (hm : ∀ j, j < k → ¬ f ((t + j) % n) < C ((t + j) % n)) {i : Nat} (hi : i < n) (hir : i ≠ r) (hfi : f i < C i) : s i r = 0 := by
  rw [mod_small (by omega)] at hr
  have hrn : r < n := by split at hr <;> omega
  obtain ⟨h1, h2⟩ := h i r hi hrn hir hfi
  rcases Nat.eq_zero_or_pos (s i r) with h0 | h0
  · exact h0
  have h3 := h2 (by omega)
  exfalso
  have hd : dist n t r = k := by unfold dist; split at hr <;> split <;> omega
  rw [hd] at h3
  refine hm (dist n t i) h3 ?_
  have : (t + dist n t i) % n = i := by
    have hlt : dist n t i < n := by unfold dist; split <;> omega
    rw [mod_small (by omega)]
    unfold dist
    split <;> split <;> omega
  rw [this]
  exact hfi
theorem dist_or (n t x : Nat) : (t ≤ x ∧ dist n t x = x - t) ∨ (x < t ∧ dist n t x = x + n - t) := by
  unfold dist
  split <;> omega
theorem inv_next {n t k r : Nat} {C f f' : Nat → Nat} {s : Nat → Nat → Nat} (h : Inv n t C f s) (ht : t < n) (hk : k < n) (hr : (t + k) % n = r) (hm : ∀ j, j < k → ¬ f ((t + j) % n) < C ((t + j) % n)) (hf : ∀ a, a ≠ r → f' a = f a) :
    Inv n ((r + 1) % n) C f' (stp s r n) := by
  intro i j hi hj hij hfi
  have hrn : r < n := by rw [← hr]; exact Nat.mod_lt _ (by omega)
  by_cases hir : i = r
  · subst hir
    have h0 : stp s i n i j = 0 := by simp [stp, hj]
    rw [h0]
    exact ⟨by omega, fun h => by omega⟩
  have hfi' : f i < C i := by rw [← hf i hir]; exact hfi
  have hfirst := inv_first h ht hk hr hm hi hir hfi'
  have hfar : k < dist n t i := by
    have hlt : dist n t i < n := by rcases dist_or n t i with ⟨_, h⟩ | ⟨_, h⟩ <;> omega
    have hback : (t + dist n t i) % n = i := by
      rw [mod_small (by omega)]
      rcases dist_or n t i with ⟨_, h⟩ | ⟨_, h⟩ <;> rw [h] <;> split <;> omega
    rcases Nat.lt_trichotomy (dist n t i) k with h1 | h1 | h1
    · exact absurd (by rw [hback]; exact hfi') (hm _ h1)
    · rw [h1, hr] at hback
      exact absurd hback.symm hir
    · exact h1
  rw [mod_small (by omega)] at hr
  have hT : ((r + 1) % n = r + 1 ∧ r + 1 < n) ∨ ((r + 1) % n = 0 ∧ r + 1 = n) := by
    rw [mod_small (show r + 1 < 2 * n by omega)]
    split <;> omega
  generalize (r + 1) % n = T at hT
  have hr' : (t + k < n ∧ r = t + k) ∨ (n ≤ t + k ∧ r = t + k - n) := by split at hr <;> omega
  by_cases hjr : j = r
  · have h0 : stp s r n i j = 1 := by simp [stp, hi, hir, hjr, hfirst]
    rw [h0]
    refine ⟨by omega, fun _ => ?_⟩
    subst hjr
    rcases dist_or n t i with ⟨_, e1⟩ | ⟨_, e1⟩ <;> rcases dist_or n T i with ⟨_, e2⟩ | ⟨_, e2⟩ <;> rcases dist_or n T j with ⟨_, e3⟩ | ⟨_, e3⟩ <;> rcases hT with ⟨_, _⟩ | ⟨_, _⟩ <;> rcases hr' with ⟨_, _⟩ | ⟨_, _⟩ <;> omega
  · have h0 : stp s r n i j = s i j := by simp [stp, hir, hjr]
    rw [h0]
    obtain ⟨h1, h2⟩ := h i j hi hj hij hfi'
    refine ⟨h1, fun h3 => ?_⟩
    have h4 := h2 h3
    rcases dist_or n t i with ⟨_, e1⟩ | ⟨_, e1⟩ <;> rcases dist_or n t j with ⟨_, e4⟩ | ⟨_, e4⟩ <;> rcases dist_or n T i with ⟨_, e2⟩ | ⟨_, e2⟩ <;> rcases dist_or n T j with ⟨_, e3⟩ | ⟨_, e3⟩ <;> rcases hT with ⟨_, _⟩ | ⟨_, _⟩ <;> rcases hr' with ⟨_, _⟩ | ⟨_, _⟩ <;> omega
theorem stp_step (s : Nat → Nat → Nat) (r i : Nat) (a b : Nat) :
    (if a = r ∧ b = i then 0 else if a = i ∧ b = r then stp s r i i r + 1 else stp s r i a b) = stp s r (i + 1) a b := by
  unfold stp
  by_cases ha : a = i
  · subst ha
    by_cases hb : b = r
    · subst hb
      repeat' split
      all_goals omega
    · repeat' split
      all_goals omega
  · by_cases hb : b = r
    · subst hb
      repeat' split
      all_goals omega
    · repeat' split
      all_goals omega
end Go.Proofs.Ytmffpeblcaalgaa
