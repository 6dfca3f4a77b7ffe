/-
  Plain facts on rows of texts and whose turn it is.
-/
import Derived.Test.YtmffpeblcaalgaaQLaws
set_option linter.unusedVariables false
namespace Go.Proofs.Ytmffpeblcaalgaa
theorem least (p : Nat → Prop) : ∀ n, p n → ∃ m, m ≤ n ∧ p m ∧ ∀ j, j < m → ¬ p j := by
  intro n
  induction n using Nat.strongRecOn with
  | _ n ih =>
    intro hn
    by_cases h : ∃ j, j < n ∧ p j
    · obtain ⟨j, hj, hp⟩ := h
      obtain ⟨m, h1, h2, h3⟩ := ih j hj hp
      exact ⟨m, by omega, h2, h3⟩
    · exact ⟨n, Nat.le_refl _, hn, fun j hj hp => h ⟨j, hj, hp⟩⟩
theorem exists_first (rows : List (List ByteArray)) (turn n : Nat) (hl : rows.length = n) (ht : turn < n) (h : ∃ r ∈ rows, r ≠ []) :
    ∃ i from_ t r, i < n ∧ (turn + i) % n = from_ ∧ from_ < n ∧ rows[from_]? = some (t :: r) ∧ ∀ j, j < i → rows[(turn + j) % n]? = some [] := by
  obtain ⟨r, hr, hne⟩ := h
  obtain ⟨q, hq⟩ := List.getElem?_of_mem hr
  have hqn : q < n := by rw [← hl]; exact (List.getElem?_eq_some_iff.1 hq).1
  have h0 : rows[(turn + (q + n - turn) % n) % n]? ≠ some [] := by
    have : (turn + (q + n - turn) % n) % n = q := by
      rw [Nat.add_mod, Nat.mod_mod, ← Nat.add_mod]
      rw [show turn + (q + n - turn) = q + n by omega, Nat.add_mod_right, Nat.mod_eq_of_lt hqn]
    rw [this, hq]
    intro he
    exact hne (Option.some.inj he)
  obtain ⟨i, h1, h2, h3⟩ := least (fun i => rows[(turn + i) % n]? ≠ some []) _ h0
  have hfn : (turn + i) % n < n := Nat.mod_lt _ (by omega)
  obtain ⟨r', hr'⟩ : ∃ r', rows[(turn + i) % n]? = some r' := ⟨_, List.getElem?_eq_getElem (by omega)⟩
  have hlt : (q + n - turn) % n < n := Nat.mod_lt _ (by omega)
  cases r' with
  | nil => exact absurd hr' h2
  | cons t r' => exact ⟨i, _, t, r', by omega, rfl, hfn, hr', fun j hj => Classical.not_not.1 (h3 j hj)⟩
theorem qlen_zero {rows : List (List ByteArray)} (h : qlen rows = 0) : ∀ r ∈ rows, r = [] := by
  unfold qlen at h
  induction rows with
  | nil => intro r hr; cases hr
  | cons a rows ih =>
    simp only [List.map_cons, List.sum_cons] at h
    intro r hr
    rcases List.mem_cons.1 hr with rfl | hr
    · exact List.eq_nil_of_length_eq_zero (by omega)
    · exact ih (by omega) r hr
theorem qlen_pos {rows : List (List ByteArray)} (h : 0 < qlen rows) : ∃ r ∈ rows, r ≠ [] := by
  apply Classical.byContradiction
  intro hn
  have : qlen rows = 0 := by
    unfold qlen
    clear h
    induction rows with
    | nil => rfl
    | cons a rows ih =>
      have ha : a = [] := Classical.byContradiction fun h => hn ⟨a, by simp, h⟩
      have hi := ih fun ⟨r, hr, h⟩ => hn ⟨r, by simp [hr], h⟩
      simp [ha, hi]
  omega
theorem qlen_set {rows : List (List ByteArray)} {i : Nat} {r : List ByteArray} (h : rows[i]? = some r) (r' : List ByteArray) : qlen (rows.set i r') + r.length = qlen rows + r'.length := by
  unfold qlen
  induction rows generalizing i with
  | nil => simp at h
  | cons a rows ih =>
    cases i with
    | zero => simp at h; subst h; simp; omega
    | succ i =>
      simp only [List.getElem?_cons_succ] at h
      have := ih h
      simp only [List.set_cons_succ, List.map_cons, List.sum_cons]
      omega
theorem qlen_replicate (n : Nat) : qlen (List.replicate n []) = 0 := by simp [qlen, List.map_replicate]
theorem set_le {rows : List (List ByteArray)} {pl i : Nat} {r : List ByteArray} (h : ∀ r ∈ rows, r.length ≤ pl) (hr : r.length ≤ pl) : ∀ r' ∈ rows.set i r, r'.length ≤ pl := fun r' hr' => by
  rcases List.mem_or_eq_of_mem_set hr' with h1 | rfl
  · exact h r' h1
  · exact hr
end Go.Proofs.Ytmffpeblcaalgaa
