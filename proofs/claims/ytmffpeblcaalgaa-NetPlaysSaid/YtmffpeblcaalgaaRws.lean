/-
  Rows of rows: a row of slices, each with a row of its own.
-/
import Derived.Test.YtmffpeblcaalgaaBase
set_option linter.unusedVariables false
set_option linter.unusedSimpArgs false
namespace Go.Proofs.Ytmffpeblcaalgaa.Pal
open Go Go.RowKit

theorem Row.store {w : World} {e : TypeId} {n : Nat} {v : Value} {xs : List Value} (h : Row w e 1 v n xs) {g o c : Nat} (hv : v = .slice (some ⟨g, o, none⟩) n c) (j : Nat) (hj : j < n) (u : Value) :
    Row (w.setCell ⟨g, o + j, none⟩ u) e 1 v n (xs.set j u) := by
  refine ⟨by rw [List.length_set]; exact h.1, ?_⟩
  subst hv
  rcases h.2 with ⟨h0, _⟩ | ⟨g', o', cap, cur, h1, hh, hn, hm, hs, ht⟩
  · cases h0
  · injection h1 with h1 h3 h4
    injection h1 with h1
    injection h1 with h1 h2
    subst h1; subst h2; subst h4
    refine .inr ⟨g, o, c, _, rfl, blk_set hh _ _, hn, hm, by simpa using hs, ?_⟩
    rw [Array.toList_setIfInBounds, ← ht]
    apply List.ext_getElem?
    intro k
    simp only [Nat.mul_one, List.getElem?_take, List.getElem?_drop, List.getElem?_set, List.length_take, List.length_drop, Array.length_toList]
    by_cases hk : k < n <;> by_cases hjk : j = k
    · subst hjk
      have : o + j < cur.size := by omega
      simp [hk, this]
      omega
    · have : o + j ≠ o + k := by omega
      simp [hk, hjk, this]
    · simp [hk]; intro h; omega
    · simp [hk, hjk]

structure Rws (w : World) (eo ei L : Nat) (vs : List Value) (rows : List (List Value)) : Prop where
  hL : w.heap[L]? = some (.cells vs.toArray eo (0, 0))
  len : vs.length = rows.length
  row : ∀ (i : Nat) (v : Value) (r : List Value), vs[i]? = some v → rows[i]? = some r → Row w ei 1 v r.length r
  apart : ∀ (i j : Nat) (u v : Value) (k : Nat), vs[i]? = some u → vs[j]? = some v → u.ownBlock = some k → v.ownBlock = some k → i = j
def rfoot (L : Nat) (vs : List Value) : Nat → Prop := fun k => k = L ∨ ∃ v ∈ vs, v.ownBlock = some k
section
variable {w w1 : World} {eo ei L : Nat} {vs : List Value} {rows : List (List Value)}
theorem Rws.rowne (h : Rws w eo ei L vs rows) (he : eo ≠ ei) {i : Nat} {v : Value} (hv : vs[i]? = some v) {k : Nat} (hk : v.ownBlock = some k) : k ≠ L := by
  have hi : i < rows.length := by rw [← h.len]; exact (List.getElem?_eq_some_iff.1 hv).1
  obtain ⟨cur, hc⟩ := (h.row i v _ hv (List.getElem?_eq_getElem hi)).blk hk
  intro e; have h1 := h.hL; rw [← e, hc] at h1; injection h1 with h1; injection h1 with _ h1; exact he h1.symm
theorem Rws.lt (h : Rws w eo ei L vs rows) {k : Nat} (hk : rfoot L vs k) : k < w.heap.size := by
  rcases hk with rfl | ⟨v, hv, hk⟩
  · exact lt_of_heap h.hL
  · obtain ⟨i, hi⟩ := List.getElem?_of_mem hv
    have hil : i < rows.length := by rw [← h.len]; exact (List.getElem?_eq_some_iff.1 hi).1
    obtain ⟨cur, hc⟩ := (h.row i v _ hi (List.getElem?_eq_getElem hil)).blk hk
    exact lt_of_heap hc
theorem Rws.unch {X : Nat → Prop} (h : Rws w eo ei L vs rows) (hu : Unch X w w1) (hX : ∀ k, rfoot L vs k → ¬ X k) : Rws w1 eo ei L vs rows :=
  ⟨hu.heap h.hL (hX _ (.inl rfl)), h.len, fun i v r hv hr => (h.row i v r hv hr).unch hu (fun k hk => hX k (.inr ⟨v, List.mem_of_getElem? hv, hk⟩)), h.apart⟩
theorem Rws.set (h : Rws w eo ei L vs rows) (he : eo ≠ ei) {i : Nat} {v v' : Value} {r' : List Value} (hv : vs[i]? = some v) (hr : Row w1 ei 1 v' r'.length r')
    (hu : Unch (fun k => v.ownBlock = some k) w w1) (hat : ∀ k, v'.ownBlock = some k → v.ownBlock = some k ∨ w.heap.size ≤ k) :
    Rws (w1.setCell ⟨L, i, none⟩ v') eo ei L (vs.set i v') (rows.set i r') ∧ Unch (rfoot L vs) w (w1.setCell ⟨L, i, none⟩ v') ∧ ∀ k, rfoot L (vs.set i v') k → rfoot L vs k ∨ w.heap.size ≤ k := by
  have hil : i < vs.length := (List.getElem?_eq_some_iff.1 hv).1
  have hBo : ∀ k, v.ownBlock = some k → k ≠ L := fun k hk => h.rowne he hv hk
  have hL1 := hu.heap h.hL (fun hk => hBo L hk rfl)
  have hv'L : ∀ k, v'.ownBlock = some k → k ≠ L := fun k hk e => by
    rcases hat k hk with h1 | h1
    · exact hBo k h1 e
    · have := lt_of_heap h.hL; omega
  have hin : ∀ j, j ≠ i → ∀ u, vs[j]? = some u → ∀ k, u.ownBlock = some k → v.ownBlock ≠ some k := fun j hj u hu' k hk hvk => hj (h.apart j i u v k hu' hv hk hvk)
  refine ⟨⟨?_, by simp [h.len], ?_, ?_⟩, ?_, ?_⟩
  · rw [blk_set hL1 i v']; simp
  · intro j u r hju hjr
    by_cases hji : j = i
    · subst hji
      rw [List.getElem?_set_self (by omega)] at hju
      rw [List.getElem?_set_self (by rw [← h.len]; exact hil)] at hjr
      obtain rfl := Option.some.inj hju
      obtain rfl := Option.some.inj hjr
      exact hr.move fun k hk => Below.heap_setCell _ _ _ _ (hv'L k hk)
    · rw [List.getElem?_set_ne (Ne.symm hji)] at hju hjr
      have h1 := (h.row j u r hju hjr).unch hu (fun k hk => hin j hji u hju k hk)
      exact h1.move fun k hk => Below.heap_setCell _ _ _ _ (h.rowne he hju hk)
  · intro a b u x k hu1 hx1 hk hk'
    by_cases ha : a = i <;> by_cases hb : b = i
    · rw [ha, hb]
    · subst ha
      rw [List.getElem?_set_self (by omega)] at hu1
      rw [List.getElem?_set_ne (Ne.symm hb)] at hx1
      obtain rfl := Option.some.inj hu1
      rcases hat k hk with h1 | h1
      · exact absurd h1 (hin b hb x hx1 k hk')
      · have := h.lt (.inr ⟨x, List.mem_of_getElem? hx1, hk'⟩); omega
    · subst hb
      rw [List.getElem?_set_self (by omega)] at hx1
      rw [List.getElem?_set_ne (Ne.symm ha)] at hu1
      obtain rfl := Option.some.inj hx1
      rcases hat k hk' with h1 | h1
      · exact absurd h1 (hin a ha u hu1 k hk)
      · have := h.lt (.inr ⟨u, List.mem_of_getElem? hu1, hk⟩); omega
    · rw [List.getElem?_set_ne (Ne.symm ha)] at hu1
      rw [List.getElem?_set_ne (Ne.symm hb)] at hx1
      exact h.apart a b u x k hu1 hx1 hk hk'
  · exact (hu.mono (fun k _ hk => .inr ⟨v, List.mem_of_getElem? hv, hk⟩)).setCell _ (fun _ => .inl rfl)
  · rintro k (rfl | ⟨u, hu', hk⟩)
    · exact .inl (.inl rfl)
    · rcases List.mem_or_eq_of_mem_set hu' with h1 | rfl
      · exact .inl (.inr ⟨u, h1, hk⟩)
      · rcases hat k hk with h1 | h1
        · exact .inl (.inr ⟨v, List.mem_of_getElem? hv, h1⟩)
        · exact .inr h1
/-- A row's cells. -/
theorem Rws.cells (h : Rws w eo ei L vs rows) {i : Nat} {r : List Value} (hr : rows[i]? = some r) :
    ∃ A c, vs[i]? = some (.slice A r.length c) ∧ r.length ≤ c ∧ Row w ei 1 (.slice A r.length c) r.length r ∧ w.cell? ⟨L, i, none⟩ = some (.slice A r.length c) := by
  have hi : i < vs.length := by rw [h.len]; exact (List.getElem?_eq_some_iff.1 hr).1
  have hv : vs[i]? = some vs[i] := List.getElem?_eq_getElem hi
  have hrow := h.row i _ r hv hr
  obtain ⟨A, c, hvA, hlc⟩ := hrow.slice
  rw [hvA] at hv hrow
  exact ⟨A, c, hv, hlc, hrow, blk_cell h.hL (j := i) (by rw [List.getElem?_toArray]; exact hv)⟩
/-- A cell of a row is written. -/
theorem Rws.put (h : Rws w eo ei L vs rows) (he : eo ≠ ei) {i j : Nat} {g o c n : Nat} {r : List Value} (hv : vs[i]? = some (.slice (some ⟨g, o, none⟩) n c)) (hr : rows[i]? = some r) (hj : j < r.length) (u : Value) :
    Rws (w.setCell ⟨g, o + j, none⟩ u) eo ei L vs (rows.set i (r.set j u)) ∧ Unch (rfoot L vs) w (w.setCell ⟨g, o + j, none⟩ u) := by
  have hrow := h.row i _ r hv hr
  have hn : n = r.length := by
    obtain ⟨A, c', he', _⟩ := hrow.slice
    injection he'
  subst hn
  have hgL := h.rowne he hv (k := g) rfl
  have hil : i < rows.length := (List.getElem?_eq_some_iff.1 hr).1
  refine ⟨⟨blk_set_ne h.hL hgL.symm _ _, by simp [h.len], ?_, h.apart⟩, (Unch.refl _ _).setCell _ (fun _ => .inr ⟨_, List.mem_of_getElem? hv, rfl⟩)⟩
  intro a v q hva hqa
  by_cases hai : a = i
  · subst hai
    rw [hv] at hva
    obtain rfl := Option.some.inj hva
    rw [List.getElem?_set_self hil] at hqa
    obtain rfl := Option.some.inj hqa
    rw [List.length_set]
    exact hrow.store rfl j hj u
  · rw [List.getElem?_set_ne (Ne.symm hai)] at hqa
    exact (h.row a v q hva hqa).move fun k hk => Below.heap_setCell _ _ _ _ (fun e => hai (h.apart a i v _ k hva hv hk (by rw [e]; rfl)))
end
theorem madeCells_one (z : Value) (n : Nat) : madeCells #[z] n = Array.replicate n z := by
  apply Array.ext
  · simp [madeCells]
  · intro i h1 h2
    simp [madeCells, Nat.mod_one]
/-- make([][]T, n). -/
theorem Rws.made (w : World) (eo ei n : Nat) : Rws (w.alloc (.cells (madeCells #[.slice none 0 0] n) eo)) eo ei w.heap.size (List.replicate n (.slice none 0 0)) (List.replicate n []) := by
  refine ⟨?_, by simp, ?_, ?_⟩
  · rw [show (List.replicate n (Value.slice none 0 0)).toArray = madeCells #[.slice none 0 0] n by rw [madeCells_one]; simp]
    exact blk_new w _
  · intro i v r hv hr
    obtain rfl := List.eq_of_mem_replicate (List.mem_of_getElem? hv)
    obtain rfl := List.eq_of_mem_replicate (List.mem_of_getElem? hr)
    exact Row.nil _ _ _
  · intro i j u v k hu hv hk
    obtain rfl := List.eq_of_mem_replicate (List.mem_of_getElem? hu)
    cases hk
theorem rfoot_made {L n k : Nat} (h : rfoot L (List.replicate n (.slice none 0 0)) k) : k = L := by
  rcases h with rfl | ⟨v, hv, hk⟩
  · rfl
  · obtain rfl := List.eq_of_mem_replicate hv
    cases hk
/-- make([]T, n): a row of zeros. -/
theorem Row.made (w : World) (e n : Nat) (z : Value) (hn : n ≤ maxLen) : Row (w.alloc (.cells (madeCells #[z] n) e)) e 1 (.slice (some ⟨w.heap.size, 0, none⟩) n n) n (List.replicate n z) := by
  refine ⟨by simp, .inr ⟨_, 0, n, _, rfl, blk_new w _, Nat.le_refl _, hn, by rw [madeCells_one]; simp, ?_⟩⟩
  rw [madeCells_one]
  simp
end Go.Proofs.Ytmffpeblcaalgaa.Pal
