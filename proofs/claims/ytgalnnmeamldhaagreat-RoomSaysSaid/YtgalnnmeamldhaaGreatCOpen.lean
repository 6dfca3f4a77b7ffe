/-
  What a slice that comes in holds, read as a list.
-/
import Derived.Test.YtgalnnmeamldhaaGreatCBase
import Derived.ChangeArms
import Derived.ChangeSlices
import Derived.DataReads
/- What a slice that comes in holds, read as a list. -/
set_option linter.unusedVariables false
set_option linter.unusedSimpArgs false
namespace Go.Proofs.YtgalnnmeamldhaaGreat.Pal
open Go Go.RowKit

/-- A slice that is read: its elements, each of size cells. -/
structure RdS {α : Type} (w : World) (size : Nat) (R : α → List Value → Prop) (A : Option Addr) (n : Nat) (xs : List α) : Prop where
  len : xs.length = n
  max : n ≤ maxLen
  get : 0 < n → ∃ b o, A = some ⟨b, o, none⟩ ∧ b < w.heap.size ∧ ∀ (i : Nat) (x : α), xs[i]? = some x → ∃ c : List Value, c.length = size ∧ R x c ∧ ∀ (j : Nat) (u : Value), c[j]? = some u → w.cell? ⟨b, o + i * size + j, none⟩ = some u
theorem RdS.unch {α : Type} {w w1 : World} {size : Nat} {R R' : α → List Value → Prop} {A : Option Addr} {n : Nat} {xs : List α} {X : Nat → Prop} (h : RdS w size R A n xs) (hu : Unch X w w1) (hX : ∀ k, k < w.heap.size → ¬ X k) (hR : ∀ x c, R x c → R' x c) : RdS w1 size R' A n xs :=
  ⟨h.len, h.max, fun hn => by
    obtain ⟨b, o, hA, hb, hc⟩ := h.get hn
    refine ⟨b, o, hA, Nat.lt_of_lt_of_le hb hu.size, fun i x hx => ?_⟩
    obtain ⟨c, h1, h2, h3⟩ := hc i x hx
    exact ⟨c, h1, hR x c h2, fun j u hj => hu.cell (h3 j u hj) (hX b hb)⟩⟩
/-- Element i. -/
theorem RdS.at {α : Type} {w : World} {size : Nat} {R : α → List Value → Prop} {A : Option Addr} {n : Nat} {xs : List α} (h : RdS w size R A n xs) {i : Nat} {x : α} (hx : xs[i]? = some x) :
    ∃ b o c, A = some ⟨b, o, none⟩ ∧ b < w.heap.size ∧ c.length = size ∧ R x c ∧ ∀ (j : Nat) (u : Value), c[j]? = some u → w.cell? ⟨b, o + i * size + j, none⟩ = some u := by
  have hi : i < n := by rw [← h.len]; exact (List.getElem?_eq_some_iff.1 hx).1
  obtain ⟨b, o, hA, hb, hc⟩ := h.get (by omega)
  obtain ⟨c, h1, h2, h3⟩ := hc i x hx
  exact ⟨b, o, c, hA, hb, h1, h2, h3⟩

theorem exists_list {α : Type} {Q : Nat → α → Prop} : ∀ n, (∀ i, i < n → ∃ x, Q i x) → ∃ xs : List α, xs.length = n ∧ ∀ (i : Nat) (x : α), xs[i]? = some x → Q i x
  | 0, _ => ⟨[], rfl, fun i x h => by simp at h⟩
  | n + 1, h => by
    obtain ⟨xs, hl, hx⟩ := exists_list n (fun i hi => h i (by omega))
    obtain ⟨y, hy⟩ := h n (by omega)
    refine ⟨xs ++ [y], by simp [hl], fun i x hix => ?_⟩
    rcases Nat.lt_or_ge i xs.length with hi | hi
    · rw [List.getElem?_append_left hi] at hix
      exact hx i x hix
    · have : i = n := by
        have := (List.getElem?_eq_some_iff.1 hix).1
        simp [hl] at this hi
        omega
      subst this
      rw [List.getElem?_append_right hi, ← hl] at hix
      simp at hix
      exact hix ▸ hy

section
variable {P : Program} {H : Type} {enc : TypeId × Value → H} {w : World} {base : Nat} {spare : Nat → Bool} {held : Bool}
theorem cells?_get {a : Addr} {n : Nat} {cs : List Value} (h : w.cells? base a n = some cs) : cs.length = n ∧ ∀ (j : Nat) (u : Value), cs[j]? = some u → w.cell? (a.add j) = some u := by
  obtain ⟨h0, h1, h2⟩ := World.cells?_some h
  refine ⟨h1, fun j u hj => ?_⟩
  have hj' : j < n := by rw [← h1]; exact (List.getElem?_eq_some_iff.1 hj).1
  rw [h2 j hj', hj]
theorem open_slice {α : Type} {t e : TypeId} {fuel size : Nat} {cs : List Value} {x : DataW H × List MemPlace} (ht : P.underlying t = some (.slice e)) (hc : P.cellsOf e = size) (hsz : 0 < size) (R : α → List Value → Prop)
    (hel : ∀ (fuel : Nat) (cs : List Value) (y : DataW H × List MemPlace), DataW.trod enc P w base spare held fuel e cs = some y → ∃ z : α, R z cs)
    (h : DataW.trod enc P w base spare held fuel t cs = some x) : ∃ A len cap xs, cs = [.slice A len cap] ∧ len ≤ cap ∧ (A = none → cap = 0) ∧ RdS w size R A len xs := by
  rcases DataW.trod_slice ht h with ⟨rfl, _⟩ | ⟨a, len, cap, elems, rest, n, _, rfl, _, hb, hl, hm, hlen, hget, _, _⟩
  · exact ⟨none, 0, 0, [], rfl, Nat.le_refl _, fun _ => rfl, rfl, Nat.zero_le _, fun h => absurd h (by omega)⟩
  · have each : ∀ i, i < len → ∃ z : α, ∃ c : List Value, c.length = size ∧ R z c ∧ ∀ (j : Nat) (u : Value), c[j]? = some u → w.cell? ((a.add (i * size)).add j) = some u := by
      intro i hi
      have h1 := hget i hi
      rw [List.getElem?_eq_getElem (by omega), hc, Option.bind_eq_some_iff] at h1
      obtain ⟨c, hcs, hy⟩ := h1
      obtain ⟨z, hz⟩ := hel n c _ hy
      obtain ⟨g1, g2⟩ := cells?_get hcs
      exact ⟨z, c, g1, hz, g2⟩
    obtain ⟨xs, hxl, hxs⟩ := exists_list len each
    refine ⟨some a, len, cap, xs, rfl, hl, fun h => (by cases h), hxl, by omega, fun hn => ?_⟩
    obtain ⟨c0, hc0, _, hcell0⟩ := hxs 0 _ (List.getElem?_eq_getElem (by omega))
    have hsp : a.spot = none ∧ a.block < w.heap.size := by
      have h2 := hcell0 0 _ (List.getElem?_eq_getElem (by omega))
      have : (a.add (0 * size)).add 0 = a := by simp [Addr.add]
      rw [this] at h2
      exact ⟨World.cell?_spot h2, World.block_lt_of_cell? w a h2⟩
    obtain ⟨b, o, s⟩ := a
    obtain ⟨rfl, hblt⟩ := hsp
    refine ⟨b, o, rfl, hblt, fun i x hx => ?_⟩
    obtain ⟨c, h1, h2, h3⟩ := hxs i x hx
    refine ⟨c, h1, h2, fun j u hj => ?_⟩
    have := h3 j u hj
    rwa [Addr.add_lit, Addr.add_lit] at this
end
theorem u8_wf {x : Int} (h : (Lit.int .u8 x).wf = true) : 0 ≤ x ∧ x ≤ 255 := by
  simp [Lit.wf, IntKind.min, IntKind.max, IntKind.signed, IntKind.bits] at h
  omega
def i64ok (x : Int) : Prop := -9223372036854775808 ≤ x ∧ x ≤ 9223372036854775807
theorem i64_wf {x : Int} (h : (Lit.int .i64 x).wf = true) : i64ok x := by
  simp [Lit.wf, IntKind.min, IntKind.max, IntKind.signed, IntKind.bits] at h
  unfold i64ok
  omega
theorem list3 {α : Type} {l : List α} (h : l.length = 3) : ∃ a b c, l = [a, b, c] := by
  match l, h with
  | [a, b, c], _ => exact ⟨a, b, c, rfl⟩
theorem list5 {α : Type} {l : List α} (h : l.length = 5) : ∃ a b c d e, l = [a, b, c, d, e] := by
  match l, h with
  | [a, b, c, d, e], _ => exact ⟨a, b, c, d, e, rfl⟩
theorem get_some {α : Type} {l : List α} {n : Nat} (hl : l.length = n) {i : Nat} (hi : i < n) : ∃ x, l[i]? = some x := ⟨_, List.getElem?_eq_getElem (by omega)⟩
end Go.Proofs.YtgalnnmeamldhaaGreat.Pal
