/-
  Entries of chapter 12, as a row that grows.
-/
import Derived.Test.YtgalnnmeamldhaaGreatCTO2
/- Entries of chapter 12, as a row that grows. -/
set_option linter.unusedVariables false
set_option linter.unusedSimpArgs false
namespace Go.Proofs.YtgalnnmeamldhaaGreat
open Go Go.RowKit Go.Proofs.YtgalnnmeamldhaaGreat.Pal Go.Proofs.YtgalnnmeamldhaaGreat.Plan

def Ent.rcells (e : Ent) : List Value := [.string e.id, e.pv]
def rcells (es : List Ent) : List Value := es.flatMap Ent.rcells
theorem rcells_get : ∀ (es : List Ent) (i j : Nat) (e : Ent) (u : Value), es[i]? = some e → e.rcells[j]? = some u → (rcells es)[i * 2 + j]? = some u
  | [], i, j, e, u, h, _ => by simp at h
  | a :: es, 0, j, e, u, h, hu => by
    have : a = e := by simpa using h
    subst this
    have hj : j < a.rcells.length := (List.getElem?_eq_some_iff.1 hu).1
    unfold rcells
    rw [List.flatMap_cons, Nat.zero_mul, Nat.zero_add, List.getElem?_append_left hj]
    exact hu
  | a :: es, i + 1, j, e, u, h, hu => by
    have h' : es[i]? = some e := by simpa using h
    have ih := rcells_get es i j e u h' hu
    unfold rcells at *
    rw [List.flatMap_cons, List.getElem?_append_right (by show 2 ≤ _; omega)]
    have : (i + 1) * 2 + j - a.rcells.length = i * 2 + j := by show (i + 1) * 2 + j - 2 = _; omega
    rw [this]
    exact ih
theorem rcells_app (es : List Ent) (e : Ent) : rcells (es ++ [e]) = rcells es ++ e.rcells := by simp [rcells]
theorem info_rent : (Tryz.prog.info? 37).map (fun i => (i.zero, i.size, i.bytes)) = some (some (.agg #[.string ⟨#[]⟩, .slice none 0 0]), 2, 40) := by kernel_rfl
structure RMid (w wr : World) (v : Value) (es : List Ent) : Prop where
  hu : Unch none_ w wr
  own : ∀ b, v.ownBlock = some b → w.heap.size ≤ b
  row : Row wr 37 2 v es.length (rcells es)
theorem RMid.rd {w wr : World} {A : Option Addr} {n c : Nat} {es : List Ent} (h : RMid w wr (.slice A n c) es) (hn : n = es.length) (hE : ∀ e ∈ es, EntOk wr e) : REnts wr A n es := by
  subst hn
  refine ⟨⟨rfl, h.row.max, fun hn => ?_⟩, hE⟩
  obtain ⟨g, o, cap, cur, hv, hh, _⟩ := h.row.form hn
  injection hv with h1 h2 h3
  refine ⟨g, o, h1, lt_of_heap hh, fun i x hx => ⟨x.rcells, rfl, rfl, fun j u hj => ?_⟩⟩
  have := h.row.at (by rw [h1]) (rcells_get es i j x u hx hj)
  rw [← Nat.add_assoc] at this
  exact this
theorem RMid.app {w wr w2 : World} {v v2 : Value} {es : List Ent} {e : Ent} (h : RMid w wr v es) (hr : Row w2 37 2 v2 (es.length + 1) (rcells es ++ e.rcells)) (hu : Unch (fun k => v.ownBlock = some k) wr w2)
    (hat : v2.ownBlock = v.ownBlock ∨ ∃ b, v2.ownBlock = some b ∧ wr.heap.size ≤ b) : RMid w w2 v2 (es ++ [e]) := by
  refine ⟨h.hu.step hu (fun k hk hb => absurd (h.own k hb) (by omega)), fun b hb => ?_, ?_⟩
  · rcases hat with h1 | ⟨b', h1, h2⟩
    · exact h.own b (h1 ▸ hb)
    · rw [h1] at hb; injection hb with hb; have := h.hu.size; omega
  · rw [rcells_app, List.length_append, List.length_singleton]
    exact hr
theorem take_ent {es : List Ent} {i : Nat} (h : i < es.length) : es.take (i + 1) = es.take i ++ [ent es i] := by
  rw [List.take_add_one, ent_get h]; rfl
theorem ent_len {l : List Ent} (i n : Nat) (h : n = l.length) (hi : i ≤ n) : (l.take i).length = i := by rw [List.length_take]; omega
end Go.Proofs.YtgalnnmeamldhaaGreat
