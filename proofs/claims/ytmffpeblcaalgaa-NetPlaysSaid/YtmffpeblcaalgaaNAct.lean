/-
  An act of palaverlaw21, as it comes in.
-/
import Derived.Test.YtmffpeblcaalgaaNLaws
import Derived.Test.YtmffpeblcaalgaaOpen
set_option linter.unusedVariables false
set_option linter.unusedSimpArgs false
namespace Go.Proofs.Ytmffpeblcaalgaa
open Go Go.RowKit Go.Proofs.Ytmffpeblcaalgaa.Pal

structure NAct where
  k : Int
  a : Int
  b : Int
  n : Int
  t : ByteArray
def NActR (x : NAct) (c : List Value) : Prop := c = [.int .i64 x.k, .int .i64 x.a, .int .i64 x.b, .int .i64 x.n, .string x.t]
theorem open_nact {H : Type} {enc : TypeId × Value → H} {w : World} {base : Nat} {spare : Nat → Bool} {held : Bool} (fuel : Nat) (cs : List Value) (y : DataW H × List MemPlace)
    (h : DataW.trod enc Try.prog w base spare held fuel 61 cs = some y) : ∃ z : NAct, NActR z cs := by
  obtain ⟨xs, n, rfl, _, hl, hxl, hf⟩ := DataW.trod_struct Try.underlying61 h
  obtain ⟨c0, c1, c2, c3, c4, rfl⟩ := list5 (show cs.length = 5 from hl)
  obtain ⟨x0, e0⟩ := get_some (n := 5) hxl (i := 0) (by decide)
  obtain ⟨x1, e1⟩ := get_some (n := 5) hxl (i := 1) (by decide)
  obtain ⟨x2, e2⟩ := get_some (n := 5) hxl (i := 2) (by decide)
  obtain ⟨x3, e3⟩ := get_some (n := 5) hxl (i := 3) (by decide)
  obtain ⟨x4, e4⟩ := get_some (n := 5) hxl (i := 4) (by decide)
  obtain ⟨m0, h0, _, g0⟩ := DataW.trod_int Try.underlying3 ((hf 0 _ rfl).trans e0)
  obtain ⟨m1, h1, _, g1⟩ := DataW.trod_int Try.underlying3 ((hf 1 _ rfl).trans e1)
  obtain ⟨m2, h2, _, g2⟩ := DataW.trod_int Try.underlying3 ((hf 2 _ rfl).trans e2)
  obtain ⟨m3, h3, _, g3⟩ := DataW.trod_int Try.underlying3 ((hf 3 _ rfl).trans e3)
  obtain ⟨m4, h4, _, g4⟩ := DataW.trod_string Try.underlying9 ((hf 4 _ rfl).trans e4)
  have h0' : [c0] = [.int .i64 m0] := h0
  have h1' : [c1] = [.int .i64 m1] := h1
  have h2' : [c2] = [.int .i64 m2] := h2
  have h3' : [c3] = [.int .i64 m3] := h3
  have h4' : [c4] = [.string m4] := h4
  injection h0' with h0'
  injection h1' with h1'
  injection h2' with h2'
  injection h3' with h3'
  injection h4' with h4'
  subst h0'; subst h1'; subst h2'; subst h3'; subst h4'
  exact ⟨⟨m0, m1, m2, m3, m4⟩, rfl⟩
theorem nact_arr {H : Type} {enc : TypeId × Value → H} {w : World} {base : Nat} {spare : Nat → Bool} {held : Bool} {fuel : Nat} {cs : Array Value} {y : DataW H × List MemPlace}
    (h : DataW.trod enc Try.prog w base spare held fuel 61 cs.toList = some y) : ∃ z : NAct, cs = #[.int .i64 z.k, .int .i64 z.a, .int .i64 z.b, .int .i64 z.n, .string z.t] := by
  obtain ⟨z, hz⟩ := open_nact fuel _ _ h
  exact ⟨z, by apply Array.toList_inj.1; rw [hz]⟩
end Go.Proofs.Ytmffpeblcaalgaa
