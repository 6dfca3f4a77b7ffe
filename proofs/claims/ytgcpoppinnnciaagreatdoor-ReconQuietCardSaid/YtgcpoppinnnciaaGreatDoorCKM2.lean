/-
  member.Members.
  Rows that grow: of strings, of entries.
  What is said, as it comes in; what Laid hands over.
-/
import Derived.RangeFuncBox
import Derived.Test.YtgcpoppinnnciaaGreatDoorCMG1
import Derived.Test.YtgcpoppinnnciaaGreatDoorCMRef17
/- member.Members. -/
set_option linter.unusedVariables false
set_option linter.unusedSimpArgs false
namespace Go.Proofs.YtgcpoppinnnciaaGreatDoor
open Go Go.RowKit Go.Proofs.YtgcpoppinnnciaaGreatDoor.Pal Go.Proofs.YtgcpoppinnnciaaGreatDoor.Plan
attribute [local go_sem] Oper.semAt_some

end Go.Proofs.YtgcpoppinnnciaaGreatDoor
/- Rows that grow: of strings, of entries. -/
set_option linter.unusedVariables false
set_option linter.unusedSimpArgs false
namespace Go.Proofs.YtgcpoppinnnciaaGreatDoor
open Go Go.RowKit Go.Proofs.YtgcpoppinnnciaaGreatDoor.Pal Go.Proofs.YtgcpoppinnnciaaGreatDoor.Plan

theorem SMid.app1 {w wr w2 : World} {v v2 : Value} {m : Nat} {ys : List ByteArray} {x : ByteArray} (h : SMid w wr v m ys) (hr : Row w2 9 1 v2 (m + 1) (sv ys ++ [.string x])) (hu : Unch (fun k => v.ownBlock = some k) wr w2)
    (hat : v2.ownBlock = v.ownBlock ∨ ∃ b, v2.ownBlock = some b ∧ wr.heap.size ≤ b) : SMid w w2 v2 (m + 1) (ys ++ [x]) := by
  have := h.app hr hu hat
  rw [show gapS ys m x = ys ++ [x] by rw [← h.len]; exact gapS_end ys x] at this
  exact this
structure EMid (w wr : World) (v : Value) (es : List Ent) : Prop where
  hu : Unch none_ w wr
  own : ∀ b, v.ownBlock = some b → w.heap.size ≤ b
  row : Row wr 114 5 v es.length (ecells es)
theorem EMid.rd {w wr : World} {A : Option Addr} {n c : Nat} {es : List Ent} (h : EMid w wr (.slice A n c) es) (hn : n = es.length) (hE : ∀ e ∈ es, EntOk wr e) : Ents wr A n es := by
  subst hn
  refine ⟨⟨rfl, h.row.max, fun hn => ?_⟩, hE⟩
  obtain ⟨g, o, cap, cur, hv, hh, _⟩ := h.row.form hn
  injection hv with h1 h2 h3
  refine ⟨g, o, h1, lt_of_heap hh, fun i x hx => ⟨x.cells, rfl, rfl, fun j u hj => ?_⟩⟩
  have := h.row.at (by rw [h1]) (ecells_get es i j x u hx hj)
  rw [← Nat.add_assoc] at this
  exact this
theorem EMid.fresh {w wr w2 : World} {v : Value} {es : List Ent} (h : EMid w wr v es) (hu : Unch none_ wr w2) : EMid w w2 v es := ⟨h.hu.trans hu, h.own, h.row.unch hu (fun _ _ h => h)⟩
theorem EMid.app {w wr w2 : World} {v v2 : Value} {es : List Ent} {e : Ent} (h : EMid w wr v es) (hr : Row w2 114 5 v2 (es.length + 1) (ecells es ++ e.cells)) (hu : Unch (fun k => v.ownBlock = some k) wr w2)
    (hat : v2.ownBlock = v.ownBlock ∨ ∃ b, v2.ownBlock = some b ∧ wr.heap.size ≤ b) : EMid w w2 v2 (es ++ [e]) := by
  refine ⟨h.hu.step hu (fun k hk hb => absurd (h.own k hb) (by omega)), fun b hb => ?_, ?_⟩
  · rcases hat with h1 | ⟨b', h1, h2⟩
    · exact h.own b (h1 ▸ hb)
    · rw [h1] at hb; injection hb with hb; have := h.hu.size; omega
  · rw [ecells_app, List.length_append, List.length_singleton]
    exact hr
theorem at_ix (x : Int) (n : Nat) (h0 : 0 < n) (hn : n ≤ 100) : ∃ k : Nat, k < n ∧ wrap64 ((IntKind.u64.wrap x).tmod (n : Int)) = (k : Int) := by
  have h0' : 0 ≤ IntKind.u64.wrap x := by rw [IntKind.wrap_u64]; omega
  have h1 : 0 ≤ (IntKind.u64.wrap x).tmod (n : Int) := Int.tmod_nonneg _ h0'
  have h2 : (IntKind.u64.wrap x).tmod (n : Int) < n := Int.tmod_lt_of_pos _ (by omega)
  generalize (IntKind.u64.wrap x).tmod (n : Int) = z at h1 h2
  refine ⟨z.toNat, by omega, ?_⟩
  unfold wrap64
  omega
end Go.Proofs.YtgcpoppinnnciaaGreatDoor
/- What is said, as it comes in; what Laid hands over. -/
set_option linter.unusedVariables false
set_option linter.unusedSimpArgs false
namespace Go.Proofs.YtgcpoppinnnciaaGreatDoor
open Go Go.RowKit Go.Proofs.YtgcpoppinnnciaaGreatDoor.Pal Go.Proofs.YtgcpoppinnnciaaGreatDoor.Plan

def SayRW (w : World) (x : Say) (c : List Value) : Prop := SayR x c ∧ SayOk w x
theorem open_intr {H : Type} {enc : TypeId × Value → H} {w : World} {base : Nat} {spare : Nat → Bool} {held : Bool} (fuel : Nat) (cs : List Value) (y : DataW H × List MemPlace)
    (h : DataW.trod enc Tryz.prog w base spare held fuel 3 cs = some y) : ∃ z : Int, IntR z cs := by
  obtain ⟨m0, h0, _, w0⟩ := DataW.trod_int Tryz.underlying3 h
  exact ⟨m0, h0, i64_wf w0⟩
theorem says_of {w : World} {A : Option Addr} {n : Nat} {l : List Say} (h : RdS w 5 (SayRW w) A n l) : Says w A n l :=
  ⟨h.unch (Unch.refl none_ w) (fun _ _ h => h) (fun _ _ h => h.1), fun x hx => by
    obtain ⟨i, hi⟩ := List.mem_iff_getElem?.1 hx
    obtain ⟨b, o, c, _, _, _, hr, _⟩ := h.at hi
    exact hr.2⟩
/-! ### What Laid hands over -/
structure Lds (w : World) (A : Option Addr) (n c : Nat) (l : List Ent) : Prop where
  ents : Ents w A n l
  hc : n ≤ c
  clB : closedB l = true
  root : rootN rootB l = some 0
  rootA : (ent l 0).author = keyB 0
  pos : 0 < l.length
theorem lds_of {w w' : World} {A : Option Addr} {n c : Nat} {es : List Ent} {k : Nat} (h : LMid w w' (.slice A n c) es) (hl : LdOk es k) (hn : n = es.length) (hc : n ≤ c) : Lds w' A n c es := by
  obtain ⟨b, hb⟩ := hl.root
  have he := ent_of hb
  have hpos : 0 < es.length := by have := hl.len; omega
  have hid : (ent es 0).id = rootB := by rw [he]
  have hk : (ent es 0).kind = 1 := by rw [he]
  refine ⟨h.rd hn, hc, closed_iff.2 hl.cl, ?_, by rw [he], hpos⟩
  unfold rootN
  rw [← hid, hl.cl.find hpos]
  simp [hk]
theorem Lds.fresh {w w' : World} {A : Option Addr} {n c : Nat} {l : List Ent} (h : Lds w A n c l) (hu : Unch none_ w w') : Lds w' A n c l := ⟨h.ents.fresh hu, h.hc, h.clB, h.root, h.rootA, h.pos⟩
theorem Lds.cl {w : World} {A : Option Addr} {n c : Nat} {l : List Ent} (h : Lds w A n c l) : Closed l := closed_iff.1 h.clB
theorem Lds.len {w : World} {A : Option Addr} {n c : Nat} {l : List Ent} (h : Lds w A n c l) : l.length = n := h.ents.len
theorem Lds.n3 {w : World} {A : Option Addr} {n c : Nat} {l : List Ent} (h : Lds w A n c l) : n ≤ 300 := by rw [← h.len]; exact h.cl.len
theorem Lds.ok {w : World} {A : Option Addr} {n c : Nat} {l : List Ent} (h : Lds w A n c l) : (goodS l 0).Ok := ⟨h.cl, h.pos, (rootN_some h.root).2.2⟩
theorem Lds.good {w : World} {A : Option Addr} {n c : Nat} {l : List Ent} (h : Lds w A n c l) : Calls Tryz.prog 163 #[.string rootB, .slice A n c] w (MadeB w n (goodL l 0)) := good_ok h.ents h.hc rootB (by decide) h.clB h.root
end Go.Proofs.YtgcpoppinnnciaaGreatDoor
