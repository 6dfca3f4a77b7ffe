/-
  RoomRefuses.
-/
import Derived.Test.YtgalnnmeamldhaaGreatCLR1
import Derived.Test.YtgalnnmeamldhaaGreatCSC1
import Derived.Test.YtgalnnmeamldhaaGreatCRL1
/- RoomRefuses. -/
set_option linter.unusedVariables false
set_option linter.unusedSimpArgs false
namespace Go.Proofs.YtgalnnmeamldhaaGreat
open Go Go.RowKit Go.Proofs.YtgalnnmeamldhaaGreat.Pal Go.Proofs.YtgalnnmeamldhaaGreat.Plan

/-- What Laid hands over of n + 1 that are said. -/
def LdR (n : Nat) (v : Value) (w : World) : Prop := ∃ A' n' c' es, v = .slice A' n' c' ∧ Lds w A' n' c' es ∧ LdOk es (n + 1) ∧ n' = n + 2
theorem LdR.fresh {n : Nat} {v : Value} {w w2 : World} (h : LdR n v w) (hu : Unch none_ w w2) : LdR n v w2 := by
  obtain ⟨A', n', c', es, a, b, c, d⟩ := h
  exact ⟨A', n', c', es, a, b.fresh hu, c, d⟩
/-- Laid(append(append([]Say{}, l...), x)) under way: the call (6, s6), what it is assigned to (7, s7). -/
structure LI (w1 : World) (n : Nat) (l : List Say) (xc : List Value) (s0 s2 s4 s5 s6 s7 : Nat) (D : Nat → Bool) (y : Nat → Value) (w' : World) : Prop where
  ap : AP w1 42 5 n (scells l) xc 0 2 4 5 s0 s2 s4 s5 D y w'
  d6 : D 6 = true → LdR n (y s6) w'
  d7 : D 7 = true → LdR n (y s7) w'
  e6 : D 6 = true → D 5 = true
  e7 : D 7 = true → D 6 = true
structure LIn (s0 s2 s4 s5 s6 s7 : Nat) : Prop where
  n : APn 0 2 4 5 s0 s2 s4 s5
  a : s6 ≠ s0 ∧ s6 ≠ s2 ∧ s6 ≠ s4 ∧ s6 ≠ s5
  b : s7 ≠ s0 ∧ s7 ≠ s2 ∧ s7 ≠ s4 ∧ s7 ≠ s5
  c : s6 ≠ s7
section
variable {w1 : World} {n : Nat} {l : List Say} {xc : List Value} {s0 s2 s4 s5 s6 s7 : Nat} {D : Nat → Bool} {y : Nat → Value} {w' w2 : World}
theorem LI.start (hw : Unch none_ w1 w') : LI w1 n l xc s0 s2 s4 s5 s6 s7 (fun _ => false) y w' := ⟨AP.start hw, (fun h => by cases h), (fun h => by cases h), (fun h => by cases h), (fun h => by cases h)⟩
/-- One of the four. -/
theorem LI.of (h : LI w1 n l xc s0 s2 s4 s5 s6 s7 D y w') (N : LIn s0 s2 s4 s5 s6 s7) {i s : Nat} {v : Value} (hi : i ≠ 6 ∧ i ≠ 7) (hs : s6 ≠ s ∧ s7 ≠ s) (hD : D 6 = true → Unch none_ w' w2)
    (ha : AP w1 42 5 n (scells l) xc 0 2 4 5 s0 s2 s4 s5 (fun j => decide (j = i) || D j) (upd y s v) w2) : LI w1 n l xc s0 s2 s4 s5 s6 s7 (fun j => decide (j = i) || D j) (upd y s v) w2 := by
  refine ⟨ha, fun hd => ?_, fun hd => ?_, fun hd => ?_, fun hd => ?_⟩
  · rw [orD_ne hi.1.symm] at hd; rw [upd_ne hs.1]; exact (h.d6 hd).fresh (hD hd)
  · rw [orD_ne hi.2.symm] at hd; rw [upd_ne hs.2]; exact (h.d7 hd).fresh (hD (h.e7 hd))
  · rw [orD_ne hi.1.symm] at hd
    show (_ || D 5) = true
    rw [h.e6 hd, Bool.or_true]
  · rw [orD_ne hi.2.symm] at hd
    show (_ || D 6) = true
    rw [h.e7 hd, Bool.or_true]
theorem LI.call (h : LI w1 n l xc s0 s2 s4 s5 s6 s7 D y w') (h5 : D 5 = true) (N : LIn s0 s2 s4 s5 s6 s7) (hu : Unch none_ w' w2) {v : Value} (hv : LdR n v w2) : LI w1 n l xc s0 s2 s4 s5 s6 s7 (fun j => decide (j = 6) || D j) (upd y s6 v) w2 := by
  obtain ⟨_, ⟨a1, a2, a3, a4⟩, _, c⟩ := N
  refine ⟨h.ap.other hu (by decide) ⟨a1.symm, a2.symm, a3.symm, a4.symm⟩, (fun hd => by rw [upd_at]; exact hv), fun hd => ?_, fun _ => by show (_ || D 5) = true; rw [h5, Bool.or_true], fun _ => rfl⟩
  rw [orD_ne (by decide)] at hd; rw [upd_ne c.symm]; exact (h.d7 hd).fresh hu
theorem LI.put (h : LI w1 n l xc s0 s2 s4 s5 s6 s7 D y w') (N : LIn s0 s2 s4 s5 s6 s7) (h6 : D 6 = true) : LI w1 n l xc s0 s2 s4 s5 s6 s7 (fun j => decide (j = 7) || D j) (upd y s7 (y s6)) w' := by
  obtain ⟨_, _, ⟨b1, b2, b3, b4⟩, c⟩ := N
  refine ⟨h.ap.other (Unch.refl _ _) (by decide) ⟨b1.symm, b2.symm, b3.symm, b4.symm⟩, fun hd => ?_, (fun hd => by rw [upd_at]; exact h.d6 h6), fun _ => by show (_ || D 5) = true; rw [h.e6 h6, Bool.or_true], fun _ => by show (_ || D 6) = true; rw [h6, Bool.or_true]⟩
  rw [upd_ne c]; exact h.d6 h6
end
/-! ### Two looks in one region, drawn: where each comes up, and what the other slots hold once they are filled -/
def ViewOf (l : List Ent) (w : World) (v : Value) : Prop := ∃ nm tp L ps, IsView l 0 nm tp L ps ∧ ViewL w nm tp L ps v
theorem ViewOf.fresh {l : List Ent} {w w2 : World} {v : Value} (h : ViewOf l w v) (hu : Unch none_ w w2) : ViewOf l w2 v := by
  obtain ⟨nm, tp, L, ps, a, b⟩ := h
  exact ⟨nm, tp, L, ps, a, b.fresh hu⟩
structure RI (w1 : World) (dets : List (Nat × Nat × Value)) (iA sA : Nat) (lA : List Ent) (iB sB : Nat) (lB : List Ent) (D : Nat → Bool) (y : Nat → Value) (w' : World) : Prop where
  u : Unch none_ w1 w'
  a : D iA = true → ViewOf lA w' (y sA)
  b : D iB = true → ViewOf lB w' (y sB)
  d : ∀ p ∈ dets, D p.1 = true → y p.2.1 = p.2.2
section
variable {w1 : World} {dets : List (Nat × Nat × Value)} {iA sA iB sB : Nat} {lA lB : List Ent} {D : Nat → Bool} {y : Nat → Value} {w' w2 : World}
theorem RI.start (hw : Unch none_ w1 w') : RI w1 dets iA sA lA iB sB lB (fun _ => false) y w' := ⟨hw, (fun h => by cases h), (fun h => by cases h), (fun _ _ h => by cases h)⟩
theorem RI.det (h : RI w1 dets iA sA lA iB sB lB D y w') (hu : Unch none_ w' w2) {i s : Nat} {v : Value} (hi : iA ≠ i ∧ iB ≠ i) (hs : sA ≠ s ∧ sB ≠ s) (hN : ∀ p ∈ dets, (p.1 = i ∧ p.2.1 = s ∧ p.2.2 = v) ∨ (p.1 ≠ i ∧ p.2.1 ≠ s)) :
    RI w1 dets iA sA lA iB sB lB (fun j => decide (j = i) || D j) (upd y s v) w2 := by
  refine ⟨h.u.trans hu, fun hd => ?_, fun hd => ?_, fun p hp hd => ?_⟩
  · rw [orD_ne hi.1] at hd; rw [upd_ne hs.1]; exact (h.a hd).fresh hu
  · rw [orD_ne hi.2] at hd; rw [upd_ne hs.2]; exact (h.b hd).fresh hu
  · rcases hN p hp with ⟨a, b, c⟩ | ⟨a, b⟩
    · rw [b, upd_at, c]
    · simp only [orD_ne a] at hd; rw [upd_ne b]; exact h.d p hp hd
theorem RI.lookA (h : RI w1 dets iA sA lA iB sB lB D y w') (hu : Unch none_ w' w2) {v : Value} (hv : ViewOf lA w2 v) (hi : iB ≠ iA) (hs : sB ≠ sA) (hN : ∀ p ∈ dets, p.1 ≠ iA ∧ p.2.1 ≠ sA) :
    RI w1 dets iA sA lA iB sB lB (fun j => decide (j = iA) || D j) (upd y sA v) w2 := by
  refine ⟨h.u.trans hu, fun hd => by rw [upd_at]; exact hv, fun hd => ?_, fun p hp hd => ?_⟩
  · rw [orD_ne hi] at hd; rw [upd_ne hs]; exact (h.b hd).fresh hu
  · simp only [orD_ne (hN p hp).1] at hd; rw [upd_ne (hN p hp).2]; exact h.d p hp hd
theorem RI.lookB (h : RI w1 dets iA sA lA iB sB lB D y w') (hu : Unch none_ w' w2) {v : Value} (hv : ViewOf lB w2 v) (hi : iA ≠ iB) (hs : sA ≠ sB) (hN : ∀ p ∈ dets, p.1 ≠ iB ∧ p.2.1 ≠ sB) :
    RI w1 dets iA sA lA iB sB lB (fun j => decide (j = iB) || D j) (upd y sB v) w2 := by
  refine ⟨h.u.trans hu, fun hd => ?_, fun hd => by rw [upd_at]; exact hv, fun p hp hd => ?_⟩
  · rw [orD_ne hi] at hd; rw [upd_ne hs]; exact (h.a hd).fresh hu
  · simp only [orD_ne (hN p hp).1] at hd; rw [upd_ne (hN p hp).2]; exact h.d p hp hd
end
theorem refuse_is {es : List Ent} (hC : Closed es) {k : Nat} (hk : es.length = k + 1) (h0 : 0 < k) (hr : (ent es 0).kind = 1) (hg : goodL es 0 k = false) {nm tp nm' tp' : ByteArray} {L L' : List ByteArray} {ps ps' : List (ByteArray × ByteArray)}
    (h : IsView es 0 nm tp L ps) (h' : IsView (es.take k) 0 nm' tp' L' ps') : nm' = nm ∧ tp' = tp ∧ L' = L ∧ ps' = ps := by
  obtain ⟨a, b, ys, o1, o2, o3, o4⟩ := h
  obtain ⟨a', b', zs, p1, p2, p3, p4⟩ := h'
  have hM := refuse_sub hC hk h0 hr hg
  have e := refuse_view hC hk h0 hr hg o1 o2 o3 p1 p2 p3
  rw [o4, p4] at e
  injection e with e1 e2
  refine ⟨by rw [a, a', ent_tk h0], e1.symm, (hM.memL b').uniq b, e2.symm⟩
/-- The entries but the last, and the last. -/
theorem take_last {es : List Ent} {k : Nat} (hk : es.length = k + 1) : es.take k ++ [ent es k] = es := by
  have h := ent_get (l := es) (i := k) (by omega)
  have := List.take_add_one (l := es) (i := k)
  rw [h] at this
  have e : es.take (k + 1) = es := by rw [← hk, List.take_length]
  rw [e] at this
  simpa using this.symm
theorem root_take {es : List Ent} (hC : Closed es) {k : Nat} (h0 : 0 < k) (hk : k ≤ es.length) (hr : rootN rootB es = some 0) : rootN rootB (es.take k) = some 0 := by
  have hS := prefix_sub hC k
  obtain ⟨_, hid, hkd⟩ := rootN_some hr
  have hl : 0 < (es.take k).length := by rw [List.length_take]; omega
  have e := hS.same 0 hl
  unfold rootN
  have hf := hS.cm.find hl
  rw [e, hid] at hf
  rw [hf]
  simp [e, hkd]
end Go.Proofs.YtgalnnmeamldhaaGreat
