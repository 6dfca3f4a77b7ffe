/-
  awake of palaverlaw21; NetNone; NetFull.
-/
import Derived.Test.YtmffpeblcaalgaaNDo
import Derived.Test.YtmffpeblcaalgaaQLaws
set_option linter.unusedVariables false
set_option linter.unusedSimpArgs false
namespace Go.Proofs.Ytmffpeblcaalgaa
open Go Go.RowKit Go.Proofs.Ytmffpeblcaalgaa.Pal Go.Proofs.Ytmffpeblcaalgaa.Plan

/-- A net that was made behind w0. -/
structure NB (w0 w : World) (N K : Nat) (v : Value) (nodes : Nat) (l : List Ltr) (c : Nat → Nat → Bool) : Prop where
  nt : Nt w N K v nodes l c
  unch : Unch none_ w0 w
  new : ∀ k, nfoot N K v k → w0.heap.size ≤ k
section
variable {w0 w w1 : World} {N K nodes : Nat} {v : Value} {l l' : List Ltr} {c c' : Nat → Nat → Bool}
theorem NB.fresh (h : NB w0 w N K v nodes l c) (hu : Unch none_ w w1) : NB w0 w1 N K v nodes l c := ⟨h.nt.fresh hu, h.unch.trans hu, h.new⟩
theorem NB.left (h : NB w0 w N K v nodes l c) (hL : Left w N K v nodes l' c' w1) : ∃ v', NB w0 w1 N K v' nodes l' c' := by
  obtain ⟨v', h1, h2, h3⟩ := hL
  refine ⟨v', h1, h.unch.step h2 (fun i hi hk => by have := h.new i hk; omega), fun k hk => ?_⟩
  rcases h3 k hk with h4 | h4
  · exact h.new k h4
  · exact Nat.le_trans h.unch.size h4
theorem NB.made {n : Nat} {e : Ending} (h : NewNt w0 n e w) : ∃ N K, e = .returned (.pointer (some ⟨N, 0, none⟩)) ∧ NB w0 w N K (.slice none 0 0) n [] (fun _ _ => false) := by
  obtain ⟨N, K, he, h1, h2, h3, h4⟩ := h
  exact ⟨N, K, he, h1, h2, fun k hk => by
    rcases hk with rfl | rfl | hk
    · exact h3
    · exact h4
    · cases hk⟩
end
set_option maxHeartbeats 2000000 in
theorem nawake (w : World) : Calls Try.prog 22 #[] w (lawPost w) := by
  go_enter Try.func22, Try.ntmps22
  go_wp2_with fail
  refine (new_ok 2 (by decide) (by decide) _).mono ?_
  rintro e w1 hN
  obtain ⟨N, K, rfl, h1⟩ := NB.made hN
  clear hN
  go_wp2_with fail
  refine (nput_ok h1.nt (by decide) 0 1 (by decide) rfl (by decide) _).mono ?_
  rintro e w2 ⟨rfl, hL⟩
  obtain ⟨v2, h2⟩ := h1.left hL
  clear hL
  go_wp2_with fail
  refine (nput_ok h2.nt (by decide) 1 0 (by decide) rfl (by decide) _).mono ?_
  rintro e w3 ⟨rfl, hL⟩
  obtain ⟨v3, h3⟩ := h2.left hL
  clear hL
  go_wp2_with fail
  refine (ntake_ok h3.nt 0 _ rfl (by decide)).mono ?_
  rintro e w4 ⟨rfl, hL⟩
  obtain ⟨v4, h4⟩ := h3.left hL
  clear hL
  unfold Ltr.val
  go_wp2_with fail
  have h5 : NB w _ N K v4 2 [⟨1, 0, ⟨#[98]⟩⟩] (fun _ _ => false) := h4.fresh ((Unch.refl _ _).alloc (.cells #[.int .i64 0, .int .i64 1, .string ⟨#[97]⟩] 47))
  refine (ncut_ok h5.nt (by decide) 0 1 (by decide) (by decide) (by intro x hx; simp at hx; subst hx; decide)).mono ?_
  rintro e w6 ⟨rfl, hL⟩
  obtain ⟨v6, h6⟩ := h5.left hL
  clear hL
  go_wp2_with fail
  refine (nlen_ok h6.nt 0 (by decide)).mono ?_
  rintro e w7 ⟨rfl, rfl⟩
  go_wp2
  go_ret
  exact ⟨rfl, h6.unch⟩

/-! ### NetNone -/
set_option maxHeartbeats 2000000 in
theorem netNone_walk (k a b n : Int) (t : ByteArray) (w : World) : Calls Try.prog 10 #[actV k a b n t] w (lawPost w) := by
  have fin : ∀ (x : World), Unch none_ w x → Calls Try.prog 22 #[] x (lawPost w) := fun x hu => (nawake x).mono fun e w' ⟨h1, h2⟩ => ⟨h1, hu.trans h2⟩
  have hdo := do_nil k a b n t
  unfold actV at hdo ⊢
  go_enter Try.func10, Try.ntmps10
  go_wp2_with fail
  refine (hdo _).mono ?_
  rintro e w1 ⟨rfl, hu⟩
  unfold zltr
  have b1 := hu.heap (blk_new w _) (fun h => h)
  have x0 := blk_cell b1 (j := 0) rfl
  have x3 := blk_cell b1 (j := 3) rfl
  have hlt := lt_of_heap b1
  have hu1 := ((Unch.refl none_ w).alloc _).trans hu
  go_wp2_with fail
  refine (npeek_nil n _).mono ?_
  rintro e w2 ⟨rfl, hu2⟩
  unfold zltr
  have hz := (Unch.refl none_ w1).alloc zO
  have b2 := hu2.heap (hz.heap b1 (fun h => h)) (fun h => h)
  have bz := hu2.heap (blk_new w1 zO) (fun h => h)
  have y0 := blk_cell b2 (j := 0) rfl
  have z0 := blk_cell bz (j := 0) rfl
  have z1 := blk_cell bz (j := 1) rfl
  have z2 := blk_cell bz (j := 2) rfl
  have hl2 := lt_of_heap b2
  have hl3 := lt_of_heap bz
  have hu3 := (hu1.trans hz).trans hu2
  clear hu hu1 hu2 hz b1 b2 bz x0 x3 hdo
  rcases (by omega : k = 0 ∨ k = 2 ∨ k = 3 ∨ (k ≠ 0 ∧ k ≠ 2 ∧ k ≠ 3)) with rfl | rfl | rfl | ⟨h0, h2, h3⟩
  · rw [show wantNone 0 = 1 from rfl]
    go_wp2_with fail
    refine (nlen_nil _).mono ?_
    rintro e w3 ⟨rfl, rfl⟩
    go_wp2_with fail
    refine (fin _ (hu3.alloc _)).mono ?_
    rintro e w4 ⟨rfl, hu4⟩
    go_wp2
    go_ret
    exact ⟨rfl, hu4⟩
  · rw [show wantNone 2 = 1 from rfl]
    go_wp2_with fail
    refine (nlen_nil _).mono ?_
    rintro e w3 ⟨rfl, rfl⟩
    go_wp2_with fail
    refine (fin _ (hu3.alloc _)).mono ?_
    rintro e w4 ⟨rfl, hu4⟩
    go_wp2
    go_ret
    exact ⟨rfl, hu4⟩
  · rw [show wantNone 3 = 1 from rfl]
    go_wp2_with fail
    refine (nlen_nil _).mono ?_
    rintro e w3 ⟨rfl, rfl⟩
    go_wp2_with fail
    refine (fin _ (hu3.alloc _)).mono ?_
    rintro e w4 ⟨rfl, hu4⟩
    go_wp2
    go_ret
    exact ⟨rfl, hu4⟩
  · rw [show wantNone k = 0 from if_neg (by omega)]
    have k0 : (k == 0) = false := by simpa using h0
    have k2 : (k == 2) = false := by simpa using h2
    have k3 : (k == 3) = false := by simpa using h3
    go_wp2_with fail
    refine (nlen_nil _).mono ?_
    rintro e w3 ⟨rfl, rfl⟩
    go_wp2_with fail
    refine (fin _ (hu3.alloc _)).mono ?_
    rintro e w4 ⟨rfl, hu4⟩
    go_wp2
    go_ret
    exact ⟨rfl, hu4⟩
end Go.Proofs.Ytmffpeblcaalgaa
