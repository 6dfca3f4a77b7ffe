/-
  Cut of net.go.
-/
import Derived.Test.YtmffpeblcaalgaaNCut
set_option linter.unusedVariables false
set_option linter.unusedSimpArgs false
namespace Go.Proofs.Ytmffpeblcaalgaa
open Go Go.RowKit Go.Proofs.Ytmffpeblcaalgaa.Pal Go.Proofs.Ytmffpeblcaalgaa.Plan

def KeptV (w : World) (v : Value) (l' : List Ltr) (e : Ending) (w' : World) : Prop :=
  ∃ A c, e = .returned (.slice A l'.length c) ∧ Row w' 47 3 (.slice A l'.length c) l'.length (lcells l') ∧ Unch (fun k => v.ownBlock = some k) w w' ∧ (Value.slice A l'.length c).ownBlock = v.ownBlock
theorem deletef_any {w : World} {P N K : Nat} {nd vN : Value} {c : Nat → Nat → Bool} {A : Option Addr} {n cap : Nat} {l : List Ltr} (hC : Cl w P N K nd vN c) (h : Row w 47 3 (.slice A n cap) n (lcells l)) (hn : n ≤ 256) (hs : Small l)
    (hg : ∀ k, (Value.slice A n cap).ownBlock = some k → k ≠ P ∧ k ≠ N ∧ k ≠ K) :
    Calls Try.prog 31 #[.slice A n cap, clo P] w (KeptV w (.slice A n cap) (keep c l)) := by
  rcases Nat.eq_zero_or_pos n with h0 | h0
  · subst h0
    have hl := Row.llen h
    obtain rfl : l = [] := List.eq_nil_of_length_eq_zero hl
    refine (deletef_nil A cap P w).mono ?_
    rintro e w1 ⟨rfl, rfl⟩
    exact ⟨A, cap, rfl, h, Unch.refl _ _, rfl⟩
  · obtain ⟨g, o, cap', cur, hv, _⟩ := h.form h0
    injection hv with h1 _ h3
    subst h1; subst h3
    refine (deletef_ok hC h hn hs (hg g rfl)).mono ?_
    rintro e w1 ⟨rfl, hr, hu⟩
    exact ⟨_, _, rfl, hr, hu.mono (fun k _ e => by rw [e]; rfl), rfl⟩
section
variable {w : World} {N K nodes : Nat} {v : Value} {l : List Ltr} {c : Nat → Nat → Bool}
theorem ncut_nil (a b : Int) (w : World) :
    Calls Try.prog 26 #[.pointer none, .int .i64 a, .int .i64 b] w fun e w' => e = .returned (.int .i64 1) ∧ Unch none_ w w' := by
  go_enter Try.func26, Try.ntmps26
  go_wp2_with fail
  refine (two_nil a b _).mono ?_
  rintro e w1 ⟨rfl, rfl⟩
  go_wp2
  go_ret
  exact ⟨rfl, (Unch.refl _ _).alloc _⟩
theorem ncut_bad (h : Nt w N K v nodes l c) (a b : Int) (hab : isTwo nodes a b = false) :
    Calls Try.prog 26 #[.pointer (some ⟨N, 0, none⟩), .int .i64 a, .int .i64 b] w fun e w' => e = .returned (.int .i64 1) ∧ Unch none_ w w' := by
  have hu := (Unch.refl none_ w).alloc (.cells #[.pointer (some ⟨N, 0, none⟩)] 42)
  have c0 := blk_cell (h.fresh hu).hN (j := 0) rfl
  go_enter Try.func26, Try.ntmps26
  go_wp2_with fail
  refine (two_ok c0 a b).mono ?_
  rintro e w1 ⟨rfl, rfl⟩
  rw [hab]
  go_wp2
  go_ret
  exact ⟨rfl, hu⟩
set_option maxRecDepth 100000 in
set_option maxHeartbeats 1000000 in
theorem ncut_ok (h : Nt w N K v nodes l c) (hn : nodes ≤ 5) (a b : Nat) (hab : isTwo nodes a b = true) (hl : l.length ≤ 256) (hs : Small l) :
    Calls Try.prog 26 #[.pointer (some ⟨N, 0, none⟩), .int .i64 (a : Int), .int .i64 (b : Int)] w fun e w' => e = .returned (.int .i64 0) ∧ Left w N K v nodes (keep (cutOf (cutOf c a b) b a) l) (cutOf (cutOf c a b) b a) w' := by
  obtain ⟨a5, b5, _⟩ := isTwo_lt hab
  have hu := (Unch.refl none_ w).alloc (.cells #[.pointer (some ⟨N, 0, none⟩)] 42)
  have hH := h.fresh hu
  have c0 := blk_cell hH.hN (j := 0) rfl
  have c2 := blk_cell hH.hN (j := 2) rfl
  have hP := blk_new w (.cells #[.pointer (some ⟨N, 0, none⟩)] 42)
  have p0 := blk_cell hP (j := 0) rfl
  obtain ⟨st1, w1, r1, m1, u1⟩ := cm_entry (w := (w.alloc (.cells #[.pointer (some ⟨N, 0, none⟩)] 42)).drew) (K := K) (c := c) (hH.map.unch ((Unch.refl none_ _).drew) (fun h => h)) a b (by omega) (by omega)
  obtain ⟨w2, r2, m2, u2⟩ := cm_store m1
  obtain ⟨st3, w3, r3, m3, u3⟩ := cm_entry m2 b a (by omega) (by omega)
  obtain ⟨w4, r4, m4, u4⟩ := cm_store m3
  simp only [kv] at r1 r3
  go_enter Try.func26, Try.ntmps26
  go_wp2_with fail
  refine (two_ok c0 a b).mono ?_
  rintro e w0 ⟨rfl, rfl⟩
  rw [hab]
  go_wp2_with fail
  have hNl := lt_of_heap h.hN
  generalize hPn : w.heap.size = P at *
  generalize hWn : w.alloc (.cells #[.pointer (some ⟨N, 0, none⟩)] 42) = wa at *
  have hPN : P ≠ N := by omega
  have hKN := h.KN
  have hKP : K ≠ P := by have := h.map.lt; omega
  have hPw : P < wa.heap.size := by rw [← hWn, ← hPn]; simp
  have hNw : N < wa.heap.size := by have := hu.size; omega
  have g1 : Unch (fun k => k = K) wa w1 := (Unch.refl _ _).step (Y := fun k => k = K) ⟨u1.os, u1.tape, u1.output, u1.size, u1.block⟩ (fun _ _ h => h)
  have g2 := g1.trans u2
  refine wp_plan2 P N [0, 1, 2, 3, 4, 5, 6, 7, 8, 9, 10, 11, 12, 13] [14, 15, 16, 17, 18, 19] 3 (by kernel_rfl) (by kernel_rfl) rfl rfl (fun c a d v w h => by cases d <;> exact h) ?_
  intro S HS _ s1 s2
  simp only [pickIn, List.getElem?_toArray, List.getElem?_cons_succ, List.getElem?_cons_zero]
  repeat (go_big_quiet_step (fail))
  refine wpQuiet_nil ?_
  refine tail_step ?_
  go_wp2
  refine tail_midS ((HS.out _).2 ⟨g1.block P hPw (fun e => hKP e.symm), g1.block N hNw (fun e => hKN e.symm)⟩) ?_
  refine tail_step ?_
  go_wp2
  refine tail_midS ((HS.out _).2 ⟨g1.block P hPw (fun e => hKP e.symm), g1.block N hNw (fun e => hKN e.symm)⟩) ?_
  refine tail_step ?_
  go_wp2
  refine tail_midS ((HS.out _).2 ⟨g2.block P hPw (fun e => hKP e.symm), g2.block N hNw (fun e => hKN e.symm)⟩) ?_
  refine tail_all ?_
  go_wp2
  have g4 := (g2.trans u3).trans u4
  have hP4 := g4.heap hP (fun e => hKP e.symm)
  have hN4 := g4.heap hH.hN (fun e => hKN e.symm)
  have hrow4 := hH.row.unch g4 (fun k hk e => (h.vN hk).2 e)
  clear r1 r2 r3 r4 p0 c0 c2
  have p0 := blk_cell hP4 (j := 0) rfl
  obtain ⟨A, cp, hv, hlc⟩ := hrow4.slice
  subst hv
  have c1 := blk_cell hN4 (j := 1) rfl
  refine wp_plan2 P N [0, 1, 2, 3, 4, 5] [6, 7, 8, 9] 1 (by kernel_rfl) (by kernel_rfl) rfl rfl (fun c a d v w h => by cases d <;> exact h) ?_
  intro S HS _ s1 s2
  simp only [pickIn, List.getElem?_toArray, List.getElem?_cons_succ, List.getElem?_cons_zero]
  repeat (go_big_quiet_step (fail))
  refine wpQuiet_nil ?_
  refine tail_step ?_
  go_wp2_with fail
  have hC4 : Cl w4.drew P N K (.int .i64 (nodes : Int)) (.slice A l.length cp) (cutOf (cutOf c a b) b a) := ⟨hP4, hN4, m4.unch ((Unch.refl none_ _).drew) (fun h => h)⟩
  have hrow5 : Row w4.drew 47 3 (.slice A l.length cp) l.length (lcells l) := hrow4.move fun _ _ => rfl
  refine (deletef_any hC4 hrow5 hl hs (fun k hk => ⟨by have := h.lt (.inr (.inr hk)); omega, (h.vN hk).1, (h.vN hk).2⟩)).mono ?_
  rintro e w5 ⟨A', cp', rfl, hr5, hu5, hown⟩
  go_wp2
  have hvP : (Value.slice A l.length cp).ownBlock ≠ some P := fun hk => by have := h.lt (.inr (.inr hk)); omega
  have hvN : (Value.slice A l.length cp).ownBlock ≠ some N := fun hk => (h.vN hk).1 rfl
  have hvK : (Value.slice A l.length cp).ownBlock ≠ some K := fun hk => (h.vN hk).2 rfl
  have hN5 := hu5.heap (w := w4.drew) hN4 hvN
  have hm5 := hC4.hm.unch hu5 hvK
  have hsz4 := g4.size
  refine tail_midS ((HS.out _).2 ⟨hu5.block P (show P < w4.heap.size by omega) hvP, hu5.block N (show N < w4.heap.size by omega) hvN⟩) (tail_all ?_)
  have c5 := blk_cell hN5 (j := 1) rfl
  have f5 := blk_free hN5 1
  go_wp2
  go_ret
  have hKw : K < w.heap.size := h.map.lt
  have hv'N : ∀ k, (Value.slice A' (keep (cutOf (cutOf c a b) b a) l).length cp').ownBlock = some k → k ≠ N := fun k hk e => by rw [hown] at hk; exact (h.vN hk).1 e
  refine ⟨rfl, _, ⟨by rw [blk_set hN5 1 _]; rfl, hr5.move fun k hk => Below.heap_setCell _ _ _ _ (hv'N k hk), hm5.unch ((Unch.refl (fun k => k = N) _).setCell _ (fun _ => rfl)) hKN⟩, ?_, ?_⟩
  · have q1 : Unch (nfoot N K (.slice A l.length cp)) w w4 := (hu.mono (Y := nfoot N K (.slice A l.length cp)) (fun _ _ h => h.elim)).step g4 (fun i _ e => .inr (.inl e))
    have q2 := q1.step (Y := fun k => (Value.slice A l.length cp).ownBlock = some k) ⟨hu5.os, hu5.tape, hu5.output, hu5.size, hu5.block⟩ (fun i _ e => .inr (.inr e))
    exact q2.setCell _ (fun _ => .inl rfl)
  · rintro k (rfl | rfl | hk)
    · exact .inl (.inl rfl)
    · exact .inl (.inr (.inl rfl))
    · exact .inl (.inr (.inr (hown ▸ hk)))
end
end Go.Proofs.Ytmffpeblcaalgaa
