/-
  Put, Double and Heal of net.go.
-/
import Derived.Test.YtmffpeblcaalgaaNet
set_option linter.unusedVariables false
set_option linter.unusedSimpArgs false
namespace Go.Proofs.Ytmffpeblcaalgaa
open Go Go.RowKit Go.Proofs.Ytmffpeblcaalgaa.Pal Go.Proofs.Ytmffpeblcaalgaa.Plan

theorem nput_nil (a b : Int) (t : ByteArray) (w : World) :
    Calls Try.prog 18 #[.pointer none, .int .i64 a, .int .i64 b, .string t] w fun e w' => e = .returned (.int .i64 1) ∧ w = w' := by
  go_enter Try.func18, Try.ntmps18
  go_wp2_with fail
  refine (two_nil a b w).mono ?_
  rintro e w1 ⟨rfl, rfl⟩
  go_wp2
  go_ret
  exact ⟨rfl, rfl⟩
section
variable {w : World} {N K nodes : Nat} {v : Value} {l : List Ltr} {c : Nat → Nat → Bool}
theorem nput_bad (h : Nt w N K v nodes l c) (a b : Int) (hab : isTwo nodes a b = false) (t : ByteArray) :
    Calls Try.prog 18 #[.pointer (some ⟨N, 0, none⟩), .int .i64 a, .int .i64 b, .string t] w fun e w' => e = .returned (.int .i64 1) ∧ w = w' := by
  have c0 := blk_cell h.hN (j := 0) rfl
  go_enter Try.func18, Try.ntmps18
  go_wp2_with fail
  refine (two_ok c0 a b).mono ?_
  rintro e w1 ⟨rfl, rfl⟩
  rw [hab]
  go_wp2
  go_ret
  exact ⟨rfl, rfl⟩
theorem isTwo_lt {nodes : Nat} {a b : Nat} (h : isTwo nodes a b = true) : a < nodes ∧ b < nodes ∧ a ≠ b := by
  simp [isTwo] at h; omega
theorem nput_off (h : Nt w N K v nodes l c) (hn : nodes ≤ 5) (a b : Nat) (hab : isTwo nodes a b = true) (hc : c a b = true) (t : ByteArray) :
    Calls Try.prog 18 #[.pointer (some ⟨N, 0, none⟩), .int .i64 (a : Int), .int .i64 (b : Int), .string t] w fun e w' => e = .returned (.int .i64 12) ∧ w = w' := by
  have c0 := blk_cell h.hN (j := 0) rfl
  have c2 := blk_cell h.hN (j := 2) rfl
  obtain ⟨h1, h2, _⟩ := isTwo_lt hab
  have hlk := cm_lookup h.map a b (by omega) (by omega)
  rw [hc] at hlk
  simp only [kv] at hlk
  go_enter Try.func18, Try.ntmps18
  go_wp2_with fail
  refine (two_ok c0 a b).mono ?_
  rintro e w1 ⟨rfl, rfl⟩
  rw [hab]
  go_wp2
  go_ret
  exact ⟨rfl, rfl⟩
theorem nput_busy (h : Nt w N K v nodes l c) (hn : nodes ≤ 5) (a b : Nat) (hab : isTwo nodes a b = true) (hc : c a b = false) (hl : 256 ≤ l.length) (t : ByteArray) :
    Calls Try.prog 18 #[.pointer (some ⟨N, 0, none⟩), .int .i64 (a : Int), .int .i64 (b : Int), .string t] w fun e w' => e = .returned (.int .i64 8) ∧ w = w' := by
  have c0 := blk_cell h.hN (j := 0) rfl
  have c2 := blk_cell h.hN (j := 2) rfl
  have c1 := blk_cell h.hN (j := 1) rfl
  obtain ⟨A, cp, hv, hlc⟩ := h.row.slice
  obtain ⟨m, Hm⟩ : ∃ m, l.length = m := ⟨_, rfl⟩
  rw [hv, Hm] at c1
  have hm1 : (256 : Int) ≤ (m : Int) := by omega
  obtain ⟨h1, h2, _⟩ := isTwo_lt hab
  have hlk := cm_lookup h.map a b (by omega) (by omega)
  rw [hc] at hlk
  simp only [kv] at hlk
  go_enter Try.func18, Try.ntmps18
  go_wp2_with fail
  refine (two_ok c0 a b).mono ?_
  rintro e w1 ⟨rfl, rfl⟩
  rw [hab]
  go_wp2
  go_ret
  exact ⟨rfl, rfl⟩
/-- What a call leaves: a net, its row perhaps anew. -/
def Left (w : World) (N K : Nat) (v : Value) (nodes : Nat) (l : List Ltr) (c : Nat → Nat → Bool) (w' : World) : Prop :=
  ∃ v', Nt w' N K v' nodes l c ∧ Unch (nfoot N K v) w w' ∧ ∀ k, nfoot N K v' k → nfoot N K v k ∨ w.heap.size ≤ k
/-- The row is laid anew, and the pointer to it is stored. -/
theorem Nt.grown_ (h : Nt w N K v nodes l c) {w1 : World} {v' : Value} {l' : List Ltr} (hr : Row w1 47 3 v' l'.length (lcells l')) (hu : Unch (fun k => v.ownBlock = some k) w w1) (hat : v'.ownBlock = v.ownBlock ∨ ∃ b, v'.ownBlock = some b ∧ w.heap.size ≤ b) :
    Nt (w1.setCell ⟨N, 1, none⟩ v') N K v' nodes l' c ∧ Unch (nfoot N K v) w (w1.setCell ⟨N, 1, none⟩ v') ∧ ∀ k, nfoot N K v' k → nfoot N K v k ∨ w.heap.size ≤ k := by
  have hN1 := hu.heap h.hN (fun hk => (h.vN hk).1 rfl)
  have hv'N : ∀ k, v'.ownBlock = some k → k ≠ N := fun k hk e => by
    rcases hat with h1 | ⟨b, h1, h2⟩
    · exact (h.vN (h1 ▸ hk)).1 e
    · rw [h1] at hk; injection hk with hk
      have := lt_of_heap h.hN; omega
  refine ⟨⟨by rw [blk_set hN1 1 v']; rfl, hr.move fun k hk => Below.heap_setCell _ _ _ _ (hv'N k hk), ?_⟩, ?_, ?_⟩
  · have h1 := h.map.unch hu (fun hk => (h.vN hk).2 rfl)
    exact h1.unch ((Unch.refl (fun k => k = N) _).setCell _ (fun _ => rfl)) h.KN
  · exact (hu.mono (fun k _ hk => .inr (.inr hk))).setCell _ (fun _ => .inl rfl)
  · rintro k (rfl | rfl | hk)
    · exact .inl (.inl rfl)
    · exact .inl (.inr (.inl rfl))
    · rcases hat with h1 | ⟨b, h1, h2⟩
      · exact .inl (.inr (.inr (h1 ▸ hk)))
      · rw [h1] at hk; injection hk with hk; subst hk; exact .inr h2
theorem Nt.grown (h : Nt w N K v nodes l c) {w1 : World} {v' : Value} {l' : List Ltr} (hr : Row w1 47 3 v' l'.length (lcells l')) (hu : Unch (fun k => v.ownBlock = some k) w w1) (hat : v'.ownBlock = v.ownBlock ∨ ∃ b, v'.ownBlock = some b ∧ w.heap.size ≤ b) :
    Left w N K v nodes l' c (w1.setCell ⟨N, 1, none⟩ v') := ⟨v', h.grown_ hr hu hat⟩
set_option maxRecDepth 100000 in
set_option maxHeartbeats 1000000 in
theorem nput_ok (h : Nt w N K v nodes l c) (hn : nodes ≤ 5) (a b : Nat) (hab : isTwo nodes a b = true) (hc : c a b = false) (hl : l.length < 256) (t : ByteArray) :
    Calls Try.prog 18 #[.pointer (some ⟨N, 0, none⟩), .int .i64 (a : Int), .int .i64 (b : Int), .string t] w fun e w' => e = .returned (.int .i64 0) ∧ Left w N K v nodes (l ++ [⟨a, b, t⟩]) c w' := by
  have c0 := blk_cell h.hN (j := 0) rfl
  have c2 := blk_cell h.hN (j := 2) rfl
  have c1 := blk_cell h.hN (j := 1) rfl
  have fN := blk_free h.hN 1
  have hrow := h.row
  obtain ⟨A, cp, hv, hlc⟩ := hrow.slice
  obtain ⟨m, Hm⟩ : ∃ m, l.length = m := ⟨_, rfl⟩
  rw [Hm] at hrow hv
  subst hv
  have hm1 : ¬ ((256 : Int) ≤ (m : Int)) := by omega
  obtain ⟨h1, h2, _⟩ := isTwo_lt hab
  have hlk := cm_lookup h.map a b (by omega) (by omega)
  rw [hc] at hlk
  simp only [kv] at hlk
  have HM := Lib.hid Hm
  go_enter Try.func18, Try.ntmps18
  go_wp2_with fail
  refine (two_ok c0 a b).mono ?_
  rintro e w1 ⟨rfl, rfl⟩
  rw [hab]
  go_wp2_with (at_builtin; refine wpList_append1 w rfl (.tmp 35) (.tmp 40) 53 47 _ 3 32 rfl Try.underlying53 info_ltr rfl (by omega) (.slice A m cp) m (lcells l) (by rfl) hrow (Ltr.cells ⟨a, b, t⟩) rfl (by intro u hu; simp [Ltr.cells] at hu; rcases hu with rfl | rfl | rfl <;> rfl) (by rfl) (by simp only [maxLen]; omega) (by omega) ?_; intro v' w1 hr1 hu1 hat1; obtain ⟨A', c', rfl, _⟩ := hr1.slice; have fN1 := hu1.frozen (lt_of_heap h.hN) fN (fun hk => (h.vN hk).1 rfl); have d1 := hu1.cell c1 (fun hk => (h.vN hk).1 rfl))
  go_ret
  refine ⟨rfl, h.grown (l' := l ++ [⟨a, b, t⟩]) ?_ hu1 hat1⟩
  rw [List.length_append, HM.out, lcells_append]
  exact hr1
theorem ndouble_none (P : Option Addr) (i : Int) {w : World} (hp : Calls Try.prog 25 #[.pointer P, .int .i64 i] w (Peeked w zltr false)) :
    Calls Try.prog 19 #[.pointer P, .int .i64 i] w fun e w' => e = .returned (.int .i64 1) ∧ Unch none_ w w' := by
  go_enter Try.func19, Try.ntmps19
  go_wp2_with fail
  refine hp.mono ?_
  rintro e w1 ⟨rfl, hu⟩
  unfold zltr
  go_wp2
  go_ret
  exact ⟨rfl, hu.alloc _⟩
set_option maxHeartbeats 1000000 in
theorem ndouble_busy (h : Nt w N K v nodes l c) (i : Nat) (x : Ltr) (hx : l[i]? = some x) (hl : 256 ≤ l.length) :
    Calls Try.prog 19 #[.pointer (some ⟨N, 0, none⟩), .int .i64 (i : Int)] w fun e w' => e = .returned (.int .i64 8) ∧ Unch none_ w w' := by
  have c1 := blk_cell h.hN (j := 1) rfl
  obtain ⟨A, cp, hv, hlc⟩ := h.row.slice
  obtain ⟨m, Hm⟩ : ∃ m, l.length = m := ⟨_, rfl⟩
  rw [hv, Hm] at c1
  have hm1 : (256 : Int) ≤ (m : Int) := by omega
  have HX := Lib.hid hx
  clear hv
  go_enter Try.func19, Try.ntmps19
  go_wp2_with fail
  refine (npeek_ok h i x HX.out).mono ?_
  rintro e w1 ⟨rfl, hu⟩
  have d1 := hu.cell c1 (fun h => h)
  have hNl := Nat.lt_of_lt_of_le (lt_of_heap h.hN) hu.size
  unfold Ltr.val
  go_wp2
  go_ret
  exact ⟨rfl, hu.alloc _⟩
set_option maxRecDepth 100000 in
set_option maxHeartbeats 1000000 in
theorem ndouble_ok (h : Nt w N K v nodes l c) (i : Nat) (x : Ltr) (hx : l[i]? = some x) (hl : l.length < 256) :
    Calls Try.prog 19 #[.pointer (some ⟨N, 0, none⟩), .int .i64 (i : Int)] w fun e w' => e = .returned (.int .i64 0) ∧ Left w N K v nodes (l ++ [x]) c w' := by
  have c1 := blk_cell h.hN (j := 1) rfl
  have fN := blk_free h.hN 1
  have hrow := h.row
  obtain ⟨A, cp, hv, hlc⟩ := hrow.slice
  obtain ⟨m, Hm⟩ : ∃ m, l.length = m := ⟨_, rfl⟩
  rw [Hm] at hrow hv
  subst hv
  have hm1 : ¬ ((256 : Int) ≤ (m : Int)) := by omega
  have HX := Lib.hid hx
  have HM := Lib.hid Hm
  clear hx
  go_enter Try.func19, Try.ntmps19
  go_wp2_with fail
  refine (npeek_ok h i x HX.out).mono ?_
  rintro e w1 ⟨rfl, hu⟩
  have d1 := hu.cell c1 (fun h => h)
  have hNl := Nat.lt_of_lt_of_le (lt_of_heap h.hN) hu.size
  unfold Ltr.val
  go_wp2_with fail
  have hW := (Unch.refl none_ w1).alloc (.cells #[.int .i64 (x.src : Int), .int .i64 (x.dst : Int), .string x.txt] 47)
  have hu2 := hu.trans hW
  have k0 := hW.cell (a := ⟨N, 1, none⟩) (v := .slice A m cp) d1 (fun h => h)
  have b1 := blk_new w1 (.cells #[.int .i64 (x.src : Int), .int .i64 (x.dst : Int), .string x.txt] 47)
  have k1 := blk_cell b1 (j := 0) rfl
  have k2 := blk_cell b1 (j := 1) rfl
  have k3 := blk_cell b1 (j := 2) rfl
  simp only [List.getElem_toArray, List.getElem_cons_zero, List.getElem_cons_succ] at k1 k2 k3
  generalize HW2 : w1.alloc (.cells #[.int .i64 (x.src : Int), .int .i64 (x.dst : Int), .string x.txt] 47) = w2 at *
  have hLs : w1.heap.size < w2.heap.size := by rw [← HW2]; simp
  have hNs : N < w2.heap.size := by omega
  have hLv : (Value.slice A m cp).ownBlock ≠ some w1.heap.size := fun hk => by
    have := h.lt (.inr (.inr hk)); have := hu.size; omega
  clear HW2
  generalize w1.heap.size = Lx at *
  refine wp_plan2 N Lx [0, 1, 2, 3, 4, 5] [6, 7, 8, 9, 10] 2 (by kernel_rfl) (by kernel_rfl) rfl rfl (fun c a d v w h => by cases d <;> exact h) ?_
  intro S HS _ s1 s2
  simp only [pickIn, List.getElem?_toArray, List.getElem?_cons_succ, List.getElem?_cons_zero]
  repeat (go_big_quiet_step (fail))
  refine wpQuiet_nil ?_
  refine tail_step ?_
  go_wp2
  refine tail_midS ((HS.out _).2 ⟨(Below.heap_alloc _ _ _ (by simpa using hNs)), (Below.heap_alloc _ _ _ (by simpa using hLs))⟩) (tail_step ?_)
  have hrow2 : Row w2.drew 47 3 (.slice A m cp) m (lcells l) := (hrow.unch hu2 (fun _ _ h => h)).move fun _ _ => rfl
  refine wpList_append1 w2.drew rfl (.tmp 27) (.tmp 29) 53 47 _ 3 32 rfl Try.underlying53 info_ltr rfl (by omega) (.slice A m cp) m (lcells l) (by rfl) hrow2 x.cells rfl (by intro u hu; simp [Ltr.cells] at hu; rcases hu with rfl | rfl | rfl <;> rfl) (by rfl) (by simp only [maxLen]; omega) (by omega) ?_
  intro v' w3 hr3 hu3 hat3
  obtain ⟨A', c', rfl, _⟩ := hr3.slice
  have fN3 := hu3.frozen (w := w2.drew) (a := ⟨N, 1, none⟩) (b := false) hNs (hu2.frozen (lt_of_heap h.hN) fN (fun h => h)) (fun hk => (h.vN hk).1 rfl)
  have dN3 := hu3.cell (w := w2.drew) (a := ⟨N, 1, none⟩) (v := .slice A m cp) k0 (fun hk => (h.vN hk).1 rfl)
  refine wpList_nil (tail_midS ((HS.out _).2 ⟨hu3.block N hNs (fun hk => (h.vN hk).1 rfl), hu3.block Lx hLs (fun hk => hLv hk)⟩) (tail_all ?_))
  go_wp2
  go_ret
  have hu4 : Unch (fun k => (Value.slice A m cp).ownBlock = some k) w w3 := (hu2.mono (fun _ _ h => h.elim)).step (Y := fun k => (Value.slice A m cp).ownBlock = some k) ⟨hu3.os, hu3.tape, hu3.output, hu3.size, hu3.block⟩ (fun _ _ h => h)
  refine ⟨rfl, h.grown (l' := l ++ [x]) ?_ hu4 ?_⟩
  · rw [List.length_append, HM.out, lcells_append]
    simpa [lcells] using hr3
  · rcases hat3 with h1 | ⟨b, h1, h2⟩
    · exact .inl h1
    · exact .inr ⟨b, h1, Nat.le_trans hu2.size h2⟩

/-! ### Heal -/
theorem nheal_nil (w : World) :
    Calls Try.prog 27 #[.pointer none] w fun e w' => e = .returned (.tuple #[]) ∧ w = w' := by
  go_enter Try.func27, Try.ntmps27
  go_wp2
  go_end0
  exact ⟨rfl, rfl⟩
theorem nheal_ok (h : Nt w N K v nodes l c) :
    Calls Try.prog 27 #[.pointer (some ⟨N, 0, none⟩)] w fun e w' => e = .returned (.tuple #[]) ∧ Nt w' N K v nodes l (fun _ _ => false) ∧ Unch (nfoot N K v) w w' := by
  have c2 := blk_cell h.hN (j := 2) rfl
  obtain ⟨w1, hrun, hm, hu⟩ := cm_clear h.map 0
  go_enter Try.func27, Try.ntmps27
  go_wp2
  go_end0
  exact ⟨rfl, ⟨hu.heap h.hN (fun e => h.KN e.symm), h.row.unch hu (fun k hk e => (h.vN hk).2 e), hm⟩, hu.mono (fun k _ e => .inr (.inl e))⟩
end
end Go.Proofs.Ytmffpeblcaalgaa
