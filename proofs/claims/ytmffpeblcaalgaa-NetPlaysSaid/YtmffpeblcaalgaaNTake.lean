/-
  slices.Delete of one letter; Take of net.go.
-/
import Derived.Test.YtmffpeblcaalgaaNPut
import Derived.Test.YtmffpeblcaalgaaRowOps
set_option linter.unusedVariables false
set_option linter.unusedSimpArgs false
namespace Go.Proofs.Ytmffpeblcaalgaa
open Go Go.RowKit Go.Proofs.Ytmffpeblcaalgaa.Pal Go.Proofs.Ytmffpeblcaalgaa.Plan

theorem lcells_take : ∀ (l : List Ltr) (i : Nat), lcells (l.take i) = (lcells l).take (i * 3)
  | [], i => by simp [lcells]
  | x :: l, 0 => by simp [lcells]
  | x :: l, i + 1 => by
    show x.cells ++ lcells (l.take i) = (x.cells ++ lcells l).take ((i + 1) * 3)
    rw [lcells_take l i, show (i + 1) * 3 = x.cells.length + i * 3 by simp [Ltr.cells]; omega, List.take_length_add_append]
theorem lcells_drop : ∀ (l : List Ltr) (i : Nat), lcells (l.drop i) = (lcells l).drop (i * 3)
  | [], i => by simp [lcells]
  | x :: l, 0 => by simp [lcells]
  | x :: l, i + 1 => by
    show lcells (l.drop i) = (x.cells ++ lcells l).drop ((i + 1) * 3)
    rw [lcells_drop l i, show (i + 1) * 3 = x.cells.length + i * 3 by simp [Ltr.cells]; omega, List.drop_length_add_append]
theorem lcells_erase (l : List Ltr) (i : Nat) : lcells (l.eraseIdx i) = (lcells l).take (i * 3) ++ (lcells l).drop ((i + 1) * 3) := by
  rw [List.eraseIdx_eq_take_drop_succ, lcells_append, lcells_take, lcells_drop]
theorem ltr_one (l : List Ltr) : ∀ u ∈ lcells l, u.oneCell' = true := by
  intro u hu
  obtain ⟨x, _, hx⟩ := List.mem_flatMap.1 hu
  simp [Ltr.cells] at hx
  rcases hx with rfl | rfl | rfl <;> rfl
set_option maxRecDepth 100000 in
set_option maxHeartbeats 1000000 in
theorem delete_ok {w : World} {g o n cap : Nat} {l : List Ltr} (h : Row w 47 3 (.slice (some ⟨g, o, none⟩) n cap) n (lcells l)) (i : Nat) (hi : i < n) :
    Calls Try.prog 29 #[.slice (some ⟨g, o, none⟩) n cap, .int .i64 (i : Int), .int .i64 ((i : Int) + 1)] w fun e w' =>
      e = .returned (.slice (some ⟨g, o, none⟩) (n - 1) cap) ∧ Row w' 47 3 (.slice (some ⟨g, o, none⟩) (n - 1) cap) (n - 1) (lcells (l.eraseIdx i)) ∧ Unch (fun k => k = g) w w' := by
  obtain ⟨hcm, hnc⟩ := h.maxcap
  obtain ⟨q, hq⟩ : ∃ q, n = q + 1 := ⟨n - 1, by omega⟩
  have hlen : l.length = n := by have h1 := h.1; rw [lcells_len] at h1; omega
  have i0 : (0 : Int) ≤ (i : Int) := by omega
  have i1 : (i : Int) < (n : Int) := by omega
  have i2 : (i : Int) + 1 ≤ (n : Int) := by omega
  have i3 : (n : Int) ≤ (cap : Int) := by omega
  have i4 : ((i : Int) == (i : Int) + 1) = false := by simp; omega
  have i5 : (0 : Int) ≤ (q : Int) := by omega
  have i6 : (q : Int) ≤ (n : Int) := by omega
  have i7 : (cap = q) = False := by simp; omega
  have e0 : n - 1 = q := by omega
  rw [e0]
  have hr0 : Row w.drew 47 3 (.slice (some ⟨g, o, none⟩) n cap) n (lcells l) := h.move fun _ _ => rfl
  obtain ⟨w1, hrun1, hr1, hu1⟩ := row_append_room (P := Try.prog) w.drew 53 53 47 zltr 3 32 Try.underlying53 info_ltr g o i cap _ (hr0.take i (by omega))
    (if cap = i + 1 then some ⟨g, o, none⟩ else some ⟨g, o + (i + 1) * 3, none⟩) (n - (i + 1)) (cap - (i + 1)) (lcells (l.drop (i + 1))) (by rw [lcells_len, List.length_drop, hlen])
    (fun hm => ⟨⟨g, o + (i + 1) * 3, none⟩, by rw [if_neg (by omega)], fun j u hu => by
      rw [lcells_drop, List.getElem?_drop] at hu
      have := hr0.at rfl hu
      rw [Addr.add_lit, Nat.add_assoc]; exact this⟩) (ltr_one _) (by omega)
  rw [show i + (n - (i + 1)) = q by omega, ← lcells_take, ← lcells_append, ← List.eraseIdx_eq_take_drop_succ] at hr1
  rw [show i + (n - (i + 1)) = q by omega] at hrun1
  obtain ⟨w2, hrun2, hr2, hu2⟩ := row_clear_past (P := Try.prog) w1 53 0 47 zltr 3 32 Try.underlying53 info_ltr rfl (by intro v hv; simp [zltr, Value.cells] at hv; rcases hv with rfl | rfl | rfl <;> rfl) g o q cap _ hr1 q (n - q) (cap - q) (Nat.le_refl _) (by omega) (some ⟨g, o + q * 3, none⟩) (fun _ => rfl)
  have hEl : (lcells (l.eraseIdx i)).length = q * 3 := hr1.1
  rw [List.take_of_length_le (by omega)] at hr2
  clear hr1 hEl e0 hq hr0
  go_enter Try.func29, Try.ntmps29
  go_wp2_with fail
  refine wp_plan1 g [0, 1, 2, 3, 4, 5] [6, 7] 0 (by kernel_rfl) (by kernel_rfl) rfl rfl (fun c a d v w h => by cases d <;> exact h) ?_
  intro S HS _ s1
  simp only [pickIn, List.getElem?_toArray, List.getElem?_cons_succ, List.getElem?_cons_zero]
  repeat (go_big_quiet_step (fail))
  refine wpQuiet_nil ?_
  refine tail_all ?_
  refine wpList_append_run w.drew rfl (.tmp 22) (.tmp 25) 53 rfl _ _ _ (by rfl) (by rfl) w1 hrun1 ?_
  clear hrun1
  generalize (if cap = i + 1 then some (⟨g, o, none⟩ : Addr) else some ⟨g, o + (i + 1) * 3, none⟩) = A0
  go_wp2
  go_ret
  exact ⟨rfl, hr2, (Unch.step (w := w) (w1 := w1) ⟨hu1.os, hu1.tape, hu1.output, hu1.size, hu1.block⟩ hu2 (fun _ _ h => h))⟩

/-! ### Take -/
theorem blk_set3 {w : World} {g : Nat} {a b c x y z : Value} {e : TypeId} (h : w.heap[g]? = some (.cells #[a, b, c] e (0, 0))) : (((w.setCell ⟨g, 0, none⟩ x).setCell ⟨g, 1, none⟩ y).setCell ⟨g, 2, none⟩ z).heap[g]? = some (.cells #[x, y, z] e (0, 0)) :=
  blk_set (blk_set (blk_set h 0 x) 1 y) 2 z
theorem unch_set3 {w : World} {g : Nat} {x y z : Value} : Unch (fun k => k = g) w (((w.setCell ⟨g, 0, none⟩ x).setCell ⟨g, 1, none⟩ y).setCell ⟨g, 2, none⟩ z) :=
  (((Unch.refl (fun k => k = g) w).setCell _ (fun _ => rfl)).setCell _ (fun _ => rfl)).setCell _ (fun _ => rfl)
theorem ntake_none (P : Option Addr) (i : Int) {w : World} (hp : ∀ o, Calls Try.prog 25 #[.pointer P, .int .i64 i] (w.alloc o) (Peeked (w.alloc o) zltr false)) :
    Calls Try.prog 21 #[.pointer P, .int .i64 i] w (Peeked w zltr false) := by
  go_enter Try.func21, Try.ntmps21
  go_wp2_with fail
  refine (hp _).mono ?_
  rintro e w1 ⟨rfl, hu⟩
  have hT := hu.heap (blk_new w _) (fun h => h)
  have d0 := blk_cell hT (j := 0) rfl
  have d1 := blk_cell hT (j := 1) rfl
  have d2 := blk_cell hT (j := 2) rfl
  have f0 := blk_free hT 0
  have f1 := blk_free hT 1
  have f2 := blk_free hT 2
  have hTl := lt_of_heap hT
  have hu1 := ((Unch.refl none_ w).alloc _).trans hu
  unfold zltr
  go_wp2
  refine bodyPost_ret (results_ct rfl _ _ w.heap.size _ _ _ _ rfl (blk_alloc (blk_set3 hT) _) Try.underlying47 rfl (by kernel_rfl)) rfl ?_
  exact ⟨rfl, (hu1.step unch_set3 (fun i hi e => by omega)).alloc _⟩
section
variable {w : World} {N K nodes : Nat} {v : Value} {l : List Ltr} {c : Nat → Nat → Bool}
set_option maxRecDepth 100000 in
set_option maxHeartbeats 1000000 in
theorem ntake_ok (h : Nt w N K v nodes l c) (i : Nat) (x : Ltr) (hx : l[i]? = some x) (hl : l.length ≤ 256) :
    Calls Try.prog 21 #[.pointer (some ⟨N, 0, none⟩), .int .i64 (i : Int)] w fun e w' => e = .returned (.tuple #[x.val, .bool true]) ∧ Left w N K v nodes (l.eraseIdx i) c w' := by
  obtain ⟨m, Hm⟩ : ∃ m, l.length = m := ⟨_, rfl⟩
  have him : i < m := by have := (List.getElem?_eq_some_iff.1 hx).1; omega
  have hrow := h.row
  rw [Hm] at hrow
  obtain ⟨g, o, cap, cur, hv, _, _, _, _⟩ := hrow.form (by omega)
  subst hv
  have c1 := blk_cell h.hN (j := 1) rfl
  have fN := blk_free h.hN 1
  have hH := h.fresh ((Unch.refl none_ w).alloc (.cells #[.int .i64 0, .int .i64 0, .string ⟨#[]⟩] 47))
  have i3 : (i : Int) < 256 := by omega
  have i4 : (0 : Int) ≤ (i : Int) := by omega
  have HX := Lib.hid hx
  have HM := Lib.hid Hm
  have hgl : g < w.heap.size := h.lt (k := g) (.inr (.inr rfl))
  have hNl := lt_of_heap h.hN
  have hgN : g ≠ N := (h.vN (k := g) rfl).1
  clear hx Hm
  go_enter Try.func21, Try.ntmps21
  go_wp2_with fail
  refine (npeek_ok hH i x HX.out).mono ?_
  rintro e w1 ⟨rfl, hu⟩
  have hT := hu.heap (blk_new w _) (fun h => h)
  have hu1 := ((Unch.refl none_ w).alloc _).trans hu
  have d1 := hu1.cell c1 (fun h => h)
  have hNl1 := Nat.lt_of_lt_of_le hNl hu1.size
  unfold Ltr.val
  go_wp2_with fail
  have hua := hu1.alloc (.cells #[.int .i64 (x.src : Int), .int .i64 (x.dst : Int), .string x.txt] 47)
  refine (delete_ok (hrow.unch hua (fun _ _ h => h)) i him).mono ?_
  rintro e w2 ⟨rfl, hr2, hu2⟩
  have hsz := hu1.size
  have hT2 := hu2.heap (blk_alloc hT (.cells #[.int .i64 (x.src : Int), .int .i64 (x.dst : Int), .string x.txt] 47)) (by omega)
  have hY2 := hu2.heap (blk_new w1 (.cells #[.int .i64 (x.src : Int), .int .i64 (x.dst : Int), .string x.txt] 47)) (by omega)
  have hN2 := hu2.heap (hua.heap h.hN (fun h => h)) (Ne.symm hgN)
  have dN := blk_cell hN2 (j := 1) rfl
  have fN2 := blk_free hN2 1
  have t0 := blk_cell hT2 (j := 0) rfl
  have t1 := blk_cell hT2 (j := 1) rfl
  have t2 := blk_cell hT2 (j := 2) rfl
  have q0 := blk_free hT2 0
  have q1 := blk_free hT2 1
  have q2 := blk_free hT2 2
  have y0 := blk_cell hY2 (j := 0) rfl
  have y1 := blk_cell hY2 (j := 1) rfl
  have y2 := blk_cell hY2 (j := 2) rfl
  have hTl : w.heap.size < w1.heap.size := lt_of_heap hT
  have n1 : N ≠ w.heap.size := by omega
  have n2 : N ≠ w1.heap.size := by omega
  have n3 : w.heap.size ≠ w1.heap.size := by omega
  have hu3 : Unch (fun k => (Value.slice (some ⟨g, o, none⟩) m cap).ownBlock = some k) w w2 := (hua.mono (fun _ _ h => h.elim)).step (Y := fun k => k = g) hu2 (fun i hi e => by rw [e]; rfl)
  have hel : (l.eraseIdx i).length = m - 1 := by rw [List.length_eraseIdx, HM.out, if_pos him]
  have hfin := h.grown_ (l' := l.eraseIdx i) (v' := .slice (some ⟨g, o, none⟩) (m - 1) cap) (by rw [hel]; exact hr2) hu3 (.inl rfl)
  have HF := Lib.hid hfin
  have HT2 := Lib.hid hT2
  clear hfin hr2 hel hT2 hY2 hN2 hu2 hua
  go_wp2
  refine bodyPost_ret (results_ct rfl _ _ w.heap.size _ _ _ _ rfl (blk_set3 (blk_set_ne HT2.out (Ne.symm n1) _ _)) Try.underlying47 rfl (by kernel_rfl)) rfl ?_
  obtain ⟨r1, r2, r3⟩ := HF.out
  exact ⟨rfl, _, r1.unch unch_set3 (fun k hk e => by have h1 : k < w.heap.size := h.lt (k := k) hk; omega), r2.step unch_set3 (fun i hi e => by omega), r3⟩
end
end Go.Proofs.Ytmffpeblcaalgaa
