/-
  The document's net (palaverlaw21.model): does doubles a letter.
-/
import Derived.Test.YtmffpeblcaalgaaNModel2
import Derived.Test.YtmffpeblcaalgaaKeep
set_option linter.unusedVariables false
set_option linter.unusedSimpArgs false
namespace Go.Proofs.Ytmffpeblcaalgaa
open Go Go.RowKit Go.Proofs.Ytmffpeblcaalgaa.Pal Go.Proofs.Ytmffpeblcaalgaa.Plan

set_option maxRecDepth 100000 in
set_option maxHeartbeats 4000000 in
theorem does_double {w : World} {M nodes : Nat} {v : Value} {l : List Ltr} {c : Nat → Nat → Bool} (h : Md w M v nodes l c) (hO : Ok nodes l) (k a b n : Int) (t : ByteArray) (K0 : Hid (k = 2)) :
    Calls Try.prog 24 #[.pointer (some ⟨M, 0, none⟩), actV k a b n t] w (DoesPost w M v nodes (doStep nodes l c k a b n t)) := by
  obtain ⟨r, Hr⟩ : ∃ r, Hid (doStep nodes l c k a b n t = r) := ⟨_, rfl⟩
  rw [Hr.out]
  have c1 := h.c1
  obtain ⟨A, cp, hv, hlc⟩ := h.row.slice
  obtain ⟨m, hm⟩ : ∃ m, l.length = m := ⟨_, rfl⟩
  rw [hm] at hv
  subst hv
  have hMl := lt_of_heap h.hM
  unfold actV
  go_enter Try.func24, Try.ntmps24
  go_upto_region 1 with fail
  go_cut [7] from 11 to 23 (fun v7 wx => v7 = .bool (thereB l n) ∧ ∃ nq, wx = (inDoes w k a b n t).drewN nq)
  case first =>
    by_cases h0 : 0 ≤ n
    · go_quiet (fail)
      go_wp2
      go_meet
      exact ⟨congrArg Value.bool (decide_eq_decide.2 (by omega)), _, rfl⟩
    · go_quiet (fail)
      go_wp2
      go_meet
      exact ⟨congrArg Value.bool (decide_eq_false (by omega)).symm, _, rfl⟩
  case rest =>
    obtain ⟨rfl, nq, rfl⟩ := hcut
    have hu := (inDoes_unch (w := w) (k := k) (a := a) (b := b) (n := n) (t := t)).drewN nq
    have bA : ((inDoes w k a b n t).drewN nq).heap[w.heap.size]? = some (actO k a b n t) := blk_alloc (blk_new w _) _
    have b4 : ((inDoes w k a b n t).drewN nq).heap[w.heap.size + 1]? = some zO := by
      have := blk_new (w.alloc (actO k a b n t)) zO
      simpa [inDoes, World.drewN] using this
    have hs : ((inDoes w k a b n t).drewN nq).heap.size = w.heap.size + 2 := by simp [inDoes, World.drewN]
    generalize (inDoes w k a b n t).drewN nq = w1 at *
    have hs1 : w.heap.size + 1 < w1.heap.size := by omega
    clear hs
    have a0 := blk_cell bA (j := 0) rfl
    have a1 := blk_cell bA (j := 1) rfl
    have a2 := blk_cell bA (j := 2) rfl
    have a3 := blk_cell bA (j := 3) rfl
    have a4 := blk_cell bA (j := 4) rfl
    have t0 := blk_cell b4 (j := 0) rfl
    have t1 := blk_cell b4 (j := 1) rfl
    have t2 := blk_cell b4 (j := 2) rfl
    have q0 := blk_free b4 0
    have q1 := blk_free b4 1
    have q2 := blk_free b4 2
    have hH := h.fresh hu
    have d1 := hH.c1
    have d0 := hH.c0
    have sameq : ∀ (q : Nat) (x y z : Value), MLeft w M (.slice A m cp) nodes l c ((((w1.drewN q).setCell ⟨w.heap.size + 1, 0, none⟩ x).setCell ⟨w.heap.size + 1, 1, none⟩ y).setCell ⟨w.heap.size + 1, 2, none⟩ z) := fun q x y z => MLeft.same h ((hu.drewN q).step unch_set3 (fun i hi e => by omega))
    have SAMEQ := Lib.hid sameq
    clear sameq
    have same : ∀ x y z : Value, MLeft w M (.slice A m cp) nodes l c (((w1.setCell ⟨w.heap.size + 1, 0, none⟩ x).setCell ⟨w.heap.size + 1, 1, none⟩ y).setCell ⟨w.heap.size + 1, 2, none⟩ z) := fun x y z => MLeft.same h (hu.step unch_set3 (fun i hi e => by omega))
    have SAME := Lib.hid same
    have B4 := Lib.hid b4
    clear same b4 c1
    have k1 := K0.out
    subst k1
    have hr0 := Hr.out
    rw [doStep, if_neg (by decide), if_neg (by decide), if_pos rfl] at hr0
    cases hth : thereB l n
    · rw [there_none hth] at hr0
      subst hr0
      go_wp2
      refine bodyPost_ret (results_ctt rfl _ _ (w.heap.size + 1) _ _ _ _ rfl (blk_set3z B4.out) Try.underlying47 rfl (by kernel_rfl)) rfl ?_
      exact ⟨rfl, SAME.out _ _ _⟩
    · obtain ⟨j, x, rfl, hx, he⟩ := there_some hth
      rw [he] at hr0
      simp only [Int.toNat_natCast] at hr0
      clear Hr he
      by_cases hfull : 256 ≤ l.length
      · rw [if_pos hfull] at hr0
        subst hr0
        have z4 : (256 : Int) ≤ (m : Int) := by omega
        go_wp2
        refine bodyPost_ret (results_ctt rfl _ _ (w.heap.size + 1) _ _ _ _ rfl (blk_set3z B4.out) Try.underlying47 rfl (by kernel_rfl)) rfl ?_
        exact ⟨rfl, SAME.out _ _ _⟩
      · rw [if_neg hfull] at hr0
        subst hr0
        have z4 : ¬ ((256 : Int) ≤ (m : Int)) := by omega
        have hjm : j < m := by have := (List.getElem?_eq_some_iff.1 hx).1; omega
        have hrow1 := hH.row
        rw [hm] at hrow1
        obtain ⟨g, o, cap, cur, hv, hgb, _, _, _⟩ := hrow1.form (by omega)
        injection hv with e1 _ e3
        subst e1; subst e3
        obtain ⟨y0, y1, y2⟩ := Row.ltr hrow1 hx
        have z0 : (0 : Int) ≤ (j : Int) := by omega
        have z1 : (j : Int) < (m : Int) := by omega
        have z2 : (m : Int) ≤ 256 := by have := hO.len; omega
        have hgl : g < w.heap.size := h.lt (k := g) (.inr rfl)
        have HX := Lib.hid hx
        clear hx
        go_wp2_with fail
        refine wp_planC (fun W => W.heap[M]? = w1.heap[M]? ∧ W.heap[w.heap.size]? = w1.heap[w.heap.size]? ∧ W.cell? ⟨g, o + j * 3, none⟩ = some (.int .i64 x.src) ∧ W.cell? ⟨g, o + j * 3 + 1, none⟩ = some (.int .i64 x.dst) ∧ W.cell? ⟨g, o + j * 3 + 2, none⟩ = some (.string x.txt)) [0, 1, 2, 3, 4, 5, 6, 7, 8, 9, 10, 11, 12] [13, 14, 15, 16, 17] 2 (by kernel_rfl) (by kernel_rfl) rfl rfl (fun c a d v w h => by cases d <;> exact h) (⟨rfl, rfl, y0, y1, y2⟩) ?_
        intro S HS _
        have s1 : ∀ (G : In S), G.w.cell? ⟨M, 1, none⟩ = w1.cell? ⟨M, 1, none⟩ := fun G => World.cell?_of_block (a := ⟨M, 1, none⟩) ((HS.out _).1 G.h).1
        have s2 : ∀ (G : In S), G.w.cell? ⟨w.heap.size, 3, none⟩ = w1.cell? ⟨w.heap.size, 3, none⟩ := fun G => World.cell?_of_block (a := ⟨w.heap.size, 3, none⟩) ((HS.out _).1 G.h).2.1
        have s3 : ∀ (G : In S), G.w.cell? ⟨g, o + j * 3, none⟩ = some (.int .i64 x.src) := fun G => ((HS.out _).1 G.h).2.2.1
        have s4 : ∀ (G : In S), G.w.cell? ⟨g, o + j * 3 + 1, none⟩ = some (.int .i64 x.dst) := fun G => ((HS.out _).1 G.h).2.2.2.1
        have s5 : ∀ (G : In S), G.w.cell? ⟨g, o + j * 3 + 2, none⟩ = some (.string x.txt) := fun G => ((HS.out _).1 G.h).2.2.2.2
        simp only [pickIn, List.getElem?_toArray, List.getElem?_cons_succ, List.getElem?_cons_zero]
        repeat (go_big_quiet_step (fail))
        refine wpQuiet_nil ?_
        refine tail_step ?_
        go_wp2_with fail
        have hMw1 : M < w1.heap.size := by omega
        have hu2 : Unch none_ w1.drew (w1.drew.alloc (Obj.cells #[Value.int IntKind.i64 ↑x.src, Value.int IntKind.i64 ↑x.dst, Value.string x.txt] 47)) := (Unch.refl none_ w1.drew).alloc _
        have hrow1' : Row w1.drew 47 3 (.slice (some ⟨g, o, none⟩) m cp) m (lcells l) := hrow1.move fun _ _ => rfl
        refine tail_midS ((HS.out _).2 ⟨hu2.block M hMw1 (fun h => h), hu2.block w.heap.size (show w.heap.size < w1.heap.size by omega) (fun h => h), hu2.cell (w := w1.drew) y0 (fun h => h), hu2.cell (w := w1.drew) y1 (fun h => h), hu2.cell (w := w1.drew) y2 (fun h => h)⟩) (tail_step ?_)
        refine wpList_append1_keep w1.drew rfl (.tmp 125) (.tmp 134) 53 47 _ 3 32 rfl Try.underlying53 info_ltr rfl (by omega) (.slice (some ⟨g, o, none⟩) m cp) m (lcells l) (by rfl) hrow1' (Ltr.cells x) rfl (by intro u hu; simp [Ltr.cells] at hu; rcases hu with rfl | rfl | rfl <;> rfl) (by rfl) (by simp only [maxLen]; omega) (by omega) ?_
        intro v' w3 hr3 hk3 hu3 hat3
        obtain ⟨A', c', rfl, _⟩ := hr3.slice
        have hvM : (Value.slice (some ⟨g, o, none⟩) m cp).ownBlock ≠ some M := fun hk => h.vM hk rfl
        have hvT : ∀ j, (Value.slice (some ⟨g, o, none⟩) m cp).ownBlock ≠ some (w.heap.size + j) := fun j hk => by have := h.lt (.inr hk); omega
        have hM3 := hu3.heap (w := w1.drew) hH.hM hvM
        have hT3 := hu3.heap (w := w1.drew) B4.out (hvT 1)
        have dM3 := blk_cell hM3 (j := 1) (by unfold mcells; rw [Array.getElem?_append_left (by simp)]; rfl)
        have fM3 := blk_free hM3 1
        obtain ⟨y0', y1', y2'⟩ := Row.ltr hk3 HX.out
        refine wpList_nil (tail_midS ((HS.out _).2 ⟨hu3.block M (show M < w1.heap.size by omega) hvM, hu3.block w.heap.size (show w.heap.size < w1.heap.size by omega) (hvT 0), y0', y1', y2'⟩) (tail_all ?_))
        have t0' := blk_cell hT3 (j := 0) rfl
        have t1' := blk_cell hT3 (j := 1) rfl
        have t2' := blk_cell hT3 (j := 2) rfl
        have q0' := blk_free hT3 0
        have q1' := blk_free hT3 1
        have q2' := blk_free hT3 2
        have hMT : M ≠ w.heap.size + 1 := by omega
        have hu4 : Unch (fun k => (Value.slice (some ⟨g, o, none⟩) m cp).ownBlock = some k) w w3 := (hu.mono (fun _ _ h => h.elim)).step (Y := fun k => (Value.slice (some ⟨g, o, none⟩) m cp).ownBlock = some k) ⟨hu3.os, hu3.tape, hu3.output, hu3.size, hu3.block⟩ (fun _ _ h => h)
        have hG := h.grown_ (l' := l ++ [x]) (by rw [List.length_append, hm, lcells_append]; exact hr3) hu4 (by
          rcases hat3 with h1 | ⟨b, h1, h2⟩
          · exact .inl h1
          · exact .inr ⟨b, h1, Nat.le_trans hu.size h2⟩)
        have hfar : (Value.slice A' (m + 1) c').ownBlock ≠ some (w.heap.size + 1) := fun hk => by
          rcases hat3 with h1 | ⟨b, h1, h2⟩
          · exact hvT 1 (h1 ▸ hk)
          · rw [h1] at hk; injection hk with hk; subst hk
            have h2' : w1.heap.size ≤ w.heap.size + 1 := h2
            omega
        have HG := Lib.hid hG
        have HT3 := Lib.hid hT3
        clear hG hT3 s1 s2 s3 s4 s5 hm hth
        go_wp2
        refine bodyPost_ret (results_ctt rfl _ _ (w.heap.size + 1) _ _ _ _ rfl (blk_set3z (blk_set_ne HT3.out (Ne.symm hMT) _ _)) Try.underlying47 rfl (by kernel_rfl)) rfl ?_
        obtain ⟨g1, g2, g3⟩ := HG.out
        refine ⟨rfl, _, g1.unch unch_set3 (fun k hk e => ?_), g2.step unch_set3 (fun i hi e => by omega), g3⟩
        rcases hk with hk | hk
        · omega
        · exact hfar (e ▸ hk)
end Go.Proofs.Ytmffpeblcaalgaa
