/-
  The document's net (palaverlaw21.model): does takes a letter.
-/
import Derived.Test.YtmffpeblcaalgaaNModel
set_option linter.unusedVariables false
set_option linter.unusedSimpArgs false
namespace Go.Proofs.Ytmffpeblcaalgaa
open Go Go.RowKit Go.Proofs.Ytmffpeblcaalgaa.Pal Go.Proofs.Ytmffpeblcaalgaa.Plan

theorem own_eq {g o n c k : Nat} (h : (Value.slice (some ⟨g, o, none⟩) n c).ownBlock = some k) : g = k := by simpa [Value.ownBlock] using h
set_option maxRecDepth 100000 in
set_option maxHeartbeats 4000000 in
theorem does_take {w : World} {M nodes : Nat} {v : Value} {l : List Ltr} {c : Nat → Nat → Bool} (h : Md w M v nodes l c) (hO : Ok nodes l) (k a b n : Int) (t : ByteArray) (K0 : Hid (k = 1)) :
    Calls Try.prog 24 #[.pointer (some ⟨M, 0, none⟩), actV k a b n t] w (DoesPost w M v nodes (doStep nodes l c k a b n t)) := by
  obtain ⟨r, Hr⟩ : ∃ r, Hid (doStep nodes l c k a b n t = r) := ⟨_, rfl⟩
  rw [Hr.out]
  have c1 := h.c1
  obtain ⟨A, cp, hv, hlc⟩ := h.row.slice
  obtain ⟨m, hm⟩ : ∃ m, l.length = m := ⟨_, rfl⟩
  rw [hm] at hv
  subst hv
  have hMl := lt_of_heap h.hM
  unfold actV
  go_enter Try.func24, Try.ntmps24
  go_upto_region 1 with fail
  go_cut [7] from 11 to 23 (fun v7 wx => v7 = .bool (thereB l n) ∧ ∃ nq, wx = (inDoes w k a b n t).drewN nq)
  case first =>
    by_cases h0 : 0 ≤ n
    · go_quiet (fail)
      go_wp2
      go_meet
      exact ⟨congrArg Value.bool (decide_eq_decide.2 (by omega)), _, rfl⟩
    · go_quiet (fail)
      go_wp2
      go_meet
      exact ⟨congrArg Value.bool (decide_eq_false (by omega)).symm, _, rfl⟩
  case rest =>
    obtain ⟨rfl, nq, rfl⟩ := hcut
    have hu := (inDoes_unch (w := w) (k := k) (a := a) (b := b) (n := n) (t := t)).drewN nq
    have bA : ((inDoes w k a b n t).drewN nq).heap[w.heap.size]? = some (actO k a b n t) := blk_alloc (blk_new w _) _
    have b4 : ((inDoes w k a b n t).drewN nq).heap[w.heap.size + 1]? = some zO := by
      have := blk_new (w.alloc (actO k a b n t)) zO
      simpa [inDoes, World.drewN] using this
    have hs : ((inDoes w k a b n t).drewN nq).heap.size = w.heap.size + 2 := by simp [inDoes, World.drewN]
    generalize (inDoes w k a b n t).drewN nq = w1 at *
    have hs1 : w.heap.size + 1 < w1.heap.size := by omega
    clear hs
    have a0 := blk_cell bA (j := 0) rfl
    have a1 := blk_cell bA (j := 1) rfl
    have a2 := blk_cell bA (j := 2) rfl
    have a3 := blk_cell bA (j := 3) rfl
    have a4 := blk_cell bA (j := 4) rfl
    have t0 := blk_cell b4 (j := 0) rfl
    have t1 := blk_cell b4 (j := 1) rfl
    have t2 := blk_cell b4 (j := 2) rfl
    have q0 := blk_free b4 0
    have q1 := blk_free b4 1
    have q2 := blk_free b4 2
    have hH := h.fresh hu
    have d1 := hH.c1
    have d0 := hH.c0
    have sameq : ∀ (q : Nat) (x y z : Value), MLeft w M (.slice A m cp) nodes l c ((((w1.drewN q).setCell ⟨w.heap.size + 1, 0, none⟩ x).setCell ⟨w.heap.size + 1, 1, none⟩ y).setCell ⟨w.heap.size + 1, 2, none⟩ z) := fun q x y z => MLeft.same h ((hu.drewN q).step unch_set3 (fun i hi e => by omega))
    have SAMEQ := Lib.hid sameq
    clear sameq
    have same : ∀ x y z : Value, MLeft w M (.slice A m cp) nodes l c (((w1.setCell ⟨w.heap.size + 1, 0, none⟩ x).setCell ⟨w.heap.size + 1, 1, none⟩ y).setCell ⟨w.heap.size + 1, 2, none⟩ z) := fun x y z => MLeft.same h (hu.step unch_set3 (fun i hi e => by omega))
    have SAME := Lib.hid same
    have B4 := Lib.hid b4
    clear same b4 c1
    have k1 := K0.out
    subst k1
    have hr0 := Hr.out
    rw [doStep, if_neg (by decide), if_pos rfl] at hr0
    cases hth : thereB l n
    · rw [there_none hth] at hr0
      subst hr0
      go_wp2
      refine bodyPost_ret (results_ctt rfl _ _ (w.heap.size + 1) _ _ _ _ rfl (blk_set3z B4.out) Try.underlying47 rfl (by kernel_rfl)) rfl ?_
      exact ⟨rfl, SAME.out _ _ _⟩
    · obtain ⟨j, x, rfl, hx, he⟩ := there_some hth
      rw [he] at hr0
      simp only [Int.toNat_natCast] at hr0
      subst hr0
      clear Hr he
      have hjm : j < m := by have := (List.getElem?_eq_some_iff.1 hx).1; omega
      have hrow1 := hH.row
      rw [hm] at hrow1
      obtain ⟨g, o, cap, cur, hv, hgb, _, _, _⟩ := hrow1.form (by omega)
      injection hv with e1 _ e3
      subst e1; subst e3
      obtain ⟨y0, y1, y2⟩ := Row.ltr hrow1 hx
      have z0 : (0 : Int) ≤ (j : Int) := by omega
      have z1 : (j : Int) < (m : Int) := by omega
      have z2 : (m : Int) ≤ 256 := by have := hO.len; omega
      have hgl : g < w.heap.size := h.lt (k := g) (.inr rfl)
      go_wp2_with fail
      refine wp_plan3 M w.heap.size g [0, 1, 2, 3, 4, 5, 6, 7] [8, 9] 1 (by kernel_rfl) (by kernel_rfl) rfl rfl (fun c a d v w h => by cases d <;> exact h) ?_
      intro S HS _ s1 s2 s3
      simp only [pickIn, List.getElem?_toArray, List.getElem?_cons_succ, List.getElem?_cons_zero]
      repeat (go_big_quiet_step (fail))
      refine wpQuiet_nil ?_
      refine tail_step ?_
      go_wp2
      refine tail_midS ((HS.out _).2 ⟨Below.heap_alloc _ _ _ (show M < w1.heap.size by omega), Below.heap_alloc _ _ _ (show w.heap.size < w1.heap.size by omega), Below.heap_alloc _ _ _ (show g < w1.heap.size by omega)⟩) (tail_all ?_)
      go_wp2_with fail
      have hu2 : Unch none_ w1 (w1.alloc (Obj.cells #[Value.int IntKind.i64 ↑x.src, Value.int IntKind.i64 ↑x.dst, Value.string x.txt] 47)).drew := ((Unch.refl none_ w1).alloc _).drew
      have bX : (w1.alloc (Obj.cells #[Value.int IntKind.i64 ↑x.src, Value.int IntKind.i64 ↑x.dst, Value.string x.txt] 47)).drew.heap[w1.heap.size]? = some (.cells #[.int .i64 x.src, .int .i64 x.dst, .string x.txt] 47 (0, 0)) := blk_new w1 _
      have hs2 : (w1.alloc (Obj.cells #[Value.int IntKind.i64 ↑x.src, Value.int IntKind.i64 ↑x.dst, Value.string x.txt] 47)).drew.heap.size > w1.heap.size := by simp [World.drew]
      generalize (w1.alloc (Obj.cells #[Value.int IntKind.i64 ↑x.src, Value.int IntKind.i64 ↑x.dst, Value.string x.txt] 47)).drew = w2 at *
      clear a0 a1 a2 a3 a4 t0 t1 t2 q0 q1 q2 d0 d1 y0 y1 y2 HS
      have hH2 := hH.fresh hu2
      have bA2 := hu2.heap bA (fun h => h)
      have bT2 := hu2.heap B4.out (fun h => h)
      have hrow2 := hrow1.unch hu2 (fun _ _ h => h)
      have a3 := blk_cell bA2 (j := 3) rfl
      have d1 := hH2.c1
      clear hH2 hrow1 hgb
      have BX := Lib.hid bX
      have BT2 := Lib.hid bT2
      clear bX bT2 bA bA2
      have z3 : (0 : Int) ≤ (j : Int) + 1 := by omega
      have z4 : (j : Int) + 1 ≤ (m : Int) := by omega
      refine wp_plan2 M w.heap.size [0, 2, 3, 4, 5, 6, 7, 8, 10, 11, 12, 13, 14, 15, 16, 17] [1, 9, 18, 19, 20, 21] 3 (by kernel_rfl) (by kernel_rfl) rfl rfl (fun c a d v w h => by cases d <;> exact h) ?_
      intro S HS _ s1 s2
      simp only [pickIn, List.getElem?_toArray, List.getElem?_cons_succ, List.getElem?_cons_zero]
      repeat (go_big_quiet_step (fail))
      refine wpQuiet_nil ?_
      generalize hA0 : (if cp = j + 1 then some (⟨g, o, none⟩ : Addr) else some ⟨g, o + (j + 1) * 3, none⟩) = A0
      have HA0 := Lib.hid hA0
      clear hA0
      refine tail_step ?_
      go_wp2_with fail
      have hMs : M < w2.heap.size := by omega
      have hTs : w.heap.size + 1 < w2.heap.size := by omega
      have hu3 : Unch none_ w2 (w2.alloc (Obj.cells #[] 47)).drew := ((Unch.refl none_ w2).alloc _).drew
      have bE : (w2.alloc (Obj.cells #[] 47)).drew.heap[w2.heap.size]? = some (.cells #[] 47 (0, 0)) := blk_new w2 _
      have hs3 : (w2.alloc (Obj.cells #[] 47)).drew.heap.size > w2.heap.size := by simp [World.drew]
      generalize (w2.alloc (Obj.cells #[] 47)).drew = w3 at *
      refine tail_midS ((HS.out _).2 ⟨hu3.block _ hMs (fun h => h), hu3.block _ (by omega) (fun h => h)⟩) (tail_step ?_)
      have hrow3 := hrow2.unch hu3 (fun _ _ h => h)
      have hE3 : Row w3 47 3 (.slice (some ⟨w2.heap.size, 0, none⟩) 0 0) 0 [] := ⟨rfl, .inr ⟨_, _, _, _, rfl, bE, Nat.le_refl _, Nat.zero_le _, by simp, by simp⟩⟩
      have hjt : (lcells (l.take j)).length = j * 3 := by rw [lcells_len, List.length_take]; omega
      refine wpList_append w3 rfl (.tmp 88) (.tmp 95) 53 47 _ 3 32 rfl Try.underlying53 info_ltr rfl (by omega) (.slice (some ⟨w2.heap.size, 0, none⟩) 0 0) 0 [] (by rfl) hE3 (some ⟨g, o, none⟩) j cp (lcells (l.take j)) (by rfl) hjt
        (fun _ => ⟨_, rfl, fun i u hu => by
          rw [lcells_take, List.getElem?_take] at hu
          split at hu
          · rw [Addr.add_lit]; exact hrow3.at rfl hu
          · cases hu⟩) (fun h => by cases h) (ltr_one _) (by simp only [maxLen]; omega) (by omega) ?_
      intro v4 w4 hr4 hu4 hat4
      rw [Nat.zero_add, List.nil_append] at hr4
      refine wpList_nil (tail_midS ((HS.out _).2 ⟨(hu4.block _ (by omega) (fun e => by have := own_eq e; omega)).trans (hu3.block _ hMs (fun h => h)), (hu4.block _ (by omega) (fun e => by have := own_eq e; omega)).trans (hu3.block _ (by omega) (fun h => h))⟩) (tail_step ?_))
      have hrow4 := hrow3.unch hu4 (fun k hk e => by have := own_eq hk; have := own_eq e; omega)
      have hjd : (lcells (l.drop (j + 1))).length = (m - (j + 1)) * 3 := by rw [lcells_len, List.length_drop]; omega
      have hb4 : ∃ b, v4.ownBlock = some b ∧ w2.heap.size ≤ b := by
        rcases hat4 with h1 | ⟨b, h1, h2⟩
        · exact ⟨_, h1, Nat.le_refl _⟩
        · exact ⟨b, h1, by omega⟩
      refine wpList_append w4 rfl (.tmp 96) (.tmp 104) 53 47 _ 3 32 rfl Try.underlying53 info_ltr rfl (by omega) v4 j (lcells (l.take j)) (by rfl) hr4 A0 (m - (j + 1)) (cp - (j + 1)) (lcells (l.drop (j + 1))) (by rfl) hjd
        (fun hp => ⟨⟨g, o + (j + 1) * 3, none⟩, by rw [← HA0.out, if_neg (by omega)], fun i u hu => by
          rw [lcells_drop, List.getElem?_drop] at hu
          rw [Addr.add_lit, Nat.add_assoc]; exact hrow4.at rfl hu⟩) (fun h => by have := HA0.out; rw [h] at this; split at this <;> cases this) (ltr_one _) (by simp only [maxLen]; omega) (by omega) ?_
      intro v5 w5 hr5 hu5 hat5
      rw [← lcells_append, ← List.eraseIdx_eq_take_drop_succ, show j + (m - (j + 1)) = (l.eraseIdx j).length by rw [List.length_eraseIdx]; split <;> omega] at hr5
      obtain ⟨A5, c5, rfl, _⟩ := hr5.slice
      have hw3 : Unch none_ w w3 := (hu.trans hu2).trans hu3
      have hw4 : Unch none_ w w4 := hw3.step hu4 (fun i hi e => by have := own_eq e; omega)
      have hw5 : Unch none_ w w5 := hw4.step hu5 (fun i hi e => by obtain ⟨b, h1, h2⟩ := hb4; rw [h1] at e; injection e with e; omega)
      have h25 : Unch none_ w2 w5 := ((hu3.step (Y := fun k => (Value.slice (some ⟨w2.heap.size, 0, none⟩) 0 0).ownBlock = some k) hu4 (fun i hi e => by have := own_eq e; omega))).step hu5 (fun i hi e => by obtain ⟨b, h1, h2⟩ := hb4; rw [h1] at e; injection e with e; omega)
      have hb5 : ∃ b, (Value.slice A5 (l.eraseIdx j).length c5).ownBlock = some b ∧ w2.heap.size ≤ b := by
        rcases hat5 with h1 | ⟨b, h1, h2⟩
        · obtain ⟨b, h3, h4⟩ := hb4; exact ⟨b, h1.trans h3, h4⟩
        · exact ⟨b, h1, by have := hu4.size; omega⟩
      obtain ⟨b5, hb5, hlt5⟩ := hb5
      have hG := h.grown_ (l' := l.eraseIdx j) hr5 (hw5.mono (fun _ _ h => h.elim)) (.inr ⟨b5, hb5, by omega⟩)
      have hfar : (Value.slice A5 (l.eraseIdx j).length c5).ownBlock ≠ some (w.heap.size + 1) := fun hk => by rw [hb5] at hk; injection hk with hk; omega
      have dM5 := blk_cell (hw5.heap h.hM (fun h => h)) (j := 1) (by unfold mcells; rw [Array.getElem?_append_left (by simp)]; rfl)
      have fM5 := blk_free (hw5.heap h.hM (fun h => h)) 1
      have hT5 := h25.heap BT2.out (fun h => h)
      have hX5 := h25.heap BX.out (fun h => h)
      have t0' := blk_cell hT5 (j := 0) rfl
      have t1' := blk_cell hT5 (j := 1) rfl
      have t2' := blk_cell hT5 (j := 2) rfl
      have q0' := blk_free hT5 0
      have q1' := blk_free hT5 1
      have q2' := blk_free hT5 2
      have x0' := blk_cell hX5 (j := 0) rfl
      have x1' := blk_cell hX5 (j := 1) rfl
      have x2' := blk_cell hX5 (j := 2) rfl
      have hMT : M ≠ w.heap.size + 1 := by omega
      have hMX : M ≠ w1.heap.size := by omega
      have HG := Lib.hid hG
      have HT5 := Lib.hid hT5
      refine wpList_nil (tail_midS ((HS.out _).2 ⟨h25.block _ hMs (fun h => h), h25.block _ (by omega) (fun h => h)⟩) (tail_all ?_))
      clear hG hT5 hX5 HS hb5 hat4 hat5 hr4 hr5 hjt hjd hrow2 hrow3 hrow4 s1 s2 a3 d1 bE hm hth hb4
      go_wp2
      refine bodyPost_ret (results_ctt rfl _ _ (w.heap.size + 1) _ _ _ _ rfl (blk_set3z (blk_set_ne HT5.out (Ne.symm hMT) _ _)) Try.underlying47 rfl (by kernel_rfl)) rfl ?_
      obtain ⟨g1, g2, g3⟩ := HG.out
      refine ⟨rfl, _, g1.unch unch_set3 (fun k hk e => ?_), g2.step unch_set3 (fun i hi e => by omega), g3⟩
      rcases hk with hk | hk
      · omega
      · exact hfar (e ▸ hk)
end Go.Proofs.Ytmffpeblcaalgaa
