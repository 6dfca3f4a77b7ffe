/-
  The document's net (palaverlaw21.model): does cuts; does as a whole.
-/
import Derived.Test.YtmffpeblcaalgaaNModel3
set_option linter.unusedVariables false
set_option linter.unusedSimpArgs false
namespace Go.Proofs.Ytmffpeblcaalgaa
open Go Go.RowKit Go.Proofs.Ytmffpeblcaalgaa.Pal Go.Proofs.Ytmffpeblcaalgaa.Plan

theorem mcells_size (nodes : Nat) (v : Value) (c : Nat → Nat → Bool) : (mcells nodes v c).size = 27 := by simp [mcells]
theorem mcells_low (nodes : Nat) (v : Value) (c c' : Nat → Nat → Bool) (i : Nat) (h : i < 2) : (mcells nodes v c)[i]? = (mcells nodes v c')[i]? := by
  unfold mcells
  rw [Array.getElem?_append_left (by simpa using h), Array.getElem?_append_left (by simpa using h)]
theorem mcells_cut (nodes : Nat) (v : Value) (c : Nat → Nat → Bool) (a b : Nat) (ha : a < 5) (hb : b < 5) : (mcells nodes v c).setIfInBounds (2 + a * 5 + b) (.bool true) = mcells nodes v (cutOf c a b) := by
  apply Array.ext_getElem?
  intro i
  rw [Array.getElem?_setIfInBounds]
  rcases Nat.lt_or_ge i 2 with h | h
  · rw [if_neg (by omega)]
    exact mcells_low _ _ _ _ _ h
  · rcases Nat.lt_or_ge i 27 with h' | h'
    · obtain ⟨p, q, rfl, hp, hq⟩ : ∃ p q, i = 2 + p * 5 + q ∧ p < 5 ∧ q < 5 := ⟨(i - 2) / 5, (i - 2) % 5, by omega, by omega, by omega⟩
      rw [mcells_get _ _ _ _ _ hp hq, mcells_get _ _ _ _ _ hp hq]
      unfold cutOf
      by_cases he : p = a ∧ q = b
      · obtain ⟨rfl, rfl⟩ := he
        rw [if_pos rfl, if_pos (by rw [mcells_size]; exact h'), if_pos ⟨rfl, rfl⟩]
      · rw [if_neg (by omega), if_neg he]
    · rw [if_neg (by omega), Array.getElem?_eq_none (by rw [mcells_size]; exact h'), Array.getElem?_eq_none (by rw [mcells_size]; exact h')]
theorem Md.cutSet {w : World} {M nodes : Nat} {v : Value} {l : List Ltr} {c : Nat → Nat → Bool} (h : Md w M v nodes l c) (a b : Nat) (ha : a < 5) (hb : b < 5) : Md (w.setCell ⟨M, 2 + a * 5 + b, none⟩ (.bool true)) M v nodes l (cutOf c a b) :=
  ⟨by rw [blk_set h.hM, mcells_cut _ _ _ _ _ ha hb], h.row.move fun k hk => Below.heap_setCell _ _ _ _ (h.vM hk)⟩

theorem Md.laid {w : World} {M nodes : Nat} {v v' : Value} {l l' : List Ltr} {c : Nat → Nat → Bool} (h : Md w M v nodes l c) (hr : Row w 47 3 v' l'.length (lcells l')) (hne : ∀ b, v'.ownBlock = some b → b ≠ M) : Md (w.setCell ⟨M, 1, none⟩ v') M v' nodes l' c :=
  ⟨by rw [blk_set h.hM 1 v', mcells_set], hr.move fun k hk => Below.heap_setCell _ _ _ _ (hne k hk)⟩
def CutMid (w3 wr : World) (ls : List Ltr) (v : Value) : Prop := Row wr 47 3 v ls.length (lcells ls) ∧ Unch none_ w3 wr ∧ ∀ b, v.ownBlock = some b → w3.heap.size ≤ b
set_option maxRecDepth 100000 in
set_option maxHeartbeats 4000000 in
theorem does_cut {w : World} {M nodes : Nat} {v : Value} {l : List Ltr} {c : Nat → Nat → Bool} (h : Md w M v nodes l c) (hO : Ok nodes l) (k a b n : Int) (t : ByteArray) (K0 : Hid (k = 3)) :
    Calls Try.prog 24 #[.pointer (some ⟨M, 0, none⟩), actV k a b n t] w (DoesPost w M v nodes (doStep nodes l c k a b n t)) := by
  obtain ⟨r, Hr⟩ : ∃ r, Hid (doStep nodes l c k a b n t = r) := ⟨_, rfl⟩
  rw [Hr.out]
  have c1 := h.c1
  obtain ⟨A, cp, hv, hlc⟩ := h.row.slice
  obtain ⟨m, hm⟩ : ∃ m, l.length = m := ⟨_, rfl⟩
  rw [hm] at hv
  subst hv
  have hMl := lt_of_heap h.hM
  unfold actV
  go_enter Try.func24, Try.ntmps24
  go_upto_region 1 with fail
  go_cut [7] from 11 to 23 (fun v7 wx => v7 = .bool (thereB l n) ∧ ∃ nq, wx = (inDoes w k a b n t).drewN nq)
  case first =>
    by_cases h0 : 0 ≤ n
    · go_quiet (fail)
      go_wp2
      go_meet
      exact ⟨congrArg Value.bool (decide_eq_decide.2 (by omega)), _, rfl⟩
    · go_quiet (fail)
      go_wp2
      go_meet
      exact ⟨congrArg Value.bool (decide_eq_false (by omega)).symm, _, rfl⟩
  case rest =>
    obtain ⟨rfl, nq, rfl⟩ := hcut
    have hu := (inDoes_unch (w := w) (k := k) (a := a) (b := b) (n := n) (t := t)).drewN nq
    have bA : ((inDoes w k a b n t).drewN nq).heap[w.heap.size]? = some (actO k a b n t) := blk_alloc (blk_new w _) _
    have b4 : ((inDoes w k a b n t).drewN nq).heap[w.heap.size + 1]? = some zO := by
      have := blk_new (w.alloc (actO k a b n t)) zO
      simpa [inDoes, World.drewN] using this
    have hs : ((inDoes w k a b n t).drewN nq).heap.size = w.heap.size + 2 := by simp [inDoes, World.drewN]
    generalize (inDoes w k a b n t).drewN nq = w1 at *
    have hs1 : w.heap.size + 1 < w1.heap.size := by omega
    clear hs
    have a0 := blk_cell bA (j := 0) rfl
    have a1 := blk_cell bA (j := 1) rfl
    have a2 := blk_cell bA (j := 2) rfl
    have a3 := blk_cell bA (j := 3) rfl
    have a4 := blk_cell bA (j := 4) rfl
    have t0 := blk_cell b4 (j := 0) rfl
    have t1 := blk_cell b4 (j := 1) rfl
    have t2 := blk_cell b4 (j := 2) rfl
    have q0 := blk_free b4 0
    have q1 := blk_free b4 1
    have q2 := blk_free b4 2
    have hH := h.fresh hu
    have d1 := hH.c1
    have d0 := hH.c0
    have sameq : ∀ (q : Nat) (x y z : Value), MLeft w M (.slice A m cp) nodes l c ((((w1.drewN q).setCell ⟨w.heap.size + 1, 0, none⟩ x).setCell ⟨w.heap.size + 1, 1, none⟩ y).setCell ⟨w.heap.size + 1, 2, none⟩ z) := fun q x y z => MLeft.same h ((hu.drewN q).step unch_set3 (fun i hi e => by omega))
    have SAMEQ := Lib.hid sameq
    clear sameq
    have same : ∀ x y z : Value, MLeft w M (.slice A m cp) nodes l c (((w1.setCell ⟨w.heap.size + 1, 0, none⟩ x).setCell ⟨w.heap.size + 1, 1, none⟩ y).setCell ⟨w.heap.size + 1, 2, none⟩ z) := fun x y z => MLeft.same h (hu.step unch_set3 (fun i hi e => by omega))
    have SAME := Lib.hid same
    have B4 := Lib.hid b4
    clear same b4 c1
    have k1 := K0.out
    subst k1
    have hr0 := Hr.out
    rw [doStep, if_neg (by decide), if_neg (by decide), if_neg (by decide), if_pos rfl] at hr0
    have HR0 := Lib.hid hr0
    clear hr0 Hr
    go_wp2_with fail
    refine (mtwo_ok d0 a b).mono ?_
    rintro e w2 ⟨rfl, rfl⟩
    cases h2 : isTwo nodes a b
    · have hr1 := HR0.out
      rw [h2, if_pos rfl] at hr1
      subst hr1
      go_wp2
      refine bodyPost_ret (results_ctt rfl _ _ (w.heap.size + 1) _ _ _ _ rfl (blk_set3z B4.out) Try.underlying47 rfl (by kernel_rfl)) rfl ?_
      exact ⟨rfl, SAME.out _ _ _⟩
    · obtain ⟨x, y, rfl, rfl, hx, hy, hxy⟩ := isTwo_nat h2
      have hr1 := HR0.out
      rw [h2] at hr1
      simp only [Int.toNat_natCast, Bool.true_eq_false, if_false] at hr1
      subst hr1
      clear HR0
      have hx5 : x < 5 := by have := hO.n5; omega
      have hy5 : y < 5 := by have := hO.n5; omega
      have x0 : (0 : Int) ≤ (x : Int) := by omega
      have x1 : (x : Int) < 5 := by omega
      have y0 : (0 : Int) ≤ (y : Int) := by omega
      have y1 : (y : Int) < 5 := by omega
      have fM := blk_free hH.hM
      have dc1 := hH.cut x y hx5 hy5
      have fc1 := fM (2 + x * 5 + y)
      clear fM
      go_wp2
      refine wp_plan2 M w.heap.size [0, 1, 2, 3, 4, 5, 6, 7, 8] [9] 0 (by kernel_rfl) (by kernel_rfl) rfl rfl (fun c a d v w h => by cases d <;> exact h) ?_
      intro S HS _ s1 s2
      simp only [pickIn, List.getElem?_toArray, List.getElem?_cons_succ, List.getElem?_cons_zero]
      repeat (go_big_quiet_step (fail))
      refine wpQuiet_nil ?_
      refine tail_all ?_
      go_wp2_with fail
      have hH2 := (hH.cutSet x y hx5 hy5)
      have hu2 := (hu.mono (Y := mfoot M (.slice A m cp)) (fun _ _ h => h.elim)).setCell (p := ⟨M, 2 + x * 5 + y, none⟩) (.bool true) (fun _ => .inl rfl)
      have hT2 := blk_set_ne B4.out (show w.heap.size + 1 ≠ M by omega) (2 + x * 5 + y) (.bool true)
      have hA2 := blk_set_ne bA (show w.heap.size ≠ M by omega) (2 + x * 5 + y) (.bool true)
      have hs2 : w.heap.size + 1 < (w1.setCell ⟨M, 2 + x * 5 + y, none⟩ (.bool true)).heap.size := by rw [show (w1.setCell ⟨M, 2 + x * 5 + y, none⟩ (.bool true)).heap.size = w1.heap.size by simp [World.setCell]]; exact hs1
      generalize w1.setCell ⟨M, 2 + x * 5 + y, none⟩ (.bool true) = w2 at *
      clear HS s1 s2 a0 a1 a2 a3 a4 t0 t1 t2 q0 q1 q2 d0 d1 dc1 fc1 bA SAME SAMEQ
      have a1 := blk_cell hA2 (j := 1) rfl
      have a2 := blk_cell hA2 (j := 2) rfl
      have fM := blk_free hH2.hM
      have dc1 := hH2.cut y x hy5 hx5
      have fc1 := fM (2 + y * 5 + x)
      have HT2 := Lib.hid hT2
      clear fM hT2
      refine wp_plan2 M w.heap.size [0, 1, 2, 3, 4, 5, 6, 7, 8] [9] 0 (by kernel_rfl) (by kernel_rfl) rfl rfl (fun c a d v w h => by cases d <;> exact h) ?_
      intro S HS _ s1 s2
      simp only [pickIn, List.getElem?_toArray, List.getElem?_cons_succ, List.getElem?_cons_zero]
      repeat (go_big_quiet_step (fail))
      refine wpQuiet_nil ?_
      refine tail_all ?_
      go_wp2_with fail
      have hH3 := (hH2.cutSet y x hy5 hx5)
      have hu3 := hu2.setCell (p := ⟨M, 2 + y * 5 + x, none⟩) (.bool true) (fun _ => .inl rfl)
      have hT3 := blk_set_ne HT2.out (show w.heap.size + 1 ≠ M by omega) (2 + y * 5 + x) (.bool true)
      have hs3 : w.heap.size + 1 < (w2.setCell ⟨M, 2 + y * 5 + x, none⟩ (.bool true)).heap.size := by rw [show (w2.setCell ⟨M, 2 + y * 5 + x, none⟩ (.bool true)).heap.size = w2.heap.size by simp [World.setCell]]; exact hs2
      have hH3 : Md (w2.setCell ⟨M, 2 + y * 5 + x, none⟩ (.bool true)).drew.drew M (.slice A m cp) nodes l (cutOf (cutOf c x y) y x) := ⟨hH3.hM, hH3.row.move fun _ _ => rfl⟩
      have hu3 := hu3.drew.drew
      change (w2.setCell ⟨M, 2 + y * 5 + x, none⟩ (.bool true)).drew.drew.heap[w.heap.size + 1]? = some zO at hT3
      change w.heap.size + 1 < (w2.setCell ⟨M, 2 + y * 5 + x, none⟩ (.bool true)).drew.drew.heap.size at hs3
      generalize (w2.setCell ⟨M, 2 + y * 5 + x, none⟩ (.bool true)).drew.drew = w3 at *
      have HT3 := Lib.hid hT3
      clear hT3 HS s1 s2 a1 a2 dc1 fc1 hA2
      generalize hcc : cutOf (cutOf c x y) y x = cc at *
      clear hcc
      have HM := Lib.hid hm
      clear hm
      go_loopg [9, 10] m (fun gk v9 v10 wr => ∃ j : Nat, j ≤ m ∧ gk = m - j ∧ v10 = .int .i64 (j : Int) ∧ CutMid w3 wr (keep cc (l.take j)) v9)
      case atStart => exact ⟨0, Nat.zero_le _, rfl, rfl, Row.nil _ _ _, Unch.refl _ _, fun _ h => by cases h⟩
      case round =>
        obtain ⟨j, hj, rfl, rfl, hr9, hur, hb9⟩ := hrel
        have hHr := hH3.fresh hur
        have d1 := hHr.c1
        obtain ⟨q, hq⟩ : ∃ q, (keep cc (l.take j)).length = q := ⟨_, rfl⟩
        have hqj := keep_le cc l j
        rw [hq] at hr9 hqj
        obtain ⟨A9, c9, rfl, hc9⟩ := hr9.slice
        by_cases hjm : j < m
        · have z0 : (0 : Int) ≤ (j : Int) := by omega
          have z1 : (j : Int) < (m : Int) := by omega
          have z2 : (m : Int) ≤ 256 := by have := hO.len; have := HM.out; omega
          obtain ⟨z, hz⟩ := get_some HM.out hjm
          have hrow := hHr.row
          rw [HM.out] at hrow
          obtain ⟨g, o, cap, cur, hv, hgb, _, _, _⟩ := hrow.form (by omega)
          injection hv with e1 _ e3
          subst e1; subst e3
          obtain ⟨p0, p1, p2⟩ := Row.ltr hrow hz
          obtain ⟨zs, zd⟩ := hO.small z (List.mem_of_getElem? hz)
          have dcc := hHr.cut z.src z.dst zs zd
          have i0 : (0 : Int) ≤ (z.src : Int) := by omega
          have i1 : (z.src : Int) < 5 := by omega
          have i2 : (0 : Int) ≤ (z.dst : Int) := by omega
          have i3 : (z.dst : Int) < 5 := by omega
          have hkt := keep_take cc l j z hz
          cases hc : cc z.src z.dst
          · rw [hc] at dcc hkt
            simp only [Bool.false_eq_true, if_false] at hkt
            have HK := Lib.hid hkt
            have HQ := Lib.hid hq
            clear hkt hq hz
            go_wp2
            go_quiet (fail)
            have hr9d : ∀ nq, Row (wr.drewN nq) 47 3 (.slice A9 q c9) q (lcells (keep cc (l.take j))) := fun nq => hr9.move fun _ _ => rfl
            have hb9d : ∀ b, (Value.slice A9 q c9).ownBlock = some b → ∀ (w1 : World), Unch (fun k => (Value.slice A9 q c9).ownBlock = some k) (wr.drewN nq) w1 → Unch none_ w3 w1 := fun b hb w1 hu1 => (hur.drewN nq).step hu1 (fun i hi e => by have := hb9 i e; omega)
            have hb0 : (Value.slice A9 q c9).ownBlock = none → ∀ (w1 : World), Unch (fun k => (Value.slice A9 q c9).ownBlock = some k) (wr.drewN nq) w1 → Unch none_ w3 w1 := fun hb w1 hu1 => (hur.drewN nq).step hu1 (fun i hi e => by rw [hb] at e; cases e)
            have HR9 := Lib.hid hr9d
            have HB9 := Lib.hid hb9
            have HBD := Lib.hid hb9d
            have HB0 := Lib.hid hb0
            clear hr9d hb9 hb9d hb0
            go_wp2_with (at_builtin; refine wpList_append1 (wr.drewN nq) rfl (.tmp 198) (.tmp 206) 53 47 _ 3 32 rfl Try.underlying53 info_ltr rfl (by omega) (.slice A9 q c9) q (lcells (keep cc (l.take j))) (by rfl) (HR9.out nq) (Ltr.cells z) rfl (by intro u hu; simp [Ltr.cells] at hu; rcases hu with rfl | rfl | rfl <;> rfl) (by rfl) (by simp only [maxLen]; omega) (by omega) ?_; intro v' w4 hr4 hu4 hat4; have HR4 := Lib.hid hr4; have HU4 := Lib.hid hu4; have HAT4 := Lib.hid hat4; clear hr4 hu4 hat4)
            have hu4' : Unch none_ w3 w4 := by
              cases hb : (Value.slice A9 q c9).ownBlock with
              | none => exact HB0.out hb w4 HU4.out
              | some b => exact HBD.out b hb w4 HU4.out
            go_roundg (m - (j + 1))
            case measure => omega
            case rel =>
              refine ⟨j + 1, by omega, rfl, by go_num, ?_, hu4', fun b hb => ?_⟩
              · rw [HK.out, List.length_append, HQ.out, lcells_append]
                exact HR4.out
              · rcases HAT4.out with h1 | ⟨b', h1, h2⟩
                · exact HB9.out b (h1 ▸ hb)
                · rw [h1] at hb
                  injection hb with hb
                  have := hur.size
                  have : wr.heap.size ≤ b' := h2
                  omega
          · rw [hc] at dcc hkt
            simp only [if_true, List.append_nil] at hkt
            have HK := Lib.hid hkt
            have HQ := Lib.hid hq
            clear hkt hq hz
            go_wp2
            go_quiet (fail)
            go_wp2_with fail
            go_roundg (m - (j + 1))
            case measure => omega
            case rel => exact ⟨j + 1, by omega, rfl, by go_num, by rw [HK.out, HQ.out]; exact hr9.move fun _ _ => rfl, hur.drewN _, hb9⟩
        · obtain rfl : j = m := by omega
          have fM := blk_free hHr.hM 1
          have hTr := hur.heap HT3.out (fun h => h)
          have t0' := blk_cell hTr (j := 0) rfl
          have t1' := blk_cell hTr (j := 1) rfl
          have t2' := blk_cell hTr (j := 2) rfl
          have q0' := blk_free hTr 0
          have q1' := blk_free hTr 1
          have q2' := blk_free hTr 2
          have hMT : M ≠ w.heap.size + 1 := by omega
          have hlt : w.heap.size + 1 < w3.heap.size := hs3
          have hke : keep cc (l.take j) = keep cc l := by rw [List.take_of_length_le (by rw [HM.out]; exact Nat.le_refl _)]
          rw [hke] at hr9 hq
          have hG1 := hHr.laid (l' := keep cc l) (by rw [hq]; exact hr9) (fun b hb => by have := hb9 b hb; omega)
          have hG2 : Unch (mfoot M (.slice A j cp)) w (wr.setCell ⟨M, 1, none⟩ (.slice A9 q c9)) := (hu3.step hur (fun _ _ h => h.elim)).setCell _ (fun _ => .inl rfl)
          have HG := Lib.hid hG1
          have HG2 := Lib.hid hG2
          have HTr := Lib.hid hTr
          have HB9 := Lib.hid hb9
          clear hG1 hG2 hTr hke hr9 hq hb9 hqj
          go_wp2
          refine bodyPost_ret (results_ctt rfl _ _ (w.heap.size + 1) _ _ _ _ rfl (blk_set3z (blk_set_ne HTr.out (Ne.symm hMT) _ _)) Try.underlying47 rfl (by kernel_rfl)) rfl ?_
          refine ⟨rfl, _, HG.out.unch unch_set3 (fun k hk e => ?_), HG2.out.step unch_set3 (fun i hi e => by omega), ?_⟩
          · rcases hk with hk | hk
            · omega
            · have := HB9.out k hk; omega
          · rintro k (hk | hk)
            · exact .inl (.inl hk)
            · right; have := HB9.out k hk; omega
end Go.Proofs.Ytmffpeblcaalgaa
