/-
  The document's net (palaverlaw21.model): does heals; does as a whole.
-/
import Derived.Test.YtmffpeblcaalgaaNModel4
import Derived.Deep.MidRow
import Derived.Great.BuildSlice
set_option linter.unusedVariables false
set_option linter.unusedSimpArgs false
namespace Go.Proofs.Ytmffpeblcaalgaa
open Go Go.RowKit Go.Great Go.Proofs.Ytmffpeblcaalgaa.Pal Go.Proofs.Ytmffpeblcaalgaa.Plan

def off25 : List Value := List.replicate 25 (.bool false)
theorem mcells_take (nodes : Nat) (v : Value) (c : Nat → Nat → Bool) : (mcells nodes v c).toList.take 2 = [.int .i64 (nodes : Int), v] := by
  unfold mcells
  rw [Array.toList_append]
  rfl
theorem mcells_drop (nodes : Nat) (v : Value) (c : Nat → Nat → Bool) : (mcells nodes v c).toList.drop (2 + off25.length) = [] := by
  rw [List.drop_eq_nil_iff, Array.length_toList, mcells_size]
  exact Nat.le_refl _
theorem mcells_off (nodes : Nat) (v : Value) : (mcells nodes v (fun _ _ => false)).toList = [.int .i64 (nodes : Int), v] ++ off25 := by
  unfold mcells
  rw [Array.toList_append]
  rfl
theorem off25_info : (Try.prog.info? 55).map (·.size) = some off25.toArray.size := by kernel_rfl
theorem off25_one : off25.toArray.all (·.oneCell') = true := all_oneCell_toArray fun v hv => by
  have := List.eq_of_mem_replicate hv
  rw [this]; rfl
set_option maxRecDepth 100000 in
set_option maxHeartbeats 1000000 in
theorem does_heal {w : World} {M nodes : Nat} {v : Value} {l : List Ltr} {c : Nat → Nat → Bool} (h : Md w M v nodes l c) (hO : Ok nodes l) (k a b n : Int) (t : ByteArray) (K0 : Hid (k ≠ 0 ∧ k ≠ 1 ∧ k ≠ 2 ∧ k ≠ 3)) :
    Calls Try.prog 24 #[.pointer (some ⟨M, 0, none⟩), actV k a b n t] w (DoesPost w M v nodes (doStep nodes l c k a b n t)) := by
  obtain ⟨r, Hr⟩ : ∃ r, Hid (doStep nodes l c k a b n t = r) := ⟨_, rfl⟩
  rw [Hr.out]
  have c1 := h.c1
  obtain ⟨A, cp, hv, hlc⟩ := h.row.slice
  obtain ⟨m, hm⟩ : ∃ m, l.length = m := ⟨_, rfl⟩
  rw [hm] at hv
  subst hv
  have hMl := lt_of_heap h.hM
  unfold actV
  go_enter Try.func24, Try.ntmps24
  go_upto_region 1 with fail
  go_cut [7] from 11 to 23 (fun v7 wx => v7 = .bool (thereB l n) ∧ ∃ nq, wx = (inDoes w k a b n t).drewN nq)
  case first =>
    by_cases h0 : 0 ≤ n
    · go_quiet (fail)
      go_wp2
      go_meet
      exact ⟨congrArg Value.bool (decide_eq_decide.2 (by omega)), _, rfl⟩
    · go_quiet (fail)
      go_wp2
      go_meet
      exact ⟨congrArg Value.bool (decide_eq_false (by omega)).symm, _, rfl⟩
  case rest =>
    obtain ⟨rfl, nq, rfl⟩ := hcut
    have hu := (inDoes_unch (w := w) (k := k) (a := a) (b := b) (n := n) (t := t)).drewN nq
    have bA : ((inDoes w k a b n t).drewN nq).heap[w.heap.size]? = some (actO k a b n t) := blk_alloc (blk_new w _) _
    have b4 : ((inDoes w k a b n t).drewN nq).heap[w.heap.size + 1]? = some zO := by
      have := blk_new (w.alloc (actO k a b n t)) zO
      simpa [inDoes, World.drewN] using this
    have hs : ((inDoes w k a b n t).drewN nq).heap.size = w.heap.size + 2 := by simp [inDoes, World.drewN]
    generalize (inDoes w k a b n t).drewN nq = w1 at *
    have hs1 : w.heap.size + 1 < w1.heap.size := by omega
    clear hs
    have a0 := blk_cell bA (j := 0) rfl
    have a1 := blk_cell bA (j := 1) rfl
    have a2 := blk_cell bA (j := 2) rfl
    have a3 := blk_cell bA (j := 3) rfl
    have a4 := blk_cell bA (j := 4) rfl
    have t0 := blk_cell b4 (j := 0) rfl
    have t1 := blk_cell b4 (j := 1) rfl
    have t2 := blk_cell b4 (j := 2) rfl
    have q0 := blk_free b4 0
    have q1 := blk_free b4 1
    have q2 := blk_free b4 2
    have hH := h.fresh hu
    have d1 := hH.c1
    have d0 := hH.c0
    have sameq : ∀ (q : Nat) (x y z : Value), MLeft w M (.slice A m cp) nodes l c ((((w1.drewN q).setCell ⟨w.heap.size + 1, 0, none⟩ x).setCell ⟨w.heap.size + 1, 1, none⟩ y).setCell ⟨w.heap.size + 1, 2, none⟩ z) := fun q x y z => MLeft.same h ((hu.drewN q).step unch_set3 (fun i hi e => by omega))
    have SAMEQ := Lib.hid sameq
    clear sameq
    have same : ∀ x y z : Value, MLeft w M (.slice A m cp) nodes l c (((w1.setCell ⟨w.heap.size + 1, 0, none⟩ x).setCell ⟨w.heap.size + 1, 1, none⟩ y).setCell ⟨w.heap.size + 1, 2, none⟩ z) := fun x y z => MLeft.same h (hu.step unch_set3 (fun i hi e => by omega))
    have SAME := Lib.hid same
    have B4 := Lib.hid b4
    clear same b4 c1
    obtain ⟨n0, n1, n2, n3⟩ := K0.out
    have hr0 := Hr.out
    rw [doStep, if_neg n0, if_neg n1, if_neg n2, if_neg n3] at hr0
    subst hr0
    clear Hr
    have k0 : (k == 0) = false := by simpa using n0
    have k1 : (k == 1) = false := by simpa using n1
    have k2 : (k == 2) = false := by simpa using n2
    have k3 : (k == 3) = false := by simpa using n3
    clear n0 n1 n2 n3
    have fM := blk_free hH.hM
    have hth : w1.there M 2 25 := fun i hi => ⟨by have := hH.cut (i / 5) (i % 5) (by omega) (by omega); rw [show 2 + i / 5 * 5 + i % 5 = 2 + i by omega] at this; rw [this]; rfl, fM (2 + i)⟩
    have HTH : Hid (w1.there M 2 off25.toArray.size) := hth
    clear hth
    have hMT : M ≠ w.heap.size + 1 := by omega
    obtain ⟨w2, hw2, hH2, hu2⟩ : ∃ w2, Hid (w1.setCells M 2 off25.toArray.toList = w2) ∧ Md w2 M (.slice A m cp) nodes l (fun _ _ => false) ∧ Unch (fun k => k = M) w1 w2 := by
      obtain ⟨s1, s2, s3, s4⟩ := setCells_rest M off25 2 w1
      obtain ⟨cur', h3, h4, h5⟩ := setCells_blk M off25 2 w1 _ hH.hM (by rw [mcells_size]; exact Nat.le_refl _)
      have hoth := setCells_other M off25 2 w1
      refine ⟨_, rfl, ⟨?_, hH.row.move fun k hk => hoth k (hH.vM hk)⟩, ⟨s1, s2, s3, Nat.le_of_eq s4.symm, fun k _ hk => hoth k hk⟩⟩
      have : cur' = mcells nodes (.slice A m cp) (fun _ _ => false) := by
        apply Array.toList_inj.1
        rw [h5, mcells_take, mcells_drop, mcells_off, List.append_nil]
      rw [← this]
      exact h3
    have hT2 := hu2.heap B4.out (Ne.symm hMT)
    go_upto_region 3 with fail
    clear a0 a1 a2 a3 a4 t0 t1 t2 q0 q1 q2 d0 d1 fM
    have t0 := blk_cell hT2 (j := 0) rfl
    have t1 := blk_cell hT2 (j := 1) rfl
    have t2 := blk_cell hT2 (j := 2) rfl
    have q0 := blk_free hT2 0
    have q1 := blk_free hT2 1
    have q2 := blk_free hT2 2
    have HT2 := Lib.hid hT2
    clear hT2
    refine wp_region_lit ?_
    go_wp2_with (first | (with_reducible refine wpList_buildTo rfl 55 #[] rfl (some 27) rfl off25.toArray (by with_unfolding_all kernel_rfl) ?_) | ((with_reducible refine wpList_store_mid rfl 55 (.tmp 29) (.tmp 27) rfl M 2 off25.toArray ?hx ?hy HTH.out off25_info off25_one ?_); rotate_left 2; rw [hw2.out]))
    refine bodyPost_ret (results_ctt rfl _ _ (w.heap.size + 1) _ _ _ _ rfl (blk_set3z HT2.out) Try.underlying47 rfl (by kernel_rfl)) rfl ?_
    refine ⟨rfl, _, hH2.unch unch_set3 (fun k hk e => ?_), ((hu.mono (Y := mfoot M (.slice A m cp)) (fun _ _ h => h.elim)).step hu2 (fun _ _ e => .inl e)).step unch_set3 (fun i hi e => by omega), fun _ hk => .inl hk⟩
    have := h.lt hk
    omega
theorem does_ok {w : World} {M nodes : Nat} {v : Value} {l : List Ltr} {c : Nat → Nat → Bool} (h : Md w M v nodes l c) (hO : Ok nodes l) (k a b n : Int) (t : ByteArray) :
    Calls Try.prog 24 #[.pointer (some ⟨M, 0, none⟩), actV k a b n t] w (DoesPost w M v nodes (doStep nodes l c k a b n t)) := by
  by_cases k0 : k = 0
  · exact does_put h hO k a b n t k0
  by_cases k1 : k = 1
  · exact does_take h hO k a b n t k1
  by_cases k2 : k = 2
  · exact does_double h hO k a b n t k2
  by_cases k3 : k = 3
  · exact does_cut h hO k a b n t k3
  exact does_heal h hO k a b n t ⟨k0, k1, k2, k3⟩
end Go.Proofs.Ytmffpeblcaalgaa
