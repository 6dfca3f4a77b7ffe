/-
  The document's net (palaverlaw21.model): does computes doStep.
-/
import Derived.Test.YtmffpeblcaalgaaNDo
import Derived.Deep.CutRange
import Derived.IntWalk
import Derived.Test.YtmffpeblcaalgaaOpen
set_option linter.unusedVariables false
set_option linter.unusedSimpArgs false
namespace Go.Proofs.Ytmffpeblcaalgaa
open Go Go.RowKit Go.Proofs.Ytmffpeblcaalgaa.Pal Go.Proofs.Ytmffpeblcaalgaa.Plan

def mcells (nodes : Nat) (v : Value) (c : Nat → Nat → Bool) : Array Value := #[.int .i64 (nodes : Int), v] ++ ((List.range 25).map fun i => Value.bool (c (i / 5) (i % 5))).toArray
structure Md (w : World) (M : Nat) (v : Value) (nodes : Nat) (l : List Ltr) (c : Nat → Nat → Bool) : Prop where
  hM : w.heap[M]? = some (.cells (mcells nodes v c) 57 (0, 0))
  row : Row w 47 3 v l.length (lcells l)
def mfoot (M : Nat) (v : Value) : Nat → Prop := fun k => k = M ∨ v.ownBlock = some k
theorem mcells_get (nodes : Nat) (v : Value) (c : Nat → Nat → Bool) (a b : Nat) (ha : a < 5) (hb : b < 5) : (mcells nodes v c)[2 + a * 5 + b]? = some (.bool (c a b)) := by
  unfold mcells
  rw [Array.getElem?_append_right (by simp; omega)]
  have h1 : (2 + a * 5 + b - #[Value.int .i64 (nodes : Int), v].size) = a * 5 + b := by simp; omega
  rw [h1, List.getElem?_toArray, List.getElem?_map, List.getElem?_range (by omega)]
  simp only [Option.map_some]
  rw [show (a * 5 + b) / 5 = a by omega, show (a * 5 + b) % 5 = b by omega]
section
variable {w w1 : World} {M nodes : Nat} {v : Value} {l : List Ltr} {c : Nat → Nat → Bool} {X : Nat → Prop}
theorem Md.vM (h : Md w M v nodes l c) {k : Nat} (hk : v.ownBlock = some k) : k ≠ M := by
  obtain ⟨cur, hc⟩ := h.row.blk hk
  intro e; rw [e, h.hM] at hc; injection hc with hc; injection hc with _ h2; exact absurd h2 (by decide)
theorem Md.unch (h : Md w M v nodes l c) (hu : Unch X w w1) (hX : ∀ k, mfoot M v k → ¬ X k) : Md w1 M v nodes l c :=
  ⟨hu.heap h.hM (hX _ (.inl rfl)), h.row.unch hu (fun k hk => hX k (.inr hk))⟩
theorem Md.lt (h : Md w M v nodes l c) {k : Nat} (hk : mfoot M v k) : k < w.heap.size := by
  rcases hk with rfl | hk
  · exact lt_of_heap h.hM
  · obtain ⟨cur, hc⟩ := h.row.blk hk; exact lt_of_heap hc
theorem Md.fresh (h : Md w M v nodes l c) (hu : Unch none_ w w1) : Md w1 M v nodes l c := h.unch hu (fun _ _ h => h)
theorem Md.c0 (h : Md w M v nodes l c) : w.cell? ⟨M, 0, none⟩ = some (.int .i64 (nodes : Int)) := blk_cell h.hM (j := 0) (by unfold mcells; rw [Array.getElem?_append_left (by simp)]; rfl)
theorem Md.c1 (h : Md w M v nodes l c) : w.cell? ⟨M, 1, none⟩ = some v := blk_cell h.hM (j := 1) (by unfold mcells; rw [Array.getElem?_append_left (by simp)]; rfl)
theorem Md.cut (h : Md w M v nodes l c) (a b : Nat) (ha : a < 5) (hb : b < 5) : w.cell? ⟨M, 2 + a * 5 + b, none⟩ = some (.bool (c a b)) := blk_cell h.hM (mcells_get nodes v c a b ha hb)
end
set_option maxHeartbeats 400000 in
theorem mtwo_ok {w : World} {M nodes : Nat} (c0 : w.cell? ⟨M, 0, none⟩ = some (.int .i64 (nodes : Int))) (a b : Int) :
    Calls Try.prog 30 #[.pointer (some ⟨M, 0, none⟩), .int .i64 a, .int .i64 b] w fun e w' => e = .returned (.bool (isTwo nodes a b)) ∧ w = w' := by
  have hF : ∀ x : Bool, x = isTwo nodes a b → (Ending.returned (.bool x) = Ending.returned (.bool (isTwo nodes a b)) ∧ w = w) := fun x h => ⟨by rw [h], rfl⟩
  by_cases h1 : 0 ≤ a <;> by_cases h2 : 0 ≤ b <;> by_cases h3 : a < nodes <;> by_cases h4 : b < nodes
  all_goals
    go_enter Try.func30, Try.ntmps30
    go_wp2
    go_ret
    refine ⟨congrArg (fun b => Ending.returned (.bool b)) ?_, rfl⟩
    first | (symm; exact decide_eq_false (by omega)) | (symm; exact decide_eq_true (by omega)) | (simp [isTwo]; omega) | (unfold isTwo; by_cases h : a = b <;> simp_all)

/-- The world in which does looks at its act. -/
def inDoes (w : World) (k a b n : Int) (t : ByteArray) : World := (w.alloc (actO k a b n t)).alloc zO
theorem inDoes_unch {w : World} {k a b n : Int} {t : ByteArray} : Unch none_ w (inDoes w k a b n t) := ((Unch.refl none_ w).alloc _).alloc _
def thereB (l : List Ltr) (n : Int) : Bool := decide (0 ≤ n ∧ n < l.length)
/-- What a call leaves of the model. -/
def MLeft (w : World) (M : Nat) (v : Value) (nodes : Nat) (l : List Ltr) (c : Nat → Nat → Bool) (w' : World) : Prop :=
  ∃ v', Md w' M v' nodes l c ∧ Unch (mfoot M v) w w' ∧ ∀ k, mfoot M v' k → mfoot M v k ∨ w.heap.size ≤ k
def DoesPost (w : World) (M : Nat) (v : Value) (nodes : Nat) (r : (Value × Bool × Int) × List Ltr × (Nat → Nat → Bool)) (e : Ending) (w' : World) : Prop :=
  e = .returned (.tuple #[r.1.1, .bool r.1.2.1, .int .i64 r.1.2.2]) ∧ MLeft w M v nodes r.2.1 r.2.2 w'
theorem MLeft.same {w w1 : World} {M nodes : Nat} {v : Value} {l : List Ltr} {c : Nat → Nat → Bool} (h : Md w M v nodes l c) (hu : Unch none_ w w1) : MLeft w M v nodes l c w1 := ⟨v, h.fresh hu, hu.mono (fun _ _ h => h.elim), fun _ hk => .inl hk⟩
theorem mcells_set (nodes : Nat) (v v' : Value) (c : Nat → Nat → Bool) : (mcells nodes v c).setIfInBounds 1 v' = mcells nodes v' c := by
  apply Array.toList_inj.1
  simp [mcells]
theorem Md.grown_ {w : World} {M nodes : Nat} {v : Value} {l : List Ltr} {c : Nat → Nat → Bool} (h : Md w M v nodes l c) {w1 : World} {v' : Value} {l' : List Ltr} (hr : Row w1 47 3 v' l'.length (lcells l')) (hu : Unch (fun k => v.ownBlock = some k) w w1) (hat : v'.ownBlock = v.ownBlock ∨ ∃ b, v'.ownBlock = some b ∧ w.heap.size ≤ b) :
    Md (w1.setCell ⟨M, 1, none⟩ v') M v' nodes l' c ∧ Unch (mfoot M v) w (w1.setCell ⟨M, 1, none⟩ v') ∧ ∀ k, mfoot M v' k → mfoot M v k ∨ w.heap.size ≤ k := by
  have hM1 := hu.heap h.hM (fun hk => h.vM hk rfl)
  have hv'M : ∀ k, v'.ownBlock = some k → k ≠ M := fun k hk e => by
    rcases hat with h1 | ⟨b, h1, h2⟩
    · exact h.vM (h1 ▸ hk) e
    · rw [h1] at hk; injection hk with hk
      have := lt_of_heap h.hM; omega
  refine ⟨⟨by rw [blk_set hM1 1 v', mcells_set], hr.move fun k hk => Below.heap_setCell _ _ _ _ (hv'M k hk)⟩, ?_, ?_⟩
  · exact (hu.mono (fun k _ hk => .inr hk)).setCell _ (fun _ => .inl rfl)
  · rintro k (rfl | hk)
    · exact .inl (.inl rfl)
    · rcases hat with h1 | ⟨b, h1, h2⟩
      · exact .inl (.inr (h1 ▸ hk))
      · rw [h1] at hk; injection hk with hk; subst hk; exact .inr h2
/-- Behind the letter that is handed back. -/
theorem MLeft.out {w w1 : World} {M nodes : Nat} {v : Value} {l l' : List Ltr} {c c' : Nat → Nat → Bool} (h : Md w M v nodes l c) {x y z : Value} (hL : MLeft w M v nodes l' c' w1) (h4 : w.heap.size + 1 < w1.heap.size) (hfar : ∀ v', Md w1 M v' nodes l' c' → (∀ k, mfoot M v' k → mfoot M v k ∨ w.heap.size ≤ k) → v'.ownBlock ≠ some (w.heap.size + 1)) :
    MLeft w M v nodes l' c' (((w1.setCell ⟨w.heap.size + 1, 0, none⟩ x).setCell ⟨w.heap.size + 1, 1, none⟩ y).setCell ⟨w.heap.size + 1, 2, none⟩ z) := by
  obtain ⟨v', h1, h2, h3⟩ := hL
  have hMl := lt_of_heap h.hM
  refine ⟨v', h1.unch unch_set3 (fun k hk e => ?_), h2.step unch_set3 (fun i hi e => by omega), h3⟩
  rcases hk with hk | hk
  · omega
  · exact hfar v' h1 h3 (e ▸ hk)
theorem blk_set3z {w : World} {g : Nat} {x y z : Value} (h : w.heap[g]? = some zO) : (((w.setCell ⟨g, 0, none⟩ x).setCell ⟨g, 1, none⟩ y).setCell ⟨g, 2, none⟩ z).heap[g]? = some (.cells #[x, y, z] 47 (0, 0)) := blk_set3 h
theorem there_none {l : List Ltr} {n : Int} (h : thereB l n = false) : (if 0 ≤ n then l[n.toNat]? else none) = none := by
  unfold thereB at h
  rw [decide_eq_false_iff_not] at h
  split
  · rw [List.getElem?_eq_none_iff]; omega
  · rfl
theorem there_some {l : List Ltr} {n : Int} (h : thereB l n = true) : ∃ (j : Nat) (x : Ltr), n = j ∧ l[j]? = some x ∧ (if 0 ≤ n then l[n.toNat]? else none) = some x := by
  unfold thereB at h
  rw [decide_eq_true_iff] at h
  obtain ⟨x, hx⟩ := get_some (l := l) rfl (i := n.toNat) (by omega)
  exact ⟨n.toNat, x, by omega, hx, by rw [if_pos h.1]; exact hx⟩
set_option maxRecDepth 100000 in
set_option maxHeartbeats 4000000 in
theorem does_put {w : World} {M nodes : Nat} {v : Value} {l : List Ltr} {c : Nat → Nat → Bool} (h : Md w M v nodes l c) (hO : Ok nodes l) (k a b n : Int) (t : ByteArray) (K0 : Hid (k = 0)) :
    Calls Try.prog 24 #[.pointer (some ⟨M, 0, none⟩), actV k a b n t] w (DoesPost w M v nodes (doStep nodes l c k a b n t)) := by
  obtain ⟨r, Hr⟩ : ∃ r, Hid (doStep nodes l c k a b n t = r) := ⟨_, rfl⟩
  rw [Hr.out]
  have c1 := h.c1
  obtain ⟨A, cp, hv, hlc⟩ := h.row.slice
  obtain ⟨m, hm⟩ : ∃ m, l.length = m := ⟨_, rfl⟩
  rw [hm] at hv
  subst hv
  have hMl := lt_of_heap h.hM
  unfold actV
  go_enter Try.func24, Try.ntmps24
  go_upto_region 1 with fail
  go_cut [7] from 11 to 23 (fun v7 wx => v7 = .bool (thereB l n) ∧ ∃ nq, wx = (inDoes w k a b n t).drewN nq)
  case first =>
    by_cases h0 : 0 ≤ n
    · go_quiet (fail)
      go_wp2
      go_meet
      exact ⟨congrArg Value.bool (decide_eq_decide.2 (by omega)), _, rfl⟩
    · go_quiet (fail)
      go_wp2
      go_meet
      exact ⟨congrArg Value.bool (decide_eq_false (by omega)).symm, _, rfl⟩
  case rest =>
    obtain ⟨rfl, nq, rfl⟩ := hcut
    have hu := (inDoes_unch (w := w) (k := k) (a := a) (b := b) (n := n) (t := t)).drewN nq
    have bA : ((inDoes w k a b n t).drewN nq).heap[w.heap.size]? = some (actO k a b n t) := blk_alloc (blk_new w _) _
    have b4 : ((inDoes w k a b n t).drewN nq).heap[w.heap.size + 1]? = some zO := by
      have := blk_new (w.alloc (actO k a b n t)) zO
      simpa [inDoes, World.drewN] using this
    have hs : ((inDoes w k a b n t).drewN nq).heap.size = w.heap.size + 2 := by simp [inDoes, World.drewN]
    generalize (inDoes w k a b n t).drewN nq = w1 at *
    have hs1 : w.heap.size + 1 < w1.heap.size := by omega
    clear hs
    have a0 := blk_cell bA (j := 0) rfl
    have a1 := blk_cell bA (j := 1) rfl
    have a2 := blk_cell bA (j := 2) rfl
    have a3 := blk_cell bA (j := 3) rfl
    have a4 := blk_cell bA (j := 4) rfl
    have t0 := blk_cell b4 (j := 0) rfl
    have t1 := blk_cell b4 (j := 1) rfl
    have t2 := blk_cell b4 (j := 2) rfl
    have q0 := blk_free b4 0
    have q1 := blk_free b4 1
    have q2 := blk_free b4 2
    have hH := h.fresh hu
    have d1 := hH.c1
    have d0 := hH.c0
    have sameq : ∀ (q : Nat) (x y z : Value), MLeft w M (.slice A m cp) nodes l c ((((w1.drewN q).setCell ⟨w.heap.size + 1, 0, none⟩ x).setCell ⟨w.heap.size + 1, 1, none⟩ y).setCell ⟨w.heap.size + 1, 2, none⟩ z) := fun q x y z => MLeft.same h ((hu.drewN q).step unch_set3 (fun i hi e => by omega))
    have SAMEQ := Lib.hid sameq
    clear sameq
    have same : ∀ x y z : Value, MLeft w M (.slice A m cp) nodes l c (((w1.setCell ⟨w.heap.size + 1, 0, none⟩ x).setCell ⟨w.heap.size + 1, 1, none⟩ y).setCell ⟨w.heap.size + 1, 2, none⟩ z) := fun x y z => MLeft.same h (hu.step unch_set3 (fun i hi e => by omega))
    have SAME := Lib.hid same
    have B4 := Lib.hid b4
    clear same b4 c1
    have k0 := K0.out
    subst k0
    have hr0 := Hr.out
    rw [doStep, if_pos rfl] at hr0
    have HR0 := Lib.hid hr0
    clear hr0 Hr
    go_wp2_with fail
    refine (mtwo_ok d0 a b).mono ?_
    rintro e w2 ⟨rfl, rfl⟩
    cases h2 : isTwo nodes a b
    · have hr1 := HR0.out
      rw [h2, if_pos rfl] at hr1
      subst hr1
      go_wp2
      refine bodyPost_ret (results_ctt rfl _ _ (w.heap.size + 1) _ _ _ _ rfl (blk_set3z B4.out) Try.underlying47 rfl (by kernel_rfl)) rfl ?_
      exact ⟨rfl, SAME.out _ _ _⟩
    · obtain ⟨x, y, rfl, rfl, hx, hy, hxy⟩ := isTwo_nat h2
      have hr1 := HR0.out
      rw [h2] at hr1
      simp only [Int.toNat_natCast, Bool.true_eq_false, if_false] at hr1
      have HR1 := Lib.hid hr1
      clear hr1 HR0
      have dc := hH.cut x y (by have := hO.n5; omega) (by have := hO.n5; omega)
      have x0 : (0 : Int) ≤ (x : Int) := by omega
      have x1 : (x : Int) < 5 := by have := hO.n5; omega
      have y0 : (0 : Int) ≤ (y : Int) := by omega
      have y1 : (y : Int) < 5 := by have := hO.n5; omega
      cases hc : c x y
      · rw [hc] at dc
        have hr1 := HR1.out
        rw [hc] at hr1
        simp only [Bool.false_eq_true, if_false] at hr1
        go_wp2
        go_quiet (fail)
        have DC := Lib.hid dc
        clear dc
        by_cases hfull : 256 ≤ l.length
        · rw [if_pos hfull] at hr1
          subst hr1
          have z4 : (256 : Int) ≤ (m : Int) := by omega
          go_wp2
          refine bodyPost_ret (results_ctt rfl _ _ (w.heap.size + 1) _ _ _ _ rfl (blk_set3z (w := w1.drewN nq) B4.out) Try.underlying47 rfl (by kernel_rfl)) rfl ?_
          exact ⟨rfl, SAMEQ.out _ _ _ _⟩
        · rw [if_neg hfull] at hr1
          subst hr1
          have z4 : ¬ ((256 : Int) ≤ (m : Int)) := by omega
          go_wp2_with fail
          refine wp_plan2 M w.heap.size [0, 1, 2, 3, 4, 5, 6, 7, 8, 9, 10, 11] [12, 13, 14, 15, 16] 2 (by kernel_rfl) (by kernel_rfl) rfl rfl (fun c a d v w h => by cases d <;> exact h) ?_
          intro S HS _ s1 s2
          simp only [pickIn, List.getElem?_toArray, List.getElem?_cons_succ, List.getElem?_cons_zero]
          repeat (go_big_quiet_step (fail))
          refine wpQuiet_nil ?_
          refine tail_step ?_
          go_wp2
          have hMw1 : M < w1.heap.size := by omega
          refine tail_midS ((HS.out _).2 ⟨(Below.heap_alloc _ _ _ (by simpa using hMw1)), (Below.heap_alloc _ _ _ (show w.heap.size < w1.heap.size by omega))⟩) (tail_step ?_)
          have hrow2 : Row (w1.drewN (nq + 1)) 47 3 (.slice A m cp) m (lcells l) := by have := hH.row; rw [hm] at this; exact this.move fun _ _ => rfl
          refine wpList_append1 (w1.drewN (nq + 1)) rfl (.tmp 62) (.tmp 70) 53 47 _ 3 32 rfl Try.underlying53 info_ltr rfl (by omega) (.slice A m cp) m (lcells l) (by rfl) hrow2 (Ltr.cells ⟨x, y, t⟩) rfl (by intro u hu; simp [Ltr.cells] at hu; rcases hu with rfl | rfl | rfl <;> rfl) (by rfl) (by simp only [maxLen]; omega) (by omega) ?_
          intro v' w3 hr3 hu3 hat3
          obtain ⟨A', c', rfl, _⟩ := hr3.slice
          have hvM : (Value.slice A m cp).ownBlock ≠ some M := fun hk => h.vM hk rfl
          have hvT : ∀ j, (Value.slice A m cp).ownBlock ≠ some (w.heap.size + j) := fun j hk => by have := h.lt (.inr hk); omega
          have hM3 := hu3.heap (w := w1.drewN (nq + 1)) hH.hM hvM
          have hT3 := hu3.heap (w := w1.drewN (nq + 1)) B4.out (hvT 1)
          have dM3 := blk_cell hM3 (j := 1) (by unfold mcells; rw [Array.getElem?_append_left (by simp)]; rfl)
          have fM3 := blk_free hM3 1
          refine wpList_nil (tail_midS ((HS.out _).2 ⟨hu3.block M (show M < w1.heap.size by omega) hvM, hu3.block w.heap.size (show w.heap.size < w1.heap.size by omega) (hvT 0)⟩) (tail_all ?_))
          have t0' := blk_cell hT3 (j := 0) rfl
          have t1' := blk_cell hT3 (j := 1) rfl
          have t2' := blk_cell hT3 (j := 2) rfl
          have q0' := blk_free hT3 0
          have q1' := blk_free hT3 1
          have q2' := blk_free hT3 2
          have hMT : M ≠ w.heap.size + 1 := by omega
          have hu4 : Unch (fun k => (Value.slice A m cp).ownBlock = some k) w w3 := (hu.mono (fun _ _ h => h.elim)).step (Y := fun k => (Value.slice A m cp).ownBlock = some k) ⟨hu3.os, hu3.tape, hu3.output, hu3.size, hu3.block⟩ (fun _ _ h => h)
          have hG := h.grown_ (l' := l ++ [⟨x, y, t⟩]) (by rw [List.length_append, hm, lcells_append]; exact hr3) hu4 (by
            rcases hat3 with h1 | ⟨b, h1, h2⟩
            · exact .inl h1
            · exact .inr ⟨b, h1, Nat.le_trans hu.size h2⟩)
          have hfar : (Value.slice A' (m + 1) c').ownBlock ≠ some (w.heap.size + 1) := fun hk => by
            rcases hat3 with h1 | ⟨b, h1, h2⟩
            · exact hvT 1 (h1 ▸ hk)
            · rw [h1] at hk; injection hk with hk; subst hk
              have h2' : w1.heap.size ≤ w.heap.size + 1 := h2
              omega
          have HG := Lib.hid hG
          have HT3 := Lib.hid hT3
          clear DC HR1 hG hT3
          go_wp2
          refine bodyPost_ret (results_ctt rfl _ _ (w.heap.size + 1) _ _ _ _ rfl (blk_set3z (blk_set_ne HT3.out (Ne.symm hMT) _ _)) Try.underlying47 rfl (by kernel_rfl)) rfl ?_
          obtain ⟨g1, g2, g3⟩ := HG.out
          refine ⟨rfl, _, g1.unch unch_set3 (fun k hk e => ?_), g2.step unch_set3 (fun i hi e => by omega), g3⟩
          rcases hk with hk | hk
          · omega
          · exact hfar (e ▸ hk)
      · rw [hc] at dc
        have hr1 := HR1.out
        rw [hc, if_pos rfl] at hr1
        subst hr1
        go_wp2
        go_quiet (fail)
        go_wp2
        refine bodyPost_ret (results_ctt rfl _ _ (w.heap.size + 1) _ _ _ _ rfl (blk_set3z (w := w1.drewN nq) B4.out) Try.underlying47 rfl (by kernel_rfl)) rfl ?_
        exact ⟨rfl, SAMEQ.out _ _ _ _⟩
end Go.Proofs.Ytmffpeblcaalgaa
