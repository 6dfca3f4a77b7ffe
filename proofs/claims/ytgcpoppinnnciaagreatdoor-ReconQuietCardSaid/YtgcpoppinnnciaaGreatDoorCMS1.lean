/-
  A stable sort of entries by a number: the row of entries, two exchanged; a comparison's contract.
  slices.insertionSortCmpFunc over entries, by a number.
  slices.swapRangeCmpFunc, slices.rotateCmpFunc over entries.
  slices.rotateCmpFunc over entries.
-/
import Derived.Test.YtgcpoppinnnciaaGreatDoorCMP8
import Derived.Test.YtgcpoppinnnciaaGreatDoorCPlan
/- A stable sort of entries by a number: the row of entries, two exchanged; a comparison's contract. -/
set_option linter.unusedVariables false
set_option linter.unusedSimpArgs false
namespace Go.Proofs.YtgcpoppinnnciaaGreatDoor
open Go Go.RowKit Go.Proofs.YtgcpoppinnnciaaGreatDoor.Pal Go.Proofs.YtgcpoppinnnciaaGreatDoor.Plan

theorem Row.store1 {w : World} {e : TypeId} {size n : Nat} {v : Value} {xs : List Value} (h : Row w e size v n xs) {g o c : Nat} (hv : v = .slice (some ⟨g, o, none⟩) n c) (j : Nat) (hj : j < n * size) (u : Value) :
    Row (w.setCell ⟨g, o + j, none⟩ u) e size v n (xs.set j u) := by
  refine ⟨by rw [List.length_set]; exact h.1, ?_⟩
  subst hv
  rcases h.2 with ⟨h0, _⟩ | ⟨g', o', cap, cur, h1, hh, hn, hm, hs, ht⟩
  · cases h0
  · injection h1 with h1 h3 h4
    injection h1 with h1
    injection h1 with h1 h2
    subst h1; subst h2; subst h4
    refine .inr ⟨g, o, c, _, rfl, blk_set hh _ _, hn, hm, by simpa using hs, ?_⟩
    rw [Array.toList_setIfInBounds, ← ht]
    have hle : n * size ≤ c * size := Nat.mul_le_mul_right _ hn
    apply List.ext_getElem?
    intro k
    simp only [List.getElem?_take, List.getElem?_drop, List.getElem?_set, List.length_take, List.length_drop, Array.length_toList]
    by_cases hk : k < n * size <;> by_cases hjk : j = k
    · subst hjk
      have : o + j < cur.size := by omega
      simp [hk, this]
      omega
    · have : o + j ≠ o + k := by omega
      simp [hk, hjk, this]
    · simp [hk]; intro h; omega
    · simp [hk, hjk]
theorem set_ec (a : Ent) (xs : List Ent) (k : Nat) (u : Value) : (ecells (a :: xs)).set (5 + k) u = a.cells ++ (ecells xs).set k u := by
  show (a.cells ++ ecells xs).set (5 + k) u = _
  rw [List.set_append_right _ _ (by rw [cells_len]; omega), cells_len, Nat.add_sub_cancel_left]
theorem ecells_set (e : Ent) : ∀ (xs : List Ent) (i : Nat), i < xs.length →
    ((((((ecells xs).set (i * 5) (.string e.id)).set (i * 5 + 1) (.int .i64 e.kind)).set (i * 5 + 2) (.string e.author)).set (i * 5 + 3) e.pv).set (i * 5 + 4) (.string e.body)) = ecells (xs.set i e)
  | [], i, h => by cases h
  | a :: xs, 0, _ => by
    show ((((((a.cells ++ ecells xs).set 0 _).set 1 _).set 2 _).set 3 _).set 4 _) = e.cells ++ ecells xs
    rfl
  | a :: xs, i + 1, h => by
    have ih := ecells_set e xs i (by simpa using h)
    rw [List.set_cons_succ]
    show _ = a.cells ++ ecells (xs.set i e)
    rw [← ih]
    have e0 : (i + 1) * 5 = 5 + i * 5 := by omega
    rw [e0, Nat.add_assoc 5 _ 1, Nat.add_assoc 5 _ 2, Nat.add_assoc 5 _ 3, Nat.add_assoc 5 _ 4]
    have go : ∀ (X : List Value) (k : Nat) (u : Value), (a.cells ++ X).set (5 + k) u = a.cells ++ X.set k u := fun X k u => by
      rw [List.set_append_right _ _ (by rw [cells_len]; omega), cells_len, Nat.add_sub_cancel_left]
    show (((((a.cells ++ ecells xs).set _ _).set _ _).set _ _).set _ _).set _ _ = _
    rw [go, go, go, go, go]
/-- A row of entries. -/
abbrev SR (w : World) (blk off n c : Nat) (xs : List Ent) : Prop := Row w 114 5 (.slice (some ⟨blk, off, none⟩) n c) n (ecells xs)
theorem SR.len {w : World} {blk off n c : Nat} {xs : List Ent} (h : SR w blk off n c xs) : xs.length = n := by have := h.1; rw [ecells_len] at this; omega
def put5 (w : World) (blk o : Nat) (e : Ent) : World := ((((w.setCell ⟨blk, o, none⟩ (.string e.id)).setCell ⟨blk, o + 1, none⟩ (.int .i64 e.kind)).setCell ⟨blk, o + 2, none⟩ (.string e.author)).setCell ⟨blk, o + 3, none⟩ e.pv).setCell ⟨blk, o + 4, none⟩ (.string e.body)
theorem SR.put {w : World} {blk off n c : Nat} {xs : List Ent} (h : SR w blk off n c xs) {i : Nat} (hi : i < n) (e : Ent) : SR (put5 w blk (off + i * 5) e) blk off n c (xs.set i e) := by
  unfold SR put5
  rw [← ecells_set e xs i (by rw [h.len]; exact hi)]
  have h1 := Row.store1 h rfl (i * 5) (by omega) (.string e.id)
  have h2 := Row.store1 h1 rfl (i * 5 + 1) (by omega) (.int .i64 e.kind)
  have h3 := Row.store1 h2 rfl (i * 5 + 2) (by omega) (.string e.author)
  have h4 := Row.store1 h3 rfl (i * 5 + 3) (by omega) e.pv
  have h5 := Row.store1 h4 rfl (i * 5 + 4) (by omega) (.string e.body)
  simp only [← Nat.add_assoc] at h1 h2 h3 h4 h5
  exact h5
theorem put5_unch (w : World) (blk o : Nat) (e : Ent) : Unch (fun k => k = blk) w (put5 w blk o e) :=
  (((((Unch.refl (fun k => k = blk) w).setCell _ (fun _ => rfl)).setCell _ (fun _ => rfl)).setCell _ (fun _ => rfl)).setCell _ (fun _ => rfl)).setCell _ (fun _ => rfl)
theorem SR.fresh {w w1 : World} {blk off n c : Nat} {xs : List Ent} (h : SR w blk off n c xs) (hu : Unch none_ w w1) : SR w1 blk off n c xs := h.unch hu (fun _ _ h => h)
/-- The cells of one. -/
theorem SR.at {w : World} {blk off n c : Nat} {xs : List Ent} (h : SR w blk off n c xs) {i : Nat} {e : Ent} (hi : xs[i]? = some e) : blk < w.heap.size ∧ w.cell? ⟨blk, off + i * 5, none⟩ = some (.string e.id) ∧ w.cell? ⟨blk, off + i * 5 + 1, none⟩ = some (.int .i64 e.kind) ∧
    w.cell? ⟨blk, off + i * 5 + 2, none⟩ = some (.string e.author) ∧ w.cell? ⟨blk, off + i * 5 + 3, none⟩ = some e.pv ∧ w.cell? ⟨blk, off + i * 5 + 4, none⟩ = some (.string e.body) := by
  have go : ∀ (j : Nat) (u : Value), e.cells[j]? = some u → w.cell? ⟨blk, off + i * 5 + j, none⟩ = some u := fun j u hu => by
    have := Row.at h rfl (ecells_get xs i j e u hi hu)
    rw [← Nat.add_assoc] at this
    exact this
  obtain ⟨cur, hb⟩ := h.blk (k := blk) rfl
  exact ⟨lt_of_heap hb, go 0 _ rfl, go 1 _ rfl, go 2 _ rfl, go 3 _ rfl, go 4 _ rfl⟩
theorem SR.free {w : World} {blk off n c : Nat} {xs : List Ent} (h : SR w blk off n c xs) (j : Nat) : w.frozen? ⟨blk, j, none⟩ = false := Row.free h rfl j
/-- A comparison's contract: by a number K, at what X holds of, while block blk alone is turned. -/
structure CmpK (g : Nat) (lb : Array Value) (K : Ent → Nat) (X : Ent → Prop) (blk : Nat) (w0 : World) : Prop where
  eg : ∀ args w, (callFunc g args).run Tryz.prog w = .ok (.enter g args) w
  pv : ∀ x, X x → ∃ A m c, x.pv = .slice A m c
  call : ∀ W, Unch (fun k => k = blk) w0 W → ∀ x y, X x → X y → Calls Tryz.prog g (#[x.val, y.val] ++ lb) W fun e W' => e = .returned (.int .i64 (cmpI (K x) (K y))) ∧ Unch none_ W W'
theorem CmpK.next {g : Nat} {lb : Array Value} {K : Ent → Nat} {X : Ent → Prop} {blk : Nat} {w w1 : World} (h : CmpK g lb K X blk w) (hu : Unch (fun k => k = blk) w w1) : CmpK g lb K X blk w1 :=
  ⟨h.eg, h.pv, fun W hW => h.call W (hu.trans hW)⟩
theorem CmpK.q {g : Nat} {lb : Array Value} {K : Ent → Nat} {X : Ent → Prop} {blk : Nat} {w : World} (h : CmpK g lb K X blk w) {x y : Ent} (hx : X x) (hy : X y) {z : Int} (hz : cmpI (K x) (K y) = z) : QC Tryz.prog g (#[x.val, y.val] ++ lb) (.int .i64 z) w := fun w' hu => by
  rw [← hz]
  exact h.call w' (hu.mono (fun _ _ h => h.elim)) x y hx hy
def Srt (K : Ent → Nat) (xs : List Ent) : Prop := xs.Pairwise fun a b => K a ≤ K b
/-! ### Lists, told apart -/
theorem get_mid {α : Type} (X : List α) (x : α) (Z : List α) : (X ++ x :: Z)[X.length]? = some x := by simp
theorem swap_adj {α : Type} (X : List α) (y x : α) (Z : List α) : ((X ++ y :: x :: Z).set (X.length + 1) y).set X.length x = X ++ x :: y :: Z := by
  rw [List.set_append_right _ _ (by omega), List.set_append_right _ _ (by omega)]
  simp
theorem SR.adj {w : World} {blk off n c : Nat} {X Z : List Ent} {x y : Ent} (h : SR w blk off n c (X ++ y :: x :: Z)) {p : Nat} (hp : X.length = p) : SR (put5 (put5 w blk (off + (p + 1) * 5) y) blk (off + p * 5) x) blk off n c (X ++ x :: y :: Z) := by
  have hl := h.len
  simp at hl
  have := (h.put (i := p + 1) (by omega) y).put (i := p) (by omega) x
  rw [← hp, swap_adj] at this
  rw [← hp]
  exact this
theorem SR.adj' {w : World} {blk off n c : Nat} {X Z : List Ent} {x y : Ent} (h : SR w blk off n c (X ++ y :: x :: Z)) {p : Nat} (hp : X.length = p) : SR (put5 (put5 w blk (off + p * 5) x) blk (off + (p + 1) * 5) y) blk off n c (X ++ x :: y :: Z) := by
  have hl := h.len
  simp at hl
  have := (h.put (i := p) (by omega) x).put (i := p + 1) (by omega) y
  rw [← hp] at this
  have e : ((X ++ y :: x :: Z).set X.length x).set (X.length + 1) y = X ++ x :: y :: Z := by
    rw [List.set_append_right _ _ (by omega), List.set_append_right _ _ (by omega)]
    simp
  rw [e] at this
  rw [← hp]
  exact this
/-- What is read of a block stays while the block does. -/
theorem cellS {T : World → Prop} {w : World} {blk : Nat} (hT : ∀ W, T W → W.heap[blk]? = w.heap[blk]?) {o : Nat} {v : Value} (h : w.cell? ⟨blk, o, none⟩ = some v) (G : In T) : G.w.cell? ⟨blk, o, none⟩ = some v :=
  (World.cell?_of_block (a := ⟨blk, o, none⟩) (hT _ G.h)).trans h
end Go.Proofs.YtgcpoppinnnciaaGreatDoor
/- slices.insertionSortCmpFunc over entries, by a number. -/
set_option linter.unusedVariables false
set_option linter.unusedSimpArgs false
namespace Go.Proofs.YtgcpoppinnnciaaGreatDoor
open Go Go.RowKit Go.Proofs.YtgcpoppinnnciaaGreatDoor.Pal Go.Proofs.YtgcpoppinnnciaaGreatDoor.Plan

def SortedTo (K : Ent → Nat) (w : World) (blk off n c : Nat) (P L S : List Ent) (e : Ending) (w' : World) : Prop :=
  e = .returned (.tuple #[]) ∧ ∃ M : List Ent, M.Perm L ∧ Srt K M ∧ SR w' blk off n c (P ++ (M ++ S)) ∧ Unch (fun k => k = blk) w w'
theorem srt_ins {K : Ent → Nat} {A B : List Ent} {x : Ent} (h : Srt K (A ++ B)) (hB : ∀ y ∈ B, K x < K y) (hA : A = [] ∨ ∃ A' y, A = A' ++ [y] ∧ K y ≤ K x) : Srt K (A ++ x :: B) := by
  unfold Srt at *
  rw [List.pairwise_append] at h ⊢
  obtain ⟨h1, h2, h3⟩ := h
  have hAx : ∀ a ∈ A, K a ≤ K x := by
    rcases hA with rfl | ⟨A', y, rfl, hy⟩
    · intro a ha; cases ha
    · intro a ha
      rcases List.mem_append.1 ha with ha | ha
      · have := (List.pairwise_append.1 h1).2.2 a ha y (by simp)
        omega
      · simp at ha; subst ha; exact hy
  refine ⟨h1, List.pairwise_cons.2 ⟨fun b hb => Nat.le_of_lt (hB b hb), h2⟩, fun a ha b hb => ?_⟩
  rcases List.mem_cons.1 hb with rfl | hb
  · exact hAx a ha
  · exact h3 a ha b hb
def InsO (K : Ent → Nat) (w wr : World) (blk off n c : Nat) (P L S : List Ent) (t : Nat) : Prop :=
  ∃ M : List Ent, M.Perm (L.take (t + 1)) ∧ Srt K M ∧ SR wr blk off n c (P ++ (M ++ (L.drop (t + 1) ++ S))) ∧ Unch (fun k => k = blk) w wr
structure InsI (K : Ent → Nat) (w wr : World) (blk off n c : Nat) (P M R : List Ent) (x : Ent) (A B : List Ent) : Prop where
  ab : A ++ B = M
  lt : ∀ y ∈ B, K x < K y
  row : SR wr blk off n c (P ++ (A ++ x :: (B ++ R)))
  u : Unch (fun k => k = blk) w wr
theorem InsI.done {K : Ent → Nat} {w wr : World} {blk off n c : Nat} {P L S M : List Ent} {x : Ent} {A B : List Ent} {t : Nat} (h : InsI K w wr blk off n c P M (L.drop (t + 1 + 1) ++ S) x A B) (hp : M.Perm (L.take (t + 1))) (hs : Srt K M) (hx : L[t + 1]? = some x) (hA : A = [] ∨ ∃ A' y, A = A' ++ [y] ∧ K y ≤ K x) :
    InsO K w wr blk off n c P L S (t + 1) := by
  refine ⟨A ++ x :: B, ?_, srt_ins (by rw [h.ab]; exact hs) h.lt hA, by have := h.row; simpa [List.append_assoc] using this, h.u⟩
  have e1 : L.take (t + 1 + 1) = L.take (t + 1) ++ [x] := by
    rw [List.take_add_one, hx]; rfl
  rw [e1]
  refine (List.perm_middle).trans ?_
  rw [h.ab]
  exact (List.Perm.cons x hp).trans (List.perm_append_singleton x _).symm
set_option maxRecDepth 100000 in
set_option maxHeartbeats 2000000 in
theorem insertion_ok {w : World} {blk off n c : Nat} {P L S : List Ent} (h : SR w blk off n c (P ++ (L ++ S))) (hn : n ≤ 300) {g : Nat} {lb : Array Value} {K : Ent → Nat} {X : Ent → Prop} (hc : CmpK g lb K X blk w) (hX : ∀ x ∈ L, X x) {a b : Nat} (ha : P.length = a) (hb : a + L.length = b) :
    Calls Tryz.prog 222 #[.slice (some ⟨blk, off, none⟩) n c, .int .i64 (a : Int), .int .i64 (b : Int), .func (.func g) #[] lb] w (SortedTo K w blk off n c P L S) := by
  have hlen : P.length + (L.length + S.length) = n := by have := h.len; simpa using this
  have eg := hc.eg
  have HC := Lib.hid hc
  have HX := Lib.hid hX
  have HA := Lib.hid ha
  have HLEN := Lib.hid hlen
  obtain ⟨m, hm⟩ : ∃ m, L.length = m := ⟨_, rfl⟩
  rw [hm] at hb hlen
  have HM := Lib.hid hm
  have hbn : b ≤ n := by omega
  subst hb
  have han : a + m ≤ n := by omega
  have H0 : Hid (InsO K w w blk off n c P L S 0) := by
    refine ⟨L.take 1, List.Perm.refl _, ?_, ?_, Unch.refl _ _⟩
    · unfold Srt
      cases L with
      | nil => exact List.Pairwise.nil
      | cons x L => simp
    · have := h
      rw [← List.take_append_drop 1 L, List.append_assoc] at this
      simpa using this
  clear hc hX ha hlen hm h hbn
  go_enter Tryz.func222, Tryz.ntmps222
  go_wp2
  go_loopg [8, 9] m (fun gk i8 i9 wr => ∃ t : Nat, gk = m - t ∧ (t = 0 ∨ t + 1 ≤ m) ∧ i8 = .int .i64 ((a + t + 1 : Nat) : Int) ∧ InsO K w wr blk off n c P L S t)
  case atStart => exact ⟨0, rfl, .inl rfl, by go_num, H0.out⟩
  case round =>
    obtain ⟨t, rfl, ht, rfl, hO⟩ := hrel
    obtain ⟨w2, rfl⟩ : ∃ w2, w2 = wr := ⟨_, rfl⟩
    have HO := Lib.hid hO
    clear hO
    by_cases htm : t + 1 < m
    · have z0 : a + t + 1 < a + m := by omega
      have z0' : ((a : Int) + t + 1) < (a : Int) + m := by omega
      obtain ⟨x, hx⟩ := get_some HM.out htm
      obtain ⟨M, hp, hs, hrow, hu⟩ := HO.out
      have hMl : M.length = t + 1 := by have := hp.length_eq; rw [List.length_take, HM.out] at this; omega
      have hdrop : L.drop (t + 1) = x :: L.drop (t + 1 + 1) := by
        obtain ⟨h1, h2⟩ := List.getElem?_eq_some_iff.1 hx
        rw [List.drop_eq_getElem_cons h1, h2]
      rw [hdrop] at hrow
      have hI : InsI K w w2 blk off n c P M (L.drop (t + 1 + 1) ++ S) x M [] := ⟨by simp, by intro y hy; (cases hy), by simpa using hrow, hu⟩
      have HI := Lib.hid hI
      have HP := Lib.hid hp
      have HS2 := Lib.hid hs
      have HXX := Lib.hid hx
      have HML := Lib.hid hMl
      have hXx := HX.out x (List.mem_of_getElem? hx)
      have hMX : Hid (∀ y ∈ M, X y) := Lib.hid fun y hy => HX.out y (List.mem_of_mem_take (hp.mem_iff.1 hy))
      clear hI hp hs hx hrow hu hdrop hMl
      go_wp2
      go_loopg [9] (t + 1) (fun gk i9 wr => ∃ (A B : List Ent) (j : Nat), gk = A.length ∧ j = a + A.length ∧ i9 = .int .i64 (j : Int) ∧ InsI K w wr blk off n c P M (L.drop (t + 1 + 1) ++ S) x A B)
      case atStart => exact ⟨M, [], a + t + 1, by rw [HML.out], by rw [HML.out]; omega, by go_num, HI.out⟩
      case round =>
        obtain ⟨A, B, j, rfl, hj, rfl, hI⟩ := hrel
        obtain ⟨w3, rfl⟩ : ∃ w3, w3 = wr := ⟨_, rfl⟩
        go_upto_region 4 with fail
        rcases List.eq_nil_or_concat A with rfl | ⟨A', y, rfl⟩
        · obtain rfl : j = a := by simpa using hj
          have HD := Lib.hid (InsI.done hI HP.out HS2.out HXX.out (.inl rfl))
          clear hI hj
          refine wp_region_quiet_u (by kernel_rfl) (by kernel_rfl) (fun _ => ?_)
          repeat (go_big_quiet_step (fail))
          refine wpQuiet_nil ?_
          intro wq hw'
          obtain ⟨⟨wqq, huq⟩, hw''⟩ := hw'
          subst hw''
          go_wp2
          go_roundg (m - (t + 1))
          case measure => omega
          case rel =>
            obtain ⟨M', h1, h2, h3, h4⟩ := HD.out
            exact ⟨t + 1, rfl, .inr (by omega), by go_num, M', h1, h2, h3.fresh huq, h4.step huq (fun _ _ h => h.elim)⟩
        · rw [List.concat_eq_append] at hI hj
          obtain ⟨p, hp⟩ : ∃ p, a + A'.length = p := ⟨_, rfl⟩
          obtain rfl : j = p + 1 := by simp at hj; omega
          have hxl : (P ++ (A' ++ [y] ++ x :: (B ++ (L.drop (t + 1 + 1) ++ S))))[p + 1]? = some x := by
            have := get_mid (P ++ (A' ++ [y])) x (B ++ (L.drop (t + 1 + 1) ++ S))
            rw [show (P ++ (A' ++ [y])).length = p + 1 by simp [HA.out]; omega] at this
            simpa [List.append_assoc] using this
          have hyl : (P ++ (A' ++ [y] ++ x :: (B ++ (L.drop (t + 1 + 1) ++ S))))[p]? = some y := by
            have := get_mid (P ++ A') y (x :: (B ++ (L.drop (t + 1 + 1) ++ S)))
            rw [show (P ++ A').length = p by simp [HA.out]; omega] at this
            simpa [List.append_assoc] using this
          have hpn : p + 1 < n := by
            have := hI.row.len
            have := (List.getElem?_eq_some_iff.1 hxl).1
            omega
          have hXy : X y := hMX.out y (by rw [← hI.ab]; simp)
          obtain ⟨hbl, x0, x1, x2, x3, x4⟩ := SR.at hI.row hxl
          obtain ⟨_, y0, y1, y2, y3, y4⟩ := SR.at hI.row hyl
          have f0 := cellU x0
          have f1 := cellU x1
          have f2 := cellU x2
          have f3 := cellU x3
          have f4 := cellU x4
          have g0 := cellU y0
          have g1 := cellU y1
          have g2 := cellU y2
          have g3 := cellU y3
          have g4 := cellU y4
          have hc3 := HC.out.next hI.u
          have HI := Lib.hid hI
          have zz1 : (0 : Int) ≤ (p : Int) := by omega
          have zz2 : (p : Int) + 1 < (n : Int) := by omega
          have zz3 : (p : Int) < (n : Int) := by omega
          have zz4 : a < p + 1 := by omega
          have zz5 : (a : Int) < (p : Int) + 1 := by omega
          clear x0 x1 x2 x3 x4 y0 y1 y2 y3 y4 hI hj
          refine wp_region_quiet_u (by kernel_rfl) (by kernel_rfl) (fun _ => ?_)
          by_cases hlt : K x < K y
          · have hz : cmpI (K x) (K y) = -1 := by unfold cmpI; rw [if_pos (by omega)]
            have HQ := Lib.hid (hc3.q hXx hXy hz)
            have HLT := Lib.hid hlt
            unfold Ent.val at HQ
            clear hlt hz hc3
            repeat (go_big_quiet_step ((go_at_fn g; exact HQ.out.u _)))
            refine wpQuiet_nil ?_
            intro wq hw'
            obtain ⟨⟨wqq, huq⟩, hw''⟩ := hw'
            subst hw''
            clear f0 f1 f2 f3 f4 g0 g1 g2 g3 g4
            have hrq := SR.fresh HI.out.row huq
            have hrq2 : SR wq blk off n c ((P ++ A') ++ y :: x :: (B ++ (L.drop (t + 1 + 1) ++ S))) := by
              have : SR wq blk off n c (P ++ (A' ++ [y] ++ x :: (B ++ (L.drop (t + 1 + 1) ++ S)))) := hrq
              simpa [List.append_assoc] using this
            have hadj := SR.adj hrq2 (show (P ++ A').length = p by simp [HA.out]; exact hp)
            have hun : Unch (fun k => k = blk) w (put5 (put5 wq blk (off + (p + 1) * 5) y) blk (off + p * 5) x) := ((HI.out.u.step huq (fun _ _ h => h.elim)).trans (put5_unch _ _ _ _)).trans (put5_unch _ _ _ _)
            have HNX : Hid (InsI K w (put5 (put5 wq blk (off + (p + 1) * 5) y) blk (off + p * 5) x).drew blk off n c P M (L.drop (t + 1 + 1) ++ S) x A' (y :: B)) := Lib.hid ⟨by rw [← HI.out.ab]; simp, fun z hz => by
              rcases List.mem_cons.1 hz with rfl | hz
              · exact HLT.out
              · exact HI.out.lt z hz, by simpa [List.append_assoc] using SR.fresh hadj ((Unch.refl none_ _).drew), hun.drew⟩
            obtain ⟨_, x0, x1, x2, x3, x4⟩ := SR.at hrq hxl
            obtain ⟨_, y0, y1, y2, y3, y4⟩ := SR.at hrq hyl
            have hfz := fun j => SR.free hrq j
            have HP5 := Lib.hid hp
            unfold put5 at HNX
            obtain ⟨Ax, mx, cx, hpx⟩ := HC.out.pv x hXx
            obtain ⟨Ay, my, cy, hpy⟩ := HC.out.pv y hXy
            rw [hpx, hpy] at HNX
            clear hrq hrq2 hadj hun hp
            go_upto_region 6 with fail
            refine wp_planP (fun W => W.heap[blk]? = wq.heap[blk]?) [2, 3, 4] [0, 1, 5, 6, 7, 8, 9, 10, 11, 12, 13] [14, 15, 16, 17] 0 (by kernel_rfl) (by kernel_rfl) rfl rfl rfl (fun c a d v w h => by cases d <;> exact h) (rfl) ?_
            intro S S0 HS _ _
            simp only [pickIn, List.getElem?_toArray, List.getElem?_cons_succ, List.getElem?_cons_zero]
            repeat (go_big_quiet_step (fail))
            refine wpQuiet_nil ?_
            have fT : ∀ W, S W → W.heap[blk]? = wq.heap[blk]? := fun W hW => (HS.out W).1 hW
            have f0 := cellS fT x0
            have f1 := cellS fT x1
            have f2 := cellS fT x2
            have f3 := cellS fT x3
            have f4 := cellS fT x4
            have g0 := cellS fT y0
            have g1 := cellS fT y1
            have g2 := cellS fT y2
            have g3 := cellS fT y3
            have g4 := cellS fT y4
            clear fT
            repeat (go_big_quiet_step (fail))
            refine wpQuiet_nil ?_
            clear f0 f1 f2 f3 f4 g0 g1 g2 g3 g4
            refine tail_all ?_
            go_wp2
            go_roundg A'.length
            case measure => simp
            case rel =>
              refine ⟨A', y :: B, p, rfl, by rw [← HP5.out], by go_num, HNX.out⟩
          · obtain ⟨z, hz⟩ : ∃ z, cmpI (K x) (K y) = z := ⟨_, rfl⟩
            have hz0 : decide (z < 0) = false := by
              rw [← hz]
              apply decide_eq_false
              have := (cmpI_neg (K x) (K y))
              omega
            have HQ := Lib.hid (hc3.q hXx hXy hz)
            have HD := Lib.hid (InsI.done HI.out HP.out HS2.out HXX.out (.inr ⟨A', y, rfl, by omega⟩))
            unfold Ent.val at HQ
            clear hlt hz hc3
            repeat (go_big_quiet_step ((go_at_fn g; exact HQ.out.u _)))
            refine wpQuiet_nil ?_
            intro wq hw'
            obtain ⟨⟨wqq, huq⟩, hw''⟩ := hw'
            subst hw''
            clear f0 f1 f2 f3 f4 g0 g1 g2 g3 g4
            go_wp2
            go_roundg (m - (t + 1))
            case measure => omega
            case rel =>
              obtain ⟨M', h1, h2, h3, h4⟩ := HD.out
              exact ⟨t + 1, rfl, .inr (by omega), by go_num, M', h1, h2, h3.fresh huq, h4.step huq (fun _ _ h => h.elim)⟩
    · have z0 : ¬ a + t + 1 < a + m := by omega
      go_wp2
      go_end0
      obtain ⟨M, hp, hs, hrow, hu⟩ := HO.out
      have e1 : L.take (t + 1) = L := List.take_of_length_le (by rw [HM.out]; omega)
      have e2 : L.drop (t + 1) = [] := List.drop_eq_nil_of_le (by rw [HM.out]; omega)
      rw [e1] at hp
      rw [e2] at hrow
      exact ⟨rfl, M, hp, hs, by simpa using hrow, hu⟩
end Go.Proofs.YtgcpoppinnnciaaGreatDoor
/- slices.swapRangeCmpFunc, slices.rotateCmpFunc over entries. -/
set_option linter.unusedVariables false
set_option linter.unusedSimpArgs false
namespace Go.Proofs.YtgcpoppinnnciaaGreatDoor
open Go Go.RowKit Go.Proofs.YtgcpoppinnnciaaGreatDoor.Pal Go.Proofs.YtgcpoppinnnciaaGreatDoor.Plan

theorem swap_far {α : Type} (X : List α) (x : α) (Y : List α) (y : α) (Z : List α) : ((X ++ x :: (Y ++ y :: Z)).set X.length y).set (X.length + 1 + Y.length) x = X ++ y :: (Y ++ x :: Z) := by
  rw [List.set_append_right _ _ (by omega), List.set_append_right _ _ (by omega)]
  rw [Nat.sub_self, show X.length + 1 + Y.length - X.length = Y.length + 1 by omega]
  rw [List.set_cons_zero, List.set_cons_succ, List.set_append_right _ _ (by omega), Nat.sub_self, List.set_cons_zero]
theorem SR.far {w : World} {blk off n c : Nat} {X Y Z : List Ent} {x y : Ent} (h : SR w blk off n c (X ++ x :: (Y ++ y :: Z))) {p s : Nat} (hp : X.length = p) (hs : X.length + 1 + Y.length = s) : SR (put5 (put5 w blk (off + p * 5) y) blk (off + s * 5) x) blk off n c (X ++ y :: (Y ++ x :: Z)) := by
  have hl := h.len
  simp at hl
  have := (h.put (i := p) (by omega) y).put (i := s) (by omega) x
  rw [← hp, ← hs, swap_far] at this
  rw [← hp, ← hs]
  exact this
/-- Both halves exchanged, of the first i. -/
def xch (P A Q B S : List Ent) (i : Nat) : List Ent := P ++ (B.take i ++ (A.drop i ++ (Q ++ (A.take i ++ (B.drop i ++ S)))))
theorem xch_split {P A Q B S : List Ent} {i : Nat} {x y : Ent} (hx : A[i]? = some x) (hy : B[i]? = some y) : xch P A Q B S i = (P ++ B.take i) ++ x :: ((A.drop (i + 1) ++ (Q ++ A.take i)) ++ y :: (B.drop (i + 1) ++ S)) ∧
    xch P A Q B S (i + 1) = (P ++ B.take i) ++ y :: ((A.drop (i + 1) ++ (Q ++ A.take i)) ++ x :: (B.drop (i + 1) ++ S)) := by
  obtain ⟨h1, h2⟩ := List.getElem?_eq_some_iff.1 hx
  obtain ⟨h3, h4⟩ := List.getElem?_eq_some_iff.1 hy
  have e1 : A.drop i = x :: A.drop (i + 1) := by rw [List.drop_eq_getElem_cons h1, h2]
  have e2 : B.drop i = y :: B.drop (i + 1) := by rw [List.drop_eq_getElem_cons h3, h4]
  have e3 : A.take (i + 1) = A.take i ++ [x] := by rw [List.take_add_one, hx]; rfl
  have e4 : B.take (i + 1) = B.take i ++ [y] := by rw [List.take_add_one, hy]; rfl
  unfold xch
  rw [e1, e2, e3, e4]
  constructor <;> simp [List.append_assoc]
def Pvs (X : Ent → Prop) : Prop := ∀ x, X x → ∃ A m c, x.pv = .slice A m c
def SwapPost (w : World) (blk off n c : Nat) (xs : List Ent) (e : Ending) (w' : World) : Prop := e = .returned (.tuple #[]) ∧ SR w' blk off n c xs ∧ Unch (fun k => k = blk) w w'
set_option maxRecDepth 100000 in
set_option maxHeartbeats 2000000 in
theorem swapRange_ok {w : World} {blk off n c : Nat} {P A Q B S : List Ent} (h : SR w blk off n c (P ++ (A ++ (Q ++ (B ++ S))))) (hn : n ≤ 300) {f : Value} {X : Ent → Prop} (hpv : Pvs X) (hXA : ∀ x ∈ A, X x) (hXB : ∀ x ∈ B, X x) {a b m : Nat} (ha : P.length = a) (hA : A.length = m) (hB : B.length = m) (hb : a + m + Q.length = b) :
    Calls Tryz.prog 237 #[.slice (some ⟨blk, off, none⟩) n c, .int .i64 (a : Int), .int .i64 (b : Int), .int .i64 (m : Int), f] w (SwapPost w blk off n c (P ++ (B ++ (Q ++ (A ++ S))))) := by
  have hlen := h.len
  simp only [List.length_append, ha, hA, hB] at hlen
  have hbm : b + m ≤ n := by omega
  have ham : a + m ≤ b := by omega
  have H0 : Hid (SR w blk off n c (xch P A Q B S 0)) := by
    have : xch P A Q B S 0 = P ++ (A ++ (Q ++ (B ++ S))) := by simp [xch]
    unfold Hid
    rw [this]; exact h
  have H1 : Hid (xch P A Q B S m = P ++ (B ++ (Q ++ (A ++ S)))) := by
    have e1 : A.drop m = [] := List.drop_eq_nil_of_le (by omega)
    have e2 : B.drop m = [] := List.drop_eq_nil_of_le (by omega)
    have e3 : A.take m = A := List.take_of_length_le (by omega)
    have e4 : B.take m = B := List.take_of_length_le (by omega)
    unfold xch
    rw [e1, e2, e3, e4]
    rfl
  have HXA := Lib.hid hXA
  have HXB := Lib.hid hXB
  have HA := Lib.hid hA
  have HB := Lib.hid hB
  have HP := Lib.hid ha
  have HQ := Lib.hid hb
  have HPV := Lib.hid hpv
  clear h hlen hXA hXB hA hB ha hb hpv
  go_enter Tryz.func237, Tryz.ntmps237
  go_wp2
  go_loopg [10] m (fun gk i10 wr => ∃ i : Nat, gk = m - i ∧ i ≤ m ∧ i10 = .int .i64 (i : Int) ∧ SR wr blk off n c (xch P A Q B S i) ∧ Unch (fun k => k = blk) w wr)
  case atStart => exact ⟨0, rfl, Nat.zero_le _, rfl, H0.out, Unch.refl _ _⟩
  case round =>
    obtain ⟨i, rfl, him, rfl, hrow, hu⟩ := hrel
    obtain ⟨w2, rfl⟩ : ∃ w2, w2 = wr := ⟨_, rfl⟩
    have HROW := Lib.hid hrow
    have HU := Lib.hid hu
    clear hrow hu
    by_cases hi : i < m
    · obtain ⟨x, hx⟩ := get_some HA.out hi
      obtain ⟨y, hy⟩ := get_some HB.out hi
      obtain ⟨e1, e2⟩ := xch_split (P := P) (Q := Q) (S := S) hx hy
      have hr := HROW.out
      rw [e1] at hr
      have hl1 : (P ++ B.take i).length = a + i := by rw [List.length_append, List.length_take, HP.out, HB.out]; omega
      have hl2 : (P ++ B.take i).length + 1 + (A.drop (i + 1) ++ (Q ++ A.take i)).length = b + i := by
        rw [hl1]; simp only [List.length_append, List.length_drop, List.length_take, HA.out]; have := HQ.out; omega
      have hfar := SR.far hr hl1 hl2
      rw [← e2] at hfar
      have hxl : ((P ++ B.take i) ++ x :: ((A.drop (i + 1) ++ (Q ++ A.take i)) ++ y :: (B.drop (i + 1) ++ S)))[a + i]? = some x := by
        rw [← hl1]; exact get_mid _ _ _
      have hyl : ((P ++ B.take i) ++ x :: ((A.drop (i + 1) ++ (Q ++ A.take i)) ++ y :: (B.drop (i + 1) ++ S)))[b + i]? = some y := by
        have := get_mid ((P ++ B.take i) ++ x :: (A.drop (i + 1) ++ (Q ++ A.take i))) y (B.drop (i + 1) ++ S)
        rw [show ((P ++ B.take i) ++ x :: (A.drop (i + 1) ++ (Q ++ A.take i))).length = b + i by rw [← hl2]; simp only [List.length_append, List.length_cons]; omega] at this
        rw [← this]
        simp only [List.append_assoc, List.cons_append]
      obtain ⟨_, x0, x1, x2, x3, x4⟩ := SR.at hr hxl
      obtain ⟨_, y0, y1, y2, y3, y4⟩ := SR.at hr hyl
      have hfz := fun j => SR.free hr j
      have hun : Unch (fun k => k = blk) w (put5 (put5 w2 blk (off + (a + i) * 5) y) blk (off + (b + i) * 5) x) := (HU.out.trans (put5_unch _ _ _ _)).trans (put5_unch _ _ _ _)
      have HN : Hid (SR (put5 (put5 w2 blk (off + (a + i) * 5) y) blk (off + (b + i) * 5) x).drew blk off n c (xch P A Q B S (i + 1)) ∧ Unch (fun k => k = blk) w (put5 (put5 w2 blk (off + (a + i) * 5) y) blk (off + (b + i) * 5) x).drew) := ⟨SR.fresh hfar ((Unch.refl none_ _).drew), hun.drew⟩
      obtain ⟨Ax, mx, cx, hpx⟩ := HPV.out x (HXA.out x (List.mem_of_getElem? hx))
      obtain ⟨Ay, my, cy, hpy⟩ := HPV.out y (HXB.out y (List.mem_of_getElem? hy))
      unfold put5 at HN
      rw [hpx, hpy] at HN
      have z1 : a + i < n := by omega
      have z2 : b + i < n := by omega
      have z3 : (a : Int) + (i : Int) < (n : Int) := by omega
      have z4 : (b : Int) + (i : Int) < (n : Int) := by omega
      have z5 : (i : Int) < (m : Int) := by omega
      clear hr hfar hun hx hy e1 e2 hl1 hl2 hxl hyl
      go_upto_region 3 with fail
      refine wp_planP (fun W => W.heap[blk]? = w2.heap[blk]?) [4, 5, 6, 7] [0, 1, 2, 3, 8, 9, 10, 11, 12, 13, 14, 15, 16, 17, 18, 19] [20, 21, 22, 23] 0 (by kernel_rfl) (by kernel_rfl) rfl rfl rfl (fun c a d v w h => by cases d <;> exact h) (rfl) ?_
      intro S S0 HS _ _
      simp only [pickIn, List.getElem?_toArray, List.getElem?_cons_succ, List.getElem?_cons_zero]
      repeat (go_big_quiet_step (fail))
      refine wpQuiet_nil ?_
      have fT : ∀ W, S W → W.heap[blk]? = w2.heap[blk]? := fun W hW => (HS.out W).1 hW
      have f0 := cellS fT x0
      have f1 := cellS fT x1
      have f2 := cellS fT x2
      have f3 := cellS fT x3
      have f4 := cellS fT x4
      have g0 := cellS fT y0
      have g1 := cellS fT y1
      have g2 := cellS fT y2
      have g3 := cellS fT y3
      have g4 := cellS fT y4
      clear fT
      repeat (go_big_quiet_step (fail))
      refine wpQuiet_nil ?_
      clear f0 f1 f2 f3 f4 g0 g1 g2 g3 g4
      refine tail_all ?_
      go_wp2
      go_roundg (m - (i + 1))
      case measure => omega
      case rel => exact ⟨i + 1, rfl, by omega, by go_num, HN.out.1, HN.out.2⟩
    · obtain rfl : i = m := by omega
      go_wp2
      go_end0
      exact ⟨rfl, by rw [← H1.out]; exact HROW.out, HU.out⟩
end Go.Proofs.YtgcpoppinnnciaaGreatDoor
/- slices.rotateCmpFunc over entries. -/
set_option linter.unusedVariables false
set_option linter.unusedSimpArgs false
namespace Go.Proofs.YtgcpoppinnnciaaGreatDoor
open Go Go.RowKit Go.Proofs.YtgcpoppinnnciaaGreatDoor.Pal Go.Proofs.YtgcpoppinnnciaaGreatDoor.Plan

structure Rot (X : Ent → Prop) (w wr : World) (blk off n c : Nat) (G : List Ent) (m p i j : Nat) (P L R S : List Ent) : Prop where
  row : SR wr blk off n c (P ++ (L ++ (R ++ S)))
  u : Unch (fun k => k = blk) w wr
  eq : P ++ (R ++ (L ++ S)) = G
  lp : P.length = p
  pm : p + i = m
  ll : L.length = i
  lr : R.length = j
  i0 : 1 ≤ i
  j0 : 1 ≤ j
  mj : m + j ≤ n
  xl : ∀ x ∈ L, X x
  xr : ∀ x ∈ R, X x
def RotI (X : Ent → Prop) (w wr : World) (blk off n c : Nat) (G : List Ent) (m p i j : Nat) : Prop := ∃ P L R S, Rot X w wr blk off n c G m p i j P L R S
section
variable {X : Ent → Prop} {w wr w2 : World} {blk off n c : Nat} {G : List Ent} {m p i j : Nat}
/-- i > j. -/
theorem RotI.gt (h : RotI X w wr blk off n c G m p i j) (hij : j < i) (hn : n ≤ 300) (hpv : Pvs X) (f : Value) :
    Calls Tryz.prog 237 #[.slice (some ⟨blk, off, none⟩) n c, .int .i64 (p : Int), .int .i64 (m : Int), .int .i64 (j : Int), f] wr fun e w' => e = .returned (.tuple #[]) ∧ RotI X w w' blk off n c G m (p + j) (i - j) j := by
  obtain ⟨P, L, R, S, h⟩ := h
  have hl := h.ll
  have hsp : L = L.take j ++ L.drop j := (List.take_append_drop j L).symm
  have l1 : (L.take j).length = j := by rw [List.length_take]; omega
  have l2 : (L.drop j).length = i - j := by rw [List.length_drop]; omega
  have hr := h.row
  rw [hsp, List.append_assoc] at hr
  have hpm := h.pm
  refine (swapRange_ok hr hn (f := f) hpv (fun x hx => h.xl x (List.mem_of_mem_take hx)) h.xr (a := p) (b := m) (m := j) h.lp l1 h.lr (by omega)).mono ?_
  rintro e w' ⟨rfl, h1, h2⟩
  refine ⟨rfl, P ++ R, L.drop j, L.take j, S, by simpa [List.append_assoc] using h1, h.u.trans h2, ?_, by rw [List.length_append, h.lp, h.lr], by omega, l2, l1, by omega, h.j0, h.mj, fun x hx => h.xl x (List.mem_of_mem_drop hx), fun x hx => h.xl x (List.mem_of_mem_take hx)⟩
  rw [← List.append_assoc (L.take j), List.take_append_drop, List.append_assoc]
  exact h.eq
/-- i < j. -/
theorem RotI.lt (h : RotI X w wr blk off n c G m p i j) (hij : i < j) (hn : n ≤ 300) (hpv : Pvs X) (f : Value) {q : Nat} (hq : m + j = q + i) :
    Calls Tryz.prog 237 #[.slice (some ⟨blk, off, none⟩) n c, .int .i64 (p : Int), .int .i64 (q : Int), .int .i64 (i : Int), f] wr fun e w' => e = .returned (.tuple #[]) ∧ RotI X w w' blk off n c G m p i (j - i) := by
  obtain ⟨P, L, R, S, h⟩ := h
  have hl := h.lr
  have hsp : R = R.take (j - i) ++ R.drop (j - i) := (List.take_append_drop (j - i) R).symm
  have l1 : (R.take (j - i)).length = j - i := by rw [List.length_take]; omega
  have l2 : (R.drop (j - i)).length = i := by rw [List.length_drop]; omega
  have hr := h.row
  rw [hsp, List.append_assoc] at hr
  have hpm := h.pm
  refine (swapRange_ok hr hn (f := f) hpv h.xl (fun x hx => h.xr x (List.mem_of_mem_drop hx)) (a := p) (b := q) (m := i) h.lp h.ll l2 (by rw [l1]; omega)).mono ?_
  rintro e w' ⟨rfl, h1, h2⟩
  refine ⟨rfl, P, R.drop (j - i), R.take (j - i), L ++ S, by simpa [List.append_assoc] using h1, h.u.trans h2, ?_, h.lp, hpm, l2, l1, h.i0, by omega, by have := h.mj; omega, fun x hx => h.xr x (List.mem_of_mem_drop hx), fun x hx => h.xr x (List.mem_of_mem_take hx)⟩
  rw [← List.append_assoc (R.take (j - i)), List.take_append_drop]
  exact h.eq
theorem RotI.facts (h : RotI X w wr blk off n c G m p i j) : p + i = m ∧ 1 ≤ i ∧ 1 ≤ j ∧ m + j ≤ n := by
  obtain ⟨P, L, R, S, h⟩ := h
  exact ⟨h.pm, h.i0, h.j0, h.mj⟩
/-- i = j. -/
theorem RotI.fin (h : RotI X w wr blk off n c G m p i i) (hn : n ≤ 300) (hpv : Pvs X) (f : Value) :
    Calls Tryz.prog 237 #[.slice (some ⟨blk, off, none⟩) n c, .int .i64 (p : Int), .int .i64 (m : Int), .int .i64 (i : Int), f] wr fun e w' => e = .returned (.tuple #[]) ∧ SR w' blk off n c G ∧ Unch (fun k => k = blk) w w' := by
  obtain ⟨P, L, R, S, h⟩ := h
  have hpm := h.pm
  refine (swapRange_ok (Q := []) (by simpa using h.row) hn (f := f) hpv h.xl h.xr (a := p) (b := m) (m := i) h.lp h.ll h.lr (by simpa using hpm)).mono ?_
  rintro e w' ⟨rfl, h1, h2⟩
  refine ⟨rfl, ?_, h.u.trans h2⟩
  rw [← h.eq]
  simpa using h1
end
set_option maxRecDepth 100000 in
set_option maxHeartbeats 2000000 in
theorem rotate_ok {w : World} {blk off n c : Nat} {P L R S : List Ent} (h : SR w blk off n c (P ++ (L ++ (R ++ S)))) (hn : n ≤ 300) {f : Value} {X : Ent → Prop} (hpv : Pvs X) (hXL : ∀ x ∈ L, X x) (hXR : ∀ x ∈ R, X x) {a m b : Nat} (ha : P.length = a) (hm : a + L.length = m) (hb : m + R.length = b) (hL : L ≠ []) (hR : R ≠ []) :
    Calls Tryz.prog 236 #[.slice (some ⟨blk, off, none⟩) n c, .int .i64 (a : Int), .int .i64 (m : Int), .int .i64 (b : Int), f] w (SwapPost w blk off n c (P ++ (R ++ (L ++ S)))) := by
  obtain ⟨i, hi⟩ : ∃ i, L.length = i := ⟨_, rfl⟩
  obtain ⟨j, hj⟩ : ∃ j, R.length = j := ⟨_, rfl⟩
  have hi0 : 1 ≤ i := by rw [← hi]; exact List.length_pos_iff.2 hL
  have hj0 : 1 ≤ j := by rw [← hj]; exact List.length_pos_iff.2 hR
  have hlen := h.len
  simp only [List.length_append, ha, hi, hj] at hlen
  rw [hi] at hm
  rw [hj] at hb
  have H0 : Hid (RotI X w w blk off n c (P ++ (R ++ (L ++ S))) m a i j) := ⟨P, L, R, S, h, Unch.refl _ _, rfl, ha, hm, hi, hj, hi0, hj0, by omega, hXL, hXR⟩
  generalize P ++ (R ++ (L ++ S)) = GG at *
  have HPV := Lib.hid hpv
  have zi : (m : Int) - (a : Int) = (i : Int) := by omega
  have zj : (b : Int) - (m : Int) = (j : Int) := by omega
  have zn : m + j ≤ n := by omega
  clear h hpv hXL hXR ha hL hR hi hj hlen
  go_enter Tryz.func236, Tryz.ntmps236
  go_wp2
  clear zi zj
  go_loopg [10, 11] (i + j) (fun gk i10 i11 wr => ∃ i j p : Nat, gk = i + j ∧ i10 = .int .i64 (i : Int) ∧ i11 = .int .i64 (j : Int) ∧ RotI X w wr blk off n c GG m p i j)
  case atStart => exact ⟨i, j, a, rfl, rfl, rfl, H0.out⟩
  case round =>
    clear hi0 hj0 hb zn H0 hm
    obtain ⟨i, j, p, rfl, rfl, rfl, hI⟩ := hrel
    obtain ⟨hpm, hi0, hj0, hmj⟩ := hI.facts
    obtain ⟨w2, rfl⟩ : ∃ w2, w2 = wr := ⟨_, rfl⟩
    have HI := Lib.hid hI
    clear hI
    have z1 : (m : Int) - (i : Int) = (p : Int) := by omega
    by_cases hij : i = j
    · subst hij
      have HF := Lib.hid (HI.out.fin hn HPV.out f)
      clear hpm
      go_wp2_with fail
      refine HF.out.mono ?_
      rintro e w' ⟨rfl, h1, h2⟩
      go_wp2
      go_end0
      exact ⟨rfl, h1, h2⟩
    · obtain ⟨e1, e2, e3, e4⟩ := nat_ne hij
      by_cases hgt : j < i
      · have HF := Lib.hid (HI.out.gt hgt hn HPV.out f)
        have z2 : (i : Int) - (j : Int) = ((i - j : Nat) : Int) := by omega
        have z3 : (j : Int) < (i : Int) := by omega
        clear hpm hij
        go_wp2_with fail
        refine HF.out.mono ?_
        rintro e w' ⟨rfl, h1⟩
        have H1 := Lib.hid h1
        clear h1
        go_wp2
        go_roundg (i - j + j)
        case measure => omega
        case rel => exact ⟨i - j, j, p + j, rfl, rfl, rfl, H1.out⟩
      · have hlt : i < j := by omega
        obtain ⟨q, hq⟩ : ∃ q, m + j = q + i := ⟨m + j - i, by omega⟩
        have HF := Lib.hid (HI.out.lt hlt hn HPV.out f hq)
        have z2 : (j : Int) - (i : Int) = ((j - i : Nat) : Int) := by omega
        have z3 : ¬ (j : Int) < (i : Int) := by omega
        have z4 : ((m : Int) + (j : Int)) - (i : Int) = (q : Int) := by omega
        have z5 : (((m + j : Nat) : Int)) - (i : Int) = (q : Int) := by omega
        clear hpm hij hq
        go_wp2_with fail
        refine HF.out.mono ?_
        rintro e w' ⟨rfl, h1⟩
        have H1 := Lib.hid h1
        clear h1
        go_wp2
        go_roundg (i + (j - i))
        case measure => omega
        case rel => exact ⟨i, j - i, p, rfl, rfl, rfl, H1.out⟩
end Go.Proofs.YtgcpoppinnnciaaGreatDoor
