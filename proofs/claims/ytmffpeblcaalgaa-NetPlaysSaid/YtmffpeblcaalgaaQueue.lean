/-
  The box of queue.go: what each call does to it.
-/
import Derived.Test.YtmffpeblcaalgaaRws
import Derived.Test.YtmffpeblcaalgaaRows
import Derived.Deep.QuietTactic
import Derived.BigQuiet
import Derived.StillTailTactics
import Derived.Deep.OwnRows
set_option linter.unusedVariables false
set_option linter.unusedSimpArgs false
namespace Go.Proofs.Ytmffpeblcaalgaa
open Go Go.RowKit Go.Proofs.Ytmffpeblcaalgaa.Pal Go.Proofs.Ytmffpeblcaalgaa.Plan

def strs (l : List ByteArray) : List Value := l.map Value.string
theorem info_str : (Try.prog.info? 9).map (fun i => (i.zero, i.size, i.bytes)) = some (some (.string ByteArray.empty), 1, 16) := by kernel_rfl
theorem info_strs : (Try.prog.info? 39).map (fun i => (i.zero, i.size, i.bytes)) = some (some (.slice none 0 0), 1, 24) := by kernel_rfl

structure Box (w : World) (B L : Nat) (vs : List Value) (pl turn : Nat) (rows : List (List ByteArray)) : Prop where
  hB : w.heap[B]? = some (.cells #[.int .i64 (pl : Int), .slice (some ⟨L, 0, none⟩) rows.length rows.length, .int .i64 (turn : Int)] 68 (0, 0))
  hL : w.heap[L]? = some (.cells vs.toArray 39 (0, 0))
  len : vs.length = rows.length
  row : ∀ (i : Nat) (v : Value) (r : List ByteArray), vs[i]? = some v → rows[i]? = some r → Row w 9 1 v r.length (strs r)
  apart : ∀ (i j : Nat) (u v : Value) (k : Nat), vs[i]? = some u → vs[j]? = some v → u.ownBlock = some k → v.ownBlock = some k → i = j
def foot (B L : Nat) (vs : List Value) : Nat → Prop := fun k => k = B ∨ k = L ∨ ∃ v ∈ vs, v.ownBlock = some k

section
variable {w w1 : World} {B L pl turn : Nat} {vs : List Value} {rows : List (List ByteArray)}
theorem Box.ne (h : Box w B L vs pl turn rows) : B ≠ L := fun e => by
  have h1 := h.hB; have h2 := h.hL
  rw [e, h2] at h1
  injection h1 with h1
  injection h1 with _ h1
  exact absurd h1 (by decide)
theorem Box.rowne (h : Box w B L vs pl turn rows) {i : Nat} {v : Value} (hv : vs[i]? = some v) {k : Nat} (hk : v.ownBlock = some k) : k ≠ B ∧ k ≠ L := by
  have hi : i < rows.length := by rw [← h.len]; exact (List.getElem?_eq_some_iff.1 hv).1
  obtain ⟨cur, hc⟩ := (h.row i v _ hv (List.getElem?_eq_getElem hi)).blk hk
  constructor
  · intro e; have h1 := h.hB; rw [← e, hc] at h1; injection h1 with h1; injection h1 with _ h1; exact absurd h1 (by decide)
  · intro e; have h1 := h.hL; rw [← e, hc] at h1; injection h1 with h1; injection h1 with _ h1; exact absurd h1 (by decide)
theorem Box.unch {X : Nat → Prop} (h : Box w B L vs pl turn rows) (hu : Unch X w w1) (hX : ∀ k, foot B L vs k → ¬ X k) : Box w1 B L vs pl turn rows :=
  ⟨hu.heap h.hB (hX _ (.inl rfl)), hu.heap h.hL (hX _ (.inr (.inl rfl))), h.len, fun i v r hv hr => (h.row i v r hv hr).unch hu (fun k hk => hX k (.inr (.inr ⟨v, List.mem_of_getElem? hv, hk⟩))), h.apart⟩
/-- One row is another one now: its value v', in w1; then it is stored. -/
theorem Box.set (h : Box w B L vs pl turn rows) {i : Nat} {v v' : Value} {r' : List ByteArray} (hv : vs[i]? = some v) (hr : Row w1 9 1 v' r'.length (strs r'))
    (hu : Unch (fun k => v.ownBlock = some k) w w1) (hat : ∀ k, v'.ownBlock = some k → v.ownBlock = some k ∨ w.heap.size ≤ k) :
    Box (w1.setCell ⟨L, i, none⟩ v') B L (vs.set i v') pl turn (rows.set i r') ∧ Unch (foot B L vs) w (w1.setCell ⟨L, i, none⟩ v') ∧ ∀ k, foot B L (vs.set i v') k → foot B L vs k ∨ w.heap.size ≤ k := by
  have hil : i < vs.length := (List.getElem?_eq_some_iff.1 hv).1
  have hBo : ∀ k, v.ownBlock = some k → k ≠ B ∧ k ≠ L := fun k hk => h.rowne hv hk
  have hB1 := hu.heap h.hB (fun hk => (hBo B hk).1 rfl)
  have hL1 := hu.heap h.hL (fun hk => (hBo L hk).2 rfl)
  have hv'L : ∀ k, v'.ownBlock = some k → k ≠ L := fun k hk e => by
    rcases hat k hk with h1 | h1
    · exact (hBo k h1).2 e
    · have := lt_of_heap h.hL; omega
  have hin : ∀ j, j ≠ i → ∀ u, vs[j]? = some u → ∀ k, u.ownBlock = some k → v.ownBlock ≠ some k := fun j hj u hu' k hk hvk => hj (h.apart j i u v k hu' hv hk hvk)
  refine ⟨⟨?_, ?_, by simp [h.len], ?_, ?_⟩, ?_, ?_⟩
  · rw [List.length_set]; exact blk_set_ne hB1 h.ne i v'
  · have := blk_set hL1 i v'
    rw [this]
    simp
  · intro j u r hju hjr
    by_cases hji : j = i
    · subst hji
      rw [List.getElem?_set_self (by omega)] at hju
      rw [List.getElem?_set_self (by rw [← h.len]; exact hil)] at hjr
      obtain rfl := Option.some.inj hju
      obtain rfl := Option.some.inj hjr
      exact hr.move fun k hk => Below.heap_setCell _ _ _ _ (hv'L k hk)
    · rw [List.getElem?_set_ne (Ne.symm hji)] at hju hjr
      have h1 := (h.row j u r hju hjr).unch hu (fun k hk => hin j hji u hju k hk)
      exact h1.move fun k hk => Below.heap_setCell _ _ _ _ (h.rowne hju hk).2
  · intro a b u x k hu1 hx1 hk hk'
    by_cases ha : a = i <;> by_cases hb : b = i
    · rw [ha, hb]
    · subst ha
      rw [List.getElem?_set_self (by omega)] at hu1
      rw [List.getElem?_set_ne (Ne.symm hb)] at hx1
      obtain rfl := Option.some.inj hu1
      rcases hat k hk with h1 | h1
      · exact absurd h1 (hin b hb x hx1 k hk')
      · have hbl : b < rows.length := by rw [← h.len]; exact (List.getElem?_eq_some_iff.1 hx1).1
        obtain ⟨_, hc⟩ := (h.row b x _ hx1 (List.getElem?_eq_getElem hbl)).blk hk'
        have := lt_of_heap hc; omega
    · subst hb
      rw [List.getElem?_set_self (by omega)] at hx1
      rw [List.getElem?_set_ne (Ne.symm ha)] at hu1
      obtain rfl := Option.some.inj hx1
      rcases hat k hk' with h1 | h1
      · exact absurd h1 (hin a ha u hu1 k hk)
      · have hal : a < rows.length := by rw [← h.len]; exact (List.getElem?_eq_some_iff.1 hu1).1
        obtain ⟨_, hc⟩ := (h.row a u _ hu1 (List.getElem?_eq_getElem hal)).blk hk
        have := lt_of_heap hc; omega
    · rw [List.getElem?_set_ne (Ne.symm ha)] at hu1
      rw [List.getElem?_set_ne (Ne.symm hb)] at hx1
      exact h.apart a b u x k hu1 hx1 hk hk'
  · exact (hu.mono (fun k _ hk => .inr (.inr ⟨v, List.mem_of_getElem? hv, hk⟩))).setCell _ (fun _ => .inr (.inl rfl))
  · rintro k (rfl | rfl | ⟨u, hu', hk⟩)
    · exact .inl (.inl rfl)
    · exact .inl (.inr (.inl rfl))
    · rcases List.mem_or_eq_of_mem_set hu' with h1 | rfl
      · exact .inl (.inr (.inr ⟨u, h1, hk⟩))
      · rcases hat k hk with h1 | h1
        · exact .inl (.inr (.inr ⟨v, List.mem_of_getElem? hv, h1⟩))
        · exact .inr h1
end

set_option maxHeartbeats 1000000 in
theorem put_ok {B L pl turn : Nat} {vs : List Value} {rows : List (List ByteArray)} {w : World} (h : Box w B L vs pl turn rows) (hn : rows.length ≤ 16) (hpl : pl ≤ 64) (i : Nat) (r : List ByteArray) (hr : rows[i]? = some r) (hlt : r.length < pl) (text : ByteArray) :
    Calls Try.prog 13 #[.pointer (some ⟨B, 0, none⟩), .int .i64 (i : Int), .string text] w fun e w' => e = .returned (.int .i64 0) ∧
      ∃ vs', Box w' B L vs' pl turn (rows.set i (r ++ [text])) ∧ Unch (foot B L vs) w w' ∧ ∀ k, foot B L vs' k → foot B L vs k ∨ w.heap.size ≤ k := by
  obtain ⟨n, hnn⟩ : ∃ n, rows.length = n := ⟨_, rfl⟩
  have hi : i < n := by rw [← hnn]; exact (List.getElem?_eq_some_iff.1 hr).1
  obtain ⟨v, hv⟩ : ∃ v, vs[i]? = some v := ⟨vs[i]'(by rw [h.len, hnn]; exact hi), List.getElem?_eq_getElem _⟩
  have hrow := h.row i v r hv hr
  obtain ⟨A, c, hvA, hlc⟩ := hrow.slice
  have hB := h.hB
  rw [hnn] at hB
  have c0 := blk_cell hB (j := 0) rfl
  have c1 := blk_cell hB (j := 1) rfl
  have d := blk_cell h.hL (j := i) (by rw [List.getElem?_toArray]; exact hv)
  have df := blk_free h.hL i
  have hBL := h.ne
  have hne := fun k hk => h.rowne hv (k := k) hk
  have hmax : r.length + 1 ≤ 64 := by omega
  subst hvA
  generalize hrl : r.length = len at *
  have i0 : ¬ ((i : Int) < 0) := by omega
  have i00 : (0 : Int) ≤ (i : Int) := by omega
  have i1 : (i : Int) < (n : Int) := by rw [hnn] at *; omega
  have i2 : ((pl : Int) ≤ (len : Int)) = False := by simp; omega
  have Hr := Lib.hid hrl
  have Hn := Lib.hid hnn
  have Hv := Lib.hid hv
  clear hrl hnn hr hv
  go_enter Try.func13, Try.ntmps13
  go_wp2
  go_quiet (fail)
  go_wp2
  obtain ⟨S, HS⟩ : ∃ S : World → Prop, Hid (∀ W, S W ↔ (W.cell? ⟨B, 1, none⟩ = some (.slice (some ⟨L, 0, none⟩) n n) ∧ W.cell? ⟨L, i, none⟩ = some (.slice A len c))) := ⟨_, fun _ => Iff.rfl⟩
  have s1 : ∀ g : In S, g.w.cell? ⟨B, 1, none⟩ = some (.slice (some ⟨L, 0, none⟩) n n) := fun g => ((HS.out _).1 g.h).1
  have s2 : ∀ g : In S, g.w.cell? ⟨L, i, none⟩ = some (.slice A len c) := fun g => ((HS.out _).1 g.h).2
  refine wp_planS S [0,1,2,3,4,5,6,7,8,9,10,11,12] [13,14,15,16] 2 (by kernel_rfl) (by kernel_rfl) rfl rfl (fun c a d v w h => by cases d <;> exact h) ((HS.out _).2 ⟨c1, d⟩) ?_
  intro _
  simp only [pickIn, List.getElem?_toArray, List.getElem?_cons_succ, List.getElem?_cons_zero]
  repeat (go_big_quiet_step (fail))
  refine wpQuiet_nil ?_
  refine tail_step ?_
  go_wp2
  refine tail_midS ((HS.out _).2 ⟨(World.cell?_alloc_past _ _ _ (lt_of_heap hB)).trans c1, (World.cell?_alloc_past _ _ _ (lt_of_heap h.hL)).trans d⟩) ?_
  refine tail_step ?_
  have hrow2 : Row (w.drewN (nq + 1)) 9 1 (.slice A len c) len (strs r) := hrow.move fun _ _ => rfl
  refine wpList_append1 (w.drewN (nq + 1)) rfl (.tmp 48) (.tmp 50) 39 9 _ 1 16 rfl Try.underlying39 info_str rfl (by omega) (.slice A len c) len (strs r) (by rfl) hrow2 [.string text] rfl (by intro u hu; simp at hu; subst hu; rfl) (by rfl) (by simp only [maxLen]; omega) (by omega) ?_
  intro v' w1 hr1 hu1 hat1
  obtain ⟨A', c', rfl, _⟩ := hr1.slice
  have e1 : w1.cell? ⟨B, 1, none⟩ = _ := hu1.cell (w := w.drewN (nq + 1)) c1 (fun hk => (hne B hk).1 rfl)
  have e2 : w1.cell? ⟨L, i, none⟩ = _ := hu1.cell (w := w.drewN (nq + 1)) d (fun hk => (hne L hk).2 rfl)
  have e3 : w1.frozen? ⟨L, i, none⟩ = false := hu1.frozen (w := w.drewN (nq + 1)) (lt_of_heap h.hL) df (fun hk => (hne L hk).2 rfl)
  refine wpList_nil (tail_midS ((HS.out _).2 ⟨e1, e2⟩) (tail_all ?_))
  go_wp2
  go_ret
  have hu2 : Unch (fun k => (Value.slice A len c).ownBlock = some k) w w1 := ⟨hu1.os, hu1.tape, hu1.output, hu1.size, hu1.block⟩
  have hset := h.set (w1 := w1) (r' := r ++ [text]) Hv.out (by rw [List.length_append, Hr.out]; simpa [strs] using hr1) hu2 (fun k hk => by
    rcases hat1 with h1 | ⟨b, h1, h2⟩
    · exact .inl (h1 ▸ hk)
    · rw [h1] at hk; injection hk with hk; subst hk; exact .inr h2)
  exact ⟨rfl, _, hset⟩

/-- A row's cells, as a box has them. -/
theorem Box.cells {B L pl turn : Nat} {vs : List Value} {rows : List (List ByteArray)} {w : World} (h : Box w B L vs pl turn rows) {i : Nat} {r : List ByteArray} (hr : rows[i]? = some r) :
    ∃ A c, vs[i]? = some (.slice A r.length c) ∧ r.length ≤ c ∧ Row w 9 1 (.slice A r.length c) r.length (strs r) ∧ w.cell? ⟨L, i, none⟩ = some (.slice A r.length c) := by
  have hi : i < vs.length := by rw [h.len]; exact (List.getElem?_eq_some_iff.1 hr).1
  have hv : vs[i]? = some vs[i] := List.getElem?_eq_getElem hi
  have hrow := h.row i _ r hv hr
  obtain ⟨A, c, hvA, hlc⟩ := hrow.slice
  rw [hvA] at hv hrow
  exact ⟨A, c, hv, hlc, hrow, blk_cell h.hL (j := i) (by rw [List.getElem?_toArray]; exact hv)⟩
theorem Box.c0 {B L pl turn : Nat} {vs : List Value} {rows : List (List ByteArray)} {w : World} (h : Box w B L vs pl turn rows) : w.cell? ⟨B, 0, none⟩ = some (.int .i64 (pl : Int)) := blk_cell h.hB rfl
theorem Box.c1 {B L pl turn : Nat} {vs : List Value} {rows : List (List ByteArray)} {w : World} (h : Box w B L vs pl turn rows) : w.cell? ⟨B, 1, none⟩ = some (.slice (some ⟨L, 0, none⟩) rows.length rows.length) := blk_cell h.hB rfl
theorem Box.c2 {B L pl turn : Nat} {vs : List Value} {rows : List (List ByteArray)} {w : World} (h : Box w B L vs pl turn rows) : w.cell? ⟨B, 2, none⟩ = some (.int .i64 (turn : Int)) := blk_cell h.hB rfl

set_option maxHeartbeats 400000 in
theorem put_nil (w : World) (i : Int) (text : ByteArray) :
    Calls Try.prog 13 #[.pointer none, .int .i64 i, .string text] w fun e w' => e = .returned (.int .i64 1) ∧ w = w' := by
  go_enter Try.func13, Try.ntmps13
  go_wp2
  go_ret
  exact ⟨rfl, rfl⟩

set_option maxHeartbeats 400000 in
theorem put_arg {B L pl turn : Nat} {vs : List Value} {rows : List (List ByteArray)} {w : World} (h : Box w B L vs pl turn rows) (hn : rows.length ≤ 16) (i : Int) (hi : i < 0 ∨ (rows.length : Int) ≤ i) (text : ByteArray) :
    Calls Try.prog 13 #[.pointer (some ⟨B, 0, none⟩), .int .i64 i, .string text] w fun e w' => e = .returned (.int .i64 1) ∧ w = w' := by
  have c1 := h.c1
  by_cases h0 : i < 0
  · go_enter Try.func13, Try.ntmps13
    go_wp2
    go_ret
    exact ⟨rfl, rfl⟩
  · have h1 : (rows.length : Int) ≤ i := by omega
    go_enter Try.func13, Try.ntmps13
    go_wp2
    go_ret
    exact ⟨rfl, rfl⟩

set_option maxHeartbeats 400000 in
theorem put_busy {B L pl turn : Nat} {vs : List Value} {rows : List (List ByteArray)} {w : World} (h : Box w B L vs pl turn rows) (hn : rows.length ≤ 16) (hpl : pl ≤ 64) (i : Nat) (r : List ByteArray) (hr : rows[i]? = some r) (hlt : pl ≤ r.length) (text : ByteArray) :
    Calls Try.prog 13 #[.pointer (some ⟨B, 0, none⟩), .int .i64 (i : Int), .string text] w fun e w' => e = .returned (.int .i64 8) ∧ ∃ m, w' = w.drewN m := by
  have hi : i < rows.length := (List.getElem?_eq_some_iff.1 hr).1
  obtain ⟨A, c, _, _, _, d⟩ := h.cells hr
  have c0 := h.c0
  have c1 := h.c1
  have i0 : ¬ ((i : Int) < 0) := by omega
  have i00 : (0 : Int) ≤ (i : Int) := by omega
  have i1 : (i : Int) < (rows.length : Int) := by omega
  have i2 : (pl : Int) ≤ (r.length : Int) := by omega
  clear hr
  go_enter Try.func13, Try.ntmps13
  go_wp2
  go_quiet (fail)
  go_wp2
  go_ret
  exact ⟨rfl, _, rfl⟩

set_option maxHeartbeats 400000 in
theorem len_nil (w : World) :
    Calls Try.prog 14 #[.pointer none] w fun e w' => e = .returned (.int .i64 0) ∧ w = w' := by
  go_enter Try.func14, Try.ntmps14
  go_wp2
  go_ret
  exact ⟨rfl, rfl⟩

def qlen (rows : List (List ByteArray)) : Nat := (rows.map List.length).sum
theorem qlen_take_succ (rows : List (List ByteArray)) (k : Nat) (r : List ByteArray) (h : rows[k]? = some r) : qlen (rows.take (k + 1)) = qlen (rows.take k) + r.length := by
  unfold qlen
  obtain ⟨hk, rfl⟩ := List.getElem?_eq_some_iff.1 h
  rw [List.take_succ_eq_append_getElem hk, List.map_append, List.sum_append]
  rfl
theorem qlen_le (rows : List (List ByteArray)) (m : Nat) (h : ∀ r ∈ rows, r.length ≤ m) : qlen rows ≤ rows.length * m := by
  unfold qlen
  induction rows with
  | nil => simp
  | cons r rows ih =>
    have h1 := h r (by simp)
    have h2 := ih fun r hr => h r (by simp [hr])
    simp only [List.map_cons, List.sum_cons, List.length_cons, Nat.add_mul]
    omega

set_option maxHeartbeats 400000 in
theorem len_ok {B L pl turn : Nat} {vs : List Value} {rows : List (List ByteArray)} {w : World} (h : Box w B L vs pl turn rows) (hn : rows.length ≤ 16) (hm : ∀ r ∈ rows, r.length ≤ 64) :
    Calls Try.prog 14 #[.pointer (some ⟨B, 0, none⟩)] w fun e w' => e = .returned (.int .i64 (qlen rows : Int)) ∧ w = w' := by
  have c1 := h.c1
  go_enter Try.func14, Try.ntmps14
  go_wp2
  go_loop [3, 13] (fun n k => ∃ j : Nat, j ≤ rows.length ∧ k = .int .i64 (j : Int) ∧ n = .int .i64 (qlen (rows.take j) : Int)) (fun _ k => rows.length - (intOf k).toNat)
  case atStart => exact ⟨0, Nat.zero_le _, rfl, rfl⟩
  case round =>
    obtain ⟨j, hj, rfl, rfl⟩ := hrel
    have hq : qlen (rows.take j) ≤ 16 * 64 := by
      have h1 := qlen_le (rows.take j) 64 fun r hr => hm r (List.mem_of_mem_take hr)
      have h2 : (rows.take j).length ≤ 16 := by rw [List.length_take]; omega
      have h3 : (rows.take j).length * 64 ≤ 16 * 64 := Nat.mul_le_mul_right _ h2
      omega
    by_cases hlt : j < rows.length
    · obtain ⟨r, hr⟩ : ∃ r, rows[j]? = some r := ⟨_, List.getElem?_eq_getElem hlt⟩
      obtain ⟨A, c, _, _, _, d⟩ := h.cells hr
      have hrl : r.length ≤ 64 := hm r (List.mem_of_getElem? hr)
      have Hq := Lib.hid (qlen_take_succ rows j r hr)
      clear hr
      go_wp2
      go_round
      case rel => exact ⟨j + 1, by omega, by go_num, by rw [Hq.out]; go_num⟩
      case measure => simp [intOf]; omega
    · obtain rfl : j = rows.length := by omega
      go_wp2
      go_ret
      exact ⟨rfl, rfl⟩

set_option maxHeartbeats 400000 in
theorem qnew_bad (s p : Int) (h : s < 1 ∨ 16 < s ∨ p < 1 ∨ 64 < p) (w : World) :
    Calls Try.prog 12 #[.int .i64 s, .int .i64 p] w fun e w' => e = .returned (.pointer none) ∧ w = w' := by
  by_cases h1 : s < 1
  · go_enter Try.func12, Try.ntmps12
    go_wp2
    go_ret
    exact ⟨rfl, rfl⟩
  · by_cases h2 : 16 < s
    · go_enter Try.func12, Try.ntmps12
      go_wp2
      go_ret
      exact ⟨rfl, rfl⟩
    · by_cases h3 : p < 1
      · go_enter Try.func12, Try.ntmps12
        go_wp2
        go_ret
        exact ⟨rfl, rfl⟩
      · have h4 : 64 < p := by omega
        go_enter Try.func12, Try.ntmps12
        go_wp2
        go_ret
        exact ⟨rfl, rfl⟩
def NewBox (w : World) (pl n : Nat) (e : Ending) (w' : World) : Prop :=
  ∃ B L vs, e = .returned (.pointer (some ⟨B, 0, none⟩)) ∧ Box w' B L vs pl 0 (List.replicate n []) ∧ Unch none_ w w' ∧ ∀ k, foot B L vs k → w.heap.size ≤ k
set_option maxHeartbeats 400000 in
theorem qnew_ok (n pl : Nat) (h1 : 1 ≤ n) (h2 : n ≤ 16) (h3 : 1 ≤ pl) (h4 : pl ≤ 64) (w : World) :
    Calls Try.prog 12 #[.int .i64 (n : Int), .int .i64 (pl : Int)] w (NewBox w pl n) := by
  have hmk := fun W => run_make_row' (P := Try.prog) 36 39 (.slice none 0 0) 24 Try.underlying36 info_strs rfl .i64 .i64 n (by omega) (by omega) W
  have g1 : ¬ ((n : Int) < 1) := by omega
  have g2 : ¬ (16 < (n : Int)) := by omega
  have g3 : ¬ ((pl : Int) < 1) := by omega
  have g4 : ¬ (64 < (pl : Int)) := by omega
  go_enter Try.func12, Try.ntmps12
  go_wp2
  go_ret
  unfold NewBox
  refine ⟨_, w.heap.size, List.replicate n (.slice none 0 0), rfl, ⟨?_, ?_, by simp, ?_, ?_⟩, ((Unch.refl _ _).alloc _).alloc _, ?_⟩
  · have := blk_new (w.alloc (.cells (madeCells #[.slice none 0 0] n) 39)) (.cells #[.int .i64 (pl : Int), .slice (some ⟨w.heap.size, 0, none⟩) n n, .int .i64 0] 68)
    simpa using this
  · refine blk_alloc ?_ _
    rw [show (List.replicate n (Value.slice none 0 0)).toArray = madeCells #[.slice none 0 0] n by rw [madeCells_one]; simp]
    exact blk_new w _
  · intro i v r hv hr
    obtain rfl := List.eq_of_mem_replicate (List.mem_of_getElem? hv)
    obtain rfl := List.eq_of_mem_replicate (List.mem_of_getElem? hr)
    exact Row.nil _ _ _
  · intro i j u v k hu hv hk
    obtain rfl := List.eq_of_mem_replicate (List.mem_of_getElem? hu)
    cases hk
  · rintro k (rfl | rfl | ⟨v, hv, hk⟩)
    · simp
    · exact Nat.le_refl _
    · obtain rfl := List.eq_of_mem_replicate hv
      cases hk

/-! ### Take -/
set_option maxHeartbeats 400000 in
theorem take_nil (w : World) :
    Calls Try.prog 15 #[.pointer none] w fun e w' => e = .returned (.tuple #[.int .i64 0, .string ⟨#[]⟩, .bool false]) ∧ w = w' := by
  go_enter Try.func15, Try.ntmps15
  go_wp2
  go_ret3
  exact ⟨rfl, rfl⟩
/-- Where it looks at round i. -/
def at_ (turn n i : Nat) : Nat := (turn + i) % n
set_option maxHeartbeats 1000000 in
theorem take_none {B L pl turn : Nat} {vs : List Value} {rows : List (List ByteArray)} {w : World} (h : Box w B L vs pl turn rows) (hn : rows.length ≤ 16) (hn0 : 0 < rows.length) (ht : turn < rows.length) (hall : ∀ r ∈ rows, r = []) :
    Calls Try.prog 15 #[.pointer (some ⟨B, 0, none⟩)] w fun e w' => e = .returned (.tuple #[.int .i64 0, .string ⟨#[]⟩, .bool false]) ∧ ∃ m, w' = w.drewN m := by
  obtain ⟨n, Hn⟩ : ∃ n, Hid (rows.length = n) := ⟨_, rfl⟩
  have c1 := h.c1
  have c2 := h.c2
  rw [Hn.out] at c1 hn hn0 ht
  go_enter Try.func15, Try.ntmps15
  go_wp2
  go_loopw [15] (fun k wr => ∃ j m : Nat, j ≤ n ∧ k = .int .i64 (j : Int) ∧ wr = w.drewN m) (fun k _ => n - (intOf k).toNat)
  case atStart => exact ⟨0, 0, Nat.zero_le _, rfl, rfl⟩
  case round =>
    obtain ⟨j, m, hj, rfl, rfl⟩ := hrel
    by_cases hlt : j < n
    · obtain ⟨q, Hq⟩ : ∃ q, Hid (q = (turn + j) % n) := ⟨_, rfl⟩
      have hqn : q < n := by rw [Hq.out]; exact Nat.mod_lt _ hn0
      have hr : rows[q]? = some [] := by
        have hql : q < rows.length := by rw [Hn.out]; exact hqn
        rw [List.getElem?_eq_getElem hql, hall _ (List.getElem_mem hql)]
      obtain ⟨A, c, _, _, _, d⟩ := h.cells hr
      have e0 : ((turn : Int) + (j : Int)) % (n : Int) = (q : Int) := by rw [Hq.out]; simp
      go_wp2
      go_quiet (fail)
      go_wp2
      exact ⟨⟨j + 1, m + nq, by omega, by go_num, rfl⟩, by simp [intOf]; omega⟩
    · obtain rfl : j = n := by omega
      go_wp2
      go_ret3
      exact ⟨rfl, _, rfl⟩

def Took (w : World) (B L pl n from_ : Nat) (t : ByteArray) (rows' : List (List ByteArray)) (vs : List Value) (e : Ending) (w' : World) : Prop :=
  e = .returned (.tuple #[.int .i64 (from_ : Int), .string t, .bool true]) ∧ ∃ vs', Box w' B L vs' pl ((from_ + 1) % n) rows' ∧ Unch (foot B L vs) w w' ∧ ∀ k, foot B L vs' k → foot B L vs k ∨ w.heap.size ≤ k
theorem Box.turn_ {B L pl turn t' : Nat} {vs : List Value} {rows : List (List ByteArray)} {w : World} (h : Box w B L vs pl turn rows) : Box (w.setCell ⟨B, 2, none⟩ (.int .i64 (t' : Int))) B L vs pl t' rows := by
  refine ⟨by rw [blk_set h.hB]; rfl, blk_set_ne h.hL h.ne.symm _ _, h.len, fun i v r hv hr => (h.row i v r hv hr).move fun k hk => Below.heap_setCell _ _ _ _ (h.rowne hv hk).1, h.apart⟩
set_option maxHeartbeats 1000000 in
theorem take_some {B L pl turn : Nat} {vs : List Value} {rows : List (List ByteArray)} {w : World} (h : Box w B L vs pl turn rows) (hn : rows.length ≤ 16) (hn0 : 0 < rows.length) (ht : turn < rows.length) (i from_ : Nat) (t : ByteArray) (r : List ByteArray)
    (hi : i < rows.length) (hfrom : (turn + i) % rows.length = from_) (hmin : ∀ j, j < i → rows[(turn + j) % rows.length]? = some []) (hr : rows[from_]? = some (t :: r)) :
    Calls Try.prog 15 #[.pointer (some ⟨B, 0, none⟩)] w (Took w B L pl rows.length from_ t (rows.set from_ r) vs) := by
  obtain ⟨n, Hn⟩ : ∃ n, Hid (rows.length = n) := ⟨_, rfl⟩
  have c1 := h.c1
  have c2 := h.c2
  rw [Hn.out] at c1 hn hn0 ht hmin hfrom hi ⊢
  have HF := Lib.hid hfrom
  have HM := Lib.hid hmin
  clear hfrom hmin
  go_enter Try.func15, Try.ntmps15
  go_wp2
  go_loopw [15] (fun k wr => ∃ j m : Nat, j ≤ i ∧ k = .int .i64 (j : Int) ∧ wr = w.drewN m) (fun k _ => n - (intOf k).toNat)
  case atStart => exact ⟨0, 0, Nat.zero_le _, rfl, rfl⟩
  case round =>
    obtain ⟨j, m, hj, rfl, rfl⟩ := hrel
    by_cases hlt : j < i
    · obtain ⟨q, Hq⟩ : ∃ q, Hid (q = (turn + j) % n) := ⟨_, rfl⟩
      have hqn : q < n := by rw [Hq.out]; exact Nat.mod_lt _ hn0
      have hr0 : rows[q]? = some [] := by rw [Hq.out]; exact HM.out j hlt
      obtain ⟨A, c, _, _, _, d⟩ := h.cells hr0
      have e0 : ((turn : Int) + (j : Int)) % (n : Int) = (q : Int) := by rw [Hq.out]; simp
      clear hr hr0
      go_wp2
      go_quiet (fail)
      go_wp2
      exact ⟨⟨j + 1, m + nq, by omega, by go_num, rfl⟩, by simp [intOf]; omega⟩
    · obtain rfl : j = i := by omega
      have hqn : from_ < n := by rw [← HF.out]; exact Nat.mod_lt _ hn0
      obtain ⟨A, c, hv, hlc, hrow, d⟩ := h.cells hr
      have e0 : ((turn : Int) + (j : Int)) % (n : Int) = (from_ : Int) := by rw [← HF.out]; simp
      obtain ⟨t', Ht'⟩ : ∃ t', Hid (t' = (from_ + 1) % n) := ⟨_, rfl⟩
      have e1 : ((from_ : Int) + 1) % (n : Int) = (t' : Int) := by rw [Ht'.out]; simp
      obtain ⟨g, o, cap, cur, hA, hh, hncap, hs, htk⟩ := hrow.form (by simp)
      injection hA with hA1 hA2 hA3
      subst hA1; subst hA3
      have ct : w.cell? ⟨g, o, none⟩ = some (.string t) := hrow.at rfl (j := 0) (by simp [strs])
      have hdrop := hrow.drop rfl 1 (by simp)
      have hBL := h.ne
      have hc2B : w.frozen? ⟨B, 2, none⟩ = false := blk_free h.hB 2
      have hLf : w.frozen? ⟨L, from_, none⟩ = false := blk_free h.hL from_
      have hlen1 : (t :: r).length = r.length + 1 := rfl
      rw [hlen1] at d hlc hdrop
      have Hv := Lib.hid hv
      clear hr hv hlen1 htk hh
      go_wp2
      go_quiet (fail)
      go_wp2
      have hpast : ∀ k, (Value.slice (some ⟨g, o, none⟩) (t :: r).length c).ownBlock = some k → k ≠ B ∧ k ≠ L := fun k hk => h.rowne Hv.out hk
      have f0 : (0 : Int) ≤ (from_ : Int) := by omega
      have f1 : (from_ : Int) < (n : Int) := by omega
      have f2 : (1 : Int) ≤ (r.length : Int) + 1 := by omega
      have hfin : ∀ (A' : Option Addr) (c' : Nat), Row w 9 1 (.slice A' r.length c') r.length (strs r) → (∀ k, (Value.slice A' r.length c').ownBlock = some k → k = g) →
          Box (((w.drewN (m + nq + 1)).setCell ⟨L, from_, none⟩ (.slice A' r.length c')).setCell ⟨B, 2, none⟩ (.int .i64 (t' : Int))) B L (vs.set from_ (.slice A' r.length c')) pl t' (rows.set from_ r) ∧
          Unch (foot B L vs) w (((w.drewN (m + nq + 1)).setCell ⟨L, from_, none⟩ (.slice A' r.length c')).setCell ⟨B, 2, none⟩ (.int .i64 (t' : Int))) ∧ ∀ k, foot B L (vs.set from_ (.slice A' r.length c')) k → foot B L vs k ∨ w.heap.size ≤ k := by
        intro A' c' hr' hk'
        have h1 := h.set (w1 := w.drewN (m + nq + 1)) (r' := r) (v' := .slice A' r.length c') Hv.out (hr'.move fun _ _ => rfl) ((Unch.refl _ _).drewN _) (fun k hk => .inl (by rw [hk' k hk]; rfl))
        exact ⟨h1.1.turn_, h1.2.1.setCell _ (fun _ => .inl rfl), h1.2.2⟩
      by_cases hc1 : c = 1
      · subst hc1
        obtain rfl : r = [] := List.eq_nil_of_length_eq_zero (by omega)
        have hd1 : Row w 9 1 (.slice (some ⟨g, o, none⟩) 0 0) 0 (strs []) := by simpa [strs] using hdrop
        have Hfin := Lib.hid (hfin (some ⟨g, o, none⟩) 0 hd1 (fun k hk => by simp [Value.ownBlock] at hk; exact hk.symm))
        clear hfin hdrop hd1 hrow
        simp only [List.length_nil, Nat.zero_add] at d hlc Hfin
        refine wp_plan2 B L [0, 1, 2, 3, 4, 5, 6, 7, 8, 9, 10, 11, 12, 13] [14] 0 (by kernel_rfl) (by kernel_rfl) rfl rfl (fun c a d v w h => by cases d <;> exact h) ?_
        intro S HS _ s1 s2
        simp only [pickIn, List.getElem?_toArray, List.getElem?_cons_succ, List.getElem?_cons_zero]
        repeat (go_big_quiet_step (fail))
        refine wpQuiet_nil ?_
        refine tail_all ?_
        go_wp2
        go_ret3
        unfold Took
        rw [← Ht'.out]
        exact ⟨by rw [← e0]; rfl, _, Hfin.out⟩
      · have hd1 : Row w 9 1 (.slice (some ⟨g, o + 1, none⟩) r.length (c - 1)) r.length (strs r) := by simpa [strs, hc1, Addr.add] using hdrop
        have Hfin := Lib.hid (hfin _ _ hd1 (fun k hk => by simp [Value.ownBlock] at hk; exact hk.symm))
        clear hfin hdrop hd1 hrow
        refine wp_plan2 B L [0, 1, 2, 3, 4, 5, 6, 7, 8, 9, 10, 11, 12, 13] [14] 0 (by kernel_rfl) (by kernel_rfl) rfl rfl (fun c a d v w h => by cases d <;> exact h) ?_
        intro S HS _ s1 s2
        simp only [pickIn, List.getElem?_toArray, List.getElem?_cons_succ, List.getElem?_cons_zero]
        repeat (go_big_quiet_step (fail))
        refine wpQuiet_nil ?_
        refine tail_all ?_
        go_wp2
        go_ret3
        unfold Took
        rw [← Ht'.out]
        exact ⟨by rw [← e0]; rfl, _, Hfin.out⟩

/-! ### Clear -/
set_option maxHeartbeats 400000 in
theorem clear_nil (w : World) :
    Calls Try.prog 16 #[.pointer none] w fun e w' => e = .returned (.tuple #[]) ∧ w = w' := by
  go_enter Try.func16, Try.ntmps16
  go_wp2
  go_end0
  exact ⟨rfl, rfl⟩
def Cleared (w : World) (B L pl turn n : Nat) (vs : List Value) (e : Ending) (w' : World) : Prop :=
  e = .returned (.tuple #[]) ∧ ∃ vs', Box w' B L vs' pl turn (List.replicate n []) ∧ Unch (foot B L vs) w w' ∧ ∀ k, foot B L vs' k → foot B L vs k ∨ w.heap.size ≤ k
set_option maxHeartbeats 400000 in
theorem clear_ok {B L pl turn : Nat} {vs : List Value} {rows : List (List ByteArray)} {w : World} (h : Box w B L vs pl turn rows) :
    Calls Try.prog 16 #[.pointer (some ⟨B, 0, none⟩)] w (Cleared w B L pl turn rows.length vs) := by
  have c1 := h.c1
  have hrun := run_clear (P := Try.prog) w 36 0 39 (.slice none 0 0) 24 Try.underlying36 info_strs rfl rfl L rows.length rows.length vs.toArray h.hL (by simp [h.len])
  have hL' := setRow_heap w L vs.toArray (Array.replicate rows.length (.slice none 0 0)) 39 (0, 0) h.hL
  go_enter Try.func16, Try.ntmps16
  go_wp2
  go_end0
  unfold Cleared
  refine ⟨rfl, List.replicate rows.length (.slice none 0 0), ⟨?_, ?_, by simp, ?_, ?_⟩, (Unch.refl _ _).setRow _ _ (fun _ => .inr (.inl rfl)), ?_⟩
  · rw [setRow_other _ _ _ _ h.ne, List.length_replicate]; exact h.hB
  · rw [hL']; simp
  · intro i v r hv hr
    obtain rfl := List.eq_of_mem_replicate (List.mem_of_getElem? hv)
    obtain rfl := List.eq_of_mem_replicate (List.mem_of_getElem? hr)
    exact Row.nil _ _ _
  · intro i j u v k hu hv hk
    obtain rfl := List.eq_of_mem_replicate (List.mem_of_getElem? hu)
    cases hk
  · rintro k (rfl | rfl | ⟨v, hv, hk⟩)
    · exact .inl (.inl rfl)
    · exact .inl (.inr (.inl rfl))
    · obtain rfl := List.eq_of_mem_replicate hv
      cases hk
end Go.Proofs.Ytmffpeblcaalgaa
