/-
  The box over a call's whole life (QB), and the example of the document.
-/
import Derived.Test.YtmffpeblcaalgaaQueue
set_option linter.unusedVariables false
set_option linter.unusedSimpArgs false
namespace Go.Proofs.Ytmffpeblcaalgaa
open Go Go.RowKit Go.Proofs.Ytmffpeblcaalgaa.Pal Go.Proofs.Ytmffpeblcaalgaa.Plan

/-- A box that was made behind w0. -/
structure QB (w0 w : World) (B L : Nat) (vs : List Value) (pl turn : Nat) (rows : List (List ByteArray)) : Prop where
  box : Box w B L vs pl turn rows
  unch : Unch none_ w0 w
  new : ∀ k, foot B L vs k → w0.heap.size ≤ k
section
variable {w0 w w1 : World} {B L pl turn t' : Nat} {vs vs' : List Value} {rows rows' : List (List ByteArray)}
theorem QB.next (h : QB w0 w B L vs pl turn rows) (hb : Box w1 B L vs' pl t' rows') (hu : Unch (foot B L vs) w w1) (hf : ∀ k, foot B L vs' k → foot B L vs k ∨ w.heap.size ≤ k) : QB w0 w1 B L vs' pl t' rows' :=
  ⟨hb, h.unch.step hu (fun i hi hk => by have := h.new i hk; omega), fun k hk => by
    rcases hf k hk with h1 | h1
    · exact h.new k h1
    · have := h.unch.size; omega⟩
theorem QB.drewN (h : QB w0 w B L vs pl turn rows) (m : Nat) : QB w0 (w.drewN m) B L vs pl turn rows :=
  h.next (h.box.unch (X := none_) ((Unch.refl _ _).drewN m) (fun _ _ h => h)) ((Unch.refl _ _).drewN m) (fun _ h => .inl h)
/-- What others do. -/
theorem QB.other {X : Nat → Prop} (h : QB w0 w B L vs pl turn rows) (hu : Unch X w w1) (h1 : ∀ k, X k → w0.heap.size ≤ k) (h2 : ∀ k, X k → ¬ foot B L vs k) : QB w0 w1 B L vs pl turn rows :=
  ⟨h.box.unch hu (fun k hf hx => h2 k hx hf), h.unch.step hu (fun i hi hx => by have := h1 i hx; omega), h.new⟩
def QBs (w0 : World) (e0 : Ending) (B L pl turn : Nat) (rows : List (List ByteArray)) (e : Ending) (w : World) : Prop := e = e0 ∧ ∃ vs, QB w0 w B L vs pl turn rows
theorem QB.put (h : QB w0 w B L vs pl turn rows) (hn : rows.length ≤ 16) (hpl : pl ≤ 64) (i : Nat) (r : List ByteArray) (hr : rows[i]? = some r) (hlt : r.length < pl) (x : Int) (hx : x = (i : Int)) (text : ByteArray) :
    Calls Try.prog 13 #[.pointer (some ⟨B, 0, none⟩), .int .i64 x, .string text] w (QBs w0 (.returned (.int .i64 0)) B L pl turn (rows.set i (r ++ [text]))) :=
  by subst hx; exact (put_ok h.box hn hpl i r hr hlt text).mono fun e w1 ⟨he, vs', h1, h2, h3⟩ => ⟨he, vs', h.next h1 h2 h3⟩
theorem QB.busy (h : QB w0 w B L vs pl turn rows) (hn : rows.length ≤ 16) (hpl : pl ≤ 64) (i : Nat) (r : List ByteArray) (hr : rows[i]? = some r) (hlt : pl ≤ r.length) (x : Int) (hx : x = (i : Int)) (text : ByteArray) :
    Calls Try.prog 13 #[.pointer (some ⟨B, 0, none⟩), .int .i64 x, .string text] w (QBs w0 (.returned (.int .i64 8)) B L pl turn rows) :=
  by subst hx; exact (put_busy h.box hn hpl i r hr hlt text).mono fun e w1 ⟨he, m, hm⟩ => ⟨he, vs, by rw [hm]; exact h.drewN m⟩
theorem QB.take (h : QB w0 w B L vs pl turn rows) (hn : rows.length ≤ 16) (hn0 : 0 < rows.length) (ht : turn < rows.length) (i from_ : Nat) (t : ByteArray) (r : List ByteArray)
    (hi : i < rows.length) (hfrom : (turn + i) % rows.length = from_) (hmin : ∀ j, j < i → rows[(turn + j) % rows.length]? = some []) (hr : rows[from_]? = some (t :: r)) :
    Calls Try.prog 15 #[.pointer (some ⟨B, 0, none⟩)] w (QBs w0 (.returned (.tuple #[.int .i64 (from_ : Int), .string t, .bool true])) B L pl ((from_ + 1) % rows.length) (rows.set from_ r)) :=
  (take_some h.box hn hn0 ht i from_ t r hi hfrom hmin hr).mono fun e w1 ⟨he, vs', h1, h2, h3⟩ => ⟨he, vs', h.next h1 h2 h3⟩
theorem QB.takeNone (h : QB w0 w B L vs pl turn rows) (hn : rows.length ≤ 16) (hn0 : 0 < rows.length) (ht : turn < rows.length) (hall : ∀ r ∈ rows, r = []) :
    Calls Try.prog 15 #[.pointer (some ⟨B, 0, none⟩)] w (QBs w0 (.returned (.tuple #[.int .i64 0, .string ⟨#[]⟩, .bool false])) B L pl turn rows) :=
  (take_none h.box hn hn0 ht hall).mono fun e w1 ⟨he, m, hm⟩ => ⟨he, vs, by rw [hm]; exact h.drewN m⟩
theorem QB.clear (h : QB w0 w B L vs pl turn rows) :
    Calls Try.prog 16 #[.pointer (some ⟨B, 0, none⟩)] w (QBs w0 (.returned (.tuple #[])) B L pl turn (List.replicate rows.length [])) :=
  (clear_ok h.box).mono fun e w1 ⟨he, vs', h1, h2, h3⟩ => ⟨he, vs', h.next h1 h2 h3⟩
theorem QB.len (h : QB w0 w B L vs pl turn rows) (hn : rows.length ≤ 16) (hm : ∀ r ∈ rows, r.length ≤ 64) (n : Nat) (hq : qlen rows = n) :
    Calls Try.prog 14 #[.pointer (some ⟨B, 0, none⟩)] w fun e w' => e = .returned (.int .i64 (n : Int)) ∧ w = w' := by
  subst hq; exact len_ok h.box hn hm
end
def QNew (w0 : World) (pl n : Nat) (e : Ending) (w : World) : Prop := ∃ B L vs, e = .returned (.pointer (some ⟨B, 0, none⟩)) ∧ QB w0 w B L vs pl 0 (List.replicate n [])
theorem QB.made {w0 w : World} (hw : Unch none_ w0 w) (n pl : Nat) (h1 : 1 ≤ n) (h2 : n ≤ 16) (h3 : 1 ≤ pl) (h4 : pl ≤ 64) (x y : Int) (hx : x = (n : Int)) (hy : y = (pl : Int)) :
    Calls Try.prog 12 #[.int .i64 x, .int .i64 y] w (QNew w0 pl n) :=
  by subst hx; subst hy; exact (qnew_ok n pl h1 h2 h3 h4 w).mono fun e w1 ⟨B, L, vs, he, hb, hu, hf⟩ => ⟨B, L, vs, he, hb, hw.trans hu, fun k hk => Nat.le_trans hw.size (hf k hk)⟩

set_option maxHeartbeats 1000000 in
theorem qawake (w : World) : Calls Try.prog 11 #[] w fun e w' => e = .returned (.bool true) ∧ Unch none_ w w' := by
  go_enter Try.func11, Try.ntmps11
  go_wp2_with fail
  refine (QB.made (Unch.refl _ w) 2 3 (by omega) (by omega) (by omega) (by omega) _ _ rfl rfl).mono ?_
  rintro e w1 ⟨B, L, vs, rfl, h1⟩
  go_wp2_with fail
  refine (h1.put (by decide) (by decide) 0 [] rfl (by decide) _ rfl _).mono ?_
  rintro e w2 ⟨rfl, vs2, h2⟩
  go_wp2_with fail
  refine (h2.put (by decide) (by decide) 0 _ rfl (by decide) _ rfl _).mono ?_
  rintro e w3 ⟨rfl, vs3, h3⟩
  go_wp2_with fail
  refine (h3.put (by decide) (by decide) 1 _ rfl (by decide) _ rfl _).mono ?_
  rintro e w4 ⟨rfl, vs4, h4⟩
  go_wp2_with fail
  refine (h4.take (by decide) (by decide) (by decide) 0 0 _ _ (by decide) rfl (by intro j hj; omega) rfl).mono ?_
  rintro e w5 ⟨rfl, vs5, h5⟩
  go_wp2_with fail
  refine (h5.take (by decide) (by decide) (by decide) 0 1 _ _ (by decide) rfl (by intro j hj; omega) rfl).mono ?_
  rintro e w6 ⟨rfl, vs6, h6⟩
  go_wp2_with fail
  refine (h6.len (by decide) (by decide) 1 (by decide)).mono ?_
  rintro e w7 ⟨rfl, rfl⟩
  go_wp2
  go_ret
  exact ⟨rfl, h6.unch⟩

def lawPost (w : World) (e : Ending) (w' : World) : Prop := e = .returned (.bool true) ∧ Unch none_ w w'
set_option maxHeartbeats 1000000 in
theorem queueNone_walk (from_ : Int) (text : ByteArray) (w : World) : Calls Try.prog 6 #[.int .i64 from_, .string text] w (lawPost w) := by
  go_enter Try.func6, Try.ntmps6
  go_wp2_with fail
  refine (clear_nil _).mono ?_
  rintro e w' ⟨rfl, rfl⟩
  go_wp2_with fail
  refine (take_nil _).mono ?_
  rintro e w' ⟨rfl, rfl⟩
  go_wp2_with fail
  refine (put_nil _ _ _).mono ?_
  rintro e w' ⟨rfl, rfl⟩
  go_wp2_with fail
  refine (len_nil _).mono ?_
  rintro e w' ⟨rfl, rfl⟩
  go_wp2_with fail
  refine (qawake _).mono ?_
  rintro e w' ⟨rfl, hu⟩
  go_wp2
  go_ret
  exact ⟨rfl, hu⟩

theorem u8mod (x k : Nat) (hx : x < 256) (hk : 0 < k) (hk2 : k < 256) : ((x : Int) % (k : Int)) = ((x % k : Nat) : Int) := by simp
def xb : ByteArray := ⟨#[120]⟩
theorem set_same {α : Type} {l : List α} {i : Nat} {r : α} (h : l[i]? = some r) : l.set i r = l := by
  apply List.ext_getElem?
  intro j
  by_cases hj : i = j
  · subst hj
    rw [List.getElem?_set_self (List.getElem?_eq_some_iff.1 h).1, h]
  · rw [List.getElem?_set_ne hj]
theorem rows0 {n : Nat} (hn : 2 ≤ n) (x : List ByteArray) : ((List.replicate n []).set 0 x)[0]? = some x := List.getElem?_set_self (by rw [List.length_replicate]; omega)
theorem rows1 {n : Nat} (hn : 2 ≤ n) (x : List ByteArray) : ((List.replicate n []).set 0 x)[1]? = some [] := by
  rw [List.getElem?_set_ne (by omega), List.getElem?_replicate, if_pos (by omega)]
theorem rowsl (n : Nat) (x : List ByteArray) : ((List.replicate n []).set 0 x).length = n := by simp
theorem rowsForm {n : Nat} (hn : 2 ≤ n) (x y : List ByteArray) : ((List.replicate n []).set 0 x).set 1 y = x :: y :: List.replicate (n - 2) [] := by
  obtain ⟨q, rfl⟩ : ∃ q, n = q + 2 := ⟨n - 2, by omega⟩
  rfl
theorem qlenForm (q : Nat) (x y : List ByteArray) : qlen (x :: y :: List.replicate q []) = x.length + y.length := by
  simp [qlen, List.map_replicate]
theorem rowsMax (q : Nat) (x y : List ByteArray) (hx : x.length ≤ 64) (hy : y.length ≤ 64) : ∀ r ∈ (x :: y :: List.replicate q []), r.length ≤ 64 := by
  intro r hr
  simp only [List.mem_cons, List.mem_replicate] at hr
  rcases hr with rfl | rfl | ⟨_, rfl⟩
  · exact hx
  · exact hy
  · simp
def FullRel (w wr : World) (B L m n k : Nat) : Prop := ∃ vs, QB w wr B L vs m 0 ((List.replicate n []).set 0 (List.replicate k xb))
set_option maxHeartbeats 1000000 in
theorem queueFull_walk (a b : Int) (ha : 0 ≤ a ∧ a ≤ 255) (hb : 0 ≤ b ∧ b ≤ 255) (w : World) : Calls Try.prog 4 #[.int .u8 a, .int .u8 b] w (lawPost w) := by
  obtain ⟨n, Hn⟩ : ∃ n : Nat, Hid ((n : Int) = 2 + a % 15) := ⟨(2 + a % 15).toNat, by unfold Hid; omega⟩
  obtain ⟨m, Hm⟩ : ∃ m : Nat, Hid ((m : Int) = 1 + b % 64) := ⟨(1 + b % 64).toNat, by unfold Hid; omega⟩
  have hn : 2 ≤ n ∧ n ≤ 16 := by have := Hn.out; omega
  have hm : 1 ≤ m ∧ m ≤ 64 := by have := Hm.out; omega
  have hn1 : 2 + a % 15 = (n : Int) := Hn.out.symm
  have hm1 : 1 + b % 64 = (m : Int) := Hm.out.symm
  obtain ⟨ha0, ha1⟩ := ha
  obtain ⟨hb0, hb1⟩ := hb
  go_enter Try.func4, Try.ntmps4
  go_wp2_with fail
  refine (QB.made (Unch.refl _ w) n m (by omega) (by omega) (by omega) (by omega) _ _ (by omega) (by omega)).mono ?_
  rintro e w1 ⟨B, L, vs, rfl, h1⟩
  go_wp2_with fail
  refine (qawake _).mono ?_
  rintro e w2 ⟨rfl, hu⟩
  have h2 := h1.other hu (fun _ h => h.elim) (fun _ h => h.elim)
  go_wp2_with fail
  go_loopw [8] (fun i wr => ∃ k : Nat, k ≤ m ∧ i = .int .i64 (k : Int) ∧ FullRel w wr B L m n k) (fun i _ => m - (intOf i).toNat)
  case atStart => exact ⟨0, Nat.zero_le _, rfl, vs, by rw [List.replicate_zero, set_same (by rw [List.getElem?_replicate, if_pos (by omega)])]; exact h2⟩
  case round =>
    obtain ⟨k, hk, rfl, vs1, h3⟩ := hrel
    by_cases hlt : k < m
    · go_wp2_with fail
      refine (h3.put (by rw [rowsl]; omega) hm.2 0 _ (rows0 hn.1 _) (by rw [List.length_replicate]; omega) _ rfl xb).mono ?_
      rintro e w3 ⟨rfl, vs2, h4⟩
      rw [List.set_set, ← List.replicate_succ'] at h4
      go_wp2
      exact ⟨⟨k + 1, by omega, by go_num, vs2, h4⟩, by simp [intOf]; omega⟩
    · obtain rfl : k = m := by omega
      go_wp2_with fail
      refine (h3.busy (by rw [rowsl]; omega) hm.2 0 _ (rows0 hn.1 _) (by rw [List.length_replicate]; omega) _ rfl _).mono ?_
      rintro e w3 ⟨rfl, vs2, h4⟩
      go_wp2_with fail
      refine (h4.put (by rw [rowsl]; omega) hm.2 1 [] (rows1 hn.1 _) (by simp; omega) _ rfl _).mono ?_
      rintro e w4 ⟨rfl, vs3, h5⟩
      rw [rowsForm hn.1] at h5
      have hx : (List.replicate k xb).length ≤ 64 := by rw [List.length_replicate]; omega
      have hx' : (List.replicate (k - 1) xb).length ≤ 64 := by rw [List.length_replicate]; omega
      have hl : ∀ x y : List ByteArray, (x :: y :: List.replicate (n - 2) []).length = n := fun x y => by simp; omega
      have hrep : List.replicate k xb = xb :: List.replicate (k - 1) xb := by
        obtain ⟨q, rfl⟩ : ∃ q, k = q + 1 := ⟨k - 1, by omega⟩
        rfl
      have HREP := Lib.hid hrep
      clear hrep
      go_wp2_with fail
      refine (h5.len (by rw [hl]; omega) (rowsMax _ _ _ hx (by simp)) (k + 1) (by rw [qlenForm]; simp)).mono ?_
      rintro e w5 ⟨rfl, rfl⟩
      go_wp2_with fail
      refine (h5.take (by rw [hl]; omega) (by rw [hl]; omega) (by rw [hl]; omega) 0 0 xb (List.replicate (k - 1) xb) (by rw [hl]; omega) (by simp) (by intro j hj; omega) (by rw [HREP.out]; rfl)).mono ?_
      rintro e w6 ⟨rfl, vs4, h6⟩
      rw [List.set_cons_zero] at h6
      go_wp2_with fail
      refine (h6.put (by rw [hl]; omega) hm.2 0 (List.replicate (k - 1) xb) rfl (by rw [List.length_replicate]; omega) _ rfl _).mono ?_
      rintro e w7 ⟨rfl, vs5, h7⟩
      rw [List.set_cons_zero] at h7
      go_wp2_with fail
      refine (h7.len (by rw [hl]; omega) (rowsMax _ _ _ (by simp; omega) (by simp)) (k + 1) (by rw [qlenForm]; simp; omega)).mono ?_
      rintro e w8 ⟨rfl, rfl⟩
      go_wp2
      go_ret
      exact ⟨rfl, h7.unch⟩
end Go.Proofs.Ytmffpeblcaalgaa
