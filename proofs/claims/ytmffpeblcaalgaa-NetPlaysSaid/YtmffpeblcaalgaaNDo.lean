/-
  palaverlaw21's do: an act, done to a net.
-/
import Derived.Test.YtmffpeblcaalgaaNCut2
set_option linter.unusedVariables false
set_option linter.unusedSimpArgs false
namespace Go.Proofs.Ytmffpeblcaalgaa
open Go Go.RowKit Go.Proofs.Ytmffpeblcaalgaa.Pal Go.Proofs.Ytmffpeblcaalgaa.Plan

def actV (k a b n : Int) (t : ByteArray) : Value := .agg #[.int .i64 k, .int .i64 a, .int .i64 b, .int .i64 n, .string t]
def actO (k a b n : Int) (t : ByteArray) : Obj := .cells #[.int .i64 k, .int .i64 a, .int .i64 b, .int .i64 n, .string t] 61
def zO : Obj := .cells #[.int .i64 0, .int .i64 0, .string ⟨#[]⟩] 47
/-- The world in which do makes its call. -/
def inDo (w : World) (k a b n : Int) (t : ByteArray) : World := ((w.alloc (actO k a b n t)).alloc zO).alloc zO
section
variable {w : World} {k a b n : Int} {t : ByteArray}
theorem inDo_unch : Unch none_ w (inDo w k a b n t) := (((Unch.refl none_ w).alloc _).alloc _).alloc _
theorem inDo_size : (inDo w k a b n t).heap.size = w.heap.size + 3 := by simp [inDo]
theorem inDo_t4 : (inDo w k a b n t).heap[w.heap.size + 1]? = some zO := by
  have := blk_alloc (blk_new (w.alloc (actO k a b n t)) zO) zO
  simpa [inDo] using this
theorem inDo_t7 : (inDo w k a b n t).heap[w.heap.size + 2]? = some zO := by
  have := blk_new ((w.alloc (actO k a b n t)).alloc zO) zO
  simpa [inDo] using this
end
def Far (w wa w1 : World) : Prop := ∃ X, Unch X wa w1 ∧ ¬ X (w.heap.size + 1) ∧ ¬ X (w.heap.size + 2)
def Did (w : World) (x : Value) (ok : Bool) (er : Int) (R : World → Prop) (e : Ending) (w' : World) : Prop :=
  e = .returned (.tuple #[x, .bool ok, .int .i64 er]) ∧ ∃ w1, R w1 ∧ Unch (fun k => k = w.heap.size + 1 ∨ k = w.heap.size + 2) w1 w'
set_option maxRecDepth 100000 in
set_option maxHeartbeats 1000000 in
theorem do_put (Pp : Option Addr) (a b n : Int) (t : ByteArray) (er : Int) (R : World → Prop) (w : World)
    (hc : Calls Try.prog 18 #[.pointer Pp, .int .i64 a, .int .i64 b, .string t] (inDo w 0 a b n t) (fun e w1 => e = .returned (.int .i64 er) ∧ R w1)) (hR : ∀ w1, R w1 → Far w (inDo w 0 a b n t) w1) :
    Calls Try.prog 23 #[.pointer Pp, actV 0 a b n t] w (Did w zltr false er R) := by
  have HR := Lib.hid hR
  clear hR
  unfold actV
  go_enter Try.func23, Try.ntmps23
  go_wp2_with fail
  refine hc.mono ?_
  rintro e w1 ⟨rfl, hr⟩
  obtain ⟨X, hu, h4, h7⟩ := HR.out w1 hr
  have b4 := hu.heap inDo_t4 h4
  have b7 := hu.heap inDo_t7 h7
  have y0 := blk_cell b7 (j := 0) rfl
  have y1 := blk_cell b7 (j := 1) rfl
  have y2 := blk_cell b7 (j := 2) rfl
  have t0 := blk_cell b4 (j := 0) rfl
  have t1 := blk_cell b4 (j := 1) rfl
  have t2 := blk_cell b4 (j := 2) rfl
  have q0 := blk_free b4 0
  have q1 := blk_free b4 1
  have q2 := blk_free b4 2
  go_wp2
  refine bodyPost_ret (results_ctt rfl _ _ (w.heap.size + 1) _ _ _ _ rfl (blk_set3 b4) Try.underlying47 rfl (by kernel_rfl)) rfl ?_
  exact ⟨rfl, w1, hr, unch_set3.mono (fun _ _ e => .inl e)⟩
set_option maxRecDepth 100000 in
set_option maxHeartbeats 1000000 in
theorem do_double (Pp : Option Addr) (a b n : Int) (t : ByteArray) (er : Int) (R : World → Prop) (w : World)
    (hc : Calls Try.prog 19 #[.pointer Pp, .int .i64 n] (inDo w 2 a b n t) (fun e w1 => e = .returned (.int .i64 er) ∧ R w1)) (hR : ∀ w1, R w1 → Far w (inDo w 2 a b n t) w1) :
    Calls Try.prog 23 #[.pointer Pp, actV 2 a b n t] w (Did w zltr false er R) := by
  have HR := Lib.hid hR
  clear hR
  unfold actV
  go_enter Try.func23, Try.ntmps23
  go_wp2_with fail
  refine hc.mono ?_
  rintro e w1 ⟨rfl, hr⟩
  obtain ⟨X, hu, h4, h7⟩ := HR.out w1 hr
  have b4 := hu.heap inDo_t4 h4
  have b7 := hu.heap inDo_t7 h7
  have y0 := blk_cell b7 (j := 0) rfl
  have y1 := blk_cell b7 (j := 1) rfl
  have y2 := blk_cell b7 (j := 2) rfl
  have t0 := blk_cell b4 (j := 0) rfl
  have t1 := blk_cell b4 (j := 1) rfl
  have t2 := blk_cell b4 (j := 2) rfl
  have q0 := blk_free b4 0
  have q1 := blk_free b4 1
  have q2 := blk_free b4 2
  go_wp2
  refine bodyPost_ret (results_ctt rfl _ _ (w.heap.size + 1) _ _ _ _ rfl (blk_set3 b4) Try.underlying47 rfl (by kernel_rfl)) rfl ?_
  exact ⟨rfl, w1, hr, unch_set3.mono (fun _ _ e => .inl e)⟩
set_option maxRecDepth 100000 in
set_option maxHeartbeats 1000000 in
theorem do_cut (Pp : Option Addr) (a b n : Int) (t : ByteArray) (er : Int) (R : World → Prop) (w : World)
    (hc : Calls Try.prog 26 #[.pointer Pp, .int .i64 a, .int .i64 b] (inDo w 3 a b n t) (fun e w1 => e = .returned (.int .i64 er) ∧ R w1)) (hR : ∀ w1, R w1 → Far w (inDo w 3 a b n t) w1) :
    Calls Try.prog 23 #[.pointer Pp, actV 3 a b n t] w (Did w zltr false er R) := by
  have HR := Lib.hid hR
  clear hR
  unfold actV
  go_enter Try.func23, Try.ntmps23
  go_wp2_with fail
  refine hc.mono ?_
  rintro e w1 ⟨rfl, hr⟩
  obtain ⟨X, hu, h4, h7⟩ := HR.out w1 hr
  have b4 := hu.heap inDo_t4 h4
  have b7 := hu.heap inDo_t7 h7
  have y0 := blk_cell b7 (j := 0) rfl
  have y1 := blk_cell b7 (j := 1) rfl
  have y2 := blk_cell b7 (j := 2) rfl
  have t0 := blk_cell b4 (j := 0) rfl
  have t1 := blk_cell b4 (j := 1) rfl
  have t2 := blk_cell b4 (j := 2) rfl
  have q0 := blk_free b4 0
  have q1 := blk_free b4 1
  have q2 := blk_free b4 2
  go_wp2
  refine bodyPost_ret (results_ctt rfl _ _ (w.heap.size + 1) _ _ _ _ rfl (blk_set3 b4) Try.underlying47 rfl (by kernel_rfl)) rfl ?_
  exact ⟨rfl, w1, hr, unch_set3.mono (fun _ _ e => .inl e)⟩
set_option maxRecDepth 100000 in
set_option maxHeartbeats 1000000 in
theorem do_heal (Pp : Option Addr) (k a b n : Int) (t : ByteArray) (R : World → Prop) (w : World) (h0 : k ≠ 0) (h1 : k ≠ 1) (h2 : k ≠ 2) (h3 : k ≠ 3)
    (hc : Calls Try.prog 27 #[.pointer Pp] (inDo w k a b n t) (fun e w1 => e = .returned (.tuple #[]) ∧ R w1)) (hR : ∀ w1, R w1 → Far w (inDo w k a b n t) w1) :
    Calls Try.prog 23 #[.pointer Pp, actV k a b n t] w (Did w zltr false 0 R) := by
  have k0 : (k == 0) = false := by simpa using h0
  have k1 : (k == 1) = false := by simpa using h1
  have k2 : (k == 2) = false := by simpa using h2
  have k3 : (k == 3) = false := by simpa using h3
  have HR := Lib.hid hR
  clear hR
  unfold actV
  go_enter Try.func23, Try.ntmps23
  go_wp2_with fail
  refine hc.mono ?_
  rintro e w1 ⟨rfl, hr⟩
  obtain ⟨X, hu, h4, h7⟩ := HR.out w1 hr
  have b4 := hu.heap inDo_t4 h4
  have b7 := hu.heap inDo_t7 h7
  have y0 := blk_cell b7 (j := 0) rfl
  have y1 := blk_cell b7 (j := 1) rfl
  have y2 := blk_cell b7 (j := 2) rfl
  have t0 := blk_cell b4 (j := 0) rfl
  have t1 := blk_cell b4 (j := 1) rfl
  have t2 := blk_cell b4 (j := 2) rfl
  have q0 := blk_free b4 0
  have q1 := blk_free b4 1
  have q2 := blk_free b4 2
  go_wp2
  refine bodyPost_ret (results_ctt rfl _ _ (w.heap.size + 1) _ _ _ _ rfl (blk_set3 b4) Try.underlying47 rfl (by kernel_rfl)) rfl ?_
  exact ⟨rfl, w1, hr, unch_set3.mono (fun _ _ e => .inl e)⟩
set_option maxRecDepth 100000 in
set_option maxHeartbeats 1000000 in
theorem do_take (Pp : Option Addr) (a b n : Int) (t : ByteArray) (xs xd : Int) (xt : ByteArray) (ok : Bool) (R : World → Prop) (w : World)
    (hc : Calls Try.prog 21 #[.pointer Pp, .int .i64 n] (inDo w 1 a b n t) (fun e w1 => e = .returned (.tuple #[.agg #[.int .i64 xs, .int .i64 xd, .string xt], .bool ok]) ∧ R w1)) (hR : ∀ w1, R w1 → Far w (inDo w 1 a b n t) w1) :
    Calls Try.prog 23 #[.pointer Pp, actV 1 a b n t] w (Did w (.agg #[.int .i64 xs, .int .i64 xd, .string xt]) ok 0 R) := by
  have HR := Lib.hid hR
  clear hR
  unfold actV
  go_enter Try.func23, Try.ntmps23
  go_wp2_with fail
  refine hc.mono ?_
  rintro e w1 ⟨rfl, hr⟩
  obtain ⟨X, hu, h4, h7⟩ := HR.out w1 hr
  have b4 := hu.heap inDo_t4 h4
  have b7 := hu.heap inDo_t7 h7
  have y0 := blk_cell b7 (j := 0) rfl
  have y1 := blk_cell b7 (j := 1) rfl
  have y2 := blk_cell b7 (j := 2) rfl
  have t0 := blk_cell b4 (j := 0) rfl
  have t1 := blk_cell b4 (j := 1) rfl
  have t2 := blk_cell b4 (j := 2) rfl
  have q0 := blk_free b4 0
  have q1 := blk_free b4 1
  have q2 := blk_free b4 2
  have p0 := blk_free b7 0
  have p1 := blk_free b7 1
  have p2 := blk_free b7 2
  go_wp2
  refine bodyPost_ret (results_ctt rfl _ _ (w.heap.size + 1) _ _ _ _ rfl (blk_set3 ((unch_set3 (g := w.heap.size + 2)).heap b4 (by simp))) Try.underlying47 rfl (by kernel_rfl)) rfl ?_
  exact ⟨rfl, w1, hr, ((unch_set3 (g := w.heap.size + 2)).mono (Y := fun k => k = w.heap.size + 1 ∨ k = w.heap.size + 2) (fun _ _ e => .inr e)).step unch_set3 (fun _ _ e => .inl e)⟩

/-! ### What an act does -/
def doStep (nodes : Nat) (l : List Ltr) (c : Nat → Nat → Bool) (k a b n : Int) (t : ByteArray) : (Value × Bool × Int) × List Ltr × (Nat → Nat → Bool) :=
  if k = 0 then
    if isTwo nodes a b = false then ((zltr, false, 1), l, c)
    else if c a.toNat b.toNat = true then ((zltr, false, 12), l, c)
    else if 256 ≤ l.length then ((zltr, false, 8), l, c)
    else ((zltr, false, 0), l ++ [⟨a.toNat, b.toNat, t⟩], c)
  else if k = 1 then
    match (if 0 ≤ n then l[n.toNat]? else none) with
    | none => ((zltr, false, 0), l, c)
    | some x => ((x.val, true, 0), l.eraseIdx n.toNat, c)
  else if k = 2 then
    match (if 0 ≤ n then l[n.toNat]? else none) with
    | none => ((zltr, false, 1), l, c)
    | some x => if 256 ≤ l.length then ((zltr, false, 8), l, c) else ((zltr, false, 0), l ++ [x], c)
  else if k = 3 then
    if isTwo nodes a b = false then ((zltr, false, 1), l, c)
    else ((zltr, false, 0), keep (cutOf (cutOf c a.toNat b.toNat) b.toNat a.toNat) l, cutOf (cutOf c a.toNat b.toNat) b.toNat a.toNat)
  else ((zltr, false, 0), l, fun _ _ => false)
theorem isTwo_nat {nodes : Nat} {a b : Int} (h : isTwo nodes a b = true) : ∃ x y : Nat, a = x ∧ b = y ∧ x < nodes ∧ y < nodes ∧ x ≠ y := by
  simp only [isTwo, decide_eq_true_eq] at h
  exact ⟨a.toNat, b.toNat, by omega, by omega, by omega, by omega, by omega⟩
structure Ok (nodes : Nat) (l : List Ltr) : Prop where
  n5 : nodes ≤ 5
  len : l.length ≤ 256
  small : Small l
theorem doStep_ok {nodes : Nat} {l : List Ltr} {c : Nat → Nat → Bool} (h : Ok nodes l) (k a b n : Int) (t : ByteArray) : Ok nodes (doStep nodes l c k a b n t).2.1 := by
  obtain ⟨h5, hl, hs⟩ := h
  unfold doStep
  split
  · split
    · exact ⟨h5, hl, hs⟩
    · split
      · exact ⟨h5, hl, hs⟩
      · split
        · exact ⟨h5, hl, hs⟩
        · rename_i h1 _ h3
          obtain ⟨x, y, rfl, rfl, hx, hy, _⟩ := isTwo_nat (Bool.of_not_eq_false h1)
          refine ⟨h5, by simp; omega, fun z hz => ?_⟩
          simp only [Int.toNat_natCast, List.mem_append, List.mem_singleton] at hz
          rcases hz with hz | rfl
          · exact hs z hz
          · exact ⟨by show x < 5; omega, by show y < 5; omega⟩
  · split
    · split
      · exact ⟨h5, hl, hs⟩
      · exact ⟨h5, Nat.le_trans (List.length_eraseIdx_le _ _) hl, fun z hz => hs z (List.mem_of_mem_eraseIdx hz)⟩
    · split
      · split
        · exact ⟨h5, hl, hs⟩
        · split
          · exact ⟨h5, hl, hs⟩
          · rename_i x hx _
            refine ⟨h5, by simp; omega, fun z hz => ?_⟩
            simp only [List.mem_append, List.mem_singleton] at hz
            rcases hz with hz | rfl
            · exact hs z hz
            · split at hx
              · exact hs _ (List.mem_of_getElem? hx)
              · cases hx
      · split
        · split
          · exact ⟨h5, hl, hs⟩
          · exact ⟨h5, Nat.le_trans (List.length_filter_le _ _) hl, fun z hz => hs z (List.mem_filter.1 hz).1⟩
        · exact ⟨h5, hl, hs⟩
theorem nfoot_lt {w wa w1 : World} {N K nodes : Nat} {v : Value} {l l' : List Ltr} {c c' : Nat → Nat → Bool} (h : Nt w N K v nodes l c) (hsz : wa.heap.size = w.heap.size + 3) (hL : Left wa N K v nodes l' c' w1) : Far w wa w1 := by
  obtain ⟨v', h1, h2, h3⟩ := hL
  exact ⟨_, h2, fun hk => by have := h.lt hk; omega, fun hk => by have := h.lt hk; omega⟩
theorem Left.out {w wa w1 w2 : World} {N K nodes : Nat} {v : Value} {l l' : List Ltr} {c c' : Nat → Nat → Bool} (h : Nt w N K v nodes l c) (hu : Unch none_ w wa) (hsz : wa.heap.size = w.heap.size + 3) (hL : Left wa N K v nodes l' c' w1)
    (hu2 : Unch (fun k => k = w.heap.size + 1 ∨ k = w.heap.size + 2) w1 w2) : Left w N K v nodes l' c' w2 := by
  obtain ⟨v', h1, h2, h3⟩ := hL
  refine ⟨v', h1.unch hu2 (fun k hk e => ?_), ((hu.mono (fun _ _ h => h.elim)).step h2 (fun _ _ h => h)).step hu2 (fun i hi e => by omega), fun k hk => ?_⟩
  · rcases h3 k hk with h4 | h4
    · have := h.lt h4; omega
    · omega
  · rcases h3 k hk with h4 | h4
    · exact .inl h4
    · right; omega
theorem Left.same {w w1 : World} {N K nodes : Nat} {v : Value} {l : List Ltr} {c : Nat → Nat → Bool} (h : Nt w N K v nodes l c) (hu : Unch none_ w w1) : Left w N K v nodes l c w1 := ⟨v, h.fresh hu, hu.mono (fun _ _ h => h.elim), fun _ hk => .inl hk⟩
theorem at_out {l : List Ltr} {n : Int} (h : (if 0 ≤ n then l[n.toNat]? else none) = none) : n < 0 ∨ (l.length : Int) ≤ n := by
  split at h
  · have := List.getElem?_eq_none_iff.1 h; omega
  · omega
theorem at_in {l : List Ltr} {n : Int} {x : Ltr} (h : (if 0 ≤ n then l[n.toNat]? else none) = some x) : ∃ m : Nat, n = m ∧ l[m]? = some x := by
  split at h
  · exact ⟨n.toNat, by omega, h⟩
  · cases h
def DoPost (w : World) (N K : Nat) (v : Value) (nodes : Nat) (r : (Value × Bool × Int) × List Ltr × (Nat → Nat → Bool)) (e : Ending) (w' : World) : Prop :=
  e = .returned (.tuple #[r.1.1, .bool r.1.2.1, .int .i64 r.1.2.2]) ∧ Left w N K v nodes r.2.1 r.2.2 w'
theorem do_ok {w : World} {N K nodes : Nat} {v : Value} {l : List Ltr} {c : Nat → Nat → Bool} (h : Nt w N K v nodes l c) (hO : Ok nodes l) (k a b n : Int) (t : ByteArray) :
    Calls Try.prog 23 #[.pointer (some ⟨N, 0, none⟩), actV k a b n t] w (DoPost w N K v nodes (doStep nodes l c k a b n t)) := by
  obtain ⟨h5, hl, hs⟩ := hO
  have hH : ∀ k, Nt (inDo w k a b n t) N K v nodes l c := fun k => h.fresh inDo_unch
  have fin : ∀ (k : Int) (x : Value) (ok : Bool) (er : Int) (l' : List Ltr) (c' : Nat → Nat → Bool) e w', Did w x ok er (Left (inDo w k a b n t) N K v nodes l' c') e w' → DoPost w N K v nodes ((x, ok, er), l', c') e w' := by
    rintro k x ok er l' c' e w' ⟨rfl, w1, hL, hu⟩
    exact ⟨rfl, Left.out h inDo_unch inDo_size hL hu⟩
  have far : ∀ (k : Int) (l' : List Ltr) (c' : Nat → Nat → Bool) w1, Left (inDo w k a b n t) N K v nodes l' c' w1 → Far w (inDo w k a b n t) w1 := fun k l' c' w1 hL => nfoot_lt h inDo_size hL
  unfold doStep
  split
  · rename_i hk
    subst hk
    split
    · rename_i h1
      exact (do_put _ a b n t 1 (Left (inDo w 0 a b n t) N K v nodes l c) w ((nput_bad (hH 0) a b h1 t).mono (by rintro e w1 ⟨rfl, rfl⟩; exact ⟨rfl, Left.same (hH 0) (Unch.refl _ _)⟩)) (far 0 l c)).mono (fin 0 _ _ _ _ _)
    · rename_i h1
      have h1' := Bool.of_not_eq_false h1
      obtain ⟨x, y, rfl, rfl, hx, hy, _⟩ := isTwo_nat h1'
      simp only [Int.toNat_natCast]
      split
      · rename_i h2
        exact (do_put _ x y n t 12 (Left (inDo w 0 x y n t) N K v nodes l c) w ((nput_off (hH 0) h5 x y h1' h2 t).mono (by rintro e w1 ⟨rfl, rfl⟩; exact ⟨rfl, Left.same (hH 0) (Unch.refl _ _)⟩)) (far 0 l c)).mono (fin 0 _ _ _ _ _)
      · rename_i h2
        split
        · rename_i h3
          exact (do_put _ x y n t 8 (Left (inDo w 0 x y n t) N K v nodes l c) w ((nput_busy (hH 0) h5 x y h1' (by simpa using h2) h3 t).mono (by rintro e w1 ⟨rfl, rfl⟩; exact ⟨rfl, Left.same (hH 0) (Unch.refl _ _)⟩)) (far 0 l c)).mono (fin 0 _ _ _ _ _)
        · rename_i h3
          exact (do_put _ x y n t 0 (Left (inDo w 0 x y n t) N K v nodes (l ++ [⟨x, y, t⟩]) c) w (nput_ok (hH 0) h5 x y h1' (by simpa using h2) (by omega) t) (far 0 _ c)).mono (fin 0 _ _ _ _ _)
  · split
    · rename_i _ hk
      subst hk
      split
      · rename_i hx
        have hout := at_out hx
        exact (do_take _ a b n t 0 0 ⟨#[]⟩ false (Left (inDo w 1 a b n t) N K v nodes l c) w ((ntake_none _ n (fun o => npeek_out ((hH 1).fresh ((Unch.refl _ _).alloc o)) n hout)).mono (by rintro e w1 ⟨rfl, hu⟩; exact ⟨rfl, Left.same (hH 1) hu⟩)) (far 1 l c)).mono (fin 1 _ _ _ _ _)
      · rename_i x hx
        obtain ⟨m, rfl, hm⟩ := at_in hx
        simp only [Int.toNat_natCast]
        exact (do_take _ a b m t x.src x.dst x.txt true (Left (inDo w 1 a b m t) N K v nodes (l.eraseIdx m) c) w (ntake_ok (hH 1) m x hm hl) (far 1 _ c)).mono (fin 1 _ _ _ _ _)
    · split
      · rename_i _ _ hk
        subst hk
        split
        · rename_i hx
          have hout := at_out hx
          exact (do_double _ a b n t 1 (Left (inDo w 2 a b n t) N K v nodes l c) w ((ndouble_none _ n (npeek_out (hH 2) n hout)).mono (by rintro e w1 ⟨rfl, hu⟩; exact ⟨rfl, Left.same (hH 2) hu⟩)) (far 2 l c)).mono (fin 2 _ _ _ _ _)
        · rename_i x hx
          obtain ⟨m, rfl, hm⟩ := at_in hx
          split
          · rename_i h3
            exact (do_double _ a b m t 8 (Left (inDo w 2 a b m t) N K v nodes l c) w ((ndouble_busy (hH 2) m x hm h3).mono (by rintro e w1 ⟨rfl, hu⟩; exact ⟨rfl, Left.same (hH 2) hu⟩)) (far 2 l c)).mono (fin 2 _ _ _ _ _)
          · rename_i h3
            exact (do_double _ a b m t 0 (Left (inDo w 2 a b m t) N K v nodes (l ++ [x]) c) w (ndouble_ok (hH 2) m x hm (by omega)) (far 2 _ c)).mono (fin 2 _ _ _ _ _)
      · split
        · rename_i _ _ _ hk
          subst hk
          split
          · rename_i h1
            exact (do_cut _ a b n t 1 (Left (inDo w 3 a b n t) N K v nodes l c) w ((ncut_bad (hH 3) a b h1).mono (by rintro e w1 ⟨rfl, hu⟩; exact ⟨rfl, Left.same (hH 3) hu⟩)) (far 3 l c)).mono (fin 3 _ _ _ _ _)
          · rename_i h1
            have h1' := Bool.of_not_eq_false h1
            obtain ⟨x, y, rfl, rfl, hx, hy, _⟩ := isTwo_nat h1'
            simp only [Int.toNat_natCast]
            exact (do_cut _ x y n t 0 (Left (inDo w 3 x y n t) N K v nodes _ _) w (ncut_ok (hH 3) h5 x y h1' hl hs) (far 3 _ _)).mono (fin 3 _ _ _ _ _)
        · rename_i k0 k1 k2 k3
          exact (do_heal _ k a b n t (Left (inDo w k a b n t) N K v nodes l (fun _ _ => false)) w k0 k1 k2 k3 ((nheal_ok (hH k)).mono (by rintro e w1 ⟨rfl, h1, h2⟩; exact ⟨rfl, v, h1, h2, fun _ h => .inl h⟩)) (far k _ _)).mono (fin k _ _ _ _ _)
/-- Of no net nothing comes. -/
def wantNone (k : Int) : Int := if k = 0 ∨ k = 2 ∨ k = 3 then 1 else 0
theorem do_nil (k a b n : Int) (t : ByteArray) (w : World) :
    Calls Try.prog 23 #[.pointer none, actV k a b n t] w (fun e w' => e = .returned (.tuple #[zltr, .bool false, .int .i64 (wantNone k)]) ∧ Unch none_ w w') := by
  have far : ∀ (k : Int) w1, Unch none_ (inDo w k a b n t) w1 → Far w (inDo w k a b n t) w1 := fun k w1 hu => ⟨_, hu, fun h => h, fun h => h⟩
  have fin : ∀ (k : Int) (x : Value) (ok : Bool) (er : Int) e w', Did w x ok er (Unch none_ (inDo w k a b n t)) e w' → e = .returned (.tuple #[x, .bool ok, .int .i64 er]) ∧ Unch none_ w w' := by
    rintro k x ok er e w' ⟨rfl, w1, hu, hu2⟩
    exact ⟨rfl, (inDo_unch.trans hu).step hu2 (fun i hi e => by omega)⟩
  unfold wantNone
  by_cases h0 : k = 0
  · subst h0
    exact (do_put none a b n t 1 (Unch none_ (inDo w 0 a b n t)) w ((nput_nil a b t _).mono (by rintro e w1 ⟨rfl, rfl⟩; exact ⟨rfl, Unch.refl _ _⟩)) (far 0)).mono (fin 0 _ _ _)
  · by_cases h1 : k = 1
    · subst h1
      exact (do_take none a b n t 0 0 ⟨#[]⟩ false (Unch none_ (inDo w 1 a b n t)) w (ntake_none none n (fun o => npeek_nil n _)) (far 1)).mono (fin 1 _ _ _)
    · by_cases h2 : k = 2
      · subst h2
        exact (do_double none a b n t 1 (Unch none_ (inDo w 2 a b n t)) w (ndouble_none none n (npeek_nil n _)) (far 2)).mono (fin 2 _ _ _)
      · by_cases h3 : k = 3
        · subst h3
          exact (do_cut none a b n t 1 (Unch none_ (inDo w 3 a b n t)) w (ncut_nil a b _) (far 3)).mono (fin 3 _ _ _)
        · have h4 : ¬ (k = 0 ∨ k = 2 ∨ k = 3) := by omega
          rw [if_neg h4]
          exact (do_heal none k a b n t (Unch none_ (inDo w k a b n t)) w h0 h1 h2 h3 ((nheal_nil _).mono (by rintro e w1 ⟨rfl, rfl⟩; exact ⟨rfl, Unch.refl _ _⟩)) (far k)).mono (fin k _ _ _)
end Go.Proofs.Ytmffpeblcaalgaa
