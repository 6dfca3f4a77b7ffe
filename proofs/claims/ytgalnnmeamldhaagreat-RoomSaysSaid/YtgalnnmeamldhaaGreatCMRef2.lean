/-
  palaverref15: Root, count; rows of bools that are made and written.
  palaverref15: Pasts.
  palaverref15: a Set as it lies, first, Lower.
  palaverref15: Lower.
  palaverref15: Holds, by its author's rank.
-/
import Derived.Test.YtgalnnmeamldhaaGreatCMRef1
import Derived.Deep.OwnRows
import Derived.Test.YtgalnnmeamldhaaGreatCBase
import Derived.Test.YtgalnnmeamldhaaGreatCQu
/- palaverref15: Root, count; rows of bools that are made and written. -/
set_option linter.unusedVariables false
set_option linter.unusedSimpArgs false
namespace Go.Proofs.YtgalnnmeamldhaaGreat
open Go Go.RowKit Go.Proofs.YtgalnnmeamldhaaGreat.Pal

/-! ### Rows of bools -/
def bvec (n : Nat) (f : Nat → Bool) : List Value := (List.range n).map fun j => .bool (f j)
theorem bvec_len (n : Nat) (f : Nat → Bool) : (bvec n f).length = n := by simp [bvec]
theorem bvec_get (n : Nat) (f : Nat → Bool) {j : Nat} (hj : j < n) : (bvec n f)[j]? = some (.bool (f j)) := by simp [bvec, hj]
theorem bvec_set (n : Nat) (f : Nat → Bool) (j : Nat) (b : Bool) : (bvec n f).set j (.bool b) = bvec n (fun i => if i = j then b else f i) := by
  apply List.ext_getElem?
  intro i
  rw [List.getElem?_set]
  by_cases hi : i < n
  · rw [bvec_get _ _ hi]
    by_cases hij : j = i
    · subst hij; rw [if_pos rfl, bvec_get _ _ hi]; simp [bvec_len, hi]
    · rw [if_neg hij, bvec_get _ _ hi, if_neg (fun e => hij e.symm)]
  · rw [List.getElem?_eq_none (by rw [bvec_len]; omega), List.getElem?_eq_none (by rw [bvec_len]; omega)]
    split
    · split
      · rename_i h1 h2; rw [bvec_len] at h2; omega
      · rfl
    · rfl
theorem bvec_congr {n : Nat} {f g : Nat → Bool} (h : ∀ i, i < n → f i = g i) : bvec n f = bvec n g := by
  unfold bvec
  apply List.map_congr_left
  intro i hi
  rw [h i (by simpa using hi)]
/-- Block g is a row of n bools. -/
def Brow (w : World) (g n : Nat) (f : Nat → Bool) : Prop := w.heap[g]? = some (.cells (bvec n f).toArray 4 (0, 0))
section
variable {w w1 : World} {g n : Nat} {f : Nat → Bool}
theorem Brow.at (h : Brow w g n f) {j : Nat} (hj : j < n) : w.cell? ⟨g, j, none⟩ = some (.bool (f j)) := blk_cell h (by rw [List.getElem?_toArray]; exact bvec_get _ _ hj)
theorem Brow.free (h : Brow w g n f) (j : Nat) : w.frozen? ⟨g, j, none⟩ = false := blk_free h j
theorem Brow.set (h : Brow w g n f) (j : Nat) (b : Bool) : Brow (w.setCell ⟨g, j, none⟩ (.bool b)) g n (fun i => if i = j then b else f i) := by
  unfold Brow
  rw [blk_set h, List.setIfInBounds_toArray, bvec_set]
theorem Brow.congr {f' : Nat → Bool} (h : Brow w g n f) (hf : ∀ i, i < n → f i = f' i) : Brow w g n f' := by
  unfold Brow at *
  rw [h, bvec_congr hf]
theorem Brow.unch {X : Nat → Prop} (h : Brow w g n f) (hu : Unch X w w1) (hX : ¬ X g) : Brow w1 g n f := hu.heap h hX
theorem Brow.rds (h : Brow w g n f) (hn : n ≤ maxLen) : RdS w 1 BoolR (some ⟨g, 0, none⟩) n ((List.range n).map f) :=
  ⟨by simp, hn, fun _ => ⟨g, 0, rfl, lt_of_heap h, fun i x hx => by
    have hi : i < n := by have := (List.getElem?_eq_some_iff.1 hx).1; simpa using this
    have hx' : x = f i := by simp [hi] at hx; exact hx.symm
    refine ⟨[.bool x], rfl, rfl, fun j u hj => ?_⟩
    have : j = 0 := by have := (List.getElem?_eq_some_iff.1 hj).1; simp at this; omega
    subst this
    have hu : u = .bool x := by simpa using hj.symm
    rw [hu, hx', Nat.mul_one, Nat.zero_add, Nat.add_zero]
    exact h.at hi⟩⟩
theorem Brow.made (w : World) (n : Nat) : Brow (w.alloc (.cells (madeCells #[.bool false] n) 4)) w.heap.size n (fun _ => false) := by
  unfold Brow
  rw [madeCells_one]
  rw [blk_new]
  congr 2
  apply Array.toList_inj.1
  simp only [Array.toList_replicate, List.toList_toArray, bvec]
  rw [List.map_const']
  simp
end
theorem info_bool : (Tryz.prog.info? 4).map (fun i => (i.zero, i.size, i.bytes)) = some (some (.bool false), 1, 1) := by kernel_rfl
/-- make([]bool, n). -/
theorem run_make_bool (n : Nat) (hn : n ≤ 1048576) (W : World) : (Instr.makeSlice 44 (.int .i64 (n : Int)) (.int .i64 (n : Int))).run Tryz.prog W = .ok (.slice (some ⟨W.heap.size, 0, none⟩) n n) (W.alloc (.cells (madeCells #[.bool false] n) 4)) :=
  run_make_row' (P := Tryz.prog) 44 4 (.bool false) 1 Tryz.underlying44 info_bool rfl .i64 .i64 n (by omega) (by omega) W

/-! ### Root -/
def rootN (room : ByteArray) (l : List Ent) : Option Nat := match findN l room with | some i => if (ent l i).kind = 1 then some i else none | none => none
set_option maxHeartbeats 1000000 in
theorem rroot_ok {w : World} {A : Option Addr} {n c : Nat} {l : List Ent} (h : Ents w A n l) (hc : n ≤ c) (room : ByteArray) :
    Calls Tryz.prog 28 #[.string room, .slice A n c] w fun e w' => e = .returned (.int .i64 (optI (rootN room l))) ∧ Unch none_ w w' := by
  have hfo := find_ok h hc room
  cases hf : findN l room with
  | none =>
    have hr : rootN room l = none := by unfold rootN; rw [hf]
    rw [hf] at hfo
    rw [hr]
    have HFO := Lib.hid hfo
    clear hfo hf hr
    unfold optI at HFO ⊢
    go_enter Tryz.func28, Tryz.ntmps28
    go_wp2_with fail
    refine HFO.out.mono ?_
    rintro e w' ⟨rfl, rfl⟩
    go_wp2
    go_ret
    exact ⟨rfl, Unch.refl _ _⟩
  | some i =>
    obtain ⟨e, he, hid, _⟩ := findN_some hf
    have hi : i < n := by rw [← h.len]; exact (List.getElem?_eq_some_iff.1 he).1
    obtain ⟨b, o, rfl, hb, _, x1, _, _, _⟩ := h.at he
    have z0 : (0 : Int) ≤ (i : Int) := by omega
    have z1 : (i : Int) < (n : Int) := by omega
    have z2 : decide ((i : Int) < 0) = false := decide_eq_false (by omega)
    by_cases hk : e.kind = 1
    · have hr : rootN room l = some i := by unfold rootN; rw [hf]; simp [ent_of he, hk]
      rw [hf] at hfo
      rw [hr]
      have HFO := Lib.hid hfo
      rw [hk] at x1
      clear hfo hf hr hk he
      unfold optI at HFO ⊢
      go_enter Tryz.func28, Tryz.ntmps28
      go_wp2_with fail
      refine HFO.out.mono ?_
      rintro e w' ⟨rfl, rfl⟩
      go_wp2
      go_ret
      exact ⟨rfl, Unch.refl _ _⟩
    · have hr : rootN room l = none := by unfold rootN; rw [hf]; simp [ent_of he, hk]
      rw [hf] at hfo
      rw [hr]
      have HFO := Lib.hid hfo
      have z3 : (e.kind == 1) = false := by simpa using hk
      clear hfo hf hr hk he
      unfold optI at HFO ⊢
      go_enter Tryz.func28, Tryz.ntmps28
      go_wp2_with fail
      refine HFO.out.mono ?_
      rintro e w' ⟨rfl, rfl⟩
      go_wp2
      go_ret
      exact ⟨rfl, Unch.refl _ _⟩

/-! ### count -/
theorem countB_take {bs : List Bool} {k : Nat} {b : Bool} (h : bs[k]? = some b) : countB (bs.take (k + 1)) = countB (bs.take k) + if b then 1 else 0 := by
  have hk := (List.getElem?_eq_some_iff.1 h).1
  rw [List.take_succ_eq_append_getElem hk, (List.getElem?_eq_some_iff.1 h).2]
  unfold countB
  rw [List.filter_append, List.length_append]
  cases b <;> simp
theorem countB_le (bs : List Bool) : countB bs ≤ bs.length := List.length_filter_le _ _
set_option maxHeartbeats 1000000 in
theorem count_ok {w : World} {A : Option Addr} {n c : Nat} {bs : List Bool} (h : RdS w 1 BoolR A n bs) :
    Calls Tryz.prog 80 #[.slice A n c] w fun e w' => e = .returned (.int .i64 (countB bs : Nat)) ∧ w = w' := by
  have hn := h.max
  unfold maxLen at hn
  go_enter Tryz.func80, Tryz.ntmps80
  go_wp2
  go_loopg [3, 4] n (fun gk v3 i wr => ∃ k : Nat, k ≤ n ∧ gk = n - k ∧ i = .int .i64 (k : Int) ∧ v3 = .int .i64 ((countB (bs.take k) : Nat) : Int) ∧ w = wr)
  case atStart => exact ⟨0, Nat.zero_le _, rfl, rfl, rfl, rfl⟩
  case round =>
    obtain ⟨k, hk, rfl, rfl, rfl, rfl⟩ := hrel
    obtain ⟨q, hq⟩ : ∃ q, countB (bs.take k) = q := ⟨_, rfl⟩
    have hqk : q ≤ k := by rw [← hq]; exact Nat.le_trans (countB_le _) (List.length_take_le _ _)
    rw [hq]
    by_cases hkn : k < n
    · obtain ⟨x, hx⟩ := get_some h.len hkn
      obtain ⟨b, o, rfl, hb, x0⟩ := RdS.bool h hx
      have z0 : (0 : Int) ≤ (k : Int) := by omega
      have z1 : (k : Int) < (n : Int) := by omega
      have hct := countB_take hx
      rw [hq] at hct
      have HCT := Lib.hid hct
      clear hct hq hx
      cases x
      · go_wp2
        go_roundg (n - (k + 1))
        case measure => omega
        case rel => exact ⟨k + 1, by omega, rfl, by go_num, by rw [HCT.out]; simp, rfl⟩
      · have z2 : (0 : Int) ≤ (q : Int) := by omega
        have z3 : (q : Int) ≤ (n : Int) := by omega
        go_wp2
        go_roundg (n - (k + 1))
        case measure => omega
        case rel => exact ⟨k + 1, by omega, rfl, by go_num, by rw [HCT.out]; simp, rfl⟩
    · obtain rfl : k = n := by omega
      have HQ := Lib.hid hq
      clear hq
      go_wp2
      go_ret
      have := HQ.out
      rw [List.take_of_length_le (by rw [h.len]; exact Nat.le_refl _)] at this
      rw [this]
      exact ⟨rfl, rfl⟩
end Go.Proofs.YtgalnnmeamldhaaGreat
/- palaverref15: Pasts. -/
set_option linter.unusedVariables false
set_option linter.unusedSimpArgs false
namespace Go.Proofs.YtgalnnmeamldhaaGreat
open Go Go.RowKit Go.Proofs.YtgalnnmeamldhaaGreat.Pal

def RowR (w : World) (row : List Bool) (c : List Value) : Prop := ∃ A cap, c = [.slice A row.length cap] ∧ row.length ≤ cap ∧ RdS w 1 BoolR A row.length row
theorem RowR.fresh {w w1 : World} {row : List Bool} {c : List Value} (h : RowR w row c) (hu : Unch none_ w w1) : RowR w1 row c := by
  obtain ⟨A, cap, h1, h2, h3⟩ := h
  exact ⟨A, cap, h1, h2, RdS.fresh h3 hu⟩
theorem RowR.at {w : World} {row : List Bool} {v : Value} (h : RowR w row [v]) : ∃ A cap, v = .slice A row.length cap ∧ row.length ≤ cap ∧ RdS w 1 BoolR A row.length row := by
  obtain ⟨A, cap, h1, h2, h3⟩ := h
  exact ⟨A, cap, by simpa using h1, h2, h3⟩
/-- A slice of rows of bools. -/
def PastsOk (w : World) (A : Option Addr) (n : Nat) (rows : List (List Bool)) : Prop := RdS w 1 (RowR w) A n rows
theorem PastsOk.fresh {w w1 : World} {A : Option Addr} {n : Nat} {rows : List (List Bool)} (h : PastsOk w A n rows) (hu : Unch none_ w w1) : PastsOk w1 A n rows :=
  RdS.unch (R' := RowR w1) h hu (fun _ _ h => h) (fun _ _ hr => RowR.fresh hr hu)
/-- A row as it was appended to, read. -/
theorem Row.rds {α : Type} {w : World} {e : TypeId} {n : Nat} {v : Value} {xs : List Value} {R : α → List Value → Prop} (h : Row w e 1 v n xs) (ys : List α) (hl : ys.length = n) (hR : ∀ (i : Nat) (x : Value) (y : α), xs[i]? = some x → ys[i]? = some y → R y [x]) :
    ∃ A c, v = .slice A n c ∧ n ≤ c ∧ RdS w 1 R A n ys := by
  obtain ⟨A, c, rfl, hnc⟩ := h.slice
  refine ⟨A, c, rfl, hnc, hl, h.max, fun hn => ?_⟩
  obtain ⟨g, o, cap, cur, hv, hg, _, _, _⟩ := h.form hn
  injection hv with h1 _ _
  subst h1
  refine ⟨g, o, rfl, lt_of_heap hg, fun i y hy => ?_⟩
  have hi : i < n := by rw [← hl]; exact (List.getElem?_eq_some_iff.1 hy).1
  obtain ⟨x, hx⟩ := get_some (l := xs) (n := n) (by have := h.1; omega) hi
  refine ⟨[x], rfl, hR i x y hx hy, fun j u hj => ?_⟩
  have : j = 0 := by have := (List.getElem?_eq_some_iff.1 hj).1; simp at this; omega
  subst this
  have hu : u = x := by simpa using hj.symm
  rw [hu, Nat.mul_one, Nat.add_zero]
  exact h.at rfl hx
theorem info_bools : (Tryz.prog.info? 44).map (fun i => (i.zero, i.size, i.bytes)) = some (some (.slice none 0 0), 1, 24) := by kernel_rfl
def pastsL (l : List Ent) (k : Nat) : List (List Bool) := (List.range k).map (prow l)
theorem prow_len (l : List Ent) (i : Nat) : (prow l i).length = l.length := by simp [prow]
theorem prow_get (l : List Ent) (i : Nat) {j : Nat} (hj : j < l.length) : (prow l i)[j]? = some (past l i j) := by simp [prow, hj]
theorem foundPast_take {l : List Ent} {i : Nat} {ss : List ByteArray} {j : Nat} {s : ByteArray} {p : Nat} (hs : ss[j]? = some s) (hf : findN l s = some p) (q : Nat) :
    foundPast l i (ss.take (j + 1)) q = ((foundPast l i (ss.take j) q || decide (p = q)) || past l p q) := by
  have hj := (List.getElem?_eq_some_iff.1 hs).1
  unfold foundPast
  rw [List.take_succ_eq_append_getElem hj, (List.getElem?_eq_some_iff.1 hs).2, List.any_append]
  simp [hf, Bool.or_assoc]
theorem mix {a r : Nat → Bool} {q : Nat} {b : Bool} (h : a q = true) (hb : b = true) (x n : Nat) (_ : x < n) : (fun i => if i = q then b else (fun x => if x < q then (a x || r x) else a x) i) x = if x < q + 1 then (a x || r x) else a x := by
  simp only
  by_cases hx : x = q
  · subst hx; rw [if_pos rfl, if_pos (by omega), h, hb]; rfl
  · rw [if_neg hx]
    by_cases h1 : x < q
    · rw [if_pos h1, if_pos (by omega)]
    · rw [if_neg h1, if_neg (by omega)]
theorem mix2 {a r : Nat → Bool} {q : Nat} (h : a q = false) (x n : Nat) (_ : x < n) : (fun i => if i = q then r q else (fun x => if x < q then (a x || r x) else a x) i) x = if x < q + 1 then (a x || r x) else a x := by
  simp only
  by_cases hx : x = q
  · subst hx; rw [if_pos rfl, if_pos (by omega), h, Bool.false_or]
  · rw [if_neg hx]
    by_cases h1 : x < q
    · rw [if_pos h1, if_pos (by omega)]
    · rw [if_neg h1, if_neg (by omega)]
/-- What Pasts has made behind k rounds. -/
def PMid (w wr : World) (l : List Ent) (n k : Nat) (v : Value) : Prop :=
  Unch none_ w wr ∧ (∀ b, v.ownBlock = some b → w.heap.size ≤ b) ∧ ∃ vs, Row wr 44 1 v k vs ∧ ∀ (i : Nat) (u : Value), vs[i]? = some u → ∃ g, u = .slice (some ⟨g, 0, none⟩) n n ∧ Brow wr g n (past l i) ∧ w.heap.size ≤ g
/-- The pasts, with where each row lies. -/
def PastsB (w : World) (A : Option Addr) (c n : Nat) (l : List Ent) (R : Nat → Prop) : Prop := ∃ vs, Row w 44 1 (.slice A n c) n vs ∧ ∀ (i : Nat) (u : Value), vs[i]? = some u → ∃ g, u = .slice (some ⟨g, 0, none⟩) n n ∧ Brow w g n (past l i) ∧ R g
theorem PastsB.ok {w : World} {A : Option Addr} {c n : Nat} {l : List Ent} {R : Nat → Prop} (h : PastsB w A c n l R) (hl : l.length = n) (hn : n ≤ maxLen) : PastsOk w A n (pastsL l n) := by
  obtain ⟨vs, hrow, hvs⟩ := h
  obtain ⟨A', c', h1, h2, h3⟩ := Row.rds (R := RowR w) hrow (pastsL l n) (by simp [pastsL]) (fun i x y hx hy => by
    have hi : i < n := by have := (List.getElem?_eq_some_iff.1 hy).1; simpa [pastsL] using this
    have : y = prow l i := by simp [pastsL, hi] at hy; exact hy.symm
    rw [this]
    obtain ⟨g, rfl, hg, _⟩ := hvs i x hx
    exact ⟨_, _, by rw [prow_len, hl], by rw [prow_len, hl]; exact Nat.le_refl _, by rw [prow_len, hl]; have := hg.rds hn; unfold prow; rw [hl]; exact this⟩)
  injection h1 with h1 _ h4
  subst h1
  exact h3
theorem PastsB.fresh {w w1 : World} {A : Option Addr} {c n : Nat} {l : List Ent} {R : Nat → Prop} (h : PastsB w A c n l R) (hu : Unch none_ w w1) : PastsB w1 A c n l R := by
  obtain ⟨vs, hrow, hvs⟩ := h
  refine ⟨vs, hrow.unch hu (fun _ _ h => h), fun i u hi => ?_⟩
  obtain ⟨g, h1, h2, h3⟩ := hvs i u hi
  exact ⟨g, h1, h2.unch hu (fun h => h), h3⟩
theorem PastsB.mono {w : World} {A : Option Addr} {c n : Nat} {l : List Ent} {R R' : Nat → Prop} (h : PastsB w A c n l R) (hR : ∀ g, g < w.heap.size → R g → R' g) : PastsB w A c n l R' := by
  obtain ⟨vs, hrow, hvs⟩ := h
  refine ⟨vs, hrow, fun i u hi => ?_⟩
  obtain ⟨g, h1, h2, h3⟩ := hvs i u hi
  exact ⟨g, h1, h2, hR g (lt_of_heap h2) h3⟩
/-- A block is written that is none of its own: not the slice's, and no row's. -/
theorem PastsB.other {w w1 : World} {A : Option Addr} {c n : Nat} {l : List Ent} {R : Nat → Prop} (h : PastsB w A c n l R) {b : Nat} {cs : Array Value} {e : TypeId} {fr : Nat × Nat} (hb : w.heap[b]? = some (.cells cs e fr)) (h1 : e ≠ 44) (h2 : e = 4 → ∀ g, R g → g ≠ b) (hu : Unch (fun k => k = b) w w1) : PastsB w1 A c n l R := by
  obtain ⟨vs, hrow, hvs⟩ := h
  refine ⟨vs, hrow.unch hu (fun k hk e' => ?_), fun i u hi => ?_⟩
  · obtain ⟨cur, hc⟩ := hrow.blk hk
    rw [e', hb] at hc
    injection hc with hc
    injection hc with _ hc
    exact h1 hc
  · obtain ⟨g, e1, e2, e3⟩ := hvs i u hi
    refine ⟨g, e1, e2.unch hu (fun e' => ?_), e3⟩
    have e4 := e2
    unfold Brow at e4
    rw [e', hb] at e4
    injection e4 with e4
    injection e4 with _ e4
    exact h2 e4 g e3 e'
theorem PMid.add {w w0 w2 w5 : World} {l : List Ent} {n k g : Nat} {v v' : Value} {vs : List Value} (hu : Unch none_ w w0) (hown : ∀ b, v.ownBlock = some b → w.heap.size ≤ b) (hrow : Row w0 44 1 v k vs) (hvs : ∀ (i : Nat) (u : Value), vs[i]? = some u → ∃ g, u = .slice (some ⟨g, 0, none⟩) n n ∧ Brow w0 g n (past l i) ∧ w.heap.size ≤ g) (hgw : w.heap.size ≤ g)
    (hu2 : Unch none_ w0 w2) (hb : Brow w2 g n (past l k)) (hr5 : Row w5 44 1 v' (k + 1) (vs ++ [.slice (some ⟨g, 0, none⟩) n n])) (hu5 : Unch (fun b => v.ownBlock = some b) w2 w5) (hat : v'.ownBlock = v.ownBlock ∨ ∃ b, v'.ownBlock = some b ∧ w2.heap.size ≤ b) : PMid w w5 l n (k + 1) v' := by
  have hlen : vs.length = k := by have := hrow.1; omega
  have hno : ∀ {g' : Nat} {f : Nat → Bool}, Brow w2 g' n f → ¬ v.ownBlock = some g' := fun hb' e => by
    obtain ⟨cur, hc⟩ := (hrow.unch hu2 (fun _ _ h => h)).blk e
    unfold Brow at hb'
    rw [hc] at hb'
    injection hb' with h1
    injection h1 with _ h2
    exact absurd h2 (by decide)
  refine ⟨(hu.trans hu2).step hu5 (fun i hi e => by have := hown i e; omega), fun b hb' => ?_, _, hr5, fun i u hi => ?_⟩
  · rcases hat with h1 | ⟨b', h1, h2⟩
    · exact hown b (h1 ▸ hb')
    · rw [h1] at hb'; injection hb' with hb'
      have := (hu.trans hu2).size; omega
  · rcases Nat.lt_or_ge i k with h1 | h1
    · rw [List.getElem?_append_left (by omega)] at hi
      obtain ⟨g', rfl, hb', hg'⟩ := hvs i u hi
      have hb2 := hb'.unch hu2 (fun h => h)
      exact ⟨g', rfl, hb2.unch hu5 (hno hb2), hg'⟩
    · rw [List.getElem?_append_right (by omega)] at hi
      have hik : i = k := by have := (List.getElem?_eq_some_iff.1 hi).1; simp at this; omega
      subst hik
      rw [hlen, Nat.sub_self] at hi
      exact ⟨g, by simpa using hi.symm, hb.unch hu5 (hno hb), hgw⟩
set_option maxRecDepth 100000 in
set_option maxHeartbeats 2000000 in
theorem pasts_okB {w : World} {A : Option Addr} {n c : Nat} {l : List Ent} (h : Ents w A n l) (hc : n ≤ c) (hC : Closed l) :
    Calls Tryz.prog 32 #[.slice A n c] w fun e w' => (∃ A' c', e = .returned (.slice A' n c') ∧ n ≤ c' ∧ PastsB w' A' c' n l (fun g => w.heap.size ≤ g)) ∧ Unch none_ w w' := by
  have hlen := h.len
  have hn3 : n ≤ 300 := by rw [← hlen]; exact hC.len
  have hmk := run_make_bool n (by omega)
  have HLEN := Lib.hid hlen
  clear hlen
  go_enter Tryz.func32, Tryz.ntmps32
  go_wp2
  go_loopg [3, 4] n (fun gk v3 i wr => ∃ k : Nat, k ≤ n ∧ gk = n - k ∧ i = .int .i64 (k : Int) ∧ PMid w wr l n k v3)
  case atStart => exact ⟨0, Nat.zero_le _, rfl, rfl, Unch.refl _ _, (fun b hb => by cases hb), [], Row.nil _ _ _, fun i u hi => by simp at hi⟩
  case round =>
    obtain ⟨k, hk, rfl, rfl, hu, hown, vs, hrow, hvs⟩ := hrel
    obtain ⟨w0, rfl⟩ : ∃ w0, w0 = wr := ⟨_, rfl⟩
    obtain ⟨A3, c3, rfl, hc3⟩ := hrow.slice
    by_cases hkn : k < n
    · obtain ⟨e, he⟩ := get_some HLEN.out hkn
      have hw := h.fresh hu
      have hek : ent l k = e := ent_of he
      obtain ⟨b, o, rfl, hb, _, _, _, x3, _⟩ := hw.at he
      obtain ⟨⟨A2, c2, hpv, hpc, hps⟩, _, _, _, _⟩ := hw.ok e (List.mem_of_getElem? he)
      rw [hpv] at x3
      have z1 : (0 : Int) ≤ (k : Int) := by omega
      have z2 : (k : Int) < (n : Int) := by omega
      have hpar : ∀ s ∈ e.ps, ∃ p, findN l s = some p ∧ p < k := fun s hs => by
        obtain ⟨p, h1, h2, _⟩ := hC.par (i := k) (by rw [HLEN.out]; exact hkn) (by rw [hek]; exact hs)
        exact ⟨p, h1, h2⟩
      have hpast := hC.past (i := k) (by rw [HLEN.out]; exact hkn)
      rw [hek] at hpast
      have HPAR := Lib.hid hpar
      have HPAST := Lib.hid hpast
      have HVS := Lib.hid hvs
      clear hpar hpast he hek hpv hvs
      obtain ⟨m, hm⟩ : ∃ m, e.ps.length = m := ⟨_, rfl⟩
      rw [hm] at x3 hpc hps
      have HM := Lib.hid hm
      clear hm
      have hmx := hps.max
      unfold maxLen at hmx
      go_wp2
      have hmade := Brow.made w0 n
      have hu0 : Unch none_ w0 (w0.alloc (.cells (madeCells #[.bool false] n) 4)) := (Unch.refl none_ w0).alloc _
      generalize hg : w0.heap.size = g at *
      have hgw : w0.heap.size ≤ g := by omega
      have HG := Lib.hid hg
      clear hg
      generalize w0.alloc (.cells (madeCells #[.bool false] n) 4) = w1 at *
      go_loopg [6] m (fun gk i wr2 => ∃ j : Nat, j ≤ m ∧ gk = m - j ∧ i = .int .i64 (j : Int) ∧ Unch none_ w0 wr2 ∧ Brow wr2 g n (foundPast l k (e.ps.take j)))
      case atStart => exact ⟨0, Nat.zero_le _, rfl, rfl, hu0, hmade.congr (fun i _ => by simp [foundPast])⟩
      case round =>
        clear hmade hu0
        obtain ⟨j, hj, rfl, rfl, hu2, hbr⟩ := hrel
        obtain ⟨w2, rfl⟩ : ∃ w2, w2 = wr := ⟨_, rfl⟩
        have x3' := hu2.cell x3 (fun h => h)
        by_cases hjm : j < m
        · obtain ⟨t, ht⟩ := get_some HM.out hjm
          obtain ⟨b2, o2, rfl, hb2, y2⟩ := RdS.str (RdS.fresh hps hu2) ht
          obtain ⟨p, hfp, hpk⟩ := HPAR.out t (List.mem_of_getElem? ht)
          have hfo := find_ok (hw.fresh hu2) hc t
          rw [hfp] at hfo
          have HFO := Lib.hid hfo
          unfold optI at HFO
          have HTK := Lib.hid (foundPast_take (i := k) ht hfp)
          have z4 : (0 : Int) ≤ (j : Int) := by omega
          have z5 : (j : Int) < (m : Int) := by omega
          have z6 : (0 : Int) ≤ (p : Int) := by omega
          have z7 : (p : Int) < (n : Int) := by omega
          have z8 : (p : Int) < (k : Int) := by omega
          obtain ⟨up, hup⟩ := get_some (l := vs) (n := k) (by have := hrow.1; omega) hpk
          obtain ⟨gr, or, cr, cur, hv3, _, _, _, _⟩ := hrow.form (by omega)
          injection hv3 with e1 _ e3
          subst e1; subst e3
          obtain ⟨gp, rfl, hbp, _⟩ := HVS.out p _ hup
          have HUP := Lib.hid hup
          clear hfo hfp ht hup
          have bp := hbr.at (j := p) (by omega)
          have fp := hbr.free p
          go_wp2_with fail
          refine HFO.out.mono ?_
          rintro e w3 ⟨rfl, rfl⟩
          go_wp2_with fail
          have hbr2 := hbr.set p true
          have hu3 : Unch none_ w0 (w2.setCell ⟨g, p, none⟩ (.bool true)) := hu2.setCell _ (fun hlt => by have : g < w0.heap.size := hlt; omega)
          clear bp fp x3' y2
          generalize w2.setCell ⟨g, p, none⟩ (.bool true) = w4 at *
          go_loopg [8] k (fun gk i wr3 => ∃ q : Nat, q ≤ k ∧ gk = k - q ∧ i = .int .i64 (q : Int) ∧ Unch none_ w0 wr3 ∧ Brow wr3 g n (fun x => if x < q then ((foundPast l k (e.ps.take j) x || decide (p = x)) || past l p x) else (foundPast l k (e.ps.take j) x || decide (p = x))))
          case atStart => exact ⟨0, Nat.zero_le _, rfl, rfl, hu3, hbr2.congr (fun x _ => by
              by_cases hx : x = p
              · subst hx; simp
              · have : ¬ p = x := fun e => hx e.symm
                simp [hx, this])⟩
          case round =>
            clear hbr2 hu3 hbr hu2
            obtain ⟨q, hq, rfl, rfl, hu5, hbq⟩ := hrel
            by_cases hqk : q < k
            · have z9 : (0 : Int) ≤ (q : Int) := by omega
              have z10 : (q : Int) < (k : Int) := by omega
              have z11 : (q : Int) < (n : Int) := by omega
              have r1 := hu5.cell (hrow.at rfl HUP.out) (fun h => h)
              have bq := hbq.at (j := q) (by omega)
              have fq := hbq.free q
              rw [if_neg (Nat.lt_irrefl q)] at bq
              have r2 := (hbp.unch hu5 (fun h => h)).at (j := q) (by omega)
              have hgw' : w0.heap.size ≤ g := hgw
              cases hold : (foundPast l k (e.ps.take j) q || decide (p = q)) with
              | true =>
                rw [hold] at bq
                have hset := (hbq.set q true).congr (f' := fun x => if x < q + 1 then ((foundPast l k (e.ps.take j) x || decide (p = x)) || past l p x) else (foundPast l k (e.ps.take j) x || decide (p = x))) (fun x hx => mix (a := fun x => foundPast l k (e.ps.take j) x || decide (p = x)) (r := past l p) hold rfl x n hx)
                have hu6 := hu5.setCell (p := ⟨g, q, none⟩) (.bool true) (fun hlt => by have : g < w0.heap.size := hlt; omega)
                have HSET := Lib.hid hset
                clear hset hold
                go_wp2
                go_roundg (k - (q + 1))
                case measure => omega
                case rel => exact ⟨q + 1, by omega, rfl, by go_num, hu6, HSET.out⟩
              | false =>
                rw [hold] at bq
                have hset := (hbq.set q (past l p q)).congr (f' := fun x => if x < q + 1 then ((foundPast l k (e.ps.take j) x || decide (p = x)) || past l p x) else (foundPast l k (e.ps.take j) x || decide (p = x))) (fun x hx => mix2 (a := fun x => foundPast l k (e.ps.take j) x || decide (p = x)) (r := past l p) hold x n hx)
                have hu6 := hu5.setCell (p := ⟨g, q, none⟩) (.bool (past l p q)) (fun hlt => by have : g < w0.heap.size := hlt; omega)
                have HSET := Lib.hid hset
                clear hset hold
                go_wp2
                go_roundg (k - (q + 1))
                case measure => omega
                case rel => exact ⟨q + 1, by omega, rfl, by go_num, hu6, HSET.out⟩
            · obtain rfl : q = k := by omega
              have hfin := hbq.congr (f' := foundPast l q (e.ps.take (j + 1))) (fun x hx => by
                rw [HTK.out]
                by_cases hxq : x < q
                · rw [if_pos hxq]
                · rw [if_neg hxq]
                  cases hpx : past l p x with
                  | false => simp
                  | true => have := past_lt l p x hpx; omega)
              have HFIN := Lib.hid hfin
              clear hfin
              go_wp2
              go_roundg (m - (j + 1))
              case measure => omega
              case rel => exact ⟨j + 1, by omega, rfl, by go_num, hu5, HFIN.out⟩
        · obtain rfl : j = m := by omega
          have hfull : e.ps.take j = e.ps := List.take_of_length_le (by rw [HM.out]; exact Nat.le_refl _)
          rw [hfull] at hbr
          have hb' : Brow w2 g n (past l k) := hbr.congr (fun i _ => (HPAST.out i).symm)
          have hr2 := hrow.unch hu2 (fun _ _ h => h)
          have HB := Lib.hid hb'
          clear hfull hbr hb'
          go_wp2_with (at_builtin; refine wpList_append1 w2 rfl (.tmp 62) (.tmp 64) 43 44 _ 1 24 rfl Tryz.underlying43 info_bools rfl (by omega) (.slice A3 k c3) k vs (by rfl) hr2 [.slice (some ⟨g, 0, none⟩) n n] rfl (by intro u hu; simp at hu; subst hu; rfl) (by rfl) (by simp only [maxLen]; omega) (by omega) ?_; intro v' w5 hr5 hu5 hat5; have HR5 := Lib.hid hr5; have HU5 := Lib.hid hu5; have HAT5 := Lib.hid hat5; clear hr5 hu5 hat5)
          go_roundg (n - (k + 1))
          case measure => omega
          case rel => exact ⟨k + 1, by omega, rfl, by go_num, PMid.add hu hown hrow HVS.out (Nat.le_trans hu.size hgw) hu2 HB.out HR5.out HU5.out HAT5.out⟩
    · obtain rfl : k = n := by omega
      have HVS := Lib.hid hvs
      go_wp2
      go_ret
      exact ⟨⟨A3, c3, rfl, hc3, vs, hrow, HVS.out⟩, hu⟩
theorem pasts_ok {w : World} {A : Option Addr} {n c : Nat} {l : List Ent} (h : Ents w A n l) (hc : n ≤ c) (hC : Closed l) :
    Calls Tryz.prog 32 #[.slice A n c] w fun e w' => (∃ A' c', e = .returned (.slice A' n c') ∧ n ≤ c' ∧ PastsOk w' A' n (pastsL l n)) ∧ Unch none_ w w' :=
  (pasts_okB h hc hC).mono fun e w' ⟨⟨A', c', h1, h2, h3⟩, h4⟩ => ⟨⟨A', c', h1, h2, h3.ok h.len (by have := h.rd.max; exact this)⟩, h4⟩
end Go.Proofs.YtgalnnmeamldhaaGreat
/- palaverref15: a Set as it lies, first, Lower. -/
set_option linter.unusedVariables false
set_option linter.unusedSimpArgs false
namespace Go.Proofs.YtgalnnmeamldhaaGreat
open Go Go.RowKit Go.Proofs.YtgalnnmeamldhaaGreat.Pal

/-- Where a Set's parts lie. -/
structure Pl where
  n : Nat
  AL : Option Addr
  cL : Nat
  AP : Option Addr
  cP : Nat
  AI : Option Addr
  cI : Nat
def setC (p : Pl) (s : Ms) : Array Value := #[.slice p.AL p.n p.cL, .slice p.AP p.n p.cP, .int .i64 (s.r : Int), .slice p.AI p.n p.cI]
def setV (p : Pl) (s : Ms) : Value := .agg (setC p s)
structure SetOk (w : World) (p : Pl) (s : Ms) : Prop where
  ents : Ents w p.AL p.n s.l
  cL : p.n ≤ p.cL
  past : PastsOk w p.AP p.n (pastsL s.l p.n)
  inn : RdS w 1 BoolR p.AI p.n ((List.range p.n).map s.inn)
  ok : s.Ok
section
variable {w w1 : World} {p : Pl} {s : Ms}
theorem SetOk.fresh (h : SetOk w p s) (hu : Unch none_ w w1) : SetOk w1 p s := ⟨h.ents.fresh hu, h.cL, h.past.fresh hu, RdS.fresh h.inn hu, h.ok⟩
theorem SetOk.n (h : SetOk w p s) : s.n = p.n := h.ents.len
theorem SetOk.r (h : SetOk w p s) : s.r < p.n := by have := h.ok.r; rw [h.n] at this; exact this
theorem SetOk.n3 (h : SetOk w p s) : p.n ≤ 300 := by have := h.ok.cl.len; have := h.ents.len; omega
theorem SetOk.get (h : SetOk w p s) {k : Nat} (hk : k < p.n) : s.l[k]? = some (ent s.l k) := ent_get (by rw [h.ents.len]; exact hk)
theorem SetOk.inAt (h : SetOk w p s) {k : Nat} (hk : k < p.n) : ∃ b o, p.AI = some ⟨b, o, none⟩ ∧ w.cell? ⟨b, o + k, none⟩ = some (.bool (s.inn k)) := by
  obtain ⟨b, o, h1, _, h2⟩ := RdS.bool h.inn (k := k) (s := s.inn k) (by simp [hk])
  exact ⟨b, o, h1, h2⟩
/-- Row k of the pasts. -/
theorem SetOk.row (h : SetOk w p s) {k : Nat} (hk : k < p.n) : ∃ b o A c, p.AP = some ⟨b, o, none⟩ ∧ w.cell? ⟨b, o + k, none⟩ = some (.slice A p.n c) ∧ p.n ≤ c ∧ RdS w 1 BoolR A p.n (prow s.l k) := by
  obtain ⟨b, o, c, h1, _, _, ⟨A, cap, rfl, h3, h4⟩, hcell⟩ := RdS.at h.past (i := k) (x := prow s.l k) (by simp [pastsL, hk])
  have := hcell 0 _ rfl
  rw [Nat.mul_one, Nat.add_zero] at this
  rw [prow_len, h.ents.len] at this h3 h4
  exact ⟨b, o, A, cap, h1, this, h3, h4⟩
theorem SetOk.pastAt (h : SetOk w p s) {A : Option Addr} {i : Nat} (hr : RdS w 1 BoolR A p.n (prow s.l i)) {k : Nat} (hk : k < p.n) : ∃ b o, A = some ⟨b, o, none⟩ ∧ w.cell? ⟨b, o + k, none⟩ = some (.bool (Go.Proofs.YtgalnnmeamldhaaGreat.past s.l i k)) := by
  obtain ⟨b, o, h1, _, h2⟩ := RdS.bool hr (k := k) (prow_get s.l i (by rw [h.ents.len]; exact hk))
  exact ⟨b, o, h1, h2⟩
end
theorem count_Q {w : World} {A : Option Addr} {n c : Nat} {bs : List Bool} (h : RdS w 1 BoolR A n bs) {q : Nat} (hq : countB bs = q) : QC Tryz.prog 80 #[.slice A n c] (.int .i64 (q : Int)) w :=
  fun w' hu => (count_ok (RdS.fresh h hu)).mono fun e w'' ⟨h1, h2⟩ => ⟨by rw [h1, hq], by subst h2; exact Unch.refl _ _⟩
theorem count_U {w : World} {A : Option Addr} {n c : Nat} {bs : List Bool} (h : RdS w 1 BoolR A n bs) {q : Nat} (hq : countB bs = q) : CallU Tryz.prog 80 #[.slice A n c] (.int .i64 (q : Int)) w :=
  CallU.mk fun w' hu => (count_ok (RdS.fresh h hu)).mono fun e w'' ⟨h1, h2⟩ => ⟨by rw [h1, hq], by subst h2; exact Unch.refl _ _⟩
theorem str_bne {s t : ByteArray} (h : s ≠ t) : (s.toList != t.toList) = true := by rw [bne, str_ne h]; rfl
theorem int_bne {a b : Int} (h : a ≠ b) : (a != b) = true := by rw [bne, beq_eq_false_iff_ne.2 h]; rfl
theorem optI_none : optI none = -1 := rfl
theorem optI_some (i : Nat) : optI (some i) = (i : Int) := rfl
set_option maxRecDepth 100000 in
set_option maxHeartbeats 2000000 in
theorem first_ok {w : World} {p : Pl} {s : Ms} (h : SetOk w p s) (key : ByteArray) :
    Calls Tryz.prog 79 #[setV p s, .string key] w fun e w' => e = .returned (.int .i64 (optI (s.first key))) ∧ Unch none_ w w' := by
  obtain ⟨n, AL, cL, AP, cP, AI, cI⟩ := p
  have hr := h.r
  obtain ⟨b, o, hAL, hb, _, _, xa, _, _⟩ := h.ents.at (h.get hr)
  simp only at hAL hr
  subst hAL
  have n3 := h.n3
  simp only at n3
  have z0 : (0 : Int) ≤ (s.r : Int) := by omega
  have z1 : (s.r : Int) < (n : Int) := by omega
  have hsn : s.n = n := h.n
  have HSN := Lib.hid hsn
  clear hsn
  by_cases hk : key = s.aut s.r
  · have hf : s.first key = some s.r := by unfold Ms.first; rw [if_pos hk]
    rw [hf]
    have hk' : (ent s.l s.r).author = key := hk.symm
    rw [hk'] at xa
    clear hk hk' hf
    unfold setV setC optI
    go_enter Tryz.func79, Tryz.ntmps79
    go_wp2
    go_ret
    exact ⟨rfl, (Unch.refl _ _).alloc _⟩
  · have hf : s.first key = s.firstU key s.n := by unfold Ms.first; rw [if_neg hk]
    rw [hf]
    have hne : (key.toList == (ent s.l s.r).author.toList) = false := str_ne hk
    clear hf hk
    unfold setV setC
    go_enter Tryz.func79, Tryz.ntmps79
    go_wp2
    clear hne xa
    have hu1 : Unch none_ w (w.alloc (Obj.cells #[.slice (some ⟨b, o, none⟩) n cL, .slice AP n cP, .int .i64 (s.r : Int), .slice AI n cI] 46)) := (Unch.refl none_ w).alloc _
    have bS := blk_new w (Obj.cells #[.slice (some ⟨b, o, none⟩) n cL, .slice AP n cP, .int .i64 (s.r : Int), .slice AI n cI] 46)
    generalize hg : w.heap.size = g at *
    clear hg
    generalize w.alloc (Obj.cells #[.slice (some ⟨b, o, none⟩) n cL, .slice AP n cP, .int .i64 (s.r : Int), .slice AI n cI] 46) = w1 at *
    go_loopg [5, 6] n (fun gk v5 i wr => ∃ k : Nat, k ≤ n ∧ gk = n - k ∧ i = .int .i64 (k : Int) ∧ v5 = .int .i64 (optI (s.firstU key k)) ∧ Unch none_ w1 wr)
    case atStart => exact ⟨0, Nat.zero_le _, rfl, rfl, rfl, Unch.refl _ _⟩
    case round =>
      obtain ⟨k, hk, rfl, rfl, rfl, hu⟩ := hrel
      obtain ⟨w2, rfl⟩ : ∃ w2, w2 = wr := ⟨_, rfl⟩
      have bS2 := hu.heap bS (fun h => h)
      have s0 := blk_cell bS2 (j := 0) rfl
      have s1 := blk_cell bS2 (j := 1) rfl
      have s3 := blk_cell bS2 (j := 3) rfl
      have h2 := h.fresh (hu1.trans hu)
      have hss := Ms.firstU_succ (s := s) (key := key) k
      by_cases hkn : k < n
      · obtain ⟨b', o', hA', _, xi, xk, _, _, xb⟩ := h2.ents.at (h2.get hkn)
        simp only at hA'
        obtain ⟨rfl, rfl⟩ : b = b' ∧ o = o' := by injection hA' with h; injection h with h1 h2; exact ⟨h1, h2⟩
        obtain ⟨bi, oi, hAI, yi⟩ := h2.inAt hkn
        simp only at hAI
        subst hAI
        have z2 : (0 : Int) ≤ (k : Int) := by omega
        have z3 : (k : Int) < (n : Int) := by omega
        unfold Ms.stepF Ms.addOf Ms.kind Ms.body at hss
        clear hA'
        cases hin : s.inn k with
        | false =>
          rw [hin] at yi hss
          simp only [Bool.false_and, Bool.false_eq_true, if_false] at hss
          have HSS := Lib.hid hss
          clear hss hin
          go_wp2
          go_roundg (n - (k + 1))
          case measure => omega
          case rel => exact ⟨k + 1, by omega, rfl, by go_num, by rw [HSS.out], hu⟩
        | true =>
          rw [hin] at yi hss
          rw [Bool.true_and] at hss
          by_cases hkd : (ent s.l k).kind = 4
          · rw [hkd] at xk hss
            by_cases hbd : (ent s.l k).body = key
            · rw [hbd] at xb hss
              simp only [decide_true, Bool.and_self, if_true] at hss
              clear hkd hbd hin
              cases hbest : s.firstU key k with
              | none =>
                rw [hbest] at hss
                simp only at hss
                have HSS := Lib.hid hss
                clear hss hbest
                rw [optI_none]
                go_wp2
                refine wp_region_quiet_u (by kernel_rfl) (by kernel_rfl) (fun _ => ?_)
                repeat (go_big_quiet_step (fail))
                refine wpQuiet_nil ?_
                intro wq hw'
                obtain ⟨⟨wqq, huq⟩, hw''⟩ := hw'
                subst hw''
                go_wp2
                go_roundg (n - (k + 1))
                case measure => omega
                case rel => exact ⟨k + 1, by omega, rfl, by go_num, by rw [HSS.out]; rfl, hu.trans huq⟩
              | some x =>
                have hxk := (Ms.firstU_some hbest).1
                rw [hbest] at hss
                simp only at hss
                obtain ⟨bp, op, Ak, ck, hAP, rk, hck, hrdk⟩ := h2.row hkn
                obtain ⟨bp', op', Ax, cx, hAP', rx, hcx, hrdx⟩ := h2.row (k := x) (by simp only; omega)
                simp only at hAP hAP' rk rx hrdk hrdx
                subst hAP
                obtain ⟨rfl, rfl⟩ : bp = bp' ∧ op = op' := by injection hAP' with h; injection h with h1 h2; exact ⟨h1, h2⟩
                obtain ⟨_, _, hA2, _, xi2, _, _, _, _⟩ := h2.ents.at (h2.get (k := x) (by simp only; omega))
                simp only at hA2
                injection hA2 with hA2
                injection hA2 with e1 e2
                subst e1; subst e2
                obtain ⟨ck', hckn⟩ : ∃ q, cnt s.l k = q := ⟨_, rfl⟩
                obtain ⟨cx', hcxn⟩ : ∃ q, cnt s.l x = q := ⟨_, rfl⟩
                have HK := Lib.hid (count_U (c := ck) hrdk hckn)
                have HX := Lib.hid (count_U (c := cx) hrdx hcxn)
                have z4 : (0 : Int) ≤ (x : Int) := by omega
                have z5 : (x : Int) < (n : Int) := by omega
                have z6 : decide ((x : Int) < 0) = false := decide_eq_false (by omega)
                unfold lessE at hss
                rw [hckn, hcxn] at hss
                clear hbest hckn hcxn hAP'
                have s0 := cellU s0
                have s1 := cellU s1
                have rk := cellU rk
                have rx := cellU rx
                have xi := cellU xi
                have xi2 := cellU xi2
                rw [optI_some]
                unfold bl at hss
                go_wp2
                cases hlt : decide (ck' < cx') with
                | true =>
                  rw [hlt, Bool.true_or, if_pos rfl] at hss
                  have HSS := Lib.hid hss
                  clear hss
                  refine wp_region_quiet_u (by kernel_rfl) (by kernel_rfl) (fun _ => ?_)
                  repeat (go_big_quiet_step ((go_at_call 80; first | (with_reducible exact HK.out _) | (with_reducible exact HX.out _))))
                  refine wpQuiet_nil ?_
                  intro wq hw'
                  obtain ⟨⟨wqq, huq⟩, hw''⟩ := hw'
                  subst hw''
                  go_wp2
                  go_roundg (n - (k + 1))
                  case measure => omega
                  case rel => exact ⟨k + 1, by omega, rfl, by go_num, by rw [HSS.out]; rfl, hu.trans huq⟩
                | false =>
                  have hge : ¬ ck' < cx' := by simpa using hlt
                  rw [hlt, Bool.false_or] at hss
                  by_cases heq : ck' = cx'
                  · subst heq
                    rw [decide_eq_true rfl, Bool.true_and] at hss
                    cases hbl : Op.bytesLess (ent s.l k).id.toList (ent s.l x).id.toList with
                    | true =>
                      rw [hbl, if_pos rfl] at hss
                      have HSS := Lib.hid hss
                      clear hss hge
                      refine wp_region_quiet_u (by kernel_rfl) (by kernel_rfl) (fun _ => ?_)
                      repeat (go_big_quiet_step ((go_at_call 80; first | (with_reducible exact HK.out _) | (with_reducible exact HX.out _))))
                      refine wpQuiet_nil ?_
                      intro wq hw'
                      obtain ⟨⟨wqq, huq⟩, hw''⟩ := hw'
                      subst hw''
                      go_wp2
                      go_roundg (n - (k + 1))
                      case measure => omega
                      case rel => exact ⟨k + 1, by omega, rfl, by go_num, by rw [HSS.out]; rfl, hu.trans huq⟩
                    | false =>
                      rw [hbl] at hss
                      simp only [Bool.false_eq_true, if_false] at hss
                      have HSS := Lib.hid hss
                      clear hss hge
                      refine wp_region_quiet_u (by kernel_rfl) (by kernel_rfl) (fun _ => ?_)
                      repeat (go_big_quiet_step ((go_at_call 80; first | (with_reducible exact HK.out _) | (with_reducible exact HX.out _))))
                      refine wpQuiet_nil ?_
                      intro wq hw'
                      obtain ⟨⟨wqq, huq⟩, hw''⟩ := hw'
                      subst hw''
                      go_wp2
                      go_roundg (n - (k + 1))
                      case measure => omega
                      case rel => exact ⟨k + 1, by omega, rfl, by go_num, by rw [HSS.out]; rfl, hu.trans huq⟩
                  · rw [decide_eq_false heq, Bool.false_and] at hss
                    simp only [Bool.false_eq_true, if_false] at hss
                    have heq2 : ((ck' : Int) == (cx' : Int)) = false := by simp; omega
                    have heq3 : decide (ck' = cx') = false := decide_eq_false heq
                    have heq4 : (ck' == cx') = false := by simpa using heq
                    have HSS := Lib.hid hss
                    clear hss heq hge
                    refine wp_region_quiet_u (by kernel_rfl) (by kernel_rfl) (fun _ => ?_)
                    repeat (go_big_quiet_step ((go_at_call 80; first | (with_reducible exact HK.out _) | (with_reducible exact HX.out _))))
                    refine wpQuiet_nil ?_
                    intro wq hw'
                    obtain ⟨⟨wqq, huq⟩, hw''⟩ := hw'
                    subst hw''
                    go_wp2
                    go_roundg (n - (k + 1))
                    case measure => omega
                    case rel => exact ⟨k + 1, by omega, rfl, by go_num, by rw [HSS.out]; rfl, hu.trans huq⟩
            · have hb2 := str_ne hbd
              have hb3 := str_bne hbd
              rw [decide_eq_false hbd, Bool.and_false] at hss
              simp only [Bool.false_eq_true, if_false] at hss
              have HSS := Lib.hid hss
              clear hss hbd hkd hin
              go_wp2
              go_roundg (n - (k + 1))
              case measure => omega
              case rel => exact ⟨k + 1, by omega, rfl, by go_num, by rw [HSS.out], hu⟩
          · have hk2 : ((ent s.l k).kind == 4) = false := by simpa using hkd
            have hk3 := int_bne hkd
            rw [decide_eq_false hkd, Bool.false_and] at hss
            simp only [Bool.false_eq_true, if_false] at hss
            have HSS := Lib.hid hss
            clear hss hkd hin
            go_wp2
            go_roundg (n - (k + 1))
            case measure => omega
            case rel => exact ⟨k + 1, by omega, rfl, by go_num, by rw [HSS.out], hu⟩
      · obtain rfl : k = n := by omega
        have hfin : s.firstU key k = s.firstU key s.n := by rw [HSN.out]
        have HFIN := Lib.hid hfin
        clear hfin hss
        go_wp2
        go_ret
        rw [HFIN.out]
        exact ⟨rfl, hu1.trans hu⟩
end Go.Proofs.YtgalnnmeamldhaaGreat
/- palaverref15: Lower. -/
set_option linter.unusedVariables false
set_option linter.unusedSimpArgs false
namespace Go.Proofs.YtgalnnmeamldhaaGreat
open Go Go.RowKit Go.Proofs.YtgalnnmeamldhaaGreat.Pal

theorem first_U {w : World} {p : Pl} {s : Ms} (h : SetOk w p s) (key : ByteArray) {v : Option Nat} (hv : s.first key = v) : CallU Tryz.prog 79 #[setV p s, .string key] (.int .i64 (optI v)) w :=
  CallU.mk fun w' hu => (first_ok (h.fresh hu) key).mono fun e w'' ⟨h1, h2⟩ => ⟨by rw [h1, hv], h2⟩
theorem Ms.Ok.first_lt {s : Ms} (h : s.Ok) {key : ByteArray} {x : Nat} (hx : s.first key = some x) : x < s.n := by
  unfold Ms.first at hx
  split at hx
  · have := h.r; obtain rfl := Option.some.inj hx; exact this
  · exact (Ms.firstU_some hx).1
theorem nat_ne {a b : Nat} (h : a ≠ b) : ((a : Int) == (b : Int)) = false ∧ (a == b) = false ∧ ((a : Int) != (b : Int)) = true ∧ (a != b) = true := by
  have h1 : (a : Int) ≠ (b : Int) := by omega
  exact ⟨by simpa using h1, by simpa using h, int_bne h1, by simpa using h⟩
/-- What Lower says of the places of two firsts. -/
def lowerOf (s : Ms) : Option Nat → Option Nat → Bool
  | none, none => false
  | some _, none => true
  | none, some _ => false
  | some x, some y => if x = y then false else if x = s.r ∨ y = s.r then decide (x = s.r) else lessE s.l x y
theorem lower_of (s : Ms) (a b : ByteArray) : s.lower a b = lowerOf s (s.first a) (s.first b) := rfl
set_option maxRecDepth 100000 in
set_option maxHeartbeats 2000000 in
theorem lower_ok {w : World} {p : Pl} {s : Ms} (h : SetOk w p s) (a b : ByteArray) :
    Calls Tryz.prog 52 #[setV p s, .string a, .string b] w fun e w' => e = .returned (.bool (s.lower a b)) ∧ Unch none_ w w' := by
  rw [lower_of]
  have hu1 : Unch none_ w (w.alloc (Obj.cells (setC p s) 46)) := (Unch.refl none_ w).alloc _
  have bS := blk_new w (Obj.cells (setC p s) 46)
  have h1 := h.fresh hu1
  obtain ⟨x, hx⟩ : ∃ x, s.first a = x := ⟨_, rfl⟩
  obtain ⟨y, hy⟩ : ∃ y, s.first b = y := ⟨_, rfl⟩
  have HA := Lib.hid (first_U h1 a hx)
  have HB := Lib.hid (first_U h1 b hy)
  have hxl : ∀ k, x = some k → k < p.n := fun k hk => by have := h.ok.first_lt (hx.trans hk); rw [h.n] at this; exact this
  have hyl : ∀ k, y = some k → k < p.n := fun k hk => by have := h.ok.first_lt (hy.trans hk); rw [h.n] at this; exact this
  rw [hx, hy]
  clear hx hy
  obtain ⟨res, hres⟩ : ∃ res, lowerOf s x y = res := ⟨_, rfl⟩
  rw [hres]
  have HR := Lib.hid hres
  clear hres
  obtain ⟨n, AL, cL, AP, cP, AI, cI⟩ := p
  have hr := h.r
  have n3 := h.n3
  simp only at hxl hyl hr n3
  unfold setV setC at *
  go_enter Tryz.func52, Tryz.ntmps52
  go_wp2
  generalize hg : w.heap.size = g at *
  clear hg
  generalize w.alloc (Obj.cells #[.slice AL n cL, .slice AP n cP, .int .i64 (s.r : Int), .slice AI n cI] 46) = w1 at *
  have s0 := cellU (blk_cell bS (j := 0) rfl)
  have s1 := cellU (blk_cell bS (j := 1) rfl)
  have s2 := cellU (blk_cell bS (j := 2) rfl)
  have s3 := cellU (blk_cell bS (j := 3) rfl)
  refine wp_region_quiet_u (by kernel_rfl) (by kernel_rfl) (fun _ => ?_)
  repeat (go_big_quiet_step ((go_at_call 79; first | (with_reducible exact HA.out _) | (with_reducible exact HB.out _))))
  refine wpQuiet_nil ?_
  intro wq hw'
  obtain ⟨⟨wqq, huq⟩, hw''⟩ := hw'
  subst hw''
  clear s0 s1 s2 s3 HA HB
  have bS2 := huq.heap bS (fun h => h)
  have s0 := blk_cell bS2 (j := 0) rfl
  have s1 := blk_cell bS2 (j := 1) rfl
  have s2 := blk_cell bS2 (j := 2) rfl
  have h2 := h1.fresh huq
  have hu2 := hu1.trans huq
  clear bS2 bS
  cases x with
  | none =>
    rw [optI_none]
    cases y with
    | none =>
      rw [optI_none]
      have hr0 := HR.out
      unfold lowerOf at hr0
      subst hr0
      go_wp2
      go_ret
      exact ⟨rfl, hu2⟩
    | some y =>
      rw [optI_some]
      have e1 : ((-1 : Int) == (y : Int)) = false := by simp
      have hr0 := HR.out
      unfold lowerOf at hr0
      subst hr0
      go_wp2
      go_ret
      exact ⟨rfl, hu2⟩
  | some x =>
    rw [optI_some]
    have x0 : decide ((x : Int) < 0) = false := decide_eq_false (by omega)
    have x1 : decide (0 ≤ (x : Int)) = true := decide_eq_true (by omega)
    cases y with
    | none =>
      rw [optI_none]
      have e1 : ((x : Int) == (-1 : Int)) = false := by simp
      have hr0 := HR.out
      unfold lowerOf at hr0
      subst hr0
      go_wp2
      go_ret
      exact ⟨rfl, hu2⟩
    | some y =>
      rw [optI_some]
      have hxl' := hxl x rfl
      have hyl' := hyl y rfl
      clear hxl hyl
      have y0 : decide ((y : Int) < 0) = false := decide_eq_false (by omega)
      have y1 : decide (0 ≤ (y : Int)) = true := decide_eq_true (by omega)
      by_cases hxy : x = y
      · subst hxy
        have hr0 := HR.out
        unfold lowerOf at hr0
        simp only [if_pos] at hr0
        subst hr0
        go_wp2
        go_ret
        exact ⟨rfl, hu2⟩
      · have hr0 := HR.out
        unfold lowerOf at hr0
        simp only at hr0
        rw [if_neg hxy] at hr0
        clear HR
        obtain ⟨e1, e2, e3, e4⟩ := nat_ne hxy
        by_cases hxr : x = s.r
        · rw [if_pos (.inl hxr), decide_eq_true hxr] at hr0
          subst hr0
          subst hxr
          go_wp2
          go_ret
          exact ⟨rfl, hu2⟩
        · obtain ⟨f1, f2, f3, f4⟩ := nat_ne hxr
          by_cases hyr : y = s.r
          · rw [if_pos (.inr hyr), decide_eq_false hxr] at hr0
            subst hr0
            subst hyr
            go_wp2
            go_ret
            exact ⟨rfl, hu2⟩
          · obtain ⟨g1, g2, g3, g4⟩ := nat_ne hyr
            rw [if_neg (by rintro (e | e); exact hxr e; exact hyr e)] at hr0
            obtain ⟨bp, op, Ak, ck, hAP, rk, hck, hrdk⟩ := h2.row (k := x) hxl'
            obtain ⟨bp', op', Ax, cx, hAP', rx, hcx, hrdx⟩ := h2.row (k := y) hyl'
            simp only at hAP hAP' rk rx hrdk hrdx
            subst hAP
            obtain ⟨rfl, rfl⟩ : bp = bp' ∧ op = op' := by injection hAP' with h; injection h with h1 h2; exact ⟨h1, h2⟩
            obtain ⟨bL, ol, hA2, _, xi, _, _, _, _⟩ := h2.ents.at (h2.get (k := x) hxl')
            obtain ⟨bL', ol', hA3, _, xi2, _, _, _, _⟩ := h2.ents.at (h2.get (k := y) hyl')
            simp only at hA2 hA3
            subst hA2
            obtain ⟨rfl, rfl⟩ : bL = bL' ∧ ol = ol' := by injection hA3 with h; injection h with h1 h2; exact ⟨h1, h2⟩
            obtain ⟨nx, hnx⟩ : ∃ q, cnt s.l x = q := ⟨_, rfl⟩
            obtain ⟨ny, hny⟩ : ∃ q, cnt s.l y = q := ⟨_, rfl⟩
            have QX := Lib.hid (count_Q (c := ck) hrdk hnx)
            have QY := Lib.hid (count_Q (c := cx) hrdx hny)
            have HX := Lib.hid QX.out.u
            have HY := Lib.hid QY.out.u
            have zx : (0 : Int) ≤ (x : Int) := by omega
            have zx2 : (x : Int) < (n : Int) := by omega
            have zy : (0 : Int) ≤ (y : Int) := by omega
            have zy2 : (y : Int) < (n : Int) := by omega
            unfold lessE bl at hr0
            rw [hnx, hny] at hr0
            clear hAP' hA3 hnx hny
            have S0 := cellU s0
            have S1 := cellU s1
            have RK := cellU rk
            have RX := cellU rx
            have XI := cellU xi
            have XI2 := cellU xi2
            by_cases heq : nx = ny
            · subst heq
              rw [decide_eq_false (Nat.lt_irrefl nx), Bool.false_or, decide_eq_true rfl, Bool.true_and] at hr0
              have HR0 := Lib.hid hr0
              clear hr0
              go_wp2
              refine wp_region_quiet_u (by kernel_rfl) (by kernel_rfl) (fun _ => ?_)
              repeat (go_big_quiet_step ((go_at_call 80; first | (with_reducible exact HX.out _) | (with_reducible exact HY.out _))))
              refine wpQuiet_nil ?_
              intro wq hw'
              obtain ⟨⟨wqq, huq⟩, hw''⟩ := hw'
              subst hw''
              clear S0 S1 RK RX XI XI2
              have s0 := huq.cell s0 (fun h => h)
              have xi := huq.cell xi (fun h => h)
              have xi2 := huq.cell xi2 (fun h => h)
              have hu3 := hu2.trans huq
              go_wp2
              have S0 := cellU s0
              have XI := cellU xi
              have XI2 := cellU xi2
              have hbl := HR0.out
              refine wp_region_quiet_u (by kernel_rfl) (by kernel_rfl) (fun _ => ?_)
              repeat (go_big_quiet_step (fail))
              refine wpQuiet_nil ?_
              intro wq hw'
              obtain ⟨⟨wqq, huq⟩, hw''⟩ := hw'
              subst hw''
              go_wp2
              go_ret
              exact ⟨rfl, hu3.trans huq⟩
            · rw [decide_eq_false heq, Bool.false_and, Bool.or_false] at hr0
              have HR0 := Lib.hid hr0
              clear hr0
              obtain ⟨i1, i2, i3, i4⟩ := nat_ne heq
              go_wp2
              refine wp_region_quiet_u (by kernel_rfl) (by kernel_rfl) (fun _ => ?_)
              repeat (go_big_quiet_step ((go_at_call 80; first | (with_reducible exact HX.out _) | (with_reducible exact HY.out _))))
              refine wpQuiet_nil ?_
              intro wq hw'
              obtain ⟨⟨wqq, huq⟩, hw''⟩ := hw'
              subst hw''
              clear S0 S1 RK RX XI XI2
              have s1 := huq.cell s1 (fun h => h)
              have rk := huq.cell rk (fun h => h)
              have rx := huq.cell rx (fun h => h)
              have hu3 := hu2.trans huq
              have HX2 := Lib.hid (QX.out.next huq).u
              have HY2 := Lib.hid (QY.out.next huq).u
              clear HX HY
              go_wp2
              have S1 := cellU s1
              have RK := cellU rk
              have RX := cellU rx
              have hlt := HR0.out
              have hlt2 : decide ((nx : Int) < (ny : Int)) = res := by rw [← hlt]; exact decide_eq_decide.2 (by omega)
              refine wp_region_quiet_u (by kernel_rfl) (by kernel_rfl) (fun _ => ?_)
              repeat (go_big_quiet_step ((go_at_call 80; first | (with_reducible exact HX2.out _) | (with_reducible exact HY2.out _))))
              refine wpQuiet_nil ?_
              intro wq hw'
              obtain ⟨⟨wqq, huq⟩, hw''⟩ := hw'
              subst hw''
              go_wp2
              go_ret
              exact ⟨rfl, hu3.trans huq⟩
end Go.Proofs.YtgalnnmeamldhaaGreat
/- palaverref15: Holds, by its author's rank. -/
set_option linter.unusedVariables false
set_option linter.unusedSimpArgs false
namespace Go.Proofs.YtgalnnmeamldhaaGreat
open Go Go.RowKit Go.Proofs.YtgalnnmeamldhaaGreat.Pal

theorem lower_Q {w : World} {p : Pl} {s : Ms} (h : SetOk w p s) (a b : ByteArray) {v : Bool} (hv : s.lower a b = v) : QC Tryz.prog 52 #[setV p s, .string a, .string b] (.bool v) w :=
  fun w' hu => (lower_ok (h.fresh hu) a b).mono fun e w'' ⟨h1, h2⟩ => ⟨by rw [h1, hv], h2⟩
/-- An entry, loaded and kept. -/
theorem SetOk.entry {w : World} {p : Pl} {s : Ms} (h : SetOk w p s) {k : Nat} (hk : k < p.n) : ∃ b o A c, p.AL = some ⟨b, o, none⟩ ∧ (ent s.l k).pv = .slice A (ent s.l k).ps.length c ∧
    w.cell? ⟨b, o + k * 5, none⟩ = some (.string (ent s.l k).id) ∧ w.cell? ⟨b, o + k * 5 + 1, none⟩ = some (.int .i64 (s.kind k)) ∧ w.cell? ⟨b, o + k * 5 + 2, none⟩ = some (.string (s.aut k)) ∧
    w.cell? ⟨b, o + k * 5 + 3, none⟩ = some (.slice A (ent s.l k).ps.length c) ∧ w.cell? ⟨b, o + k * 5 + 4, none⟩ = some (.string (s.body k)) := by
  obtain ⟨b, o, h1, _, x0, x1, x2, x3, x4⟩ := h.ents.at (h.get hk)
  obtain ⟨A, c, hpv, _⟩ := (h.ents.ok _ (List.mem_of_getElem? (h.get hk))).ps
  rw [hpv] at x3
  exact ⟨b, o, A, c, h1, hpv, x0, x1, x2, x3, x4⟩
set_option maxRecDepth 100000 in
set_option maxHeartbeats 4000000 in
theorem holds_step {p : Pl} {s : Ms} (i : Nat) (hi : i < p.n) (hrec : ∀ k, s.strikes k i = true → k < p.n → ∀ w, SetOk w p s → Calls Tryz.prog 78 #[setV p s, .int .i64 (k : Int)] w fun e w' => e = .returned (.bool (s.holds k)) ∧ Unch none_ w w') (w : World) (h : SetOk w p s) :
    Calls Tryz.prog 78 #[setV p s, .int .i64 (i : Int)] w fun e w' => e = .returned (.bool (s.holds i)) ∧ Unch none_ w w' := by
    have hO := h.ok
    have hno : (∀ k, k < p.n → (s.strikes k i && s.holds k) = false) → s.holds i = true := fun hh => by
      rw [hO.holds_eq, h.n, Bool.not_eq_true', List.any_eq_false]
      intro k hk
      rw [hh k (by simpa using hk)]
      decide
    have hyes : ∀ k, k < p.n → s.strikes k i = true → s.holds k = true → s.holds i = false := fun k hk h1 h2 => by
      rw [hO.holds_eq, h.n, Bool.not_eq_false', List.any_eq_true]
      exact ⟨k, by simpa using hk, by rw [h1, h2]; rfl⟩
    obtain ⟨res, hres⟩ : ∃ res, s.holds i = res := ⟨_, rfl⟩
    rw [hres]
    have HRES := Lib.hid hres
    have HREC := Lib.hid hrec
    have HNO := Lib.hid hno
    have HYES := Lib.hid hyes
    clear hres hrec hno hyes hO
    have hu1 : Unch none_ w (w.alloc (Obj.cells (setC p s) 46)) := (Unch.refl none_ w).alloc _
    have bS := blk_new w (Obj.cells (setC p s) 46)
    obtain ⟨n, AL, cL, AP, cP, AI, cI⟩ := p
    have hr := h.r
    have n3 := h.n3
    simp only at hi hr n3
    unfold setV setC at *
    go_enter Tryz.func78, Tryz.ntmps78
    go_wp2
    generalize hg : w.heap.size = g at *
    clear hg
    generalize w.alloc (Obj.cells #[.slice AL n cL, .slice AP n cP, .int .i64 (s.r : Int), .slice AI n cI] 46) = w1 at *
    go_loopg [5] n (fun gk i5 wr => ∃ k : Nat, k ≤ n ∧ gk = n - k ∧ i5 = .int .i64 (k : Int) ∧ Unch none_ w1 wr ∧ ∀ j, j < k → (s.strikes j i && s.holds j) = false)
    case atStart => exact ⟨0, Nat.zero_le _, rfl, rfl, Unch.refl _ _, fun j hj => by omega⟩
    case round =>
      obtain ⟨k, hk, rfl, rfl, hu, hall⟩ := hrel
      obtain ⟨w2, rfl⟩ : ∃ w2, w2 = wr := ⟨_, rfl⟩
      have HALL := Lib.hid hall
      clear hall
      have bS2 := hu.heap bS (fun h => h)
      have s0 := blk_cell bS2 (j := 0) rfl
      have h2 := h.fresh (hu1.trans hu)
      by_cases hkn : k < n
      · have hnext : (s.strikes k i && s.holds k) = false → ∀ j, j < k + 1 → (s.strikes j i && s.holds j) = false := fun hh j hj => by
          rcases Nat.lt_or_ge j k with h1 | h1
          · exact HALL.out j h1
          · obtain rfl : j = k := by omega
            exact hh
        have HNEXT := Lib.hid hnext
        clear hnext
        obtain ⟨b, o, A2, c2, hAL, _, x0, x1, x2, x3, x4⟩ := h2.entry (k := k) hkn
        obtain ⟨b', o', _, _, hAL', _, _, _, ya, _, _⟩ := h2.entry (k := i) hi
        simp only at hAL hAL'
        subst hAL
        obtain ⟨rfl, rfl⟩ : b = b' ∧ o = o' := by injection hAL' with h; injection h with h1 h2; exact ⟨h1, h2⟩
        obtain ⟨bi, oi, hAI, yi⟩ := h2.inAt (k := k) hkn
        obtain ⟨bp, op, Ai, ci, hAP, ri, hci, hrdi⟩ := h2.row (k := i) hi
        obtain ⟨bp', op', Ak, ck, hAP', rk, hck, hrdk⟩ := h2.row (k := k) hkn
        simp only at hAI hAP hAP' ri rk hrdi hrdk
        subst hAI
        subst hAP
        obtain ⟨rfl, rfl⟩ : bp = bp' ∧ op = op' := by injection hAP' with h; injection h with h1 h2; exact ⟨h1, h2⟩
        obtain ⟨bq, oq, rfl, yik⟩ := h2.pastAt hrdi (k := k) hkn
        obtain ⟨br, or, rfl, yki⟩ := h2.pastAt hrdk (k := i) hi
        clear hAL' hAP' hrdi hrdk
        have z0 : (0 : Int) ≤ (k : Int) := by omega
        have z1 : (k : Int) < (n : Int) := by omega
        have z2 : (0 : Int) ≤ (i : Int) := by omega
        have z3 : (i : Int) < (n : Int) := by omega
        go_wp2
        have hu3 : Unch none_ w2 (w2.alloc (.cells #[.string (ent s.l k).id, .int .i64 (s.kind k), .string (s.aut k), .slice A2 (ent s.l k).ps.length c2, .string (s.body k)] 35)) := (Unch.refl none_ w2).alloc _
        have bX := blk_new w2 (.cells #[.string (ent s.l k).id, .int .i64 (s.kind k), .string (s.aut k), .slice A2 (ent s.l k).ps.length c2, .string (s.body k)] 35)
        generalize hgx : w2.heap.size = gx at *
        clear hgx
        generalize w2.alloc (.cells #[.string (ent s.l k).id, .int .i64 (s.kind k), .string (s.aut k), .slice A2 (ent s.l k).ps.length c2, .string (s.body k)] 35) = w3 at *
        have h3 := h2.fresh hu3
        have hl := lower_Q h3 (s.aut k) (s.aut i) (v := s.lower (s.aut k) (s.aut i)) rfl
        have QL := Lib.hid hl
        unfold setV setC at QL
        clear hl
        have f0 := cellU (hu3.cell (blk_cell bS2 (j := 0) rfl) (fun h => h))
        have f1 := cellU (hu3.cell (blk_cell bS2 (j := 1) rfl) (fun h => h))
        have f2 := cellU (hu3.cell (blk_cell bS2 (j := 2) rfl) (fun h => h))
        have f3 := cellU (hu3.cell (blk_cell bS2 (j := 3) rfl) (fun h => h))
        have fi := cellU (hu3.cell yi (fun h => h))
        have fri := cellU (hu3.cell ri (fun h => h))
        have frk := cellU (hu3.cell rk (fun h => h))
        have fik := cellU (hu3.cell yik (fun h => h))
        have fki := cellU (hu3.cell yki (fun h => h))
        have fa := cellU (hu3.cell ya (fun h => h))
        have g1 := cellU (blk_cell bX (j := 1) rfl)
        have g2 := cellU (blk_cell bX (j := 2) rfl)
        have g4 := cellU (blk_cell bX (j := 4) rfl)
        clear s0 x0 x1 x2 x3 x4 ya yi ri rk yik yki bX
        refine wp_region_quiet_u (by kernel_rfl) (by kernel_rfl) (fun _ => ?_)
        by_cases c0 : k = i
        · have HN := Lib.hid (HNEXT.out (by simp [Ms.strikes, c0]))
          subst c0
          repeat (go_big_quiet_step (fail))
          refine wpQuiet_nil ?_
          intro wq hw'
          obtain ⟨⟨wqq, huq⟩, hw''⟩ := hw'
          subst hw''
          clear f0 f1 f2 f3 fi fri frk fik fki fa g1 g2 g4
          go_wp2
          go_roundg (n - (k + 1))
          case measure => omega
          case rel => exact ⟨k + 1, by omega, rfl, by go_num, (hu.trans hu3).trans huq, HN.out⟩
        · obtain ⟨e1, e2, e3, e4⟩ := nat_ne c0
          have C0 := Lib.hid c0
          clear c0
          cases c1 : s.inn k with
          | false =>
            rw [c1] at fi
            have HN := Lib.hid (HNEXT.out (by simp [Ms.strikes, c1]))
            clear c1
            repeat (go_big_quiet_step (fail))
            refine wpQuiet_nil ?_
            intro wq hw'
            obtain ⟨⟨wqq, huq⟩, hw''⟩ := hw'
            subst hw''
            clear f0 f1 f2 f3 fi fri frk fik fki fa g1 g2 g4
            go_wp2
            go_roundg (n - (k + 1))
            case measure => omega
            case rel => exact ⟨k + 1, by omega, rfl, by go_num, (hu.trans hu3).trans huq, HN.out⟩
          | true =>
            rw [c1] at fi
            have C1 := Lib.hid c1
            clear c1
            by_cases c2 : s.kind k = 5
            · rw [c2] at g1
              have C2 := Lib.hid c2
              clear c2
              by_cases c3 : s.body k = s.aut i
              · rw [c3] at g4
                have C3 := Lib.hid c3
                clear c3
                cases c4 : past s.l i k with
                | true =>
                  rw [c4] at fik
                  have HN := Lib.hid (HNEXT.out (by simp [Ms.strikes, c4]))
                  clear c4
                  repeat (go_big_quiet_step (fail))
                  refine wpQuiet_nil ?_
                  intro wq hw'
                  obtain ⟨⟨wqq, huq⟩, hw''⟩ := hw'
                  subst hw''
                  clear f0 f1 f2 f3 fi fri frk fik fki fa g1 g2 g4
                  go_wp2
                  go_roundg (n - (k + 1))
                  case measure => omega
                  case rel => exact ⟨k + 1, by omega, rfl, by go_num, (hu.trans hu3).trans huq, HN.out⟩
                | false =>
                  rw [c4] at fik
                  have C4 := Lib.hid c4
                  clear c4
                  cases c5 : past s.l k i with
                  | true =>
                    rw [c5] at fki
                    have HN := Lib.hid (HNEXT.out (by simp [Ms.strikes, c5]))
                    clear c5
                    repeat (go_big_quiet_step (fail))
                    refine wpQuiet_nil ?_
                    intro wq hw'
                    obtain ⟨⟨wqq, huq⟩, hw''⟩ := hw'
                    subst hw''
                    clear f0 f1 f2 f3 fi fri frk fik fki fa g1 g2 g4
                    go_wp2
                    go_roundg (n - (k + 1))
                    case measure => omega
                    case rel => exact ⟨k + 1, by omega, rfl, by go_num, (hu.trans hu3).trans huq, HN.out⟩
                  | false =>
                    rw [c5] at fki
                    have C5 := Lib.hid c5
                    clear c5
                    have HQ := Lib.hid QL.out.u
                    cases c6 : s.lower (s.aut k) (s.aut i) with
                    | false =>
                      rw [c6] at HQ
                      have HN := Lib.hid (HNEXT.out (by simp [Ms.strikes, c6]))
                      clear c6
                      repeat (go_big_quiet_step ((go_at_call 52; with_reducible exact HQ.out _)))
                      refine wpQuiet_nil ?_
                      intro wq hw'
                      obtain ⟨⟨wqq, huq⟩, hw''⟩ := hw'
                      subst hw''
                      clear f0 f1 f2 f3 fi fri frk fik fki fa g1 g2 g4
                      go_wp2
                      go_roundg (n - (k + 1))
                      case measure => omega
                      case rel => exact ⟨k + 1, by omega, rfl, by go_num, (hu.trans hu3).trans huq, HN.out⟩
                    | true =>
                      rw [c6] at HQ
                      have hst : s.strikes k i = true := by simp [Ms.strikes, C0.out, C1.out, C2.out, C3.out, C4.out, C5.out, c6]
                      have HST := Lib.hid hst
                      clear hst c6
                      repeat (go_big_quiet_step ((go_at_call 52; with_reducible exact HQ.out _)))
                      refine wpQuiet_nil ?_
                      intro wq hw'
                      obtain ⟨⟨wqq, huq⟩, hw''⟩ := hw'
                      subst hw''
                      have bS3 := huq.heap (hu3.heap bS2 (fun h => h)) (fun h => h)
                      clear f0 f1 f2 f3 fi fri frk fik fki fa g1 g2 g4 bS2
                      have s0 := blk_cell bS3 (j := 0) rfl
                      have s1 := blk_cell bS3 (j := 1) rfl
                      have s2 := blk_cell bS3 (j := 2) rfl
                      have s3 := blk_cell bS3 (j := 3) rfl
                      have h4 := h3.fresh huq
                      have HH := Lib.hid (HREC.out k HST.out hkn wq h4)
                      go_wp2_with fail
                      refine HH.out.mono ?_
                      rintro e w5 ⟨rfl, hu5⟩
                      cases hh : s.holds k with
                      | true =>
                        have hr0 := HYES.out k hkn HST.out hh
                        rw [HRES.out] at hr0
                        subst hr0
                        clear hh
                        go_wp2
                        go_ret
                        exact ⟨rfl, (((hu1.trans hu).trans hu3).trans huq).trans hu5⟩
                      | false =>
                        have HN := Lib.hid (HNEXT.out (by rw [hh, Bool.and_false]))
                        clear hh s0 s1 s2 s3
                        go_wp2
                        go_roundg (n - (k + 1))
                        case measure => omega
                        case rel => exact ⟨k + 1, by omega, rfl, by go_num, ((hu.trans hu3).trans huq).trans hu5, HN.out⟩
              · have d1 := str_ne c3
                have d2 := str_bne c3
                have C3 := Lib.hid c3
                clear c3
                have HN := Lib.hid (HNEXT.out (by simp [Ms.strikes, C3.out]))
                clear QL
                repeat (go_big_quiet_step (fail))
                refine wpQuiet_nil ?_
                intro wq hw'
                obtain ⟨⟨wqq, huq⟩, hw''⟩ := hw'
                subst hw''
                clear f0 f1 f2 f3 fi fri frk fik fki fa g1 g2 g4
                go_wp2
                go_roundg (n - (k + 1))
                case measure => omega
                case rel => exact ⟨k + 1, by omega, rfl, by go_num, (hu.trans hu3).trans huq, HN.out⟩
            · have d1 : (s.kind k == 5) = false := by simpa using c2
              have d2 := int_bne c2
              have C2 := Lib.hid c2
              clear c2
              have HN := Lib.hid (HNEXT.out (by simp [Ms.strikes, C2.out]))
              clear QL
              repeat (go_big_quiet_step (fail))
              refine wpQuiet_nil ?_
              intro wq hw'
              obtain ⟨⟨wqq, huq⟩, hw''⟩ := hw'
              subst hw''
              clear f0 f1 f2 f3 fi fri frk fik fki fa g1 g2 g4
              go_wp2
              go_roundg (n - (k + 1))
              case measure => omega
              case rel => exact ⟨k + 1, by omega, rfl, by go_num, (hu.trans hu3).trans huq, HN.out⟩
      · obtain rfl : k = n := by omega
        have hr0 := HNO.out HALL.out
        rw [HRES.out] at hr0
        subst hr0
        go_wp2
        go_ret
        exact ⟨rfl, hu1.trans hu⟩
theorem holds_go {p : Pl} {s : Ms} (hO : s.Ok) (f : Nat) : ∀ i, s.rk (s.aut i) < f → i < p.n → ∀ w, SetOk w p s →
    Calls Tryz.prog 78 #[setV p s, .int .i64 (i : Int)] w fun e w' => e = .returned (.bool (s.holds i)) ∧ Unch none_ w w' := by
  induction f with
  | zero => intro i h; omega
  | succ f ih => exact fun i hrk hi w h => holds_step i hi (fun k hk hkn w hw => ih k (by have := hO.strikes_rk hk; omega) hkn w hw) w h
theorem holds_ok {w : World} {p : Pl} {s : Ms} (h : SetOk w p s) {i : Nat} (hi : i < p.n) :
    Calls Tryz.prog 78 #[setV p s, .int .i64 (i : Int)] w fun e w' => e = .returned (.bool (s.holds i)) ∧ Unch none_ w w' :=
  holds_go h.ok _ i (Nat.lt_succ_self _) hi w h
end Go.Proofs.YtgalnnmeamldhaaGreat
