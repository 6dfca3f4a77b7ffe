/-
  The walk of QueueFair: whose turn it is, and how many of each other one were taken since.
-/
import Derived.Test.YtmffpeblcaalgaaQPlain
import Derived.Test.YtmffpeblcaalgaaQFairPlain
import Derived.Test.YtmffpeblcaalgaaOpen
import Derived.IntWalk
set_option linter.unusedVariables false
set_option linter.unusedSimpArgs false
namespace Go.Proofs.Ytmffpeblcaalgaa
open Go Go.RowKit Go.Proofs.Ytmffpeblcaalgaa.Pal Go.Proofs.Ytmffpeblcaalgaa.Plan

theorem info_int : (Try.prog.info? 3).map (fun i => (i.zero, i.size, i.bytes)) = some (some (.int .i64 0), 1, 8) := by kernel_rfl
theorem info_ints : (Try.prog.info? 26).map (fun i => (i.zero, i.size, i.bytes)) = some (some (.slice none 0 0), 1, 24) := by kernel_rfl
def NumR (x : Nat) (c : List Value) : Prop := c = [.int .u8 (x : Int)] ∧ x < 256
def one (k : Nat) : ByteArray := ⟨#[UInt8.ofNat k]⟩
/-- A row of n numbers. -/
def vec (n : Nat) (f : Nat → Nat) : List Value := (List.range n).map fun a => .int .i64 (f a : Int)
def upd {α : Type} (f : Nat → α) (i : Nat) (x : α) : Nat → α := fun j => if j = i then x else f j
theorem map_set {α β : Type} (n : Nat) (f : Nat → α) (g : α → β) (i : Nat) (hi : i < n) (x : α) : ((List.range n).map fun a => g (f a)).set i (g x) = (List.range n).map fun a => g (upd f i x a) := by
  apply List.ext_getElem?
  intro j
  rw [List.getElem?_set]
  simp only [List.getElem?_map, List.length_map, List.length_range]
  by_cases hj : i = j
  · subst hj
    rw [if_pos rfl, if_pos hi, List.getElem?_range hi]
    simp [upd]
  · rw [if_neg hj]
    rcases Nat.lt_or_ge j n with h | h
    · rw [List.getElem?_range h]; simp [upd, Ne.symm hj]
    · rw [List.getElem?_eq_none (by simpa using h)]; rfl
theorem vec_set (n : Nat) (f : Nat → Nat) (i : Nat) (hi : i < n) (x : Nat) : (vec n f).set i (.int .i64 (x : Int)) = vec n (upd f i x) := map_set n f (fun x => Value.int .i64 (x : Int)) i hi x
theorem vec_get (n : Nat) (f : Nat → Nat) (i : Nat) (hi : i < n) : (vec n f)[i]? = some (.int .i64 (f i : Int)) := by
  simp [vec, List.getElem?_map, List.getElem?_range hi]
theorem vec_len (n : Nat) (f : Nat → Nat) : (vec n f).length = n := by simp [vec]

theorem conv1 (W : World) (q : Nat) (hq : q < 256) : (convert 22 9 (.slice (some ⟨W.heap.size, 0, none⟩) 1 1)).run Try.prog (W.alloc (.cells #[.int .u8 (q : Int)] 5)) = .ok (.string (one q)) (W.alloc (.cells #[.int .u8 (q : Int)] 5)) := by
  have := run_convert_bytes_arg (P := Try.prog) (W.alloc (.cells #[.int .u8 (q : Int)] 5)) 22 5 Try.underlying22 Try.underlying5 W.heap.size 0 1 1 [(q : Int)] rfl
    (fun i hi => by
      obtain rfl : i = 0 := by omega
      exact blk_cell (blk_new W _) rfl) 9 Try.underlying9
  rw [this]
  simp [strOfNums, one]
/-- The blocks of a box hold no numbers, and no rows of numbers. -/
theorem Box.apartTy {B L pl turn : Nat} {vs : List Value} {rows : List (List ByteArray)} {w : World} (h : Box w B L vs pl turn rows) {k : Nat} {cs : Array Value} {e : TypeId} (hk : w.heap[k]? = some (.cells cs e (0, 0))) (he : e = 3 ∨ e = 26) : ¬ foot B L vs k := by
  have key : ∀ (cs' : Array Value) (e' : TypeId), w.heap[k]? = some (.cells cs' e' (0, 0)) → e' = e := fun cs' e' h' => by
    rw [hk] at h'; injection h' with h'; injection h' with _ h'; exact h'.symm
  rintro (rfl | rfl | ⟨v, hv, hkv⟩)
  · rcases he with rfl | rfl <;> exact absurd (key _ _ h.hB) (by decide)
  · rcases he with rfl | rfl <;> exact absurd (key _ _ h.hL) (by decide)
  · obtain ⟨i, hi⟩ := List.getElem?_of_mem hv
    have hil : i < rows.length := by rw [← h.len]; exact (List.getElem?_eq_some_iff.1 hi).1
    obtain ⟨cur, hc⟩ := (h.row i v _ hi (List.getElem?_eq_getElem hil)).blk hkv
    rcases he with rfl | rfl <;> exact absurd (key _ _ hc) (by decide)
/-- Whose bytes are left: of sender a those from f a on. -/
def bts (c f : Nat) : List ByteArray := (List.range' f (c - f)).map one
theorem bts_len (c f : Nat) : (bts c f).length = c - f := by simp [bts]
theorem bts_cons {c f : Nat} (h : f < c) : bts c f = one f :: bts c (f + 1) := by
  unfold bts
  rw [show c - f = (c - (f + 1)) + 1 by omega, List.range'_succ]
  rfl
theorem bts_nil {c f : Nat} (h : c ≤ f) : bts c f = [] := by
  unfold bts
  rw [show c - f = 0 by omega]
  rfl
theorem bts_snoc (c : Nat) : bts (c + 1) 0 = bts c 0 ++ [one c] := by
  simp [bts, List.range'_concat]
def rowsOf (n : Nat) (c f : Nat → Nat) : List (List ByteArray) := (List.range n).map fun a => bts (c a) (f a)
theorem rowsOf_len (n : Nat) (c f : Nat → Nat) : (rowsOf n c f).length = n := by simp [rowsOf]
theorem rowsOf_get (n : Nat) (c f : Nat → Nat) (i : Nat) (hi : i < n) : (rowsOf n c f)[i]? = some (bts (c i) (f i)) := by
  simp [rowsOf, List.getElem?_map, List.getElem?_range hi]
theorem rowsOf_setc (n : Nat) (c f : Nat → Nat) (i : Nat) (hi : i < n) (x : Nat) : (rowsOf n c f).set i (bts x (f i)) = rowsOf n (upd c i x) f := by
  apply List.ext_getElem?
  intro j
  rw [List.getElem?_set]
  by_cases hj : i = j
  · subst hj
    rw [if_pos rfl, if_pos (by rw [rowsOf_len]; exact hi), rowsOf_get _ _ _ _ hi]
    simp [upd]
  · rw [if_neg hj]
    rcases Nat.lt_or_ge j n with h | h
    · rw [rowsOf_get _ _ _ _ h, rowsOf_get _ _ _ _ h]; simp [upd, Ne.symm hj]
    · rw [List.getElem?_eq_none (by rw [rowsOf_len]; exact h), List.getElem?_eq_none (by rw [rowsOf_len]; exact h)]
theorem rowsOf_setf (n : Nat) (c f : Nat → Nat) (i : Nat) (hi : i < n) (x : Nat) : (rowsOf n c f).set i (bts (c i) x) = rowsOf n c (upd f i x) := by
  apply List.ext_getElem?
  intro j
  rw [List.getElem?_set]
  by_cases hj : i = j
  · subst hj
    rw [if_pos rfl, if_pos (by rw [rowsOf_len]; exact hi), rowsOf_get _ _ _ _ hi]
    simp [upd]
  · rw [if_neg hj]
    rcases Nat.lt_or_ge j n with h | h
    · rw [rowsOf_get _ _ _ _ h, rowsOf_get _ _ _ _ h]; simp [upd, Ne.symm hj]
    · rw [List.getElem?_eq_none (by rw [rowsOf_len]; exact h), List.getElem?_eq_none (by rw [rowsOf_len]; exact h)]
theorem rowsOf_zero (n : Nat) : rowsOf n (fun _ => 0) (fun _ => 0) = List.replicate n [] := by
  apply List.ext_getElem?
  intro j
  rcases Nat.lt_or_ge j n with h | h
  · rw [rowsOf_get _ _ _ _ h]; simp [h, bts]
  · rw [List.getElem?_eq_none (by rw [rowsOf_len]; exact h), List.getElem?_eq_none (by simpa using h)]
theorem vec_zero (n : Nat) : vec n (fun _ => 0) = List.replicate n (.int .i64 0) := by
  apply List.ext_getElem?
  intro j
  rcases Nat.lt_or_ge j n with h | h
  · rw [vec_get _ _ _ h]; simp [h]
  · rw [List.getElem?_eq_none (by rw [vec_len]; exact h), List.getElem?_eq_none (by simpa using h)]
def mat (n : Nat) (s : Nat → Nat → Nat) : List (List Value) := (List.range n).map fun a => vec n (s a)
theorem mat_len (n : Nat) (s : Nat → Nat → Nat) : (mat n s).length = n := by simp [mat]
theorem mat_get (n : Nat) (s : Nat → Nat → Nat) (i : Nat) (hi : i < n) : (mat n s)[i]? = some (vec n (s i)) := by
  simp [mat, List.getElem?_map, List.getElem?_range hi]
def upd2 (s : Nat → Nat → Nat) (i j x : Nat) : Nat → Nat → Nat := fun a b => if a = i ∧ b = j then x else s a b
theorem mat_set (n : Nat) (s : Nat → Nat → Nat) (i j : Nat) (hi : i < n) (hj : j < n) (x : Nat) : (mat n s).set i ((vec n (s i)).set j (.int .i64 (x : Int))) = mat n (upd2 s i j x) := by
  rw [vec_set _ _ _ hj]
  apply List.ext_getElem?
  intro a
  rw [List.getElem?_set]
  by_cases ha : i = a
  · subst ha
    rw [if_pos rfl, if_pos (by rw [mat_len]; exact hi), mat_get _ _ _ hi]
    congr 2
    funext b
    simp [upd, upd2]
  · rw [if_neg ha]
    rcases Nat.lt_or_ge a n with h | h
    · rw [mat_get _ _ _ h, mat_get _ _ _ h]
      congr 2
      funext b
      simp [upd2, Ne.symm ha]
    · rw [List.getElem?_eq_none (by rw [mat_len]; exact h), List.getElem?_eq_none (by rw [mat_len]; exact h)]

/-- The first part's memory: the box, and how many each one has left. -/
structure F1 (w0 w : World) (B L : Nat) (vs : List Value) (turn n : Nat) (c f : Nat → Nat) (Lf : Nat) (g : Nat → Nat) : Prop where
  qb : QB w0 w B L vs 64 turn (rowsOf n c f)
  left : w.heap[Lf]? = some (.cells (vec n g).toArray 3 (0, 0))
  lnew : w0.heap.size ≤ Lf
section
variable {w0 w w1 : World} {B L turn t' n Lf : Nat} {vs vs' : List Value} {c c' f f' g : Nat → Nat}
theorem F1.stepBox (h : F1 w0 w B L vs turn n c f Lf g) (hb : Box w1 B L vs' 64 t' (rowsOf n c' f')) (hu : Unch (foot B L vs) w w1) (hf : ∀ k, foot B L vs' k → foot B L vs k ∨ w.heap.size ≤ k) : F1 w0 w1 B L vs' t' n c' f' Lf g :=
  ⟨h.qb.next hb hu hf, hu.heap h.left (h.qb.box.apartTy h.left (.inl rfl)), h.lnew⟩
theorem F1.other {X : Nat → Prop} (h : F1 w0 w B L vs turn n c f Lf g) (hu : Unch X w w1) (h1 : ∀ k, X k → w0.heap.size ≤ k) (h2 : ∀ k, X k → ¬ foot B L vs k ∧ k ≠ Lf) : F1 w0 w1 B L vs turn n c f Lf g :=
  ⟨h.qb.other hu h1 (fun k hk => (h2 k hk).1), hu.heap h.left (fun hx => (h2 _ hx).2 rfl), h.lnew⟩
theorem F1.setLeft (h : F1 w0 w B L vs turn n c f Lf g) (i : Nat) (hi : i < n) (x : Nat) : F1 w0 (w.setCell ⟨Lf, i, none⟩ (.int .i64 (x : Int))) B L vs turn n c f Lf (upd g i x) :=
  ⟨h.qb.other (X := fun k => k = Lf) ((Unch.refl _ _).setCell _ (fun _ => rfl)) (fun k hk => hk ▸ h.lnew) (fun k hk => hk ▸ h.qb.box.apartTy h.left (.inl rfl)), by
    rw [blk_set h.left]; rw [← vec_set n g i hi x]; simp, h.lnew⟩
end
/-- Rows of numbers beside them. -/
structure F2 (w0 w : World) (B L : Nat) (vs : List Value) (turn n : Nat) (c f : Nat → Nat) (Lf : Nat) (g : Nat → Nat) (S : Nat) (us : List Value) (m : List (List Value)) : Prop where
  f1 : F1 w0 w B L vs turn n c f Lf g
  since : Rws w 26 3 S us m
  snew : ∀ k, rfoot S us k → w0.heap.size ≤ k
  sne : ¬ rfoot S us Lf
theorem footTy {w : World} {S : Nat} {us : List Value} {m : List (List Value)} (h : Rws w 26 3 S us m) {k : Nat} (hk : rfoot S us k) : ∃ cs e, w.heap[k]? = some (.cells cs e (0, 0)) ∧ (e = 3 ∨ e = 26) := by
  rcases hk with rfl | ⟨v, hv, hk⟩
  · exact ⟨_, _, h.hL, .inr rfl⟩
  · obtain ⟨i, hi⟩ := List.getElem?_of_mem hv
    have hil : i < m.length := by rw [← h.len]; exact (List.getElem?_eq_some_iff.1 hi).1
    obtain ⟨cur, hc⟩ := (h.row i v _ hi (List.getElem?_eq_getElem hil)).blk hk
    exact ⟨_, _, hc, .inl rfl⟩
section
variable {w0 w w1 : World} {B L turn t' n Lf S : Nat} {vs vs' us us' : List Value} {c c' f f' g g' : Nat → Nat} {m m' : List (List Value)}
theorem F2.apart (h : F2 w0 w B L vs turn n c f Lf g S us m) {k : Nat} (hk : rfoot S us k) : ¬ foot B L vs k := by
  obtain ⟨cs, e, h1, h2⟩ := footTy h.since hk
  exact h.f1.qb.box.apartTy h1 h2
theorem F2.stepBox (h : F2 w0 w B L vs turn n c f Lf g S us m) (hb : Box w1 B L vs' 64 t' (rowsOf n c' f')) (hu : Unch (foot B L vs) w w1) (hf : ∀ k, foot B L vs' k → foot B L vs k ∨ w.heap.size ≤ k) : F2 w0 w1 B L vs' t' n c' f' Lf g S us m :=
  ⟨h.f1.stepBox hb hu hf, h.since.unch hu (fun k hk => h.apart hk), h.snew, h.sne⟩
theorem F2.setLeft (h : F2 w0 w B L vs turn n c f Lf g S us m) (i : Nat) (hi : i < n) (x : Nat) : F2 w0 (w.setCell ⟨Lf, i, none⟩ (.int .i64 (x : Int))) B L vs turn n c f Lf (upd g i x) S us m :=
  ⟨h.f1.setLeft i hi x, h.since.unch (X := fun k => k = Lf) ((Unch.refl _ _).setCell _ (fun _ => rfl)) (fun k hk e => h.sne (e ▸ hk)), h.snew, h.sne⟩
theorem F2.alloc (h : F2 w0 w B L vs turn n c f Lf g S us m) (o : Obj) : F2 w0 (w.alloc o) B L vs turn n c f Lf g S us m :=
  ⟨h.f1.other (X := none_) ((Unch.refl _ _).alloc _) (fun _ h => h.elim) (fun _ h => h.elim), h.since.unch (X := none_) ((Unch.refl _ _).alloc _) (fun _ _ h => h.elim), h.snew, h.sne⟩
theorem F2.setRws (h : F2 w0 w B L vs turn n c f Lf g S us m) (hr : Rws w1 26 3 S us' m') (hu : Unch (rfoot S us) w w1) (hf : ∀ k, rfoot S us' k → rfoot S us k ∨ w.heap.size ≤ k) : F2 w0 w1 B L vs turn n c f Lf g S us' m' :=
  ⟨h.f1.other hu h.snew (fun k hk => ⟨h.apart hk, fun e => h.sne (e ▸ hk)⟩), hr, fun k hk => by
    rcases hf k hk with h1 | h1
    · exact h.snew k h1
    · have := h.f1.qb.unch.size; omega, fun hk => by
    rcases hf _ hk with h1 | h1
    · exact h.sne h1
    · have := lt_of_heap h.f1.left; omega⟩
end
/-- And what is the next one of each. -/
structure F3 (w0 w : World) (B L : Nat) (vs : List Value) (turn n : Nat) (c f : Nat → Nat) (Lf : Nat) (g : Nat → Nat) (S : Nat) (us : List Value) (m : List (List Value)) (Nx : Nat) (x : Nat → Nat) : Prop where
  f2 : F2 w0 w B L vs turn n c f Lf g S us m
  next : w.heap[Nx]? = some (.cells (vec n x).toArray 3 (0, 0))
  xnew : w0.heap.size ≤ Nx
  xne : Nx ≠ Lf
  xns : ¬ rfoot S us Nx
section
variable {w0 w w1 : World} {B L turn t' n Lf S Nx : Nat} {vs vs' us us' : List Value} {c c' f f' g g' x : Nat → Nat} {m m' : List (List Value)}
theorem F3.stepBox (h : F3 w0 w B L vs turn n c f Lf g S us m Nx x) (hb : Box w1 B L vs' 64 t' (rowsOf n c' f')) (hu : Unch (foot B L vs) w w1) (hf : ∀ k, foot B L vs' k → foot B L vs k ∨ w.heap.size ≤ k) : F3 w0 w1 B L vs' t' n c' f' Lf g S us m Nx x :=
  ⟨h.f2.stepBox hb hu hf, hu.heap h.next (h.f2.f1.qb.box.apartTy h.next (.inl rfl)), h.xnew, h.xne, h.xns⟩
theorem F3.setLeft (h : F3 w0 w B L vs turn n c f Lf g S us m Nx x) (i : Nat) (hi : i < n) (y : Nat) : F3 w0 (w.setCell ⟨Lf, i, none⟩ (.int .i64 (y : Int))) B L vs turn n c f Lf (upd g i y) S us m Nx x :=
  ⟨h.f2.setLeft i hi y, blk_set_ne h.next h.xne _ _, h.xnew, h.xne, h.xns⟩
theorem F3.alloc (h : F3 w0 w B L vs turn n c f Lf g S us m Nx x) (o : Obj) : F3 w0 (w.alloc o) B L vs turn n c f Lf g S us m Nx x :=
  ⟨h.f2.alloc o, blk_alloc h.next o, h.xnew, h.xne, h.xns⟩
theorem F3.setNext (h : F3 w0 w B L vs turn n c f Lf g S us m Nx x) (i : Nat) (hi : i < n) (y : Nat) : F3 w0 (w.setCell ⟨Nx, i, none⟩ (.int .i64 (y : Int))) B L vs turn n c f Lf g S us m Nx (upd x i y) :=
  ⟨⟨h.f2.f1.other (X := fun k => k = Nx) ((Unch.refl _ _).setCell _ (fun _ => rfl)) (fun k hk => hk ▸ h.xnew) (fun k hk => hk ▸ ⟨h.f2.f1.qb.box.apartTy h.next (.inl rfl), h.xne⟩),
    h.f2.since.unch (X := fun k => k = Nx) ((Unch.refl _ _).setCell _ (fun _ => rfl)) (fun k hk e => h.xns (e ▸ hk)), h.f2.snew, h.f2.sne⟩, by
    rw [blk_set h.next]; rw [← vec_set n x i hi y]; simp, h.xnew, h.xne, h.xns⟩
/-- A number among the rows of numbers. -/
theorem F3.setSince {s : Nat → Nat → Nat} (h : F3 w0 w B L vs turn n c f Lf g S us (mat n s) Nx x) {i j gg o cc nn : Nat} (hi : i < n) (hj : j < n) (hv : us[i]? = some (.slice (some ⟨gg, o, none⟩) nn cc)) (y : Nat) :
    F3 w0 (w.setCell ⟨gg, o + j, none⟩ (.int .i64 (y : Int))) B L vs turn n c f Lf g S us (mat n (upd2 s i j y)) Nx x := by
  have hp := h.f2.since.put (by decide) hv (mat_get n s i hi) (j := j) (by rw [vec_len]; exact hj) (.int .i64 (y : Int))
  rw [mat_set n s i j hi hj y] at hp
  refine ⟨h.f2.setRws hp.1 hp.2 (fun k hk => .inl hk), hp.2.heap h.next h.xns, h.xnew, h.xne, h.xns⟩
/-- A row of numbers, as its cells stand. -/
theorem F3.cells {s : Nat → Nat → Nat} (h : F3 w0 w B L vs turn n c f Lf g S us (mat n s) Nx x) {i : Nat} (hi : i < n) :
    ∃ gg o cc, us[i]? = some (.slice (some ⟨gg, o, none⟩) n cc) ∧ n ≤ cc ∧ w.cell? ⟨S, i, none⟩ = some (.slice (some ⟨gg, o, none⟩) n cc) ∧ (∀ j, j < n → w.cell? ⟨gg, o + j, none⟩ = some (.int .i64 (s i j : Int))) ∧ ∀ q, w.frozen? ⟨gg, q, none⟩ = false := by
  obtain ⟨A, cc, hv, hlc, hrow, hcell⟩ := h.f2.since.cells (mat_get n s i hi)
  rw [vec_len] at hv hlc hrow hcell
  obtain ⟨gg, o, cap, cur, hA, hb, _, _, _⟩ := hrow.form (by omega)
  injection hA with hA1 _ hA2
  subst hA1; subst hA2
  exact ⟨gg, o, cc, hv, hlc, hcell, fun j hj => hrow.at rfl (vec_get n (s i) j hj), fun q => hrow.free rfl q⟩
end
theorem vecArr (n : Nat) : (vec n (fun _ => 0)).toArray = madeCells #[.int .i64 0] n := by rw [vec_zero, madeCells_one]; simp

def cnt (l : List Nat) (i : Nat) : Nat := l.getD i 0 % 20
/-- What each one has while the box is filled: those ahead of k all, k itself q. -/
def part (l : List Nat) (k q : Nat) : Nat → Nat := fun a => if a < k then cnt l a else if a = k then q else 0

def matP (n k : Nat) : List (List Value) := (List.range n).map fun a => if a < k then vec n (fun _ => 0) else []
theorem matP_get (n k i : Nat) (hi : i < n) : (matP n k)[i]? = some (if i < k then vec n (fun _ => 0) else []) := by
  simp [matP, List.getElem?_map, List.getElem?_range hi]
theorem matP_len (n k : Nat) : (matP n k).length = n := by simp [matP]
theorem matP_set (n k : Nat) (hk : k < n) : (matP n k).set k (vec n (fun _ => 0)) = matP n (k + 1) := by
  apply List.ext_getElem?
  intro j
  rw [List.getElem?_set]
  by_cases hj : k = j
  · subst hj
    rw [if_pos rfl, if_pos (by rw [matP_len]; exact hk), matP_get _ _ _ hk, if_pos (by omega)]
  · rw [if_neg hj]
    rcases Nat.lt_or_ge j n with h | h
    · rw [matP_get _ _ _ h, matP_get _ _ _ h]
      congr 1
      by_cases h1 : j < k
      · rw [if_pos h1, if_pos (by omega)]
      · rw [if_neg h1, if_neg (by omega)]
    · rw [List.getElem?_eq_none (by rw [matP_len]; exact h), List.getElem?_eq_none (by rw [matP_len]; exact h)]
theorem matP_zero (n : Nat) : matP n 0 = List.replicate n [] := by
  apply List.ext_getElem?
  intro j
  rcases Nat.lt_or_ge j n with h | h
  · rw [matP_get _ _ _ h]; simp [h]
  · rw [List.getElem?_eq_none (by rw [matP_len]; exact h), List.getElem?_eq_none (by simpa using h)]
theorem matP_all (n : Nat) : matP n n = mat n (fun _ _ => 0) := by
  apply List.ext_getElem?
  intro j
  rcases Nat.lt_or_ge j n with h | h
  · rw [matP_get _ _ _ h, mat_get _ _ _ h, if_pos h]
  · rw [List.getElem?_eq_none (by rw [matP_len]; exact h), List.getElem?_eq_none (by rw [mat_len]; exact h)]
def FairRel (w wr : World) (B L n Lf S Nx gk : Nat) (C : Nat → Nat) : Prop :=
  ∃ vs turn f s us, F3 w wr B L vs turn n C f Lf (fun a => C a - f a) S us (mat n s) Nx f ∧ turn < n ∧ (∀ a, f a ≤ C a) ∧ Inv n turn C f s ∧ (∀ a b, a < n → b < n → s a b + qlen (rowsOf n C f) ≤ 400) ∧ gk = qlen (rowsOf n C f)
theorem rowsOf_le {n : Nat} {C f : Nat → Nat} {m : Nat} (h : ∀ a, C a ≤ m) : ∀ r ∈ rowsOf n C f, r.length ≤ m := by
  intro r hr
  simp only [rowsOf, List.mem_map] at hr
  obtain ⟨a, _, rfl⟩ := hr
  rw [bts_len]
  have := h a
  omega
theorem part_le (l : List Nat) (n a : Nat) : part l n 0 a ≤ 19 := by
  unfold part cnt
  split
  · omega
  · split <;> omega

set_option maxRecDepth 100000 in
set_option maxHeartbeats 1000000 in
theorem queueFair_core (b o n cap : Nat) (hn0 : 0 < n) (hn : n ≤ 16) (l : List Nat) (w : World) (hl : RdS w 1 NumR (some ⟨b, o, none⟩) n l) (hbw : b < w.heap.size) (hcap : n ≤ cap) :
    Calls Try.prog 3 #[.slice (some ⟨b, o, none⟩) n cap] w (lawPost w) := by
  have hmk := fun W => run_make_row' (P := Try.prog) 26 3 (.int .i64 0) 8 Try.underlying26 info_int rfl .i64 .i64 n (by omega) (by omega) W
  have hmk2 := fun W => run_make_row' (P := Try.prog) 29 26 (.slice none 0 0) 24 Try.underlying29 info_ints rfl .i64 .i64 n (by omega) (by omega) W
  have k1 : ((n : Int) == 0) = false := by simp; omega
  have k2 : ¬ (16 < (n : Int)) := by omega
  go_enter Try.func3, Try.ntmps3
  go_wp2_with fail
  refine (qawake _).mono ?_
  rintro e w1 ⟨rfl, hu1⟩
  go_wp2_with fail
  refine (QB.made hu1 n 64 hn0 hn (by omega) (by omega) _ _ rfl rfl).mono ?_
  rintro e w2 ⟨B, L, vs, rfl, hq⟩
  go_wp2_with fail
  obtain ⟨Lf, hLf⟩ : ∃ Lf, w2.heap.size = Lf := ⟨_, rfl⟩
  rw [hLf]
  have HLf := Lib.hid hLf
  clear hLf
  go_loopg [5] n (fun gk i wr => ∃ k : Nat, ∃ vs, k ≤ n ∧ gk = n - k ∧ i = .int .i64 (k : Int) ∧ F1 w wr B L vs 0 n (part l k 0) (fun _ => 0) Lf (part l k 0))
  case atStart =>
    refine ⟨0, vs, Nat.zero_le _, rfl, rfl, ?_, ?_, ?_⟩
    · have : part l 0 0 = fun _ => 0 := by funext a; simp [part]
      rw [this, rowsOf_zero]
      exact hq.other (X := none_) ((Unch.refl _ _).alloc _) (fun _ h => h.elim) (fun _ h => h.elim)
    · have : part l 0 0 = fun _ => 0 := by funext a; simp [part]
      rw [this, vecArr, ← HLf.out]
      exact blk_new _ _
    · rw [← HLf.out]; exact hq.unch.size
  case round =>
    obtain ⟨k, vs1, hk, rfl, rfl, hF⟩ := hrel
    by_cases hlt : k < n
    · obtain ⟨x, hx⟩ : ∃ x, l[k]? = some x := ⟨_, List.getElem?_eq_getElem (by rw [hl.len]; exact hlt)⟩
      have hxk : x % 20 = cnt l k := by simp [cnt, hx]
      go_wp2_with fail
      go_loopg [6] 20 (fun gk i wr => ∃ q : Nat, ∃ vs, q ≤ x % 20 ∧ gk = 20 - q ∧ i = .int .i64 (q : Int) ∧ F1 w wr B L vs 0 n (part l k q) (fun _ => 0) Lf (part l k q))
      case atStart => exact ⟨0, vs1, Nat.zero_le _, rfl, rfl, hF⟩
      case round =>
        obtain ⟨q, vs2, hq', rfl, rfl, hF2⟩ := hrel
        have hq20 : q < 20 := by omega
        obtain ⟨b', o', c, hA', hb', hc1, ⟨rfl, hx256⟩, hcell⟩ := (hl.unch hF2.qb.unch (fun _ _ h => h) (fun _ _ h => h)).at hx
        obtain ⟨rfl, rfl⟩ : b = b' ∧ o = o' := by injection hA' with h; injection h with h1 h2; exact ⟨h1, h2⟩
        have xc := hcell 0 _ rfl
        rw [Nat.mul_one, Nat.add_zero] at xc
        have HX := Lib.hid hxk
        have HX2 := Lib.hid hx
        have HL := Lib.hid hl
        clear hA' hcell hc1 hx hxk hl
        have lc := blk_cell hF2.left (j := k) (by rw [List.getElem?_toArray, vec_get _ _ _ hlt])
        have hpk : part l k q k = q := by simp [part]
        by_cases hlt2 : q < x % 20
        · have e0 : (q : Int) < (x : Int) % 20 := by omega
          have hcv := conv1 wr q (by omega)
          have hF3 : F1 w (wr.alloc (.cells #[.int .u8 (q : Int)] 5)) B L vs2 0 n (part l k q) (fun _ => 0) Lf (part l k q) :=
            hF2.other (X := none_) ((Unch.refl _ _).alloc _) (fun _ h => h.elim) (fun _ h => h.elim)
          go_wp2_with fail
          refine (put_ok hF3.qb.box (by rw [rowsOf_len]; exact hn) (by omega) k (bts q 0) (by rw [rowsOf_get _ _ _ _ hlt, hpk]) (by rw [bts_len]; omega) (one q)).mono ?_
          rintro e w3 ⟨rfl, vs3, hb3, hu3, hf3⟩
          rw [← bts_snoc, rowsOf_setc n _ (fun _ => 0) k hlt] at hb3
          have hF4 := hF3.stepBox hb3 hu3 hf3
          have lc3 := blk_cell hF4.left (j := k) (by rw [List.getElem?_toArray, vec_get _ _ _ hlt, hpk])
          have lf3 : w3.frozen? ⟨Lf, k, none⟩ = false := blk_free hF4.left k
          have hup : upd (part l k q) k (q + 1) = part l k (q + 1) := by
            funext a; simp only [upd, part]; split <;> split <;> simp_all
          have hF5 := hF4.setLeft k hlt (q + 1)
          rw [hup] at hF5
          have Hp := Lib.hid hpk
          have Hup := Lib.hid hup
          clear hpk hup hcv lc xc
          go_wp2_with fail
          go_roundg (20 - (q + 1))
          case measure => omega
          case rel => exact ⟨q + 1, vs3, by omega, rfl, by go_num, hF5⟩
        · have e0 : ¬ (q : Int) < (x : Int) % 20 := by omega
          obtain rfl : q = x % 20 := by omega
          clear hpk lc
          go_wp2_with fail
          go_roundg (n - (k + 1))
          case measure => omega
          case rel =>
            have hpp : part l k (x % 20) = part l (k + 1) 0 := by
              funext a
              simp only [part]
              rcases Nat.lt_trichotomy a k with h | h | h
              · rw [if_pos h, if_pos (by omega)]
              · subst h; rw [if_neg (by omega), if_pos rfl, if_pos (by omega), HX.out]
              · rw [if_neg (by omega), if_neg (by omega), if_neg (by omega)]; split <;> rfl
            exact ⟨k + 1, vs2, by omega, rfl, by go_num, by rw [← hpp]; exact hF2⟩
    · obtain rfl : n = k := by omega
      clear hl
      obtain ⟨C, HC⟩ : ∃ C, Hid (C = part l n 0) := ⟨_, rfl⟩
      rw [← HC.out] at hF
      have hC : ∀ a, C a ≤ 19 := fun a => by rw [HC.out]; exact part_le l n a
      go_wp2_with fail
      obtain ⟨S, hS⟩ : ∃ S, wr.heap.size = S := ⟨_, rfl⟩
      rw [hS]
      have hF2 : F2 w (wr.alloc (.cells (madeCells #[.slice none 0 0] n) 26)) B L vs1 0 n C (fun _ => 0) Lf C S (List.replicate n (.slice none 0 0)) (matP n 0) := by
        refine ⟨hF.other (X := none_) ((Unch.refl _ _).alloc _) (fun _ h => h.elim) (fun _ h => h.elim), ?_, fun k hk => ?_, fun hk => ?_⟩
        · rw [matP_zero, ← hS]; exact Rws.made wr 26 3 n
        · rw [rfoot_made hk, ← hS]; exact hF.qb.unch.size
        · have := rfoot_made hk; have := lt_of_heap hF.left; omega
      have HS2 := Lib.hid hS
      clear hS
      go_loopg [8] n (fun gk i wr => ∃ k : Nat, ∃ us, k ≤ n ∧ gk = n - k ∧ i = .int .i64 (k : Int) ∧ F2 w wr B L vs1 0 n C (fun _ => 0) Lf C S us (matP n k))
      case atStart => exact ⟨0, _, Nat.zero_le _, rfl, rfl, hF2⟩
      case round =>
        obtain ⟨k, us, hk, rfl, rfl, hF3⟩ := hrel
        by_cases hlt : k < n
        · obtain ⟨A3, c3, hv3, _, _, hcell3⟩ := hF3.since.cells (i := k) (r := []) (by rw [matP_get _ _ _ hlt, if_neg (by omega)])
          have hfz : wr.frozen? ⟨S, k, none⟩ = false := blk_free hF3.since.hL k
          have hSl := lt_of_heap hF3.since.hL
          have hst := hF3.since.set (w1 := wr.alloc (.cells (madeCells #[.int .i64 0] n) 3)) (v' := .slice (some ⟨wr.heap.size, 0, none⟩) n n) (r' := vec n (fun _ => 0)) (by decide) hv3
            (by rw [vec_len, vec_zero]; exact Row.made wr 3 n (.int .i64 0) (by simp only [maxLen]; omega)) ((Unch.refl _ _).alloc _) (fun k hk => .inr (by simp [Value.ownBlock] at hk; omega))
          have hF4 := hF3.setRws hst.1 hst.2.1 hst.2.2
          rw [matP_set _ _ hlt, World.setCell_alloc_past _ _ _ _ hSl] at hF4
          have HF4 := Lib.hid hF4
          clear hst hF4 hv3
          go_wp2_with fail
          go_roundg (n - (k + 1))
          case measure => omega
          case rel => exact ⟨k + 1, _, by omega, rfl, by go_num, HF4.out⟩
        · obtain rfl : n = k := by omega
          go_wp2_with fail
          obtain ⟨Nx, hN⟩ : ∃ Nx, wr.heap.size = Nx := ⟨_, rfl⟩
          rw [hN]
          have hF4 : F3 w (wr.alloc (.cells (madeCells #[.int .i64 0] n) 3)) B L vs1 0 n C (fun _ => 0) Lf C S us (mat n (fun _ _ => 0)) Nx (fun _ => 0) := by
            rw [← matP_all]
            refine ⟨hF3.alloc _, by rw [vecArr, ← hN]; exact blk_new _ _, by rw [← hN]; exact hF3.f1.qb.unch.size, fun e => ?_, fun hk => ?_⟩
            · have := lt_of_heap hF3.f1.left; omega
            · have := hF3.since.lt hk; omega
          have hq0 : qlen (rowsOf n C (fun _ => 0)) ≤ 304 := by
            have h1 := qlen_le (rowsOf n C (fun _ => 0)) 19 (rowsOf_le hC)
            rw [rowsOf_len] at h1
            have : n * 19 ≤ 16 * 19 := Nat.mul_le_mul_right _ hn
            omega
          have HN := Lib.hid hN
          clear hN
          go_loopg [] (qlen (rowsOf n C (fun _ => 0))) (fun gk wr => FairRel w wr B L n Lf S Nx gk C)
          case atStart => exact ⟨vs1, 0, _, _, us, by simpa using hF4, hn0, fun a => Nat.zero_le _, fun i j _ _ _ _ => ⟨Nat.zero_le _, fun h => by cases h⟩, fun a b _ _ => by omega, rfl⟩
          case round =>
            obtain ⟨vs2, turn, f, s, us2, hG, ht, hfC, hInv, hsum, rfl⟩ := hrel
            have hr64 : ∀ r ∈ rowsOf n C f, r.length ≤ 64 := fun r hr => Nat.le_trans (rowsOf_le hC r hr) (by omega)
            by_cases hz : qlen (rowsOf n C f) = 0
            · have hz0 : ¬ (0 : Int) < (qlen (rowsOf n C f) : Int) := by omega
              have hall : ∀ a, a < n → C a - f a = 0 := fun a ha => by
                have := qlen_zero hz _ (List.mem_of_getElem? (rowsOf_get n C f a ha))
                have h2 := bts_len (C a) (f a)
                rw [this] at h2
                simpa using h2.symm
              have HZ := Lib.hid hz
              have HA := Lib.hid hall
              clear hz hall
              go_wp2_with fail
              refine (hG.f2.f1.qb.len (by rw [rowsOf_len]; exact hn) hr64 _ rfl).mono ?_
              rintro e w5 ⟨rfl, rfl⟩
              go_wp2_with fail
              go_loopg [14] n (fun gk i w6 => ∃ k : Nat, k ≤ n ∧ gk = n - k ∧ i = .int .i64 (k : Int) ∧ wr = w6)
              case atStart => exact ⟨0, Nat.zero_le _, rfl, rfl, rfl⟩
              case round =>
                obtain ⟨k, hk, rfl, rfl, rfl⟩ := hrel
                by_cases hlt : k < n
                · have lc := blk_cell hG.f2.f1.left (j := k) (by rw [List.getElem?_toArray, vec_get _ _ _ hlt, HA.out k hlt])
                  go_wp2_with fail
                  go_roundg (n - (k + 1))
                  case measure => omega
                  case rel => exact ⟨k + 1, by omega, rfl, by go_num, rfl⟩
                · obtain rfl : n = k := by omega
                  go_wp2_with fail
                  go_ret
                  exact ⟨rfl, hG.f2.f1.qb.unch⟩
            · have hz0 : (0 : Int) < (qlen (rowsOf n C f) : Int) := by omega
              obtain ⟨i, fr, t, r, hi, hfe, hfn, hrf, hmin⟩ := exists_first (rowsOf n C f) turn n (rowsOf_len n C f) ht (qlen_pos (by omega))
              rw [rowsOf_get _ _ _ _ hfn] at hrf
              have hlt : f fr < C fr := by
                refine Nat.lt_of_not_le fun h => ?_
                rw [bts_nil h] at hrf
                cases hrf
              rw [bts_cons hlt] at hrf
              injection hrf with hrf
              injection hrf with h1 h2
              subst h1; subst h2
              have hm2 : ∀ j, j < i → ¬ f ((turn + j) % n) < C ((turn + j) % n) := fun j hj h => by
                have h3 := hmin j hj
                rw [rowsOf_get _ _ _ _ (Nat.mod_lt _ hn0), bts_cons h] at h3
                cases h3
              have Hs0 : ∀ a, a < n → a ≠ fr → f a < C a → s a fr = 0 := fun a ha hne hfa => inv_first hInv ht hi hfe hm2 ha hne hfa
              have Hnext : Inv n ((fr + 1) % n) C (upd f fr (f fr + 1)) (stp s fr n) := inv_next hInv ht hi hfe hm2 (fun a ha => by simp [upd, ha])
              have hqs := qlen_set (rowsOf_get n C f fr hfn) (bts (C fr) (f fr + 1))
              rw [rowsOf_setf n C f fr hfn, bts_len, bts_len] at hqs
              have HQ : Hid (qlen (rowsOf n C (upd f fr (f fr + 1))) + 1 = qlen (rowsOf n C f)) := by unfold Hid; omega
              have HE := Lib.hid hfe
              have HM := Lib.hid hmin
              have HS0 := Lib.hid Hs0
              have HNX := Lib.hid Hnext
              have HSM := Lib.hid hsum
              have HFC := Lib.hid hfC
              have hC19 := hC fr
              clear hz hfe hmin hqs hm2 Hs0 Hnext hInv hsum hfC
              go_wp2_with fail
              refine (hG.f2.f1.qb.len (by rw [rowsOf_len]; exact hn) hr64 _ rfl).mono ?_
              rintro e w5 ⟨rfl, rfl⟩
              go_wp2_with fail
              refine (take_some hG.f2.f1.qb.box (by rw [rowsOf_len]; exact hn) (by rw [rowsOf_len]; exact hn0) (by rw [rowsOf_len]; exact ht) i fr (one (f fr)) (bts (C fr) (f fr + 1)) (by rw [rowsOf_len]; exact hi) (by rw [rowsOf_len]; exact HE.out) (by rw [rowsOf_len]; exact HM.out) (by rw [rowsOf_get _ _ _ _ hfn, bts_cons hlt])).mono ?_
              rintro e w5 ⟨rfl, vs3, hb3, hu3, hf3⟩
              rw [rowsOf_setf n C f fr hfn, rowsOf_len] at hb3
              have hG1 := hG.stepBox hb3 hu3 hf3
              have nx := blk_cell hG1.next (j := fr) (by rw [List.getElem?_toArray, vec_get _ _ _ hfn])
              have hcv := conv1 w5 (f fr) (by omega)
              have z0 : (0 : Int) ≤ (fr : Int) := by omega
              have z1 : (fr : Int) < (n : Int) := by omega
              have z0' : ¬ (fr : Int) < 0 := by omega
              have z1' : ¬ n ≤ fr := by omega
              have z2 : (f fr : Int) ≤ 19 := by omega
              have z3 : (f fr : Int) % 256 = (f fr : Int) := by omega
              have z4 : IntKind.u8.wrap (f fr : Int) = (f fr : Int) := by simp [IntKind.wrap, IntKind.signed, IntKind.bits]; omega
              have nl := blk_cell hG1.f2.f1.left (j := fr) (by rw [List.getElem?_toArray, vec_get _ _ _ hfn])
              have e1 : ((C fr - f fr : Nat) : Int) - 1 = ((C fr - (f fr + 1) : Nat) : Int) := by omega
              have b1 : ((C fr - f fr : Nat) : Int) ≤ 19 := by omega
              have hNl := lt_of_heap hG1.next
              have hLl := lt_of_heap hG1.f2.f1.left
              have hNL := hG1.xne
              have nfx : w5.frozen? ⟨Nx, fr, none⟩ = false := blk_free hG1.next fr
              have nfl : w5.frozen? ⟨Lf, fr, none⟩ = false := blk_free hG1.f2.f1.left fr
              have hG2 := ((hG1.setNext fr hfn (f fr + 1)).setLeft fr hfn (C fr - (f fr + 1))).alloc (.cells #[.int .u8 (f fr : Int)] 5)
              rw [show ((f fr + 1 : Nat) : Int) = (f fr : Int) + 1 by simp] at hG2
              obtain ⟨f', Hf'⟩ : ∃ f', Hid (f' = upd f fr (f fr + 1)) := ⟨_, rfl⟩
              have hg' : upd (fun a => C a - f a) fr (C fr - (f fr + 1)) = fun a => C a - f' a := by
                funext a
                rw [Hf'.out]
                simp only [upd]
                split
                · rename_i h; rw [h]
                · rfl
              rw [hg', ← Hf'.out] at hG2
              have hf'k : ∀ a, a ≠ fr → f' a = f a := fun a ha => by rw [Hf'.out]; simp [upd, ha]
              have HFK := Lib.hid hf'k
              have HG2 := Lib.hid hG2
              clear hG2 hG1 hf'k hg'
              go_wp2_with fail
              clear hcv nx nl e1
              go_loopg [13] n (fun gk i w6 => ∃ k : Nat, k ≤ n ∧ gk = n - k ∧ i = .int .i64 (k : Int) ∧ F3 w w6 B L vs3 ((fr + 1) % n) n C f' Lf (fun a => C a - f' a) S us2 (mat n (stp s fr k)) Nx f')
              case atStart =>
                have h0 : stp s fr 0 = s := by funext a b; simp [stp]
                exact ⟨0, Nat.zero_le _, rfl, rfl, by rw [h0]; exact HG2.out⟩
              case round =>
                obtain ⟨k, hk, rfl, rfl, hH⟩ := hrel
                by_cases hkn : k < n
                · obtain ⟨gg, og, cg, hv1, hcg, hS1, hrow1, hfr1⟩ := hH.cells hkn
                  obtain ⟨g2, o2, c2, hv2, hc2, hS2, hrow2, hfr2⟩ := hH.cells hfn
                  have r1 := hrow1 fr hfn
                  have r2 := hrow2 k hkn
                  have z5 := hfr1 (og + fr)
                  have z6 := hfr2 (o2 + k)
                  have lk := blk_cell hH.f2.f1.left (j := k) (by rw [List.getElem?_toArray, vec_get _ _ _ hkn])
                  have ngS : gg ≠ S := hH.f2.since.rowne (by decide) hv1 rfl
                  have ngS2 : g2 ≠ S := hH.f2.since.rowne (by decide) hv2 rfl
                  have ngL : gg ≠ Lf := fun e => hH.f2.sne (e ▸ .inr ⟨_, List.mem_of_getElem? hv1, rfl⟩)
                  have z7 : (0 : Int) ≤ (k : Int) := by omega
                  have z8 : (k : Int) < (n : Int) := by omega
                  obtain ⟨y, Hy⟩ : ∃ y, Hid (stp s fr k k fr = y) := ⟨_, rfl⟩
                  rw [Hy.out] at r1
                  have hfin := (hH.setSince hkn hfn hv1 (y + 1)).setSince hfn hkn hv2 0
                  rw [show upd2 (upd2 (stp s fr k) k fr (y + 1)) fr k 0 = stp s fr (k + 1) by
                    funext a b
                    rw [← stp_step, Hy.out]
                    rfl] at hfin
                  rw [show ((y + 1 : Nat) : Int) = (y : Int) + 1 by simp, show ((0 : Nat) : Int) = 0 from rfl] at hfin
                  have hy400 : (y : Int) ≤ 400 := by
                    have h1 := HSM.out k fr hkn hfn
                    have h2 : stp s fr k k fr = s k fr := by simp [stp]; intro h1 h2; omega
                    have := Hy.out
                    omega
                  have Hfin := Lib.hid hfin
                  have Hv := Lib.hid hv1
                  have Hv2 := Lib.hid hv2
                  clear hfin hrow1 hrow2 hfr1 hfr2
                  by_cases hkf : k = fr
                  · have hvv := Hv2.out
                    rw [← hkf, Hv.out] at hvv
                    injection hvv with hvv
                    injection hvv with h1 _ h2
                    injection h1 with h1
                    injection h1 with h1 h3
                    subst h1; subst h2; subst h3
                    have hkf' : ((k : Int) != (fr : Int)) = false := by rw [hkf]; simp
                    have hoo : og + fr = og + k := by rw [hkf]
                    rw [hoo] at r1 z5
                    have Hfin2 := Hfin.out
                    rw [hoo] at Hfin2
                    have Hfin3 := Lib.hid Hfin2
                    clear r2 z6 hv1 hv2 hkf Hfin2
                    go_wp2_with fail
                    go_roundg (n - (k + 1))
                    case measure => omega
                    case rel => exact ⟨k + 1, by omega, rfl, by go_num, Hfin3.out⟩
                  · have hgg : gg ≠ g2 := fun e => hkf (hH.f2.since.apart k fr _ _ gg Hv.out Hv2.out rfl (by rw [e]; rfl))
                    have hkf' : ((k : Int) != (fr : Int)) = true := by rw [bne_iff_ne]; omega
                    clear hv1 hv2
                    by_cases hlv : C k - f' k = 0
                    · rw [hlv] at lk
                      clear hlv
                      go_wp2_with fail
                      go_roundg (n - (k + 1))
                      case measure => omega
                      case rel => exact ⟨k + 1, by omega, rfl, by go_num, Hfin.out⟩
                    · have hy0 : y = 0 := by
                        have h1 := HS0.out k hkn hkf (by rw [HFK.out k hkf] at hlv; omega)
                        have h2 : stp s fr k k fr = s k fr := by simp [stp]; intro h1 h2; omega
                        rw [← Hy.out, h2, h1]
                      subst hy0
                      have hlv1 : (0 : Int) < ((C k - f' k : Nat) : Int) := by omega
                      have hlv2 : decide (0 < C k - f' k) = true := by simp; omega
                      clear hlv
                      go_wp2_with fail
                      go_roundg (n - (k + 1))
                      case measure => omega
                      case rel => exact ⟨k + 1, by omega, rfl, by go_num, Hfin.out⟩
                · obtain rfl : n = k := by omega
                  go_wp2_with fail
                  go_roundg (qlen (rowsOf n C f'))
                  case measure => have := HQ.out; rw [← Hf'.out] at this; omega
                  case rel =>
                    refine ⟨vs3, (fr + 1) % n, f', stp s fr n, us2, hH, Nat.mod_lt _ hn0, fun a => ?_, by rw [Hf'.out]; exact HNX.out, fun a b ha hb => ?_, rfl⟩
                    · by_cases ha : a = fr
                      · subst ha; rw [Hf'.out]; simp [upd]; omega
                      · rw [HFK.out a ha]; exact HFC.out a
                    · have h1 := HSM.out a b ha hb
                      have h2 := HQ.out
                      rw [← Hf'.out] at h2
                      have h3 := HSM.out a fr ha hfn
                      simp only [stp]
                      split
                      · have h4 := HSM.out a b ha hb; omega
                      · split <;> omega
set_option maxRecDepth 100000 in
set_option maxHeartbeats 1000000 in
theorem queueFair_none (A : Option Addr) (cap : Nat) (w : World) :
    Calls Try.prog 3 #[.slice A 0 cap] w (lawPost w) := by
  go_enter Try.func3, Try.ntmps3
  go_wp2_with fail
  refine (qawake _).mono ?_
  rintro e w1 ⟨rfl, hu1⟩
  go_wp2
  go_ret
  exact ⟨rfl, hu1⟩
set_option maxRecDepth 100000 in
set_option maxHeartbeats 1000000 in
theorem queueFair_long (A : Option Addr) (len cap : Nat) (h : 16 < len) (w : World) :
    Calls Try.prog 3 #[.slice A len cap] w (lawPost w) := by
  have k1 : ((len : Int) == 0) = false := by simp; omega
  have k2 : (16 : Int) < (len : Int) := by omega
  go_enter Try.func3, Try.ntmps3
  go_wp2_with fail
  refine (qawake _).mono ?_
  rintro e w1 ⟨rfl, hu1⟩
  go_wp2
  go_ret
  exact ⟨rfl, hu1⟩
theorem queueFair_walk (A : Option Addr) (len cap : Nat) (l : List Nat) (w : World) (hl : RdS w 1 NumR A len l) (hcap : len ≤ cap) :
    Calls Try.prog 3 #[.slice A len cap] w (lawPost w) := by
  rcases Nat.eq_zero_or_pos len with h0 | h0
  · subst h0; exact queueFair_none A cap w
  · by_cases h1 : 16 < len
    · exact queueFair_long A len cap h1 w
    · obtain ⟨b, o, rfl, hb, _⟩ := hl.get h0
      exact queueFair_core b o len cap h0 (by omega) l w hl hb hcap
theorem open_num {H : Type} {enc : TypeId × Value → H} {w : World} {base : Nat} {spare : Nat → Bool} {held : Bool} (fuel : Nat) (cs : List Value) (y : DataW H × List MemPlace)
    (h : DataW.trod enc Try.prog w base spare held fuel 5 cs = some y) : ∃ z : Nat, NumR z cs := by
  obtain ⟨m, rfl, _, g⟩ := DataW.trod_int Try.underlying5 h
  obtain ⟨h0, h1⟩ := u8_wf g
  exact ⟨m.toNat, by rw [show ((m.toNat : Nat) : Int) = m by omega], by omega⟩
end Go.Proofs.Ytmffpeblcaalgaa
