/-
  Words for worlds: what may have turned (Unch), rows that begin anywhere in their block (Row), what is appended to them.
  Rows of rows: a row of slices, each with a row of its own.
  append once more, told that what stood there is still there; a plan over a condition of one's own.
  Rows that are cut, closed up and cleared where they stand (slices.Delete, slices.DeleteFunc).
  A region that draws its order, whose effects may come in any order too: what only reads is taken ahead; of the rest (the tail) an invariant tells what is so when which have come up.
  What a slice that comes in holds, read as a list.
  A region that draws its order and only reads, whose callees may lay blocks: walked once, in whatever world in which all old blocks are as they were.
  A map keyed by strings, as a list of its entries in the order in which they were laid: made, looked up, stored into, counted, ranged over.
-/
import Derived.Test.YtgcpoppinnnciaaGreatDoorCPlan
import Derived.WalkKit
import Derived.ArgAppend
import Derived.Maps.AppendAt
import Derived.Deep.AppendLies
import Derived.Lib.Hide
import Derived.KernelRfl
import Derived.Deep.LoopGhost
import Derived.ChangeArms
import Derived.ChangeSlices
import Derived.DataReads
import Derived.Deep.QuietTactic
import Derived.Maps.OwnSet
import Derived.Maps.RangeRun
import Derived.Maps.RangeWalk
import Derived.StringKeys
/- Words for worlds: what may have turned (Unch), rows that begin anywhere in their block (Row), what is appended to them. -/
set_option linter.unusedVariables false
set_option linter.unusedSimpArgs false
namespace Go.Proofs.YtgcpoppinnnciaaGreatDoor.Pal
open Go Go.RowKit

/-! ### What may have turned -/
/-- But for the blocks in X all that was there is as it was. -/
structure Unch (X : Nat → Prop) (w w' : World) : Prop where
  os : w'.os = w.os
  tape : w'.tape = w.tape
  output : w'.output = w.output
  size : w.heap.size ≤ w'.heap.size
  block : ∀ k, k < w.heap.size → ¬ X k → w'.heap[k]? = w.heap[k]?
def none_ : Nat → Prop := fun _ => False
section
variable {X Y Z : Nat → Prop} {w w1 w2 : World}
theorem Unch.refl (X : Nat → Prop) (w : World) : Unch X w w := ⟨rfl, rfl, rfl, Nat.le_refl _, fun _ _ _ => rfl⟩
theorem Unch.mono (h : Unch X w w1) (hXY : ∀ k, k < w.heap.size → X k → Y k) : Unch Y w w1 := ⟨h.os, h.tape, h.output, h.size, fun k hk hY => h.block k hk (fun hX => hY (hXY k hk hX))⟩
theorem Unch.step (h : Unch X w w1) (k : Unch Y w1 w2) (hY : ∀ i, i < w.heap.size → Y i → X i) : Unch X w w2 :=
  ⟨k.os.trans h.os, k.tape.trans h.tape, k.output.trans h.output, Nat.le_trans h.size k.size, fun i hi hX => (k.block i (Nat.lt_of_lt_of_le hi h.size) (fun hy => hX (hY i hi hy))).trans (h.block i hi hX)⟩
theorem Unch.trans (h : Unch X w w1) (k : Unch X w1 w2) : Unch X w w2 := h.step k fun _ _ h => h
theorem Unch.drew (h : Unch X w w1) : Unch X w w1.drew := ⟨h.os, h.tape, h.output, h.size, h.block⟩
theorem Unch.drewN (h : Unch X w w1) (n : Nat) : Unch X w (w1.drewN n) := ⟨h.os, h.tape, h.output, h.size, h.block⟩
theorem Unch.alloc (h : Unch X w w1) (o : Obj) : Unch X w (w1.alloc o) := h.step (Y := none_) ⟨rfl, rfl, rfl, by simp, fun k hk _ => Below.heap_alloc w1 o k hk⟩ (fun _ _ h => h.elim)
theorem Unch.setCell (h : Unch X w w1) {p : Addr} (u : Value) (hp : p.block < w.heap.size → X p.block) : Unch X w (w1.setCell p u) :=
  h.step (Y := fun k => k = p.block) ⟨rfl, rfl, rfl, by simp [World.setCell], fun k _ hk => Below.heap_setCell _ _ _ _ hk⟩ (fun i hi e => by subst e; exact hp hi)
theorem Unch.grown (h : Unch X w w1) {row : Option Nat} (hg : w1.grownBy w2 row) (hr : ∀ k, k < w.heap.size → row = some k → X k) : Unch X w w2 :=
  h.step (Y := fun k => row = some k) ⟨hg.os, hg.tape, hg.output, hg.size, fun k hk hne => hg.block k hk (fun e => hne e.symm)⟩ (fun i hi e => hr i hi e)
theorem Unch.below (h : Unch X w w1) (hX : ∀ k, k < w.heap.size → ¬ X k) : Below w.heap.size w w1 := ⟨h.os, h.tape, h.output, h.size, fun k hk => h.block k hk (hX k hk)⟩
theorem Unch.ofBelow (h : Below w.heap.size w w1) : Unch X w w1 := ⟨h.os, h.tape, h.output, h.size, fun k hk _ => h.block k hk⟩
theorem Unch.heap (h : Unch X w w1) {k : Nat} {o : Obj} (ho : w.heap[k]? = some o) (hX : ¬ X k) : w1.heap[k]? = some o := (h.block k (Array.getElem?_eq_some_iff.1 ho).1 hX).trans ho
theorem Unch.cell (h : Unch X w w1) {a : Addr} {v : Value} (hc : w.cell? a = some v) (hX : ¬ X a.block) : w1.cell? a = some v := (World.cell?_of_block (h.block _ (World.block_lt_of_cell? w a hc) hX)).trans hc
theorem Unch.frozen (h : Unch X w w1) {a : Addr} {b : Bool} (ha : a.block < w.heap.size) (hc : w.frozen? a = b) (hX : ¬ X a.block) : w1.frozen? a = b := (World.frozen?_of_block (h.block _ ha hX)).trans hc
end
theorem lt_of_heap {w : World} {k : Nat} {o : Obj} (h : w.heap[k]? = some o) : k < w.heap.size := (Array.getElem?_eq_some_iff.1 h).1

/-! ### A block that is known whole -/
theorem blk_cell {w : World} {g : Nat} {cs : Array Value} {e : TypeId} {fr : Nat × Nat} (h : w.heap[g]? = some (.cells cs e fr)) {j : Nat} {v : Value} (hv : cs[j]? = some v) : w.cell? ⟨g, j, none⟩ = some v := by
  rw [cell_of_row w g j cs e fr h]; exact hv
theorem blk_free {w : World} {g : Nat} {cs : Array Value} {e : TypeId} (h : w.heap[g]? = some (.cells cs e (0, 0))) (j : Nat) : w.frozen? ⟨g, j, none⟩ = false := by
  simp [World.frozen?, h]
theorem blk_set {w : World} {g : Nat} {cs : Array Value} {e : TypeId} (h : w.heap[g]? = some (.cells cs e (0, 0))) (j : Nat) (v : Value) :
    (w.setCell ⟨g, j, none⟩ v).heap[g]? = some (.cells (cs.setIfInBounds j v) e (0, 0)) := by
  have hg := lt_of_heap h
  simp only [World.setCell, Array.getElem?_modify]
  simp [h]
theorem blk_set_ne {w : World} {g k : Nat} {o : Obj} (h : w.heap[k]? = some o) (hne : k ≠ g) (j : Nat) (v : Value) : (w.setCell ⟨g, j, none⟩ v).heap[k]? = some o := (Below.heap_setCell _ _ _ _ hne).trans h
theorem blk_alloc {w : World} {k : Nat} {o : Obj} (h : w.heap[k]? = some o) (o' : Obj) : (w.alloc o').heap[k]? = some o := (Below.heap_alloc w o' k (lt_of_heap h)).trans h
theorem blk_new (w : World) (o : Obj) : (w.alloc o).heap[w.heap.size]? = some o := heap_alloc_new w o

/-! ### A row of a slice's own, wherever it begins -/
def Row (w : World) (e : TypeId) (size : Nat) (v : Value) (n : Nat) (xs : List Value) : Prop :=
  xs.length = n * size ∧
  ((v = .slice none 0 0 ∧ n = 0) ∨
   ∃ g o cap cur, v = .slice (some ⟨g, o, none⟩) n cap ∧ w.heap[g]? = some (.cells cur e (0, 0)) ∧ n ≤ cap ∧ cap ≤ maxLen ∧ o + cap * size ≤ cur.size ∧ (cur.toList.drop o).take (n * size) = xs)
section
variable {w w1 : World} {e : TypeId} {size n : Nat} {v : Value} {xs : List Value} {X : Nat → Prop}
theorem Row.nil (w : World) (e : TypeId) (size : Nat) : Row w e size (.slice none 0 0) 0 [] := ⟨by simp, .inl ⟨rfl, rfl⟩⟩
theorem Row.of_own {base : Nat} (h : w.ownsRow base e size v n xs) : Row w e size v n xs := by
  refine ⟨h.1, ?_⟩
  rcases h.2 with h0 | ⟨g, cap, cur, hv, _, hh, hn, hm, hs, ht⟩
  · exact .inl h0
  · exact .inr ⟨g, 0, cap, cur, hv, hh, hn, hm, by rw [hs]; omega, by simpa using ht⟩
theorem Row.move (h : Row w e size v n xs) (hm : ∀ k, v.ownBlock = some k → w1.heap[k]? = w.heap[k]?) : Row w1 e size v n xs := by
  refine ⟨h.1, ?_⟩
  rcases h.2 with h0 | ⟨g, o, cap, cur, hv, hh, r⟩
  · exact .inl h0
  · exact .inr ⟨g, o, cap, cur, hv, (hm g (by rw [hv]; rfl)).trans hh, r⟩
theorem Row.blk (h : Row w e size v n xs) {k : Nat} (hk : v.ownBlock = some k) : ∃ cur, w.heap[k]? = some (.cells cur e (0, 0)) := by
  rcases h.2 with ⟨rfl, _⟩ | ⟨g, o, cap, cur, rfl, hh, _⟩
  · cases hk
  · have : g = k := by simpa [Value.ownBlock] using hk
    subst this
    exact ⟨cur, hh⟩
theorem Row.unch (h : Row w e size v n xs) (hu : Unch X w w1) (hX : ∀ k, v.ownBlock = some k → ¬ X k) : Row w1 e size v n xs :=
  h.move fun k hk => by
    obtain ⟨cur, hc⟩ := h.blk hk
    rw [hc]; exact hu.heap hc (hX k hk)
theorem Row.slice (h : Row w e size v n xs) : ∃ A c, v = .slice A n c ∧ n ≤ c := by
  rcases h.2 with ⟨rfl, rfl⟩ | ⟨g, o, cap, cur, rfl, _, hn, _⟩
  · exact ⟨_, _, rfl, Nat.le_refl _⟩
  · exact ⟨_, _, rfl, hn⟩
theorem Row.max (h : Row w e size v n xs) : n ≤ maxLen := by
  rcases h.2 with ⟨rfl, rfl⟩ | ⟨g, o, cap, cur, rfl, _, hn, hm, _⟩
  · exact Nat.zero_le _
  · omega
theorem Row.form (h : Row w e size v n xs) (hn : 0 < n) : ∃ g o cap cur, v = .slice (some ⟨g, o, none⟩) n cap ∧ w.heap[g]? = some (.cells cur e (0, 0)) ∧ n ≤ cap ∧ o + cap * size ≤ cur.size ∧ (cur.toList.drop o).take (n * size) = xs := by
  rcases h.2 with ⟨_, h0⟩ | ⟨g, o, cap, cur, hv, hh, hn, _, hs, ht⟩
  · omega
  · exact ⟨g, o, cap, cur, hv, hh, hn, hs, ht⟩
/-- What stands at place j of such a row. -/
theorem Row.at (h : Row w e size v n xs) {g o c m : Nat} (hv : v = .slice (some ⟨g, o, none⟩) m c) {j : Nat} {u : Value} (hu : xs[j]? = some u) : w.cell? ⟨g, o + j, none⟩ = some u := by
  subst hv
  rcases h.2 with ⟨h0, _⟩ | ⟨g', o', cap, cur, h1, hh, _, _, _, ht⟩
  · cases h0
  · injection h1 with h1
    injection h1 with h1
    injection h1 with h1 h2
    subst h1; subst h2
    rw [← ht, List.getElem?_take] at hu
    split at hu
    · rw [List.getElem?_drop] at hu
      exact blk_cell hh (by simpa using hu)
    · cases hu
theorem Row.free (h : Row w e size v n xs) {g o c m : Nat} (hv : v = .slice (some ⟨g, o, none⟩) m c) (j : Nat) : w.frozen? ⟨g, j, none⟩ = false := by
  subst hv
  obtain ⟨cur, hc⟩ := h.blk (k := g) rfl
  exact blk_free hc j
/-- Cut off at the head. -/
theorem Row.drop (h : Row w e size v n xs) {A : Option Addr} {c : Nat} (hv : v = .slice A n c) (k : Nat) (hk : k ≤ n) : Row w e size (.slice (if c = k then A else A.map (·.add (k * size))) (n - k) (c - k)) (n - k) (xs.drop (k * size)) := by
  refine ⟨by rw [List.length_drop, h.1, Nat.sub_mul], ?_⟩
  rcases h.2 with ⟨h0, h1⟩ | ⟨g, o, cap, cur, h1, hh, hn, hm, hs, ht⟩
  · subst hv
    cases h0
    obtain rfl : k = 0 := by omega
    exact .inl ⟨by simp, by omega⟩
  · rw [h1] at hv
    injection hv with hA hnn hc
    subst hA; subst hc
    by_cases hck : cap = k
    · refine .inr ⟨g, o, cap - k, cur, by rw [if_pos hck], hh, by omega, by omega, ?_, ?_⟩
      · have : (cap - k) * size ≤ cap * size := Nat.mul_le_mul_right _ (by omega)
        omega
      · have : n - k = 0 := by omega
        rw [this]
        have : k = n := by omega
        subst this
        rw [Nat.zero_mul, List.take_zero]
        exact (List.drop_eq_nil_of_le (by rw [h.1]; exact Nat.le_refl _)).symm
    · refine .inr ⟨g, o + k * size, cap - k, cur, ?_, hh, by omega, by omega, ?_, ?_⟩
      · rw [if_neg hck]
        simp only [Option.map_some, Addr.add]
        split
        · rename_i h0
          rw [h0]; simp
        · rfl
      · have : (cap - k) * size + k * size = cap * size := by rw [← Nat.add_mul]; congr 1; omega
        omega
      · rw [← ht, List.drop_take, List.drop_drop, Nat.sub_mul]
end

/-! ### append -/
theorem setCells_other (g : Nat) : ∀ (r : List Value) (o : Nat) (w : World) (k : Nat), k ≠ g → (w.setCells g o r).heap[k]? = w.heap[k]?
  | [], _, _, _, _ => rfl
  | v :: r, o, w, k, hk => (setCells_other g r (o + 1) _ k hk).trans (Below.heap_setCell _ _ _ _ hk)
theorem setCells_rest (g : Nat) : ∀ (r : List Value) (o : Nat) (w : World), (w.setCells g o r).os = w.os ∧ (w.setCells g o r).tape = w.tape ∧ (w.setCells g o r).output = w.output ∧ (w.setCells g o r).heap.size = w.heap.size
  | [], _, _ => ⟨rfl, rfl, rfl, rfl⟩
  | v :: r, o, w => by
    obtain ⟨h1, h2, h3, h4⟩ := setCells_rest g r (o + 1) (w.setCell ⟨g, o, none⟩ v)
    exact ⟨h1, h2, h3, by rw [World.setCells, h4]; simp [World.setCell]⟩
theorem setCells_blk (g : Nat) {e : TypeId} : ∀ (r : List Value) (o : Nat) (w : World) (cur : Array Value), w.heap[g]? = some (.cells cur e (0, 0)) → o + r.length ≤ cur.size →
    ∃ cur', (w.setCells g o r).heap[g]? = some (.cells cur' e (0, 0)) ∧ cur'.size = cur.size ∧ cur'.toList = cur.toList.take o ++ r ++ cur.toList.drop (o + r.length)
  | [], o, w, cur, h, _ => ⟨cur, h, rfl, by simp⟩
  | v :: r, o, w, cur, h, hl => by
    have h2 := blk_set h o v
    simp only [List.length_cons] at hl
    obtain ⟨cur', h3, h4, h5⟩ := setCells_blk g r (o + 1) (w.setCell ⟨g, o, none⟩ v) _ h2 (by simp; omega)
    refine ⟨cur', h3, by rw [h4]; simp, ?_⟩
    rw [h5, Array.toList_setIfInBounds]
    have ho : o < cur.toList.length := by rw [Array.length_toList]; omega
    rw [List.take_set, List.drop_set_of_lt (by omega)]
    simp only [List.length_cons]
    rw [show o + 1 + r.length = o + (r.length + 1) by omega]
    congr 1
    rw [List.take_succ_eq_append_getElem ho, List.set_append_right _ _ (by rw [List.length_take]; omega)]
    have ho' : o < cur.size := by omega
    simp [Nat.min_eq_left (Nat.le_of_lt ho')]

section
variable {P : Program}
/-- append to a row of its own: what comes of it. -/
theorem run_append (w : World) (t ty e : TypeId) (i : TypeInfo) (z : Value) (size bytes : Nat) (ht : P.underlying t = some (.slice e)) (hi : P.info? e = some i) (hz : i.zero = some z)
    (hsize : i.size = size) (hby : i.bytes = bytes) (hzs : z.cells.size = size) (hsz : 0 < size)
    (v : Value) (n : Nat) (xs : List Value) (hr : Row w e size v n xs)
    (A : Option Addr) (m c : Nat) (news : List Value) (hl : news.length = m * size) (hA : 0 < m → ∃ a, A = some a ∧ ∀ j u, news[j]? = some u → w.cell? (a.add j) = some u) (hA0 : A = none → c = 0) (h1 : ∀ u ∈ news, u.oneCell' = true)
    (h63 : n + m ≤ maxLen) (hbytes : (n + m) * bytes ≤ 140737488355328) :
    ∃ v' w', (Builtin.append_ #[t, t] ty #[v, .slice A m c]).run P w = .ok v' w' ∧ Row w' e size v' (n + m) (xs ++ news) ∧ Unch (fun k => v.ownBlock = some k) w w' ∧ (v'.ownBlock = v.ownBlock ∨ ∃ b, v'.ownBlock = some b ∧ w.heap.size ≤ b) := by
  rcases Nat.eq_zero_or_pos m with hm | hm
  · subst hm
    obtain rfl : news = [] := List.eq_nil_of_length_eq_zero (by simpa using hl)
    refine ⟨v, w, ?_, by simpa using hr, Unch.refl _ _, .inl rfl⟩
    obtain ⟨B, cc, rfl, hnc⟩ := hr.slice
    cases A <;> cases B <;> simp [Builtin.append_, run_underlying ht, sizeOf, typeInfo, hi, Builtin.lenOf, Builtin.firstCells, hnc, storeCells, loadCells, loadCellsFrom]
  · obtain ⟨a, rfl, hnews⟩ := hA hm
    have grows : ∀ (b : Addr) (cap : Nat), cap < n + m → (∀ j u, xs[j]? = some u → w.cell? (b.add j) = some u) → v = .slice (some b) n cap →
        ∃ v' w', (Builtin.append_ #[t, t] ty #[v, .slice (some a) m c]).run P w = .ok v' w' ∧ Row w' e size v' (n + m) (xs ++ news) ∧ Unch (fun k => v.ownBlock = some k) w w' ∧ (v'.ownBlock = v.ownBlock ∨ ∃ b, v'.ownBlock = some b ∧ w.heap.size ≤ b) := by
      intro b cap hcap hcells hv
      obtain ⟨v', w', hrun, ho, hg⟩ := run_append_arg_grows (P := P) (w := w) t ty e i z size bytes ht hi hz hsize hby hzs hsz b n cap xs hr.1 hcells a m c news hl hnews hcap h63 hbytes
      obtain ⟨g', cap', he, hb, _⟩ := ho.form (by omega)
      exact ⟨v', w', by rw [hv]; exact hrun, Row.of_own ho, (Unch.refl _ _).grown hg (fun k _ h => by cases h), .inr ⟨g', by rw [he]; rfl, hb⟩⟩
    rcases hr.2 with ⟨hv, h0⟩ | ⟨g, o, cap, cur, hv, hg, hnc, hcm, hcs, htake⟩
    · subst h0
      have ho : w.ownsRow 0 e size v 0 xs := ⟨hr.1, .inl ⟨hv, rfl⟩⟩
      obtain ⟨v', w', hrun, ho', hg, _, hat⟩ := run_append_own_at (P := P) w 0 t ty e i z size bytes ht hi hz hsize hby hzs hsz v 0 xs ho a m c news hl hnews h1 h63 hbytes (Nat.zero_le _)
      refine ⟨v', w', hrun, Row.of_own ho', (Unch.refl _ _).grown hg (fun k _ h => h), ?_⟩
      rcases hat with hat | hat
      · exact .inl hat
      · exact .inr ⟨_, hat, Nat.le_refl _⟩
    · by_cases hroom : n + m ≤ cap
      · have hle : (n + m) * size ≤ cap * size := Nat.mul_le_mul_right _ hroom
        rw [Nat.add_mul] at hle
        have hfit : o + n * size + news.length ≤ cur.size := by rw [hl]; omega
        subst hsize
        have hrun := run_append_room_cells (P := P) (w := w) t ty e i ht hi g o n cap a m c news hl hnews h1 hroom
          (fun j hj => by rw [cell_of_row w g _ cur e (0, 0) hg]; simp; omega) (fun j _ => blk_free hg _)
        obtain ⟨cur', h3, h4, h5⟩ := setCells_blk g news (o + n * i.size) w cur hg hfit
        obtain ⟨s1, s2, s3, s4⟩ := setCells_rest g news (o + n * i.size) w
        refine ⟨_, _, by rw [hv]; exact hrun, ⟨by rw [List.length_append, hr.1, hl, Nat.add_mul], .inr ⟨g, o, cap, cur', rfl, h3, hroom, hcm, by rw [h4]; exact hcs, ?_⟩⟩,
          ⟨s1, s2, s3, by rw [s4]; exact Nat.le_refl _, fun k _ hk => setCells_other g news _ w k (fun he => hk (by rw [hv, he]; rfl))⟩, .inl (by rw [hv]; rfl)⟩
        have hcl : cur.toList.length = cur.size := Array.length_toList
        rw [h5, List.append_assoc, List.drop_append_of_le_length (by rw [List.length_take, hcl]; omega), List.drop_take]
        rw [show o + n * i.size - o = n * i.size by omega, htake]
        rw [← List.append_assoc]
        exact List.take_left' (by rw [List.length_append, hr.1, hl, Nat.add_mul])
      · refine grows ⟨g, o, none⟩ cap (by omega) (fun j u hu => ?_) hv
        rw [Addr.add_lit]
        exact hr.at hv hu

/-- The same as a step of the walk. -/
theorem wpList_append {ops : Array Oper} {rest : List Oper} {op : Oper} {a : Act} {Q : Exit → Act → World → Prop} (w : World) (hgd : op.guard = none) (s x : Operand) (t e : TypeId) (z : Value) (size bytes : Nat)
    (hop : op.op = .call { callee := .builtin .append, args := #[s, x], argTypes := #[t, t] }) (ht : P.underlying t = some (.slice e)) (hinfo : (P.info? e).map (fun i => (i.zero, i.size, i.bytes)) = some (some z, size, bytes)) (hzs : z.cells.size = size) (hsz : 0 < size)
    (v : Value) (n : Nat) (xs : List Value) (hs : a.eval s = v) (hr : Row w e size v n xs)
    (A : Option Addr) (m c : Nat) (news : List Value) (hx : a.eval x = .slice A m c) (hl : news.length = m * size) (hA : 0 < m → ∃ ad, A = some ad ∧ ∀ j u, news[j]? = some u → w.cell? (ad.add j) = some u) (hA0 : A = none → c = 0) (h1 : ∀ u ∈ news, u.oneCell' = true)
    (h63 : n + m ≤ maxLen) (hbytes : (n + m) * bytes ≤ 140737488355328)
    (h : ∀ v' w', Row w' e size v' (n + m) (xs ++ news) → Unch (fun k => v.ownBlock = some k) w w' → (v'.ownBlock = v.ownBlock ∨ ∃ b, v'.ownBlock = some b ∧ w.heap.size ≤ b) → wpList P ops Q rest (a.put op.dst v') w') :
    wpList P ops Q (op :: rest) a w := by
  obtain ⟨i0, hi, hzz⟩ := Option.map_eq_some_iff.1 hinfo
  simp only [Prod.mk.injEq] at hzz
  obtain ⟨hz0, hz1, hz2⟩ := hzz
  obtain ⟨v1, w1, hrun, h2, h3, h4⟩ := run_append (P := P) w t op.type e i0 z size bytes ht hi hz0 hz1 hz2 hzs hsz v n xs hr A m c news hl hA hA0 h1 h63 hbytes
  refine wpList_plain hgd fun K hK => ?_
  unfold Oper.wp execOp
  simp only [hop, resolve, invoke, builtin, Sem.run_bind, Sem.run_pure, Result.andThen_ok, List.map_toArray, List.map_cons, List.map_nil, hs, hx, hrun]
  exact hK _ _ (h v1 w1 h2 h3 h4)
/-- One value, boxed for the call. -/
theorem wpList_append1 {ops : Array Oper} {rest : List Oper} {op : Oper} {a : Act} {Q : Exit → Act → World → Prop} (w : World) (hgd : op.guard = none) (s x : Operand) (t e : TypeId) (z : Value) (size bytes : Nat)
    (hop : op.op = .call { callee := .builtin .append, args := #[s, x], argTypes := #[t, t] }) (ht : P.underlying t = some (.slice e)) (hinfo : (P.info? e).map (fun i => (i.zero, i.size, i.bytes)) = some (some z, size, bytes)) (hzs : z.cells.size = size) (hsz : 0 < size)
    (v : Value) (n : Nat) (xs : List Value) (hs : a.eval s = v) (hr : Row w e size v n xs) (cs : List Value) (hcs : cs.length = size) (h1 : ∀ u ∈ cs, u.oneCell' = true)
    (hx : a.eval x = .slice (some ⟨w.heap.size, 0, none⟩) 1 1) (h63 : n + 1 ≤ maxLen) (hbytes : (n + 1) * bytes ≤ 140737488355328)
    (h : ∀ v' w', Row w' e size v' (n + 1) (xs ++ cs) → Unch (fun k => v.ownBlock = some k) w w' → (v'.ownBlock = v.ownBlock ∨ ∃ b, v'.ownBlock = some b ∧ w.heap.size ≤ b) → wpList P ops Q rest (a.put op.dst v') w') :
    wpList P ops Q (op :: rest) a (w.alloc (.cells cs.toArray e)) := by
  have hu : Unch none_ w (w.alloc (.cells cs.toArray e)) := (Unch.refl _ _).alloc _
  refine wpList_append _ hgd s x t e z size bytes hop ht hinfo hzs hsz v n xs hs (hr.unch hu (fun _ _ h => h)) (some ⟨w.heap.size, 0, none⟩) 1 1 cs hx (by omega)
    (fun _ => ⟨_, rfl, World.news_of_block (heap_alloc_new w _)⟩) (fun h => by cases h) h1 h63 hbytes ?_
  intro v' w' h2 h3 h4
  refine h v' w' h2 ?_ ?_
  · refine ⟨h3.os, h3.tape, h3.output, Nat.le_trans (by simp) h3.size, fun k hk hX => ?_⟩
    exact (h3.block k (by simp; omega) hX).trans (Below.heap_alloc w _ k hk)
  · rcases h4 with h4 | ⟨b, hb, hlt⟩
    · exact .inl h4
    · exact .inr ⟨b, hb, by simp at hlt; omega⟩
end

/-! ### clear(xs), of a whole row of one-cell elements -/
section
variable {P : Program}
theorem run_clear (w : World) (t ty e : TypeId) (z : Value) (bytes : Nat) (ht : P.underlying t = some (.slice e)) (hinfo : (P.info? e).map (fun i => (i.zero, i.size, i.bytes)) = some (some z, 1, bytes)) (hz : z.cells = #[z]) (hz1 : z.oneCell' = true)
    (g n c : Nat) (cur : Array Value) (hg : w.heap[g]? = some (.cells cur e (0, 0))) (hn : cur.size = n) :
    (Builtin.clear_ #[t] ty #[.slice (some ⟨g, 0, none⟩) n c]).run P w = .ok (.tuple #[]) (w.setRow g (Array.replicate n z)) := by
  obtain ⟨i0, hi, hzz⟩ := Option.map_eq_some_iff.1 hinfo
  simp only [Prod.mk.injEq] at hzz
  obtain ⟨hz0, hs1, hb1⟩ := hzz
  have hzc : Builtin.zeroCells #[z] n = Array.replicate n z := by
    apply Array.ext
    · simp [Builtin.zeroCells]
    · intro i h1 h2
      simp [Builtin.zeroCells, Nat.mod_one]
  have hst := run_storeCells_at P g 0 e (Array.replicate n z).toList 0 cur w hg (by simp; omega) (by intro v hv; simp at hv; rw [hv.2]; exact hz1)
  have hrow : (cur.toList.take (0 + 0) ++ (Array.replicate n z).toList ++ cur.toList.drop (0 + 0 + (Array.replicate n z).toList.length)).toArray = Array.replicate n z := by
    have hl : cur.toList.length = n := by rw [Array.length_toList, hn]
    apply Array.toList_inj.1
    simp [List.drop_eq_nil_of_le, hl]
  rw [hrow] at hst
  rw [Array.toList_replicate] at hst
  cases n with
  | zero =>
    have hcur : cur = #[] := by apply Array.eq_empty_of_size_eq_zero; exact hn
    have : w.setRow g (Array.replicate 0 z) = w := by
      rw [show Array.replicate 0 z = cur by rw [hcur]; rfl]
      exact setRow_self w g cur e (0, 0) hg
    rw [this]
    simp [Builtin.clear_, run_underlying ht]
  | succ n =>
    simp [Builtin.clear_, run_underlying ht, zeroValue, typeInfo, hi, hz0, hz, hzc, hst]
theorem Unch.setRow {X : Nat → Prop} {w w1 : World} (h : Unch X w w1) (g : Nat) (cs : Array Value) (hp : g < w.heap.size → X g) : Unch X w (w1.setRow g cs) :=
  h.step (Y := fun k => k = g) ⟨rfl, rfl, rfl, by simp, fun k _ hk => setRow_other _ _ _ _ hk⟩ (fun i hi e => by subst e; exact hp hi)
end
end Go.Proofs.YtgcpoppinnnciaaGreatDoor.Pal
/- Rows of rows: a row of slices, each with a row of its own. -/
set_option linter.unusedVariables false
set_option linter.unusedSimpArgs false
namespace Go.Proofs.YtgcpoppinnnciaaGreatDoor.Pal
open Go Go.RowKit

theorem Row.store {w : World} {e : TypeId} {n : Nat} {v : Value} {xs : List Value} (h : Row w e 1 v n xs) {g o c : Nat} (hv : v = .slice (some ⟨g, o, none⟩) n c) (j : Nat) (hj : j < n) (u : Value) :
    Row (w.setCell ⟨g, o + j, none⟩ u) e 1 v n (xs.set j u) := by
  refine ⟨by rw [List.length_set]; exact h.1, ?_⟩
  subst hv
  rcases h.2 with ⟨h0, _⟩ | ⟨g', o', cap, cur, h1, hh, hn, hm, hs, ht⟩
  · cases h0
  · injection h1 with h1 h3 h4
    injection h1 with h1
    injection h1 with h1 h2
    subst h1; subst h2; subst h4
    refine .inr ⟨g, o, c, _, rfl, blk_set hh _ _, hn, hm, by simpa using hs, ?_⟩
    rw [Array.toList_setIfInBounds, ← ht]
    apply List.ext_getElem?
    intro k
    simp only [Nat.mul_one, List.getElem?_take, List.getElem?_drop, List.getElem?_set, List.length_take, List.length_drop, Array.length_toList]
    by_cases hk : k < n <;> by_cases hjk : j = k
    · subst hjk
      have : o + j < cur.size := by omega
      simp [hk, this]
      omega
    · have : o + j ≠ o + k := by omega
      simp [hk, hjk, this]
    · simp [hk]; intro h; omega
    · simp [hk, hjk]

structure Rws (w : World) (eo ei L : Nat) (vs : List Value) (rows : List (List Value)) : Prop where
  hL : w.heap[L]? = some (.cells vs.toArray eo (0, 0))
  len : vs.length = rows.length
  row : ∀ (i : Nat) (v : Value) (r : List Value), vs[i]? = some v → rows[i]? = some r → Row w ei 1 v r.length r
  apart : ∀ (i j : Nat) (u v : Value) (k : Nat), vs[i]? = some u → vs[j]? = some v → u.ownBlock = some k → v.ownBlock = some k → i = j
def rfoot (L : Nat) (vs : List Value) : Nat → Prop := fun k => k = L ∨ ∃ v ∈ vs, v.ownBlock = some k
section
variable {w w1 : World} {eo ei L : Nat} {vs : List Value} {rows : List (List Value)}
theorem Rws.rowne (h : Rws w eo ei L vs rows) (he : eo ≠ ei) {i : Nat} {v : Value} (hv : vs[i]? = some v) {k : Nat} (hk : v.ownBlock = some k) : k ≠ L := by
  have hi : i < rows.length := by rw [← h.len]; exact (List.getElem?_eq_some_iff.1 hv).1
  obtain ⟨cur, hc⟩ := (h.row i v _ hv (List.getElem?_eq_getElem hi)).blk hk
  intro e; have h1 := h.hL; rw [← e, hc] at h1; injection h1 with h1; injection h1 with _ h1; exact he h1.symm
theorem Rws.lt (h : Rws w eo ei L vs rows) {k : Nat} (hk : rfoot L vs k) : k < w.heap.size := by
  rcases hk with rfl | ⟨v, hv, hk⟩
  · exact lt_of_heap h.hL
  · obtain ⟨i, hi⟩ := List.getElem?_of_mem hv
    have hil : i < rows.length := by rw [← h.len]; exact (List.getElem?_eq_some_iff.1 hi).1
    obtain ⟨cur, hc⟩ := (h.row i v _ hi (List.getElem?_eq_getElem hil)).blk hk
    exact lt_of_heap hc
theorem Rws.unch {X : Nat → Prop} (h : Rws w eo ei L vs rows) (hu : Unch X w w1) (hX : ∀ k, rfoot L vs k → ¬ X k) : Rws w1 eo ei L vs rows :=
  ⟨hu.heap h.hL (hX _ (.inl rfl)), h.len, fun i v r hv hr => (h.row i v r hv hr).unch hu (fun k hk => hX k (.inr ⟨v, List.mem_of_getElem? hv, hk⟩)), h.apart⟩
theorem Rws.set (h : Rws w eo ei L vs rows) (he : eo ≠ ei) {i : Nat} {v v' : Value} {r' : List Value} (hv : vs[i]? = some v) (hr : Row w1 ei 1 v' r'.length r')
    (hu : Unch (fun k => v.ownBlock = some k) w w1) (hat : ∀ k, v'.ownBlock = some k → v.ownBlock = some k ∨ w.heap.size ≤ k) :
    Rws (w1.setCell ⟨L, i, none⟩ v') eo ei L (vs.set i v') (rows.set i r') ∧ Unch (rfoot L vs) w (w1.setCell ⟨L, i, none⟩ v') ∧ ∀ k, rfoot L (vs.set i v') k → rfoot L vs k ∨ w.heap.size ≤ k := by
  have hil : i < vs.length := (List.getElem?_eq_some_iff.1 hv).1
  have hBo : ∀ k, v.ownBlock = some k → k ≠ L := fun k hk => h.rowne he hv hk
  have hL1 := hu.heap h.hL (fun hk => hBo L hk rfl)
  have hv'L : ∀ k, v'.ownBlock = some k → k ≠ L := fun k hk e => by
    rcases hat k hk with h1 | h1
    · exact hBo k h1 e
    · have := lt_of_heap h.hL; omega
  have hin : ∀ j, j ≠ i → ∀ u, vs[j]? = some u → ∀ k, u.ownBlock = some k → v.ownBlock ≠ some k := fun j hj u hu' k hk hvk => hj (h.apart j i u v k hu' hv hk hvk)
  refine ⟨⟨?_, by simp [h.len], ?_, ?_⟩, ?_, ?_⟩
  · rw [blk_set hL1 i v']; simp
  · intro j u r hju hjr
    by_cases hji : j = i
    · subst hji
      rw [List.getElem?_set_self (by omega)] at hju
      rw [List.getElem?_set_self (by rw [← h.len]; exact hil)] at hjr
      obtain rfl := Option.some.inj hju
      obtain rfl := Option.some.inj hjr
      exact hr.move fun k hk => Below.heap_setCell _ _ _ _ (hv'L k hk)
    · rw [List.getElem?_set_ne (Ne.symm hji)] at hju hjr
      have h1 := (h.row j u r hju hjr).unch hu (fun k hk => hin j hji u hju k hk)
      exact h1.move fun k hk => Below.heap_setCell _ _ _ _ (h.rowne he hju hk)
  · intro a b u x k hu1 hx1 hk hk'
    by_cases ha : a = i <;> by_cases hb : b = i
    · rw [ha, hb]
    · subst ha
      rw [List.getElem?_set_self (by omega)] at hu1
      rw [List.getElem?_set_ne (Ne.symm hb)] at hx1
      obtain rfl := Option.some.inj hu1
      rcases hat k hk with h1 | h1
      · exact absurd h1 (hin b hb x hx1 k hk')
      · have := h.lt (.inr ⟨x, List.mem_of_getElem? hx1, hk'⟩); omega
    · subst hb
      rw [List.getElem?_set_self (by omega)] at hx1
      rw [List.getElem?_set_ne (Ne.symm ha)] at hu1
      obtain rfl := Option.some.inj hx1
      rcases hat k hk' with h1 | h1
      · exact absurd h1 (hin a ha u hu1 k hk)
      · have := h.lt (.inr ⟨u, List.mem_of_getElem? hu1, hk⟩); omega
    · rw [List.getElem?_set_ne (Ne.symm ha)] at hu1
      rw [List.getElem?_set_ne (Ne.symm hb)] at hx1
      exact h.apart a b u x k hu1 hx1 hk hk'
  · exact (hu.mono (fun k _ hk => .inr ⟨v, List.mem_of_getElem? hv, hk⟩)).setCell _ (fun _ => .inl rfl)
  · rintro k (rfl | ⟨u, hu', hk⟩)
    · exact .inl (.inl rfl)
    · rcases List.mem_or_eq_of_mem_set hu' with h1 | rfl
      · exact .inl (.inr ⟨u, h1, hk⟩)
      · rcases hat k hk with h1 | h1
        · exact .inl (.inr ⟨v, List.mem_of_getElem? hv, h1⟩)
        · exact .inr h1
/-- A row's cells. -/
theorem Rws.cells (h : Rws w eo ei L vs rows) {i : Nat} {r : List Value} (hr : rows[i]? = some r) :
    ∃ A c, vs[i]? = some (.slice A r.length c) ∧ r.length ≤ c ∧ Row w ei 1 (.slice A r.length c) r.length r ∧ w.cell? ⟨L, i, none⟩ = some (.slice A r.length c) := by
  have hi : i < vs.length := by rw [h.len]; exact (List.getElem?_eq_some_iff.1 hr).1
  have hv : vs[i]? = some vs[i] := List.getElem?_eq_getElem hi
  have hrow := h.row i _ r hv hr
  obtain ⟨A, c, hvA, hlc⟩ := hrow.slice
  rw [hvA] at hv hrow
  exact ⟨A, c, hv, hlc, hrow, blk_cell h.hL (j := i) (by rw [List.getElem?_toArray]; exact hv)⟩
/-- A cell of a row is written. -/
theorem Rws.put (h : Rws w eo ei L vs rows) (he : eo ≠ ei) {i j : Nat} {g o c n : Nat} {r : List Value} (hv : vs[i]? = some (.slice (some ⟨g, o, none⟩) n c)) (hr : rows[i]? = some r) (hj : j < r.length) (u : Value) :
    Rws (w.setCell ⟨g, o + j, none⟩ u) eo ei L vs (rows.set i (r.set j u)) ∧ Unch (rfoot L vs) w (w.setCell ⟨g, o + j, none⟩ u) := by
  have hrow := h.row i _ r hv hr
  have hn : n = r.length := by
    obtain ⟨A, c', he', _⟩ := hrow.slice
    injection he'
  subst hn
  have hgL := h.rowne he hv (k := g) rfl
  have hil : i < rows.length := (List.getElem?_eq_some_iff.1 hr).1
  refine ⟨⟨blk_set_ne h.hL hgL.symm _ _, by simp [h.len], ?_, h.apart⟩, (Unch.refl _ _).setCell _ (fun _ => .inr ⟨_, List.mem_of_getElem? hv, rfl⟩)⟩
  intro a v q hva hqa
  by_cases hai : a = i
  · subst hai
    rw [hv] at hva
    obtain rfl := Option.some.inj hva
    rw [List.getElem?_set_self hil] at hqa
    obtain rfl := Option.some.inj hqa
    rw [List.length_set]
    exact hrow.store rfl j hj u
  · rw [List.getElem?_set_ne (Ne.symm hai)] at hqa
    exact (h.row a v q hva hqa).move fun k hk => Below.heap_setCell _ _ _ _ (fun e => hai (h.apart a i v _ k hva hv hk (by rw [e]; rfl)))
end
theorem madeCells_one (z : Value) (n : Nat) : madeCells #[z] n = Array.replicate n z := by
  apply Array.ext
  · simp [madeCells]
  · intro i h1 h2
    simp [madeCells, Nat.mod_one]
/-- make([][]T, n). -/
theorem Rws.made (w : World) (eo ei n : Nat) : Rws (w.alloc (.cells (madeCells #[.slice none 0 0] n) eo)) eo ei w.heap.size (List.replicate n (.slice none 0 0)) (List.replicate n []) := by
  refine ⟨?_, by simp, ?_, ?_⟩
  · rw [show (List.replicate n (Value.slice none 0 0)).toArray = madeCells #[.slice none 0 0] n by rw [madeCells_one]; simp]
    exact blk_new w _
  · intro i v r hv hr
    obtain rfl := List.eq_of_mem_replicate (List.mem_of_getElem? hv)
    obtain rfl := List.eq_of_mem_replicate (List.mem_of_getElem? hr)
    exact Row.nil _ _ _
  · intro i j u v k hu hv hk
    obtain rfl := List.eq_of_mem_replicate (List.mem_of_getElem? hu)
    cases hk
theorem rfoot_made {L n k : Nat} (h : rfoot L (List.replicate n (.slice none 0 0)) k) : k = L := by
  rcases h with rfl | ⟨v, hv, hk⟩
  · rfl
  · obtain rfl := List.eq_of_mem_replicate hv
    cases hk
/-- make([]T, n): a row of zeros. -/
theorem Row.made (w : World) (e n : Nat) (z : Value) (hn : n ≤ maxLen) : Row (w.alloc (.cells (madeCells #[z] n) e)) e 1 (.slice (some ⟨w.heap.size, 0, none⟩) n n) n (List.replicate n z) := by
  refine ⟨by simp, .inr ⟨_, 0, n, _, rfl, blk_new w _, Nat.le_refl _, hn, by rw [madeCells_one]; simp, ?_⟩⟩
  rw [madeCells_one]
  simp
end Go.Proofs.YtgcpoppinnnciaaGreatDoor.Pal
/- append once more, told that what stood there is still there; a plan over a condition of one's own. -/
set_option linter.unusedVariables false
set_option linter.unusedSimpArgs false
namespace Go.Proofs.YtgcpoppinnnciaaGreatDoor.Pal
open Go Go.RowKit
section
variable {P : Program}
/-- append to a row of its own: what comes of it. -/
theorem run_append_keep (w : World) (t ty e : TypeId) (i : TypeInfo) (z : Value) (size bytes : Nat) (ht : P.underlying t = some (.slice e)) (hi : P.info? e = some i) (hz : i.zero = some z)
    (hsize : i.size = size) (hby : i.bytes = bytes) (hzs : z.cells.size = size) (hsz : 0 < size)
    (v : Value) (n : Nat) (xs : List Value) (hr : Row w e size v n xs)
    (A : Option Addr) (m c : Nat) (news : List Value) (hl : news.length = m * size) (hA : 0 < m → ∃ a, A = some a ∧ ∀ j u, news[j]? = some u → w.cell? (a.add j) = some u) (hA0 : A = none → c = 0) (h1 : ∀ u ∈ news, u.oneCell' = true)
    (h63 : n + m ≤ maxLen) (hbytes : (n + m) * bytes ≤ 140737488355328) :
    ∃ v' w', (Builtin.append_ #[t, t] ty #[v, .slice A m c]).run P w = .ok v' w' ∧ Row w' e size v' (n + m) (xs ++ news) ∧ Row w' e size v n xs ∧ Unch (fun k => v.ownBlock = some k) w w' ∧ (v'.ownBlock = v.ownBlock ∨ ∃ b, v'.ownBlock = some b ∧ w.heap.size ≤ b) := by
  rcases Nat.eq_zero_or_pos m with hm | hm
  · subst hm
    obtain rfl : news = [] := List.eq_nil_of_length_eq_zero (by simpa using hl)
    refine ⟨v, w, ?_, by simpa using hr, hr, Unch.refl _ _, .inl rfl⟩
    obtain ⟨B, cc, rfl, hnc⟩ := hr.slice
    cases A <;> cases B <;> simp [Builtin.append_, run_underlying ht, sizeOf, typeInfo, hi, Builtin.lenOf, Builtin.firstCells, hnc, storeCells, loadCells, loadCellsFrom]
  · obtain ⟨a, rfl, hnews⟩ := hA hm
    have grows : ∀ (b : Addr) (cap : Nat), cap < n + m → (∀ j u, xs[j]? = some u → w.cell? (b.add j) = some u) → v = .slice (some b) n cap →
        ∃ v' w', (Builtin.append_ #[t, t] ty #[v, .slice (some a) m c]).run P w = .ok v' w' ∧ Row w' e size v' (n + m) (xs ++ news) ∧ Row w' e size v n xs ∧ Unch (fun k => v.ownBlock = some k) w w' ∧ (v'.ownBlock = v.ownBlock ∨ ∃ b, v'.ownBlock = some b ∧ w.heap.size ≤ b) := by
      intro b cap hcap hcells hv
      obtain ⟨v', w', hrun, ho, hg⟩ := run_append_arg_grows (P := P) (w := w) t ty e i z size bytes ht hi hz hsize hby hzs hsz b n cap xs hr.1 hcells a m c news hl hnews hcap h63 hbytes
      obtain ⟨g', cap', he, hb, _⟩ := ho.form (by omega)
      exact ⟨v', w', by rw [hv]; exact hrun, Row.of_own ho, hr.unch ((Unch.refl none_ _).grown hg (fun k _ h => by cases h)) (fun _ _ h => h), (Unch.refl _ _).grown hg (fun k _ h => by cases h), .inr ⟨g', by rw [he]; rfl, hb⟩⟩
    rcases hr.2 with ⟨hv, h0⟩ | ⟨g, o, cap, cur, hv, hg, hnc, hcm, hcs, htake⟩
    · subst h0
      have ho : w.ownsRow 0 e size v 0 xs := ⟨hr.1, .inl ⟨hv, rfl⟩⟩
      obtain ⟨v', w', hrun, ho', hg, _, hat⟩ := run_append_own_at (P := P) w 0 t ty e i z size bytes ht hi hz hsize hby hzs hsz v 0 xs ho a m c news hl hnews h1 h63 hbytes (Nat.zero_le _)
      refine ⟨v', w', hrun, Row.of_own ho', ⟨hr.1, .inl ⟨hv, rfl⟩⟩, (Unch.refl _ _).grown hg (fun k _ h => h), ?_⟩
      rcases hat with hat | hat
      · exact .inl hat
      · exact .inr ⟨_, hat, Nat.le_refl _⟩
    · by_cases hroom : n + m ≤ cap
      · have hle : (n + m) * size ≤ cap * size := Nat.mul_le_mul_right _ hroom
        rw [Nat.add_mul] at hle
        have hfit : o + n * size + news.length ≤ cur.size := by rw [hl]; omega
        subst hsize
        have hrun := run_append_room_cells (P := P) (w := w) t ty e i ht hi g o n cap a m c news hl hnews h1 hroom
          (fun j hj => by rw [cell_of_row w g _ cur e (0, 0) hg]; simp; omega) (fun j _ => blk_free hg _)
        obtain ⟨cur', h3, h4, h5⟩ := setCells_blk g news (o + n * i.size) w cur hg hfit
        obtain ⟨s1, s2, s3, s4⟩ := setCells_rest g news (o + n * i.size) w
        refine ⟨_, _, by rw [hv]; exact hrun, ⟨by rw [List.length_append, hr.1, hl, Nat.add_mul], .inr ⟨g, o, cap, cur', rfl, h3, hroom, hcm, by rw [h4]; exact hcs, ?_⟩⟩, ⟨hr.1, .inr ⟨g, o, cap, cur', hv, h3, hnc, hcm, by rw [h4]; exact hcs, ?_⟩⟩,
          ⟨s1, s2, s3, by rw [s4]; exact Nat.le_refl _, fun k _ hk => setCells_other g news _ w k (fun he => hk (by rw [hv, he]; rfl))⟩, .inl (by rw [hv]; rfl)⟩
        all_goals have hcl : cur.toList.length = cur.size := Array.length_toList
        · rw [h5, List.append_assoc, List.drop_append_of_le_length (by rw [List.length_take, hcl]; omega), List.drop_take]
          rw [show o + n * i.size - o = n * i.size by omega, htake]
          rw [← List.append_assoc]
          exact List.take_left' (by rw [List.length_append, hr.1, hl, Nat.add_mul])
        · rw [h5, List.append_assoc, List.drop_append_of_le_length (by rw [List.length_take, hcl]; omega), List.drop_take]
          rw [show o + n * i.size - o = n * i.size by omega, htake, List.take_append_of_le_length (by rw [hr.1]; exact Nat.le_refl _), List.take_of_length_le (by rw [hr.1]; exact Nat.le_refl _)]
      · refine grows ⟨g, o, none⟩ cap (by omega) (fun j u hu => ?_) hv
        rw [Addr.add_lit]
        exact hr.at hv hu

/-- The same as a step of the walk. -/
theorem wpList_append_keep {ops : Array Oper} {rest : List Oper} {op : Oper} {a : Act} {Q : Exit → Act → World → Prop} (w : World) (hgd : op.guard = none) (s x : Operand) (t e : TypeId) (z : Value) (size bytes : Nat)
    (hop : op.op = .call { callee := .builtin .append, args := #[s, x], argTypes := #[t, t] }) (ht : P.underlying t = some (.slice e)) (hinfo : (P.info? e).map (fun i => (i.zero, i.size, i.bytes)) = some (some z, size, bytes)) (hzs : z.cells.size = size) (hsz : 0 < size)
    (v : Value) (n : Nat) (xs : List Value) (hs : a.eval s = v) (hr : Row w e size v n xs)
    (A : Option Addr) (m c : Nat) (news : List Value) (hx : a.eval x = .slice A m c) (hl : news.length = m * size) (hA : 0 < m → ∃ ad, A = some ad ∧ ∀ j u, news[j]? = some u → w.cell? (ad.add j) = some u) (hA0 : A = none → c = 0) (h1 : ∀ u ∈ news, u.oneCell' = true)
    (h63 : n + m ≤ maxLen) (hbytes : (n + m) * bytes ≤ 140737488355328)
    (h : ∀ v' w', Row w' e size v' (n + m) (xs ++ news) → Row w' e size v n xs → Unch (fun k => v.ownBlock = some k) w w' → (v'.ownBlock = v.ownBlock ∨ ∃ b, v'.ownBlock = some b ∧ w.heap.size ≤ b) → wpList P ops Q rest (a.put op.dst v') w') :
    wpList P ops Q (op :: rest) a w := by
  obtain ⟨i0, hi, hzz⟩ := Option.map_eq_some_iff.1 hinfo
  simp only [Prod.mk.injEq] at hzz
  obtain ⟨hz0, hz1, hz2⟩ := hzz
  obtain ⟨v1, w1, hrun, h2, h2k, h3, h4⟩ := run_append_keep (P := P) w t op.type e i0 z size bytes ht hi hz0 hz1 hz2 hzs hsz v n xs hr A m c news hl hA hA0 h1 h63 hbytes
  refine wpList_plain hgd fun K hK => ?_
  unfold Oper.wp execOp
  simp only [hop, resolve, invoke, builtin, Sem.run_bind, Sem.run_pure, Result.andThen_ok, List.map_toArray, List.map_cons, List.map_nil, hs, hx, hrun]
  exact hK _ _ (h v1 w1 h2 h2k h3 h4)
/-- One value, boxed for the call. -/
theorem wpList_append1_keep {ops : Array Oper} {rest : List Oper} {op : Oper} {a : Act} {Q : Exit → Act → World → Prop} (w : World) (hgd : op.guard = none) (s x : Operand) (t e : TypeId) (z : Value) (size bytes : Nat)
    (hop : op.op = .call { callee := .builtin .append, args := #[s, x], argTypes := #[t, t] }) (ht : P.underlying t = some (.slice e)) (hinfo : (P.info? e).map (fun i => (i.zero, i.size, i.bytes)) = some (some z, size, bytes)) (hzs : z.cells.size = size) (hsz : 0 < size)
    (v : Value) (n : Nat) (xs : List Value) (hs : a.eval s = v) (hr : Row w e size v n xs) (cs : List Value) (hcs : cs.length = size) (h1 : ∀ u ∈ cs, u.oneCell' = true)
    (hx : a.eval x = .slice (some ⟨w.heap.size, 0, none⟩) 1 1) (h63 : n + 1 ≤ maxLen) (hbytes : (n + 1) * bytes ≤ 140737488355328)
    (h : ∀ v' w', Row w' e size v' (n + 1) (xs ++ cs) → Row w' e size v n xs → Unch (fun k => v.ownBlock = some k) w w' → (v'.ownBlock = v.ownBlock ∨ ∃ b, v'.ownBlock = some b ∧ w.heap.size ≤ b) → wpList P ops Q rest (a.put op.dst v') w') :
    wpList P ops Q (op :: rest) a (w.alloc (.cells cs.toArray e)) := by
  have hu : Unch none_ w (w.alloc (.cells cs.toArray e)) := (Unch.refl _ _).alloc _
  refine wpList_append_keep _ hgd s x t e z size bytes hop ht hinfo hzs hsz v n xs hs (hr.unch hu (fun _ _ h => h)) (some ⟨w.heap.size, 0, none⟩) 1 1 cs hx (by omega)
    (fun _ => ⟨_, rfl, World.news_of_block (heap_alloc_new w _)⟩) (fun h => by cases h) h1 h63 hbytes ?_
  intro v' w' h2 h2k h3 h4
  refine h v' w' h2 h2k ?_ ?_
  · refine ⟨h3.os, h3.tape, h3.output, Nat.le_trans (by simp) h3.size, fun k hk hX => ?_⟩
    exact (h3.block k (by simp; omega) hX).trans (Below.heap_alloc w _ k hk)
  · rcases h4 with h4 | ⟨b, hb, hlt⟩
    · exact .inl h4
    · exact .inr ⟨b, hb, by simp at hlt; omega⟩
end

end Go.Proofs.YtgcpoppinnnciaaGreatDoor.Pal

namespace Go.Proofs.YtgcpoppinnnciaaGreatDoor.Plan
open Go Go.RowKit Go.Proofs.YtgcpoppinnnciaaGreatDoor.Pal
section
variable {P : Program} {Q : Exit → Act → World → Prop}
/-- A plan over a condition T of one's own: what is read ahead is read in whatever world meets it. -/
theorem wp_planC {id : Nat} {a : Act} {w : World} {l hdl tll : List Oper} (T : World → Prop) (hd tl : List Nat) (kap : Nat) (hm : P.follows .mixedOrders = true) (hB : planB .any l.toArray hd tl kap = true)
    (h1 : pickIn l.toArray hd = hdl) (h2 : pickIn l.toArray tl = tll)
    (hQ : ∀ c a d v w, Q (.panic c) (a.put d v) w → Q (.panic c) a w) (hT : T w.drew)
    (h : ∀ S : World → Prop, Hid (∀ W, S W ↔ T W) → Nonempty (In S) → wpQuiet P l.toArray (fun w' => ∃ g : In S, w' = g.w) (fun a' => wpTail P l.toArray Q (fun w' => ∃ g : In S, w' = g.w) kap tll a' w.drew) hdl a) : (Code.region id l.toArray true).wp P Q a w :=
  wp_planS T hd tl kap hm hB h1 h2 hQ hT fun hne => h T (fun _ => Iff.rfl) hne
end
end Go.Proofs.YtgcpoppinnnciaaGreatDoor.Plan
/- Rows that are cut, closed up and cleared where they stand (slices.Delete, slices.DeleteFunc). -/
set_option linter.unusedVariables false
set_option linter.unusedSimpArgs false
namespace Go.Proofs.YtgcpoppinnnciaaGreatDoor.Pal
open Go Go.RowKit

section
variable {w w1 : World} {e : TypeId} {size n cap g o : Nat} {xs : List Value}
theorem Row.place (h : Row w e size (.slice (some ⟨g, o, none⟩) n cap) n xs) : ∃ cur, w.heap[g]? = some (.cells cur e (0, 0)) ∧ n ≤ cap ∧ cap ≤ maxLen ∧ o + cap * size ≤ cur.size ∧ (cur.toList.drop o).take (n * size) = xs := by
  rcases h.2 with ⟨h0, _⟩ | ⟨g', o', cap', cur, h1, hh, hn, hm, hs, ht⟩
  · cases h0
  · injection h1 with h1 _ h4
    injection h1 with h1
    injection h1 with h1 h2
    subst h1; subst h2; subst h4
    exact ⟨cur, hh, hn, hm, hs, ht⟩
theorem Row.ofPlace {cur : Array Value} (hh : w.heap[g]? = some (.cells cur e (0, 0))) (hn : n ≤ cap) (hm : cap ≤ maxLen) (hs : o + cap * size ≤ cur.size) (ht : (cur.toList.drop o).take (n * size) = xs) : Row w e size (.slice (some ⟨g, o, none⟩) n cap) n xs := by
  have hle : n * size ≤ cap * size := Nat.mul_le_mul_right _ hn
  refine ⟨?_, .inr ⟨g, o, cap, cur, rfl, hh, hn, hm, hs, ht⟩⟩
  rw [← ht, List.length_take, List.length_drop, Array.length_toList]
  omega
theorem Row.take (h : Row w e size (.slice (some ⟨g, o, none⟩) n cap) n xs) (k : Nat) (hk : k ≤ n) : Row w e size (.slice (some ⟨g, o, none⟩) k cap) k (xs.take (k * size)) := by
  obtain ⟨cur, hh, hn, hm, hs, ht⟩ := h.place
  refine Row.ofPlace hh (by omega) hm hs ?_
  rw [← ht, List.take_take, Nat.min_eq_left (Nat.mul_le_mul_right _ hk)]
theorem Row.maxcap (h : Row w e size (.slice (some ⟨g, o, none⟩) n cap) n xs) : cap ≤ maxLen ∧ n ≤ cap := by
  obtain ⟨cur, _, hn, hm, _⟩ := h.place; exact ⟨hm, hn⟩
end
section
variable {P : Program}
/-- append where there is room. -/
theorem row_append_room (w : World) (t ty e : TypeId) (z : Value) (size bytes : Nat) (ht : P.underlying t = some (.slice e)) (hinfo : (P.info? e).map (fun i => (i.zero, i.size, i.bytes)) = some (some z, size, bytes))
    (g o n cap : Nat) (xs : List Value) (hr : Row w e size (.slice (some ⟨g, o, none⟩) n cap) n xs)
    (A : Option Addr) (m c : Nat) (news : List Value) (hl : news.length = m * size) (hA : 0 < m → ∃ a, A = some a ∧ ∀ j u, news[j]? = some u → w.cell? (a.add j) = some u) (h1 : ∀ u ∈ news, u.oneCell' = true) (hroom : n + m ≤ cap) :
    ∃ w', (Builtin.append_ #[t, t] ty #[.slice (some ⟨g, o, none⟩) n cap, .slice A m c]).run P w = .ok (.slice (some ⟨g, o, none⟩) (n + m) cap) w' ∧ Row w' e size (.slice (some ⟨g, o, none⟩) (n + m) cap) (n + m) (xs ++ news) ∧ Unch (fun k => k = g) w w' := by
  obtain ⟨i, hi, hzz⟩ := Option.map_eq_some_iff.1 hinfo
  simp only [Prod.mk.injEq] at hzz
  obtain ⟨hz, hsize, hby⟩ := hzz
  obtain ⟨cur, hg, hn, hm, hs, htake⟩ := hr.place
  rcases Nat.eq_zero_or_pos m with hm0 | hm0
  · subst hm0
    obtain rfl : news = [] := List.eq_nil_of_length_eq_zero (by simpa using hl)
    refine ⟨w, ?_, by simpa using hr, Unch.refl _ _⟩
    cases A <;> simp [Builtin.append_, run_underlying ht, sizeOf, typeInfo, hi, Builtin.lenOf, Builtin.firstCells, hn, storeCells, loadCells, loadCellsFrom]
  · obtain ⟨a, rfl, hnews⟩ := hA hm0
    have hle : (n + m) * size ≤ cap * size := Nat.mul_le_mul_right _ hroom
    rw [Nat.add_mul] at hle
    have hfit : o + n * size + news.length ≤ cur.size := by rw [hl]; omega
    subst hsize
    have hrun := run_append_room_cells (P := P) (w := w) t ty e i ht hi g o n cap a m c news hl hnews h1 hroom
      (fun j hj => by rw [cell_of_row w g _ cur e (0, 0) hg]; simp; omega) (fun j _ => blk_free hg _)
    obtain ⟨cur', h3, h4, h5⟩ := setCells_blk g news (o + n * i.size) w cur hg hfit
    obtain ⟨s1, s2, s3, s4⟩ := setCells_rest g news (o + n * i.size) w
    refine ⟨_, hrun, Row.ofPlace h3 hroom hm (by rw [h4]; exact hs) ?_, ⟨s1, s2, s3, by rw [s4]; exact Nat.le_refl _, fun k _ hk => setCells_other g news _ w k hk⟩⟩
    have hcl : cur.toList.length = cur.size := Array.length_toList
    rw [h5, List.append_assoc, List.drop_append_of_le_length (by rw [List.length_take, hcl]; omega), List.drop_take]
    rw [show o + n * i.size - o = n * i.size by omega, htake]
    rw [← List.append_assoc]
    exact List.take_left' (by rw [List.length_append, hr.1, hl, Nat.add_mul])
/-- append as a step of the walk, by what it comes to. -/
theorem wpList_append_run {ops : Array Oper} {rest : List Oper} {op : Oper} {a : Act} {Q : Exit → Act → World → Prop} (w : World) (hgd : op.guard = none) (s x : Operand) (t : TypeId)
    (hop : op.op = .call { callee := .builtin .append, args := #[s, x], argTypes := #[t, t] }) (v1 v2 v : Value) (hs : a.eval s = v1) (hx : a.eval x = v2) (w1 : World)
    (hrun : (Builtin.append_ #[t, t] op.type #[v1, v2]).run P w = .ok v w1) (h : wpList P ops Q rest (a.put op.dst v) w1) : wpList P ops Q (op :: rest) a w := by
  refine wpList_plain hgd fun K hK => ?_
  unfold Oper.wp execOp
  simp only [hop, resolve, invoke, builtin, Sem.run_bind, Sem.run_pure, Result.andThen_ok, List.map_toArray, List.map_cons, List.map_nil, hs, hx, hrun]
  exact hK _ _ h
/-- clear of what stands behind the first k elements. -/
theorem row_clear_past (w : World) (t ty e : TypeId) (z : Value) (size bytes : Nat) (ht : P.underlying t = some (.slice e)) (hinfo : (P.info? e).map (fun i => (i.zero, i.size, i.bytes)) = some (some z, size, bytes)) (hzs : z.cells.size = size) (hz1 : ∀ v ∈ z.cells, v.oneCell' = true)
    (g o n cap : Nat) (xs : List Value) (hr : Row w e size (.slice (some ⟨g, o, none⟩) n cap) n xs) (k m c' : Nat) (hk : k ≤ n) (hkm : k + m ≤ cap) (A : Option Addr) (hA : 0 < m → A = some ⟨g, o + k * size, none⟩) :
    ∃ w', (Builtin.clear_ #[t] ty #[.slice A m c']).run P w = .ok (.tuple #[]) w' ∧ Row w' e size (.slice (some ⟨g, o, none⟩) k cap) k (xs.take (k * size)) ∧ Unch (fun j => j = g) w w' := by
  obtain ⟨i0, hi, hzz⟩ := Option.map_eq_some_iff.1 hinfo
  simp only [Prod.mk.injEq] at hzz
  obtain ⟨hz0, hs1, hb1⟩ := hzz
  rcases Nat.eq_zero_or_pos m with hm0 | hm0
  · subst hm0
    refine ⟨w, ?_, hr.take k hk, Unch.refl _ _⟩
    cases A <;> simp [Builtin.clear_, run_underlying ht]
  · have hA' := hA hm0
    subst hA'
    obtain ⟨cur, hg, hn, hm, hs, htake⟩ := hr.place
    have hlen : (Builtin.zeroCells z.cells m).toList.length = m * size := by simp [Builtin.zeroCells, hzs]
    have hle : (k + m) * size ≤ cap * size := Nat.mul_le_mul_right _ hkm
    rw [Nat.add_mul] at hle
    have hst := run_storeCells_at (P := P) g (o + k * size) e (Builtin.zeroCells z.cells m).toList 0 cur w hg (by rw [hlen]; omega) (by
      intro v hv
      simp only [Builtin.zeroCells, Array.toList_map, List.mem_map] at hv
      obtain ⟨j, hj, rfl⟩ := hv
      have hjr : j < m * size := by simpa [hzs] using hj
      have hsp : 0 < size := by
        rcases Nat.eq_zero_or_pos size with h0 | h0
        · rw [h0] at hjr; simp at hjr
        · exact h0
      have hjs : j % z.cells.size < z.cells.size := by rw [hzs]; exact Nat.mod_lt _ hsp
      rw [getElem!_pos z.cells _ hjs]
      exact hz1 _ (Array.getElem_mem hjs))
    generalize hnew : (cur.toList.take (o + k * size + 0) ++ (Builtin.zeroCells z.cells m).toList ++ cur.toList.drop (o + k * size + 0 + (Builtin.zeroCells z.cells m).toList.length)).toArray = new at hst
    refine ⟨w.setRow g new, ?_, Row.ofPlace (setRow_heap w g cur new e (0, 0) hg) (by omega) hm ?_ ?_, (Unch.refl _ _).step (Y := fun j => j = g) ⟨rfl, rfl, rfl, by simp, fun j _ hj => setRow_other _ _ _ _ hj⟩ (fun _ _ h => h)⟩
    · cases m with
      | zero => omega
      | succ m => simp [Builtin.clear_, run_underlying ht, zeroValue, typeInfo, hi, hz0, hst]
    · rw [← hnew]; simp only [List.size_toArray, List.length_append, List.length_take, List.length_drop, hlen, Array.length_toList]; omega
    · have hcl : cur.toList.length = cur.size := Array.length_toList
      rw [← hnew, List.append_assoc]
      rw [List.drop_append_of_le_length (by rw [List.length_take, hcl]; omega), List.drop_take]
      rw [show o + k * size + 0 - o = k * size by omega]
      have hkn : k * size ≤ n * size := Nat.mul_le_mul_right _ hk
      rw [List.take_append_of_le_length (by rw [List.length_take, List.length_drop, hcl]; omega), ← htake, List.take_take, List.take_take, Nat.min_self, Nat.min_eq_left hkn]
end
end Go.Proofs.YtgcpoppinnnciaaGreatDoor.Pal
/- A region that draws its order, whose effects may come in any order too: what only reads is taken ahead; of the rest (the tail) an invariant tells what is so when which have come up. -/
set_option linter.unusedVariables false
set_option linter.unusedSimpArgs false
namespace Go.Proofs.YtgcpoppinnnciaaGreatDoor.Plan
open Go Go.RowKit
section
variable {P : Program} {ops : Array Oper} {Q : Exit → Act → World → Prop} {md : Region.Mode} {C : World → Prop}

/-- Behind one operation: K; else as it was. -/
def nextK (Q : Exit → Act → World → Prop) (K : Act → World → Prop) : Exit → Act → World → Prop
  | .normal, a, w => K a w
  | e, a, w => Q e a w
theorem op_of_list {i : Nat} {o : Oper} {a : Act} {w : World} {K : Act → World → Prop} (hi : ops[i]? = some o) (h : wpList P ops (nextK Q K) [o] a w) : wpOp P ops Q i K a w := by
  unfold wpOp
  simp only [hi]
  unfold wpList at h
  split
  · rename_i hw
    rw [if_pos hw] at h
    refine h.imp (fun h => ?_) (fun ⟨h1, a0, w0, h2⟩ => ⟨h1, a0, w0, h2⟩)
    unfold Oper.wp at *
    generalize (execOp a.eval o).run P w = r at *
    cases r with
    | ok n w' =>
      cases n <;> simp only [Oper.upon] at h ⊢
      case value => exact h
      case skip => exact h
      case defer => exact h
      case enter f args => exact h.mono fun e w'' he => by cases e <;> first | exact he | (obtain ⟨a0, w0, h2⟩ := he; exact ⟨a0, w0, h2⟩)
      case row => exact h
    | halt x w' => cases x <;> simp only [Oper.upon] at h ⊢; exact h
  · rename_i hw
    rw [if_neg hw] at h
    exact h
/-- The tail in whatever order: an invariant, by which of it have come up (D). -/
structure Free (P : Program) (ops : Array Oper) (Q : Exit → Act → World → Prop) (md : Region.Mode) (C : World → Prop) (tl : List Nat) (Inv : (Nat → Bool) → Act → World → Prop) : Prop where
  step : ∀ D a w, Inv D a w → ∀ i ∈ tl, ∀ o, ops[i]? = some o → D i = false → (∀ e ∈ o.after, Region.binds md e = true → e.on ∈ tl → D e.on = true) → wpList P ops (nextK Q fun a' w' => C w' ∧ Inv (fun j => decide (j = i) || D j) a' w') [o] a w
  fin : ∀ D a w, Inv D a w → (∀ i ∈ tl, D i = true) → Q .normal a w
/-- What a tail's operation waits for is ahead, or of the tail and told earlier. -/
def tlB (md : Region.Mode) (ops : Array Oper) (tl : List Nat) : List Nat → List Nat → Bool
  | _, [] => true
  | pre, k :: r => (match ops[k]? with | some o => o.after.toList.all (fun e => !(Region.binds md e) || !(tl.contains e.on) || pre.contains e.on) && o.after.toList.all (fun e => !(Region.binds md e) || decide (e.on < ops.size)) | none => false) && tlB md ops tl (pre ++ [k]) r
theorem tlB_ready {tl : List Nat} {L : Array Bool} (hall : ∀ j, j < ops.size → j ∉ tl → L.getD j false = true) (hs : L.size = ops.size) : ∀ (pre r : List Nat), tlB md ops tl pre r = true → (∀ k ∈ pre, L.getD k false = true) → (∃ k ∈ r, L.getD k false = false) → ∃ k, k ∈ Region.ready md ops L
  | pre, [], _, _, ⟨k, hk, _⟩ => by cases hk
  | pre, k :: r, hB, hp, hex => by
    simp only [tlB, Bool.and_eq_true] at hB
    obtain ⟨h1, h2⟩ := hB
    cases hk : L.getD k false with
    | true =>
      refine tlB_ready hall hs (pre ++ [k]) r h2 (fun x hx => ?_) ?_
      · rcases List.mem_append.1 hx with hx | hx
        · exact hp x hx
        · simp at hx; subst hx; exact hk
      · obtain ⟨j, hj, hjf⟩ := hex
        rcases List.mem_cons.1 hj with rfl | hj
        · rw [hk] at hjf; cases hjf
        · exact ⟨j, hj, hjf⟩
    | false =>
      cases ho : ops[k]? with
      | none => rw [ho] at h1; cases h1
      | some o =>
        rw [ho] at h1
        simp only [Bool.and_eq_true, List.all_eq_true, Bool.or_eq_true, Bool.not_eq_true', decide_eq_true_eq] at h1
        have hks : k < L.size := by rw [hs]; exact (Array.getElem?_eq_some_iff.1 ho).1
        refine ⟨k, mem_ready.2 ⟨?_, o, ho, fun e he hb => ?_⟩⟩
        · have := hk
          simp only [Array.getD_eq_getD_getElem?, Array.getElem?_eq_getElem hks, Option.getD_some] at this ⊢
          exact this
        · have he' : e ∈ o.after.toList := by simpa using he
          rcases h1.1 e he' with (h3 | h3) | h3
          · rw [hb] at h3; cases h3
          · have : e.on ∉ tl := by simpa using h3
            rcases h1.2 e he' with h4 | h4
            · rw [hb] at h4; cases h4
            · exact hall _ h4 this
          · exact hp _ (by simpa using h3)
/-- How many of the tail have not come up. -/
def undone (L : Array Bool) (tl : List Nat) : Nat := (tl.filter fun k => !(L.getD k false)).length
theorem undone_set {L : Array Bool} {k : Nat} (hk : k < L.size) (hun : L.getD k false = false) : ∀ {tl : List Nat}, tl.Nodup → k ∈ tl → undone (L.setIfInBounds k true) tl + 1 = undone L tl
  | x :: r, hn, hm => by
    obtain ⟨hn1, hn2⟩ := List.nodup_cons.1 hn
    have hset : (L.setIfInBounds k true).getD k false = true := by simp [hk]
    unfold undone
    rw [List.filter_cons, List.filter_cons]
    by_cases hx : x = k
    · subst hx
      rw [hset, hun]
      simp only [Bool.not_true, Bool.false_eq_true, if_false, Bool.not_false, if_true, List.length_cons]
      congr 2
      apply List.filter_congr
      intro y hy
      rw [getD_set_ne false (fun e => hn1 (by rw [e]; exact hy))]
    · have hm' : k ∈ r := by cases hm with | head => exact absurd rfl hx | tail _ h => exact h
      have := undone_set hk hun hn2 hm'
      unfold undone at this
      rw [getD_set_ne false (Ne.symm hx)]
      cases L.getD x false with
      | true => simpa only [Bool.not_true, Bool.false_eq_true, if_false] using this
      | false =>
        simp only [Bool.not_false, if_true, List.length_cons]
        omega
theorem free_sound {tl : List Nat} {Inv : (Nat → Bool) → Act → World → Prop} (F : Free P ops Q md C tl Inv) (hnd : tl.Nodup) (hB : tlB md ops tl [] tl = true) : ∀ (n : Nat) (L : Array Bool) (D : Nat → Bool) (a : Act) (w : World),
    L.size = ops.size → (∀ j, j < ops.size → j ∉ tl → L.getD j false = true) → (∀ j ∈ tl, D j = L.getD j false) → undone L tl = n → Inv D a w → wpAnyK P md ops Q C tl tl.length n L a w
  | 0, L, D, a, w, hs, hall, hD, hn, hI => by
    have hdone : ∀ j ∈ tl, L.getD j false = true := fun j hj => by
      have h1 := List.length_eq_zero_iff.1 hn
      rw [List.filter_eq_nil_iff] at h1
      have := h1 j hj
      simpa using this
    refine ⟨?_, F.fin D a w hI (fun i hi => by rw [hD i hi]; exact hdone i hi)⟩
    cases hr : Region.ready md ops L with
    | nil => rfl
    | cons i r =>
      have hi : i ∈ Region.ready md ops L := by rw [hr]; simp
      obtain ⟨h1, o, ho, _⟩ := mem_ready.1 hi
      have hil : i < ops.size := (Array.getElem?_eq_some_iff.1 ho).1
      have : L.getD i false = true := by
        by_cases hit : i ∈ tl
        · exact hdone i hit
        · exact hall i hil hit
      rw [getD_both h1] at this
      cases this
  | n + 1, L, D, a, w, hs, hall, hD, hn, hI => by
    refine ⟨fun hr => ?_, fun i hi => ?_⟩
    · have hex : ∃ k ∈ tl, L.getD k false = false := by
        have : 0 < (tl.filter fun k => !(L.getD k false)).length := by unfold undone at hn; omega
        obtain ⟨k, hk⟩ := List.exists_mem_of_length_pos this
        have := List.mem_filter.1 hk
        exact ⟨k, this.1, by simpa using this.2⟩
      obtain ⟨k, hk⟩ := tlB_ready hall hs [] tl hB (fun _ h => by cases h) hex
      rw [hr] at hk; cases hk
    · obtain ⟨hun, o, ho, hdep⟩ := mem_ready.1 hi
      have hil : i < ops.size := (Array.getElem?_eq_some_iff.1 ho).1
      have hunf := getD_both hun
      have hit : i ∈ tl := by
        rcases Classical.em (i ∈ tl) with h | h
        · exact h
        · rw [hall i hil h] at hunf; cases hunf
      have hst := F.step D a w hI i hit o ho (by rw [hD i hit]; exact hunf) (fun e he hb het => by rw [hD _ het]; exact hdep e he hb)
      refine wpOp_mono (fun a' w' h' => ⟨fun _ => h'.1, ?_⟩) (op_of_list ho hst)
      refine free_sound F hnd hB n (L.setIfInBounds i true) _ a' w' (by simpa using hs) (fun j hj hjt => getD_set_true (hall j hj hjt)) (fun j hj => ?_) ?_ h'.2
      · by_cases hji : j = i
        · subst hji
          have : j < L.size := by rw [hs]; exact hil
          simp [this]
        · rw [decide_eq_false hji, Bool.false_or, getD_set_ne false (Ne.symm hji), hD j hj]
      · have := undone_set (L := L) (by rw [hs]; exact hil) hunf hnd hit
        omega
def headIB (md : Region.Mode) (ops : Array Oper) (tl : List Nat) : List Nat → Array Bool → Bool
  | [], _ => true
  | i :: r, listed => !(tl.contains i) && ((ops[i]?).map plainOp).getD false && (Region.ready md ops listed).contains i && Region.free md ops listed i && headIB md ops tl r (listed.setIfInBounds i true)
theorem headI_sound {tl : List Nat} {w : World} (hsel : Region.noSelect ops = true) (hC : C w) (hndt : tl.Nodup) (htl : tlB md ops tl [] tl = true)
    (hQ : ∀ c a d v w, Q (.panic c) (a.put d v) w → Q (.panic c) a w) : ∀ (hd : List Nat) (listed : Array Bool) (a : Act), Closed md ops listed → listed.size = ops.size → (∀ k ∈ tl, listed.getD k false = false) → (∀ j, j < ops.size → j ∉ tl → j ∈ hd ∨ listed.getD j false = true) →
    headIB md ops tl hd listed = true → wpQuiet P ops C (fun a' => ∃ Inv, Free P ops Q md C tl Inv ∧ Inv (fun _ => false) a' w) (pickIn ops hd) a → wpAnyK P md ops Q C tl tl.length (hd.length + tl.length) listed a w
  | [], listed, a, _, hs, hun, hall, _, h => by
    obtain ⟨Inv, F, hI⟩ := h
    simp only [List.length_nil, Nat.zero_add]
    refine free_sound F hndt htl tl.length listed (fun _ => false) a w hs (fun j hj hjt => (hall j hj hjt).resolve_left (fun h => by cases h)) (fun j hj => (hun j hj).symm) ?_ hI
    unfold undone
    rw [List.filter_eq_self.2 (fun k hk => by rw [hun k hk]; rfl)]
  | i :: r, listed, a, hcl, hs, hun, hall, hB, h => by
    simp only [headIB, Bool.and_eq_true, Bool.not_eq_true', List.contains_eq_mem, decide_eq_false_iff_not, decide_eq_true_eq] at hB
    obtain ⟨⟨⟨⟨hit, hpl⟩, hr⟩, hf⟩, hB'⟩ := hB
    obtain ⟨oi, hoi, hpo⟩ : ∃ oi, ops[i]? = some oi ∧ plainOp oi = true := by
      cases ho : ops[i]? with
      | none => rw [ho] at hpl; cases hpl
      | some oi => rw [ho] at hpl; exact ⟨oi, rfl, hpl⟩
    simp only [pickIn, hoi] at h
    have hst : qOp P ops C i (wpQuiet P ops C (fun a' => ∃ Inv, Free P ops Q md C tl Inv ∧ Inv (fun _ => false) a' w) (pickIn ops r)) a := by unfold qOp; simp only [hoi]; exact h
    obtain ⟨v, hy, hK⟩ := yieldsIn_of_qOp hoi hst
    have hy' : YieldsIf P ops C oi v a := by
      rcases hy with ⟨hw, hv⟩ | hy
      · exact plain_yields hpo hw hv
      · exact .inr hy
    have hrm : i ∈ Region.ready md ops listed := by simpa using hr
    have hil : i < listed.size := by rw [hs]; exact (Array.getElem?_eq_some_iff.1 hoi).1
    rw [show (i :: r).length + tl.length = (r.length + tl.length) + 1 by simp; omega]
    refine first hoi (Region.noSelect_spec hsel) (fun c a w h => hQ c a _ _ w h) hit (fun L _ _ => prog_len L tl) _ listed a w hcl (Region.free_spec hoi hf) hrm hy' hC ?_
    refine headI_sound hsel hC hndt htl hQ r _ _ (hcl.set hrm) (by simpa using hs) (fun k hk => ?_) (fun j hj hjt => ?_) hB' hK
    · have hne : i ≠ k := fun e => hit (e ▸ hk)
      rw [getD_set_ne false hne]
      exact hun k hk
    · rcases hall j hj hjt with h1 | h1
      · rcases List.mem_cons.1 h1 with rfl | h1
        · right; simp [hil]
        · exact .inl h1
      · exact .inr (getD_set_true h1)
def planIB (md : Region.Mode) (ops : Array Oper) (hd tl : List Nat) : Bool :=
  Region.noSelect ops && decide tl.Nodup && tlB md ops tl [] tl && decide (hd.length + tl.length = ops.size) && (List.range ops.size).all (fun j => hd.contains j || tl.contains j) && headIB md ops tl hd (Array.replicate ops.size false)
/-- The region: what is read ahead in whatever world meets T; then the tail by an invariant. -/
theorem wp_planI {id : Nat} {a : Act} {w : World} {l hdl : List Oper} (T : World → Prop) (hd tl : List Nat) (hm : P.follows .mixedOrders = true) (hB : planIB .any l.toArray hd tl = true)
    (h1 : pickIn l.toArray hd = hdl) (hQ : ∀ c a d v w, Q (.panic c) (a.put d v) w → Q (.panic c) a w) (hT : T w.drew)
    (h : ∀ S : World → Prop, Hid (∀ W, S W ↔ T W) → Nonempty (In S) → wpQuiet P l.toArray (fun w' => ∃ g : In S, w' = g.w) (fun a' => ∃ Inv, Free P l.toArray Q .any (fun w' => ∃ g : In S, w' = g.w) tl Inv ∧ Inv (fun _ => false) a' w.drew) hdl a) : (Code.region id l.toArray true).wp P Q a w := by
  simp only [planIB, Bool.and_eq_true, decide_eq_true_eq, List.all_eq_true, List.mem_range, Bool.or_eq_true, List.contains_eq_mem] at hB
  obtain ⟨⟨⟨⟨⟨hsel, hnd⟩, htl⟩, hlen⟩, hall⟩, hh⟩ := hB
  subst h1
  refine wp_region_any hm (wpAny_of_K (C := fun w' => ∃ g : In T, w' = g.w) (tl := tl) (kap := tl.length) _ _ _ _ ?_)
  have hr : ∀ (n j : Nat), (Array.replicate n false).getD j false = false := fun n j => by
    rcases Nat.lt_or_ge j n with h | h <;> simp [h]
  have := headI_sound (md := .any) (ops := l.toArray) (P := P) (Q := Q) (C := fun w' => ∃ g : In T, w' = g.w) (w := w.drew) (tl := tl) hsel ⟨⟨_, hT⟩, rfl⟩ hnd htl hQ hd (Array.replicate l.toArray.size false) a
    (fun j oj _ hl => (by rw [hr] at hl; cases hl)) (by simp) (fun k _ => hr _ k) (fun j hj hjt => by
      rcases hall j hj with h1 | h1
      · exact .inl (by simpa using h1)
      · exact absurd (by simpa using h1) hjt) hh (h T (fun _ => Iff.rfl) ⟨⟨_, hT⟩⟩)
  rw [hlen] at this
  exact this
/-- The frame, what the tail fills told by letters. -/
def putsF (a : Act) (ds : List Nat) (x : Nat → Value) : Act := ds.foldl (fun a d => a.put (some d) (x d)) a
def upd (x : Nat → Value) (d : Nat) (v : Value) : Nat → Value := fun e => if e = d then v else x e
theorem putsF_self (a : Act) : ∀ ds : List Nat, putsF a ds (fun d => a.tmps.getD d undef) = a
  | [] => rfl
  | d :: ds => by
    have h1 : a.put (some d) (a.tmps.getD d undef) = a := by
      obtain ⟨tmps, defers⟩ := a
      simp only [Act.put]
      congr 1
      apply Array.ext_getElem?
      intro i
      rw [Array.getElem?_setIfInBounds]
      split
      · rename_i e
        subst e
        split
        · rename_i h; simp [h]
        · rename_i h; simp [Array.getElem?_eq_none (Nat.le_of_not_lt h)]
      · rfl
    show putsF (a.put (some d) (a.tmps.getD d undef)) ds _ = a
    rw [h1]
    exact putsF_self a ds
theorem free_slots {a0 : Act} {w0 : World} {tl : List Nat} (ds : List Nat) (x0 : Nat → Value) (I : (Nat → Bool) → (Nat → Value) → World → Prop) (h0 : a0 = putsF a0 ds x0) (hI : I (fun _ => false) x0 w0)
    (hstep : ∀ D x w, I D x w → ∀ i ∈ tl, ∀ o, ops[i]? = some o → D i = false → (∀ e ∈ o.after, Region.binds md e = true → e.on ∈ tl → D e.on = true) → wpList P ops (nextK Q fun a' w' => C w' ∧ ∃ x', a' = putsF a0 ds x' ∧ I (fun j => decide (j = i) || D j) x' w') [o] (putsF a0 ds x) w)
    (hfin : ∀ D x w, I D x w → (∀ i ∈ tl, D i = true) → Q .normal (putsF a0 ds x) w) : ∃ Inv, Free P ops Q md C tl Inv ∧ Inv (fun _ => false) a0 w0 :=
  ⟨fun D a w => ∃ x, a = putsF a0 ds x ∧ I D x w, ⟨fun D a w ⟨x, hx, hI⟩ => hx ▸ hstep D x w hI, fun D a w ⟨x, hx, hI⟩ hd => hx ▸ hfin D x w hI hd⟩, x0, h0, hI⟩
/-- .. whatever the slots held. -/
theorem free_slots2 {a0 : Act} {w0 : World} {tl : List Nat} (ds : List Nat) (I : (Nat → Bool) → (Nat → Value) → World → Prop) (hI : ∀ x, I (fun _ => false) x w0)
    (hstep : ∀ D x w, I D x w → ∀ i ∈ tl, ∀ o, ops[i]? = some o → D i = false → (∀ e ∈ o.after, Region.binds md e = true → e.on ∈ tl → D e.on = true) → wpList P ops (nextK Q fun a' w' => C w' ∧ ∃ x', a' = putsF a0 ds x' ∧ I (fun j => decide (j = i) || D j) x' w') [o] (putsF a0 ds x) w)
    (hfin : ∀ D x w, I D x w → (∀ i ∈ tl, D i = true) → Q .normal (putsF a0 ds x) w) : ∃ Inv, Free P ops Q md C tl Inv ∧ Inv (fun _ => false) a0 w0 :=
  free_slots ds _ I (putsF_self a0 ds).symm (hI _) hstep hfin
end
end Go.Proofs.YtgcpoppinnnciaaGreatDoor.Plan
/- What a slice that comes in holds, read as a list. -/
set_option linter.unusedVariables false
set_option linter.unusedSimpArgs false
namespace Go.Proofs.YtgcpoppinnnciaaGreatDoor.Pal
open Go Go.RowKit

/-- A slice that is read: its elements, each of size cells. -/
structure RdS {α : Type} (w : World) (size : Nat) (R : α → List Value → Prop) (A : Option Addr) (n : Nat) (xs : List α) : Prop where
  len : xs.length = n
  max : n ≤ maxLen
  get : 0 < n → ∃ b o, A = some ⟨b, o, none⟩ ∧ b < w.heap.size ∧ ∀ (i : Nat) (x : α), xs[i]? = some x → ∃ c : List Value, c.length = size ∧ R x c ∧ ∀ (j : Nat) (u : Value), c[j]? = some u → w.cell? ⟨b, o + i * size + j, none⟩ = some u
theorem RdS.unch {α : Type} {w w1 : World} {size : Nat} {R R' : α → List Value → Prop} {A : Option Addr} {n : Nat} {xs : List α} {X : Nat → Prop} (h : RdS w size R A n xs) (hu : Unch X w w1) (hX : ∀ k, k < w.heap.size → ¬ X k) (hR : ∀ x c, R x c → R' x c) : RdS w1 size R' A n xs :=
  ⟨h.len, h.max, fun hn => by
    obtain ⟨b, o, hA, hb, hc⟩ := h.get hn
    refine ⟨b, o, hA, Nat.lt_of_lt_of_le hb hu.size, fun i x hx => ?_⟩
    obtain ⟨c, h1, h2, h3⟩ := hc i x hx
    exact ⟨c, h1, hR x c h2, fun j u hj => hu.cell (h3 j u hj) (hX b hb)⟩⟩
/-- Element i. -/
theorem RdS.at {α : Type} {w : World} {size : Nat} {R : α → List Value → Prop} {A : Option Addr} {n : Nat} {xs : List α} (h : RdS w size R A n xs) {i : Nat} {x : α} (hx : xs[i]? = some x) :
    ∃ b o c, A = some ⟨b, o, none⟩ ∧ b < w.heap.size ∧ c.length = size ∧ R x c ∧ ∀ (j : Nat) (u : Value), c[j]? = some u → w.cell? ⟨b, o + i * size + j, none⟩ = some u := by
  have hi : i < n := by rw [← h.len]; exact (List.getElem?_eq_some_iff.1 hx).1
  obtain ⟨b, o, hA, hb, hc⟩ := h.get (by omega)
  obtain ⟨c, h1, h2, h3⟩ := hc i x hx
  exact ⟨b, o, c, hA, hb, h1, h2, h3⟩

theorem exists_list {α : Type} {Q : Nat → α → Prop} : ∀ n, (∀ i, i < n → ∃ x, Q i x) → ∃ xs : List α, xs.length = n ∧ ∀ (i : Nat) (x : α), xs[i]? = some x → Q i x
  | 0, _ => ⟨[], rfl, fun i x h => by simp at h⟩
  | n + 1, h => by
    obtain ⟨xs, hl, hx⟩ := exists_list n (fun i hi => h i (by omega))
    obtain ⟨y, hy⟩ := h n (by omega)
    refine ⟨xs ++ [y], by simp [hl], fun i x hix => ?_⟩
    rcases Nat.lt_or_ge i xs.length with hi | hi
    · rw [List.getElem?_append_left hi] at hix
      exact hx i x hix
    · have : i = n := by
        have := (List.getElem?_eq_some_iff.1 hix).1
        simp [hl] at this hi
        omega
      subst this
      rw [List.getElem?_append_right hi, ← hl] at hix
      simp at hix
      exact hix ▸ hy

section
variable {P : Program} {H : Type} {enc : TypeId × Value → H} {w : World} {base : Nat} {spare : Nat → Bool} {held : Bool}
theorem cells?_get {a : Addr} {n : Nat} {cs : List Value} (h : w.cells? base a n = some cs) : cs.length = n ∧ ∀ (j : Nat) (u : Value), cs[j]? = some u → w.cell? (a.add j) = some u := by
  obtain ⟨h0, h1, h2⟩ := World.cells?_some h
  refine ⟨h1, fun j u hj => ?_⟩
  have hj' : j < n := by rw [← h1]; exact (List.getElem?_eq_some_iff.1 hj).1
  rw [h2 j hj', hj]
theorem open_slice {α : Type} {t e : TypeId} {fuel size : Nat} {cs : List Value} {x : DataW H × List MemPlace} (ht : P.underlying t = some (.slice e)) (hc : P.cellsOf e = size) (hsz : 0 < size) (R : α → List Value → Prop)
    (hel : ∀ (fuel : Nat) (cs : List Value) (y : DataW H × List MemPlace), DataW.trod enc P w base spare held fuel e cs = some y → ∃ z : α, R z cs)
    (h : DataW.trod enc P w base spare held fuel t cs = some x) : ∃ A len cap xs, cs = [.slice A len cap] ∧ len ≤ cap ∧ (A = none → cap = 0) ∧ RdS w size R A len xs := by
  rcases DataW.trod_slice ht h with ⟨rfl, _⟩ | ⟨a, len, cap, elems, rest, n, _, rfl, _, hb, hl, hm, hlen, hget, _, _⟩
  · exact ⟨none, 0, 0, [], rfl, Nat.le_refl _, fun _ => rfl, rfl, Nat.zero_le _, fun h => absurd h (by omega)⟩
  · have each : ∀ i, i < len → ∃ z : α, ∃ c : List Value, c.length = size ∧ R z c ∧ ∀ (j : Nat) (u : Value), c[j]? = some u → w.cell? ((a.add (i * size)).add j) = some u := by
      intro i hi
      have h1 := hget i hi
      rw [List.getElem?_eq_getElem (by omega), hc, Option.bind_eq_some_iff] at h1
      obtain ⟨c, hcs, hy⟩ := h1
      obtain ⟨z, hz⟩ := hel n c _ hy
      obtain ⟨g1, g2⟩ := cells?_get hcs
      exact ⟨z, c, g1, hz, g2⟩
    obtain ⟨xs, hxl, hxs⟩ := exists_list len each
    refine ⟨some a, len, cap, xs, rfl, hl, fun h => (by cases h), hxl, by omega, fun hn => ?_⟩
    obtain ⟨c0, hc0, _, hcell0⟩ := hxs 0 _ (List.getElem?_eq_getElem (by omega))
    have hsp : a.spot = none ∧ a.block < w.heap.size := by
      have h2 := hcell0 0 _ (List.getElem?_eq_getElem (by omega))
      have : (a.add (0 * size)).add 0 = a := by simp [Addr.add]
      rw [this] at h2
      exact ⟨World.cell?_spot h2, World.block_lt_of_cell? w a h2⟩
    obtain ⟨b, o, s⟩ := a
    obtain ⟨rfl, hblt⟩ := hsp
    refine ⟨b, o, rfl, hblt, fun i x hx => ?_⟩
    obtain ⟨c, h1, h2, h3⟩ := hxs i x hx
    refine ⟨c, h1, h2, fun j u hj => ?_⟩
    have := h3 j u hj
    rwa [Addr.add_lit, Addr.add_lit] at this
end
theorem u8_wf {x : Int} (h : (Lit.int .u8 x).wf = true) : 0 ≤ x ∧ x ≤ 255 := by
  simp [Lit.wf, IntKind.min, IntKind.max, IntKind.signed, IntKind.bits] at h
  omega
def i64ok (x : Int) : Prop := -9223372036854775808 ≤ x ∧ x ≤ 9223372036854775807
theorem i64_wf {x : Int} (h : (Lit.int .i64 x).wf = true) : i64ok x := by
  simp [Lit.wf, IntKind.min, IntKind.max, IntKind.signed, IntKind.bits] at h
  unfold i64ok
  omega
theorem list3 {α : Type} {l : List α} (h : l.length = 3) : ∃ a b c, l = [a, b, c] := by
  match l, h with
  | [a, b, c], _ => exact ⟨a, b, c, rfl⟩
theorem list5 {α : Type} {l : List α} (h : l.length = 5) : ∃ a b c d e, l = [a, b, c, d, e] := by
  match l, h with
  | [a, b, c, d, e], _ => exact ⟨a, b, c, d, e, rfl⟩
theorem get_some {α : Type} {l : List α} {n : Nat} (hl : l.length = n) {i : Nat} (hi : i < n) : ∃ x, l[i]? = some x := ⟨_, List.getElem?_eq_getElem (by omega)⟩
end Go.Proofs.YtgcpoppinnnciaaGreatDoor.Pal
/- A region that draws its order and only reads, whose callees may lay blocks: walked once, in whatever world in which all old blocks are as they were. -/
set_option linter.unusedVariables false
set_option linter.unusedSimpArgs false
namespace Go.Proofs.YtgcpoppinnnciaaGreatDoor.Pal
open Go Go.RowKit

/-- A world in which all that was in w is as it was. -/
structure UW (w : World) where
  w' : World
  h : Unch none_ w w'
theorem UW.ne (w : World) : Nonempty (UW w) := ⟨⟨w, Unch.refl _ _⟩⟩
theorem wp_region_quiet_u {P : Program} {id : Nat} {Q : Exit → Act → World → Prop} {a : Act} {w : World} {l : List Oper} (hm : P.follows .mixedOrders = true) (hB : Region.lexB .any l.toArray = true)
    (h : Nonempty (UW w) → wpQuiet P l.toArray (fun w' => ∃ g : UW w, w' = g.w') (fun a' => ∀ w', (∃ g : UW w, w' = g.w') → Q .normal a' w') l a) : (Code.region id l.toArray true).wp P Q a w :=
  wp_region_quiet (C := fun w' => ∃ g : UW w, w' = g.w') hm hB ⟨⟨w.drew, (Unch.refl _ _).drew⟩, rfl⟩ (by simpa using h (UW.ne w))
theorem cellU {w : World} {a : Addr} {v : Value} (h : w.cell? a = some v) (g : UW w) : g.w'.cell? a = some v := g.h.cell h (fun h => h)
/-- A callee's contract, met in such a world. -/
theorem unch_of {P : Program} {f : FuncId} {args : Array Value} {w : World} {v : Value} (g : UW w) (h : Calls P f args g.w' fun e w' => e = .returned v ∧ Unch none_ g.w' w') : Calls P f args g.w' fun e w'' => e = .returned v ∧ ∃ g' : UW w, w'' = g'.w' :=
  h.mono fun _ w'' ⟨he, hu⟩ => ⟨he, ⟨w'', g.h.trans hu⟩, rfl⟩
/-- A contract in whatever such world. -/
abbrev CallU (P : Program) (f : FuncId) (args : Array Value) (v : Value) (w : World) : Prop := ∀ g : UW w, Calls P f args g.w' fun e w'' => e = .returned v ∧ ∃ g' : UW w, w'' = g'.w'
theorem CallU.mk {P : Program} {f : FuncId} {args : Array Value} {v : Value} {w : World} (h : ∀ w', Unch none_ w w' → Calls P f args w' fun e w'' => e = .returned v ∧ Unch none_ w' w'') : CallU P f args v w := fun g => unch_of g (h g.w' g.h)
/-- A contract in whatever world in which all that was in w is as it was. -/
def QC (P : Program) (f : FuncId) (args : Array Value) (v : Value) (w : World) : Prop := ∀ w', Unch none_ w w' → Calls P f args w' fun e w'' => e = .returned v ∧ Unch none_ w' w''
theorem QC.next {P : Program} {f : FuncId} {args : Array Value} {v : Value} {w w1 : World} (h : QC P f args v w) (hu : Unch none_ w w1) : QC P f args v w1 := fun w' h' => h w' (hu.trans h')
theorem QC.u {P : Program} {f : FuncId} {args : Array Value} {v : Value} {w : World} (h : QC P f args v w) : CallU P f args v w := CallU.mk h
theorem QC.now {P : Program} {f : FuncId} {args : Array Value} {v : Value} {w : World} (h : QC P f args v w) : Calls P f args w fun e w'' => e = .returned v ∧ Unch none_ w w'' := h w (Unch.refl _ _)
end Go.Proofs.YtgcpoppinnnciaaGreatDoor.Pal
/- A map keyed by strings, as a list of its entries in the order in which they were laid: made, looked up, stored into, counted, ranged over. -/
set_option linter.unusedVariables false
set_option linter.unusedSimpArgs false
namespace Go.Proofs.YtgcpoppinnnciaaGreatDoor.Pal
open Go Go.RowKit Go.ChangeMaps
open Go.Maps (Keyed string_keyed)
open Go.WideMaps (keyOf_string_mk)

abbrev Asc := List (ByteArray × Value)
def mget (m : Asc) (k : ByteArray) : Option Value := (m.find? fun p => decide (p.1 = k)).map (·.2)
def mput (m : Asc) (k : ByteArray) (v : Value) : Asc := if (mget m k).isSome then m.map (fun p => if p.1 = k then (p.1, v) else p) else m ++ [(k, v)]
theorem mget_none {m : Asc} {k : ByteArray} : mget m k = none ↔ ∀ p ∈ m, p.1 ≠ k := by
  unfold mget
  rw [Option.map_eq_none_iff, List.find?_eq_none]
  simp
theorem mget_mem {m : Asc} {k : ByteArray} {v : Value} (h : mget m k = some v) : (k, v) ∈ m := by
  unfold mget at h
  obtain ⟨p, hp, rfl⟩ := Option.map_eq_some_iff.1 h
  have h1 := List.find?_some hp
  have h2 := List.mem_of_find?_eq_some hp
  obtain ⟨a, b⟩ := p
  simp at h1; subst h1
  exact h2
theorem mget_of {m : Asc} (hn : (m.map (·.1)).Nodup) {k : ByteArray} {v : Value} (h : (k, v) ∈ m) : mget m k = some v := by
  induction m with
  | nil => cases h
  | cons p m ih =>
    simp only [List.map_cons, List.nodup_cons] at hn
    unfold mget
    rw [List.find?_cons]
    rcases List.mem_cons.1 h with h | h
    · rw [← h]; simp
    · have : p.1 ≠ k := fun e => hn.1 (by rw [e]; exact List.mem_map.2 ⟨_, h, rfl⟩)
      simp only [decide_eq_true_eq, this, decide_false]
      exact ih hn.2 h
theorem mget_isSome {m : Asc} {k : ByteArray} : (mget m k).isSome = true ↔ k ∈ m.map (·.1) := by
  constructor
  · intro h
    obtain ⟨v, hv⟩ := Option.isSome_iff_exists.1 h
    exact List.mem_map.2 ⟨_, mget_mem hv, rfl⟩
  · intro h
    cases hg : mget m k with
    | some v => rfl
    | none =>
      obtain ⟨p, hp, rfl⟩ := List.mem_map.1 h
      exact absurd rfl (mget_none.1 hg p hp)
theorem mput_keys {m : Asc} {k : ByteArray} {v : Value} : (mput m k v).map (·.1) = if (mget m k).isSome then m.map (·.1) else m.map (·.1) ++ [k] := by
  unfold mput
  by_cases h : (mget m k).isSome = true
  · rw [if_pos h, if_pos h, List.map_map]
    apply List.map_congr_left
    intro p hp
    simp only [Function.comp]
    split <;> rfl
  · rw [if_neg h, if_neg h]
    simp
theorem mput_nodup {m : Asc} {k : ByteArray} {v : Value} (h : (m.map (·.1)).Nodup) : ((mput m k v).map (·.1)).Nodup := by
  rw [mput_keys]
  split
  · exact h
  · rename_i hk
    exact List.nodup_append.2 ⟨h, by simp, fun a ha b hb e => by simp at hb; subst hb; subst e; exact hk (mget_isSome.2 ha)⟩
theorem mget_mput {m : Asc} {k j : ByteArray} {v : Value} : mget (mput m k v) j = if j = k then some v else mget m j := by
  unfold mput
  by_cases h : (mget m k).isSome = true
  · rw [if_pos h]
    have hk := mget_isSome.1 h
    clear h
    induction m with
    | nil => cases hk
    | cons p m ih =>
      unfold mget at ih ⊢
      rw [List.map_cons, List.find?_cons, List.find?_cons]
      by_cases hp : p.1 = k
      · by_cases hj : j = k
        · subst hj; simp [hp]
        · have : ¬ k = j := fun e => hj e.symm
          simp only [hp, if_true, this, decide_false, hj, if_false]
          rcases Classical.em (k ∈ m.map (·.1)) with hk2 | hk2
          · rw [ih hk2, if_neg hj]
          · have hm : m.map (fun p => if p.1 = k then (p.1, v) else p) = m := by
              rw [List.map_congr_left (g := id)]
              · simp
              · intro q hq
                rw [if_neg (fun e => hk2 (by rw [← e]; exact List.mem_map.2 ⟨q, hq, rfl⟩))]
                rfl
            rw [hm]
      · have hk2 : k ∈ m.map (·.1) := by
          rcases List.mem_cons.1 hk with h | h
          · exact absurd h.symm hp
          · exact h
        rw [if_neg hp]
        by_cases hj : p.1 = j
        · have : j ≠ k := fun e => hp (hj.trans e)
          simp [hj, this]
        · simp only [hj, decide_false]
          exact ih hk2
  · rw [if_neg h]
    have hk : ∀ p ∈ m, p.1 ≠ k := mget_none.1 (by cases hg : mget m k with | none => rfl | some v => rw [hg] at h; exact absurd rfl h)
    unfold mget
    rw [List.find?_append]
    by_cases hj : j = k
    · subst hj
      have : m.find? (fun p => decide (p.1 = j)) = none := by rw [List.find?_eq_none]; simpa using hk
      rw [this]; simp
    · have : ¬ k = j := fun e => hj e.symm
      rw [if_neg hj]
      cases hf : m.find? (fun p => decide (p.1 = j)) <;> simp [this]

theorem set_same {α : Type} {l : List α} {i : Nat} {x : α} (h : l[i]? = some x) : l.set i x = l := by
  apply List.ext_getElem?
  intro j
  rw [List.getElem?_set]
  split
  · rename_i e
    subst e
    split
    · exact h.symm
    · rename_i hn
      rw [List.getElem?_eq_none (by omega)]
  · rfl
theorem nodup_inj {α : Type} {l : List α} (h : l.Nodup) {i j : Nat} {x : α} (hi : l[i]? = some x) (hj : l[j]? = some x) : i = j := by
  obtain ⟨h1, h2⟩ := List.getElem?_eq_some_iff.1 hi
  obtain ⟨h3, h4⟩ := List.getElem?_eq_some_iff.1 hj
  have hp := List.pairwise_iff_getElem.1 h
  rcases Nat.lt_trichotomy i j with hlt | he | hlt
  · exact absurd (h2.trans h4.symm) (hp i j h1 h3 hlt)
  · exact he
  · exact absurd (h4.trans h2.symm) (hp j i h3 h1 hlt)
structure SmE (es : Array MapEntry) (clock : Nat) (m : Asc) : Prop where
  ents : es.toList.map (fun x => (x.key, x.val)) = m.map fun p => (Value.string p.1, p.2)
  one : (m.map (·.1)).Nodup
  small : ∀ p ∈ m, p.1.size ≤ maxLen
  bornNodup : (es.toList.map (·.born)).Nodup
  bornLt : ∀ x ∈ es.toList, x.born < clock
/-- Block b is a map with the entries m. -/
def Sm (w : World) (b : Nat) (m : Asc) : Prop := ∃ es clock, w.heap[b]? = some (.map es clock) ∧ SmE es clock m
section
variable {es : Array MapEntry} {clock : Nat} {m : Asc}
theorem SmE.mem (h : SmE es clock m) {x : MapEntry} (hx : x ∈ es.toList) : ∃ p ∈ m, x.key = .string p.1 ∧ x.val = p.2 := by
  have : (x.key, x.val) ∈ m.map fun p => (Value.string p.1, p.2) := by rw [← h.ents]; exact List.mem_map.2 ⟨x, hx, rfl⟩
  obtain ⟨p, hp, he⟩ := List.mem_map.1 this
  injection he with h1 h2
  exact ⟨p, hp, h1.symm, h2.symm⟩
theorem SmE.of (h : SmE es clock m) {p : ByteArray × Value} (hp : p ∈ m) : ∃ x ∈ es.toList, x.key = .string p.1 ∧ x.val = p.2 := by
  have : (Value.string p.1, p.2) ∈ es.toList.map (fun x => (x.key, x.val)) := by rw [h.ents]; exact List.mem_map.2 ⟨p, hp, rfl⟩
  obtain ⟨x, hx, he⟩ := List.mem_map.1 this
  injection he with h1 h2
  exact ⟨x, hx, h1, h2⟩
theorem SmE.len (h : SmE es clock m) : es.size = m.length := by
  have := congrArg List.length h.ents
  simpa using this
theorem SmE.keyed {P : Program} {k : TypeId} (hk : P.underlying k = some .string) (h : SmE es clock m) : ∀ e ∈ es.toList, ∃ l, keyOf P k e.key = some l := fun e he => by
  obtain ⟨p, hp, h1, _⟩ := h.mem he
  rw [h1]
  exact ⟨_, keyOf_string_mk hk (h.small p hp)⟩
end
section
variable {w w1 : World} {b : Nat} {m : Asc} {X : Nat → Prop}
theorem Sm.lt (h : Sm w b m) : b < w.heap.size := by obtain ⟨es, clock, h1, _⟩ := h; exact lt_of_heap h1
theorem Sm.unch (h : Sm w b m) (hu : Unch X w w1) (hX : ¬ X b) : Sm w1 b m := by obtain ⟨es, clock, h1, h2⟩ := h; exact ⟨es, clock, hu.heap h1 hX, h2⟩
theorem Sm.made (w : World) : Sm (w.alloc (.map #[] 0)) w.heap.size [] := ⟨#[], 0, blk_new w _, ⟨rfl, List.nodup_nil, (fun p hp => by cases hp), (by simp), (fun x hx => by simp at hx)⟩⟩
theorem Sm.one (h : Sm w b m) : (m.map (·.1)).Nodup := by obtain ⟨_, _, _, h2⟩ := h; exact h2.one
theorem Sm.small (h : Sm w b m) : ∀ p ∈ m, p.1.size ≤ maxLen := by obtain ⟨_, _, _, h2⟩ := h; exact h2.small
end
theorem unch_setBlock {w : World} {K : Nat} (o : Obj) : Unch (fun k => k = K) w (setBlock w K o) :=
  ⟨rfl, rfl, rfl, by simp [setBlock], fun k _ hk => by simp [setBlock, Array.getElem?_setIfInBounds, Ne.symm hk]⟩
theorem heap_setBlock {w : World} {K : Nat} (o : Obj) (hK : K < w.heap.size) : (setBlock w K o).heap[K]? = some o := by
  simp [setBlock, Array.getElem?_setIfInBounds, hK]
section
variable {P : Program} {t k e : TypeId}
/-- m[k] (c = false), m[k] with ok (c = true). -/
theorem sm_look {w : World} {b : Nat} {m : Asc} (c : Bool) (h : Sm w b m) (ht : P.underlying t = some (.map k e)) (hk : P.underlying k = some .string) {z : Value} (hz : (zeroValue e).run P w = .ok z w) (s : ByteArray) (hs : s.size ≤ maxLen) :
    (Instr.lookup t (.map (some b)) (.string s) c).run P w = .ok (if c then .tuple #[(mget m s).getD z, .bool (mget m s).isSome] else (mget m s).getD z) w := by
  obtain ⟨es, clock, hK, hc⟩ := h
  have K := string_keyed hk
  have hl := keyOf_string_mk hk hs
  rcases K.find w hl es.toList (hc.keyed hk) with ⟨h1, h2⟩ | ⟨j, e0, h1, h2, h3⟩
  · have hn : mget m s = none := mget_none.2 fun p hp e1 => by
      obtain ⟨x, hx, hxk, _⟩ := hc.of hp
      exact h2 x hx (by rw [hxk, e1])
    cases c <;> simp [Instr.lookup, run_underlying ht, MapKept.run_getObj_map hK, K.check w _ hl, h1, hz, hn]
  · obtain ⟨p, hp, hpk, hpv⟩ := hc.mem (List.mem_of_getElem? h2)
    rw [h3] at hpk
    injection hpk with hpk
    have hg : mget m s = some e0.val := mget_of hc.one (by rw [hpv, hpk]; exact hp)
    cases c <;> simp [Instr.lookup, run_underlying ht, MapKept.run_getObj_map hK, K.check w _ hl, h1, hg]
/-- of a nil map. -/
theorem sm_look_nil {w : World} (c : Bool) (ht : P.underlying t = some (.map k e)) (hk : P.underlying k = some .string) {z : Value} (hz : (zeroValue e).run P w = .ok z w) (s : ByteArray) (hs : s.size ≤ maxLen) :
    (Instr.lookup t (.map none) (.string s) c).run P w = .ok (if c then .tuple #[z, .bool false] else z) w := by
  have K := string_keyed hk
  have hl := keyOf_string_mk hk hs
  have hf : (Instr.findKey k (.string s) []).run P w = .ok none w := by
    rcases K.find w hl [] (fun e he => by cases he) with ⟨h1, _⟩ | ⟨j, e0, _, h2, _⟩
    · exact h1
    · cases h2
  cases c <;> simp [Instr.lookup, run_underlying ht, K.check w _ hl, hz, hf]
/-- m[k] = v. -/
theorem sm_put {w : World} {b : Nat} {m : Asc} (h : Sm w b m) (ht : P.underlying t = some (.map k e)) (hk : P.underlying k = some .string) (s : ByteArray) (hs : s.size ≤ maxLen) (v : Value) :
    ∃ w1, (Instr.mapUpdate t (.map (some b)) (.string s) v).run P w = .ok () w1 ∧ Sm w1 b (mput m s v) ∧ Unch (fun j => j = b) w w1 := by
  obtain ⟨es, clock, hK, hc⟩ := h
  have K := string_keyed hk
  have hl := keyOf_string_mk hk hs
  rcases K.find w hl es.toList (hc.keyed hk) with ⟨h1, h2⟩ | ⟨j, e0, h1, h2, h3⟩
  · have hn : mget m s = none := mget_none.2 fun p hp e1 => by
      obtain ⟨x, hx, hxk, _⟩ := hc.of hp
      exact h2 x hx (by rw [hxk, e1])
    refine ⟨setBlock w b (.map (es.push ⟨.string s, v, clock⟩) (clock + 1)), ?_, ⟨_, _, heap_setBlock _ (lt_of_heap hK), ⟨?_, mput_nodup hc.one, ?_, ?_, ?_⟩⟩, unch_setBlock _⟩
    · simp [Instr.mapUpdate, run_underlying ht, MapKept.run_getObj_map hK, K.check w false hl, h1, MapKept.run_setObj_map _ hK, Result.andThen, setBlock]
    · simp only [Array.toList_push, List.map_append, List.map_cons, List.map_nil, hc.ents, mput, hn, Option.isSome_none, Bool.false_eq_true, if_false]
    · intro p hp
      simp only [mput, hn, Option.isSome_none, Bool.false_eq_true, if_false, List.mem_append, List.mem_singleton] at hp
      rcases hp with hp | rfl
      · exact hc.small p hp
      · exact hs
    · simp only [Array.toList_push, List.map_append, List.map_cons, List.map_nil]
      refine List.nodup_append.2 ⟨hc.bornNodup, by simp, fun u hu v hv e1 => ?_⟩
      simp only [List.mem_singleton] at hv
      obtain ⟨x, hx, rfl⟩ := List.mem_map.1 hu
      have := hc.bornLt x hx
      omega
    · intro x hx
      simp at hx
      rcases hx with hx | rfl
      · have := hc.bornLt x (by simpa using hx); omega
      · simp
  · obtain ⟨p, hp, hpk, hpv⟩ := hc.mem (List.mem_of_getElem? h2)
    rw [h3] at hpk
    injection hpk with hpk
    have hj : es[j]? = some e0 := by simpa using h2
    have hg : mget m s = some e0.val := mget_of hc.one (by rw [hpv, hpk]; exact hp)
    have hkeyf : ∀ e', es[j]? = some e' → ({ e' with key := .string s, val := v } : MapEntry).key = e'.key := fun e' he' => by rw [hj] at he'; cases he'; exact h3.symm
    have hL : (es.modify j fun e' => { e' with key := .string s, val := v }).toList = es.toList.set j { e0 with key := .string s, val := v } := by rw [Array.toList_modify, modify_eq_set _ _ _ _ h2]
    have hjl : j < es.toList.length := (List.getElem?_eq_some_iff.1 h2).1
    have hmapb : (es.toList.set j { e0 with key := .string s, val := v }).map (·.born) = es.toList.map (·.born) := by
      rw [List.map_set]
      exact set_same (by simp [h2])
    refine ⟨setBlock w b (.map (es.modify j fun e' => { e' with key := .string s, val := v }) clock), ?_, ⟨_, _, heap_setBlock _ (lt_of_heap hK), ⟨?_, mput_nodup hc.one, ?_, by rw [hL, hmapb]; exact hc.bornNodup, ?_⟩⟩, unch_setBlock _⟩
    · simp [Instr.mapUpdate, run_underlying ht, MapKept.run_getObj_map hK, K.check w false hl, h1, hj, h3, K.stays w hl, MapKept.run_setObj_map _ hK, Result.andThen, setBlock]
    · rw [hL, List.map_set]
      simp only [mput, hg, Option.isSome_some, if_true]
      apply List.ext_getElem?
      intro i
      have hi := congrArg (fun l => l[i]?) hc.ents
      simp only [List.getElem?_map] at hi
      rw [List.getElem?_set, List.getElem?_map, List.getElem?_map, List.getElem?_map]
      have hjm : ∃ q, m[j]? = some q ∧ q.1 = s := by
        have hj2 := congrArg (fun l => l[j]?) hc.ents
        simp only [List.getElem?_map, h2, Option.map_some] at hj2
        cases hm : m[j]? with
        | none => rw [hm] at hj2; cases hj2
        | some q =>
          rw [hm] at hj2
          simp only [Option.map_some, Option.some.injEq, Prod.mk.injEq, h3] at hj2
          exact ⟨q, rfl, by have := hj2.1; injection this with this; exact this.symm⟩
      obtain ⟨q, hq, hqs⟩ := hjm
      by_cases hij : j = i
      · subst hij
        rw [if_pos rfl, if_pos (by simpa using hjl), hq]
        simp [hqs]
      · rw [if_neg hij, hi]
        cases hm : m[i]? with
        | none => rfl
        | some r =>
          have : r.1 ≠ s := fun e1 => by
            have hnd := hc.one
            have h5 : (m.map (·.1))[i]? = some s := by rw [List.getElem?_map, hm]; simp [e1]
            have h6 : (m.map (·.1))[j]? = some s := by rw [List.getElem?_map, hq]; simp [hqs]
            exact hij (nodup_inj hnd h6 h5)
          simp [this]
    · intro p' hp'
      simp only [mput, hg, Option.isSome_some, if_true] at hp'
      obtain ⟨q, hq, rfl⟩ := List.mem_map.1 hp'
      have := hc.small q hq
      split <;> exact this
    · intro x hx
      have hm : x.born ∈ (es.toList.set j { e0 with key := .string s, val := v }).map (·.born) := List.mem_map.2 ⟨x, by rw [← hL]; exact hx, rfl⟩
      rw [hmapb] at hm
      obtain ⟨y, hy, hyb⟩ := List.mem_map.1 hm
      rw [← hyb]; exact hc.bornLt y hy
/-- len(m). -/
theorem sm_len {w : World} {b : Nat} {m : Asc} (h : Sm w b m) (ht : P.underlying t = some (.map k e)) (ty : TypeId) : (Builtin.len_ #[t] ty #[.map (some b)]).run P w = .ok (.int .i64 (m.length : Int)) w := by
  obtain ⟨es, clock, hK, hc⟩ := h
  simp [Builtin.len_, run_underlying ht, MapKept.run_getObj_map hK, hc.len, goInt]
/-! ### range -/
/-- Block r ranges over the map in block b, of the entries m; those of left are still to come. -/
def Sit (w : World) (b r : Nat) (m left : Asc) : Prop :=
  ∃ es clock since seen c0, w.heap[b]? = some (.map es clock) ∧ w.heap[r]? = some (.mapIter (some b) since seen c0) ∧ SmE es clock m ∧ (∀ x ∈ es.toList, x.born < since) ∧ since ≤ c0 ∧ since ≤ clock ∧ (leftOf es seen).toList.map (fun x => (x.key, x.val)) = left.map fun p => (Value.string p.1, p.2)
theorem Sit.sm {w : World} {b r : Nat} {m left : Asc} (h : Sit w b r m left) : Sm w b m := by obtain ⟨es, clock, since, seen, c0, h1, _, h2, _⟩ := h; exact ⟨es, clock, h1, h2⟩
theorem Sit.ne {w : World} {b r : Nat} {m left : Asc} (h : Sit w b r m left) : b ≠ r := by
  obtain ⟨es, clock, since, seen, c0, h1, h2, _⟩ := h
  intro e; subst e; rw [h1] at h2; cases h2
theorem Sit.lt {w : World} {b r : Nat} {m left : Asc} (h : Sit w b r m left) : r < w.heap.size := by obtain ⟨es, clock, since, seen, c0, h1, h2, _⟩ := h; exact lt_of_heap h2
theorem Sit.unch {w w1 : World} {b r : Nat} {m left : Asc} {X : Nat → Prop} (h : Sit w b r m left) (hu : Unch X w w1) (hb : ¬ X b) (hr : ¬ X r) : Sit w1 b r m left := by
  obtain ⟨es, clock, since, seen, c0, h1, h2, h3⟩ := h
  exact ⟨es, clock, since, seen, c0, hu.heap h1 hb, hu.heap h2 hr, h3⟩
theorem Sit.mem {w : World} {b r : Nat} {m left : Asc} (h : Sit w b r m left) : ∀ p ∈ left, p ∈ m := by
  obtain ⟨es, clock, since, seen, c0, h1, h2, hE, _, _, _, hl⟩ := h
  intro p hp
  have : (Value.string p.1, p.2) ∈ (leftOf es seen).toList.map (fun x => (x.key, x.val)) := by rw [hl]; exact List.mem_map.2 ⟨p, hp, rfl⟩
  obtain ⟨x, hx, he⟩ := List.mem_map.1 this
  obtain ⟨q, hq, h5, h6⟩ := hE.mem (mem_left hx).1
  injection he with e1 e2
  rw [h5] at e1
  injection e1 with e1
  obtain ⟨p1, p2⟩ := p
  obtain ⟨q1, q2⟩ := q
  simp only at e1 e2 h6 ⊢
  subst e1
  rw [← e2, h6]
  exact hq
theorem sm_range {w : World} {b : Nat} {m : Asc} (h : Sm w b m) (ht : P.underlying t = some (.map k e)) :
    ∃ w', (Instr.range t (.map (some b))).run P w = .ok (.pointer (some ⟨w.heap.size, 0, none⟩)) w' ∧ Sit w' b w.heap.size m m ∧ Unch none_ w w' ∧ w'.heap.size = w.heap.size + 1 := by
  have hlt := h.lt
  obtain ⟨es, clock, hb, hE⟩ := h
  refine ⟨_, run_range_map w t k e b es clock ht hb, ⟨es, clock, clock, #[], clock, blk_alloc hb _, blk_new w _, hE, hE.bornLt, Nat.le_refl _, Nat.le_refl _, ?_⟩, (Unch.refl none_ w).alloc _, by simp⟩
  have e1 : leftOf es #[] = es := by
    unfold leftOf
    exact Array.filter_eq_self.2 (fun x _ => by simp)
  rw [← hE.ents, e1]
theorem sit_next {w : World} {b r : Nat} {m left : Asc} (h : Sit w b r m left) (ty : TypeId) :
    (left = [] ∧ (Instr.next (.pointer (some ⟨r, 0, none⟩)) false ty).run P w = .ok (.tuple #[.bool false]) w) ∨
    ∃ p ∈ left, ∃ w', (Instr.next (.pointer (some ⟨r, 0, none⟩)) false ty).run P w = .ok (.tuple #[.bool true, .string p.1, p.2]) w' ∧ Sit w' b r m (left.filter fun q => decide (q.1 ≠ p.1)) ∧ Unch (fun j => j = r) w w' ∧ w'.heap.size = w.heap.size ∧
      (Instr.entry (.pointer (some ⟨r, 0, none⟩))).run P w' = .ok (.tuple #[.string p.1, p.2]) w' := by
  classical
  have hne := h.ne
  obtain ⟨es, clock, since, seen, c0, hb, hr, hE, hold, hsc, hsk, hl⟩ := h
  rcases run_next_at (P := P) w ty r b since c0 seen es clock hr hb hold hsc with ⟨h0, hrun⟩ | ⟨x, hx, w1, hal, hrun⟩
  · refine .inl ⟨?_, hrun⟩
    have := congrArg List.length hl
    simp only [List.length_map, Array.length_toList, h0] at this
    exact List.eq_nil_of_length_eq_zero this.symm
  · obtain ⟨hxm, hxs⟩ := mem_left hx
    have hin : (x.key, x.val) ∈ left.map fun p => (Value.string p.1, p.2) := by rw [← hl]; exact List.mem_map.2 ⟨x, hx, rfl⟩
    obtain ⟨p, hp, he⟩ := List.mem_map.1 hin
    injection he with hk hv
    have hr1 : w1.heap[r]? = some (.mapIter (some b) since seen c0) := by rcases hal with rfl | rfl <;> exact hr
    have hb1 : w1.heap[b]? = some (.map es clock) := by rcases hal with rfl | rfl <;> exact hb
    have hu1 : Unch (fun j => j = r) w w1 := by
      rcases hal with rfl | rfl
      · exact Unch.refl _ _
      · exact (Unch.refl _ _).drew
    have hb' : (setBlock w1 r (.mapIter (some b) since (seen.push x.born) clock)).heap[b]? = some (.map es clock) := (unch_setBlock _).heap hb1 hne
    have hr' := heap_setBlock (w := w1) (.mapIter (some b) since (seen.push x.born) clock) (lt_of_heap hr1)
    refine .inr ⟨p, hp, _, by rw [hrun, hk, hv], ⟨es, clock, since, seen.push x.born, clock, hb', hr', hE, hold, hsk, hsk, ?_⟩, hu1.trans (unch_setBlock _), ?_, by rw [hk, hv]; exact run_entry_at _ r b since seen es clock x hr' hb' hxm hE.bornNodup⟩
    · have e1 : (leftOf es (seen.push x.born)).toList = (leftOf es seen).toList.filter fun y => decide (y.key ≠ x.key) := by
        unfold leftOf
        rw [Array.toList_filter, Array.toList_filter, List.filter_filter]
        apply List.filter_congr
        intro y hy
        rw [contains_push]
        have hiff : (y.born == x.born) = decide (y.key = x.key) := by
          rw [Bool.eq_iff_iff]
          simp only [beq_iff_eq, decide_eq_true_eq]
          have hkn : (es.toList.map (·.key)).Nodup := by
            have h7 : es.toList.map (·.key) = (m.map (·.1)).map Value.string := by
              have := congrArg (List.map Prod.fst) hE.ents
              simpa [List.map_map, Function.comp_def] using this
            rw [h7]
            exact List.Pairwise.map _ (fun a b hab e => hab (by injection e)) hE.one
          obtain ⟨i, hi⟩ := List.getElem?_of_mem hy
          obtain ⟨j, hj⟩ := List.getElem?_of_mem hxm
          have go : ∀ {β : Type} (f : MapEntry → β), (es.toList.map f).Nodup → f y = f x → y = x := by
            intro β f hn hf
            have : i = j := nodup_inj hn (x := f y) (by rw [List.getElem?_map, hi]; rfl) (by rw [List.getElem?_map, hj, hf]; rfl)
            subst this
            rw [hi] at hj
            exact Option.some.inj hj
          exact ⟨fun h => by rw [go (·.born) hE.bornNodup h], fun h => by rw [go (·.key) hkn h]⟩
        rw [hiff]
        generalize seen.contains y.born = s
        by_cases hyk : y.key = x.key <;> cases s <;> simp [hyk]
      rw [e1]
      have e2 : ((leftOf es seen).toList.filter fun y => decide (y.key ≠ x.key)).map (fun y => (y.key, y.val)) = ((leftOf es seen).toList.map fun y => (y.key, y.val)).filter fun z => decide (z.1 ≠ x.key) := by
        rw [List.filter_map]; rfl
      rw [e2, hl, ← hk, List.filter_map]
      congr 1
      apply List.filter_congr
      intro q _
      simp
    · simp only [setBlock, Array.size_setIfInBounds]
      rcases hal with rfl | rfl <;> rfl
theorem left_less {left : Asc} {p : ByteArray × Value} (hp : p ∈ left) : (left.filter fun q => decide (q.1 ≠ p.1)).length < left.length := by
  rcases Nat.lt_or_ge (left.filter fun q => decide (q.1 ≠ p.1)).length left.length with h | h
  · exact h
  · have := List.length_filter_le (fun q : ByteArray × Value => decide (q.1 ≠ p.1)) left
    have h2 := (List.filter_eq_self (p := fun q : ByteArray × Value => decide (q.1 ≠ p.1)) (l := left)).1 (List.Sublist.eq_of_length List.filter_sublist (by omega)) p hp
    simp at h2
/-! ### As steps of the walk -/
variable {ops : Array Oper} {rest : List Oper} {o : Oper} {a : Act} {Q : Exit → Act → World → Prop}
theorem wpList_sm_look (w : World) (hg : o.guard = none) (x y : Operand) (t : TypeId) (c : Bool) (hop : o.op = Op.lookup t x y c) (k e : TypeId) (ht : P.underlying t = some (.map k e)) (hk : P.underlying k = some .string) (z : Value) (hz : (zeroValue e).run P w = .ok z w)
    (b : Nat) (m : Asc) (hx : a.eval x = .map (some b)) (h : Sm w b m) (s : ByteArray) (hy : a.eval y = .string s) (hs : s.size ≤ maxLen)
    (hK : wpList P ops Q rest (a.put o.dst (if c then .tuple #[(mget m s).getD z, .bool (mget m s).isSome] else (mget m s).getD z)) w) : wpList P ops Q (o :: rest) a w := by
  refine wpList_plain hg fun K' hK' => ?_
  unfold Oper.wp
  simp only [execOp, hop, hx, hy, sm_look c h ht hk hz s hs, Sem.run_bind, Result.andThen, Sem.run_pure]
  exact hK' _ _ hK
theorem wpList_sm_put (w : World) (hg : o.guard = none) (x y v : Operand) (t : TypeId) (hop : o.op = Op.mapUpdate t x y v) (k e : TypeId) (ht : P.underlying t = some (.map k e)) (hk : P.underlying k = some .string)
    (b : Nat) (m : Asc) (hx : a.eval x = .map (some b)) (h : Sm w b m) (s : ByteArray) (hy : a.eval y = .string s) (hs : s.size ≤ maxLen) (u : Value) (hv : a.eval v = u)
    (hK : ∀ w', Sm w' b (mput m s u) → Unch (fun j => j = b) w w' → wpList P ops Q rest (a.put o.dst undef) w') : wpList P ops Q (o :: rest) a w := by
  refine wpList_plain hg fun K' hK' => ?_
  obtain ⟨w', hrun, r1, r2⟩ := sm_put h ht hk s hs u
  unfold Oper.wp
  simp [execOp, hop, hx, hy, hv, hrun, Result.andThen]
  exact hK' _ _ (hK w' r1 r2)
theorem wpList_sm_len (w : World) (hg : o.guard = none) (x : Operand) (t : TypeId) (hop : o.op = Op.call { callee := Callee.builtin Builtin.len, args := #[x], argTypes := #[t] }) (k e : TypeId) (ht : P.underlying t = some (.map k e))
    (b : Nat) (m : Asc) (hx : a.eval x = .map (some b)) (h : Sm w b m)
    (hK : wpList P ops Q rest (a.put o.dst (.int .i64 (m.length : Int))) w) : wpList P ops Q (o :: rest) a w := by
  refine wpList_plain hg fun K' hK' => ?_
  unfold Oper.wp
  simp [execOp, hop, resolve, invoke, builtin, hx, sm_len h ht o.type, Result.andThen]
  exact hK' _ _ hK
theorem wpList_sm_range (w : World) (hg : o.guard = none) (x : Operand) (t : TypeId) (hop : o.op = Op.range t x) (k e : TypeId) (ht : P.underlying t = some (.map k e))
    (b : Nat) (m : Asc) (hx : a.eval x = .map (some b)) (h : Sm w b m)
    (hK : ∀ w', Sit w' b w.heap.size m m → Unch none_ w w' → w'.heap.size = w.heap.size + 1 → wpList P ops Q rest (a.put o.dst (.pointer (some ⟨w.heap.size, 0, none⟩))) w') : wpList P ops Q (o :: rest) a w := by
  refine wpList_plain hg fun K' hK' => ?_
  obtain ⟨w', hrun, r1, r2, r3⟩ := sm_range h ht
  unfold Oper.wp
  simp [execOp, hop, hx, hrun, Result.andThen]
  exact hK' _ _ (hK w' r1 r2 r3)
theorem wpList_sit_next (w : World) (hg : o.guard = none) (it : Operand) (hop : o.op = Op.next it false) (b r : Nat) (m left : Asc) (hit : a.eval it = .pointer (some ⟨r, 0, none⟩)) (h : Sit w b r m left)
    (hDone : left = [] → wpList P ops Q rest (a.put o.dst (.tuple #[.bool false])) w)
    (hMore : ∀ p w', p ∈ left → Sit w' b r m (left.filter fun q => decide (q.1 ≠ p.1)) → Unch (fun j => j = r) w w' → w'.heap.size = w.heap.size → (Instr.entry (.pointer (some ⟨r, 0, none⟩))).run P w' = .ok (.tuple #[.string p.1, p.2]) w' → wpList P ops Q rest (a.put o.dst (.tuple #[.bool true, .string p.1, p.2])) w') :
    wpList P ops Q (o :: rest) a w := by
  refine wpList_plain hg fun K' hK' => ?_
  unfold Oper.wp
  rcases sit_next (P := P) h o.type with ⟨h0, hrun⟩ | ⟨p, hp, w', hrun, r1, r2, r3, r4⟩
  · simp [execOp, hop, hit, hrun, Result.andThen]
    exact hK' _ _ (hDone h0)
  · simp [execOp, hop, hit, hrun, Result.andThen]
    exact hK' _ _ (hMore p w' hp r1 r2 r3 r4)
end
end Go.Proofs.YtgcpoppinnnciaaGreatDoor.Pal
