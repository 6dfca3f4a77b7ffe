/-
  Words for worlds: what may have turned (Unch), rows that begin anywhere in their block (Row), what is appended to them.
-/
import Derived.Test.YtmffpeblcaalgaaPlan
import Derived.WalkKit
import Derived.ArgAppend
import Derived.Maps.AppendAt
import Derived.Deep.AppendLies
import Derived.Lib.Hide
import Derived.KernelRfl
import Derived.Deep.LoopGhost
set_option linter.unusedVariables false
set_option linter.unusedSimpArgs false
namespace Go.Proofs.Ytmffpeblcaalgaa.Pal
open Go Go.RowKit

/-! ### What may have turned -/
/-- But for the blocks in X all that was there is as it was. -/
structure Unch (X : Nat → Prop) (w w' : World) : Prop where
  os : w'.os = w.os
  tape : w'.tape = w.tape
  output : w'.output = w.output
  size : w.heap.size ≤ w'.heap.size
  block : ∀ k, k < w.heap.size → ¬ X k → w'.heap[k]? = w.heap[k]?
def none_ : Nat → Prop := fun _ => False
section
variable {X Y Z : Nat → Prop} {w w1 w2 : World}
theorem Unch.refl (X : Nat → Prop) (w : World) : Unch X w w := ⟨rfl, rfl, rfl, Nat.le_refl _, fun _ _ _ => rfl⟩
theorem Unch.mono (h : Unch X w w1) (hXY : ∀ k, k < w.heap.size → X k → Y k) : Unch Y w w1 := ⟨h.os, h.tape, h.output, h.size, fun k hk hY => h.block k hk (fun hX => hY (hXY k hk hX))⟩
theorem Unch.step (h : Unch X w w1) (k : Unch Y w1 w2) (hY : ∀ i, i < w.heap.size → Y i → X i) : Unch X w w2 :=
  ⟨k.os.trans h.os, k.tape.trans h.tape, k.output.trans h.output, Nat.le_trans h.size k.size, fun i hi hX => (k.block i (Nat.lt_of_lt_of_le hi h.size) (fun hy => hX (hY i hi hy))).trans (h.block i hi hX)⟩
theorem Unch.trans (h : Unch X w w1) (k : Unch X w1 w2) : Unch X w w2 := h.step k fun _ _ h => h
theorem Unch.drew (h : Unch X w w1) : Unch X w w1.drew := ⟨h.os, h.tape, h.output, h.size, h.block⟩
theorem Unch.drewN (h : Unch X w w1) (n : Nat) : Unch X w (w1.drewN n) := ⟨h.os, h.tape, h.output, h.size, h.block⟩
theorem Unch.alloc (h : Unch X w w1) (o : Obj) : Unch X w (w1.alloc o) := h.step (Y := none_) ⟨rfl, rfl, rfl, by simp, fun k hk _ => Below.heap_alloc w1 o k hk⟩ (fun _ _ h => h.elim)
theorem Unch.setCell (h : Unch X w w1) {p : Addr} (u : Value) (hp : p.block < w.heap.size → X p.block) : Unch X w (w1.setCell p u) :=
  h.step (Y := fun k => k = p.block) ⟨rfl, rfl, rfl, by simp [World.setCell], fun k _ hk => Below.heap_setCell _ _ _ _ hk⟩ (fun i hi e => by subst e; exact hp hi)
theorem Unch.grown (h : Unch X w w1) {row : Option Nat} (hg : w1.grownBy w2 row) (hr : ∀ k, k < w.heap.size → row = some k → X k) : Unch X w w2 :=
  h.step (Y := fun k => row = some k) ⟨hg.os, hg.tape, hg.output, hg.size, fun k hk hne => hg.block k hk (fun e => hne e.symm)⟩ (fun i hi e => hr i hi e)
theorem Unch.below (h : Unch X w w1) (hX : ∀ k, k < w.heap.size → ¬ X k) : Below w.heap.size w w1 := ⟨h.os, h.tape, h.output, h.size, fun k hk => h.block k hk (hX k hk)⟩
theorem Unch.ofBelow (h : Below w.heap.size w w1) : Unch X w w1 := ⟨h.os, h.tape, h.output, h.size, fun k hk _ => h.block k hk⟩
theorem Unch.heap (h : Unch X w w1) {k : Nat} {o : Obj} (ho : w.heap[k]? = some o) (hX : ¬ X k) : w1.heap[k]? = some o := (h.block k (Array.getElem?_eq_some_iff.1 ho).1 hX).trans ho
theorem Unch.cell (h : Unch X w w1) {a : Addr} {v : Value} (hc : w.cell? a = some v) (hX : ¬ X a.block) : w1.cell? a = some v := (World.cell?_of_block (h.block _ (World.block_lt_of_cell? w a hc) hX)).trans hc
theorem Unch.frozen (h : Unch X w w1) {a : Addr} {b : Bool} (ha : a.block < w.heap.size) (hc : w.frozen? a = b) (hX : ¬ X a.block) : w1.frozen? a = b := (World.frozen?_of_block (h.block _ ha hX)).trans hc
end
theorem lt_of_heap {w : World} {k : Nat} {o : Obj} (h : w.heap[k]? = some o) : k < w.heap.size := (Array.getElem?_eq_some_iff.1 h).1

/-! ### A block that is known whole -/
theorem blk_cell {w : World} {g : Nat} {cs : Array Value} {e : TypeId} {fr : Nat × Nat} (h : w.heap[g]? = some (.cells cs e fr)) {j : Nat} {v : Value} (hv : cs[j]? = some v) : w.cell? ⟨g, j, none⟩ = some v := by
  rw [cell_of_row w g j cs e fr h]; exact hv
theorem blk_free {w : World} {g : Nat} {cs : Array Value} {e : TypeId} (h : w.heap[g]? = some (.cells cs e (0, 0))) (j : Nat) : w.frozen? ⟨g, j, none⟩ = false := by
  simp [World.frozen?, h]
theorem blk_set {w : World} {g : Nat} {cs : Array Value} {e : TypeId} (h : w.heap[g]? = some (.cells cs e (0, 0))) (j : Nat) (v : Value) :
    (w.setCell ⟨g, j, none⟩ v).heap[g]? = some (.cells (cs.setIfInBounds j v) e (0, 0)) := by
  have hg := lt_of_heap h
  simp only [World.setCell, Array.getElem?_modify]
  simp [h]
theorem blk_set_ne {w : World} {g k : Nat} {o : Obj} (h : w.heap[k]? = some o) (hne : k ≠ g) (j : Nat) (v : Value) : (w.setCell ⟨g, j, none⟩ v).heap[k]? = some o := (Below.heap_setCell _ _ _ _ hne).trans h
theorem blk_alloc {w : World} {k : Nat} {o : Obj} (h : w.heap[k]? = some o) (o' : Obj) : (w.alloc o').heap[k]? = some o := (Below.heap_alloc w o' k (lt_of_heap h)).trans h
theorem blk_new (w : World) (o : Obj) : (w.alloc o).heap[w.heap.size]? = some o := heap_alloc_new w o

/-! ### A row of a slice's own, wherever it begins -/
def Row (w : World) (e : TypeId) (size : Nat) (v : Value) (n : Nat) (xs : List Value) : Prop :=
  xs.length = n * size ∧
  ((v = .slice none 0 0 ∧ n = 0) ∨
   ∃ g o cap cur, v = .slice (some ⟨g, o, none⟩) n cap ∧ w.heap[g]? = some (.cells cur e (0, 0)) ∧ n ≤ cap ∧ cap ≤ maxLen ∧ o + cap * size ≤ cur.size ∧ (cur.toList.drop o).take (n * size) = xs)
section
variable {w w1 : World} {e : TypeId} {size n : Nat} {v : Value} {xs : List Value} {X : Nat → Prop}
theorem Row.nil (w : World) (e : TypeId) (size : Nat) : Row w e size (.slice none 0 0) 0 [] := ⟨by simp, .inl ⟨rfl, rfl⟩⟩
theorem Row.of_own {base : Nat} (h : w.ownsRow base e size v n xs) : Row w e size v n xs := by
  refine ⟨h.1, ?_⟩
  rcases h.2 with h0 | ⟨g, cap, cur, hv, _, hh, hn, hm, hs, ht⟩
  · exact .inl h0
  · exact .inr ⟨g, 0, cap, cur, hv, hh, hn, hm, by rw [hs]; omega, by simpa using ht⟩
theorem Row.move (h : Row w e size v n xs) (hm : ∀ k, v.ownBlock = some k → w1.heap[k]? = w.heap[k]?) : Row w1 e size v n xs := by
  refine ⟨h.1, ?_⟩
  rcases h.2 with h0 | ⟨g, o, cap, cur, hv, hh, r⟩
  · exact .inl h0
  · exact .inr ⟨g, o, cap, cur, hv, (hm g (by rw [hv]; rfl)).trans hh, r⟩
theorem Row.blk (h : Row w e size v n xs) {k : Nat} (hk : v.ownBlock = some k) : ∃ cur, w.heap[k]? = some (.cells cur e (0, 0)) := by
  rcases h.2 with ⟨rfl, _⟩ | ⟨g, o, cap, cur, rfl, hh, _⟩
  · cases hk
  · have : g = k := by simpa [Value.ownBlock] using hk
    subst this
    exact ⟨cur, hh⟩
theorem Row.unch (h : Row w e size v n xs) (hu : Unch X w w1) (hX : ∀ k, v.ownBlock = some k → ¬ X k) : Row w1 e size v n xs :=
  h.move fun k hk => by
    obtain ⟨cur, hc⟩ := h.blk hk
    rw [hc]; exact hu.heap hc (hX k hk)
theorem Row.slice (h : Row w e size v n xs) : ∃ A c, v = .slice A n c ∧ n ≤ c := by
  rcases h.2 with ⟨rfl, rfl⟩ | ⟨g, o, cap, cur, rfl, _, hn, _⟩
  · exact ⟨_, _, rfl, Nat.le_refl _⟩
  · exact ⟨_, _, rfl, hn⟩
theorem Row.max (h : Row w e size v n xs) : n ≤ maxLen := by
  rcases h.2 with ⟨rfl, rfl⟩ | ⟨g, o, cap, cur, rfl, _, hn, hm, _⟩
  · exact Nat.zero_le _
  · omega
theorem Row.form (h : Row w e size v n xs) (hn : 0 < n) : ∃ g o cap cur, v = .slice (some ⟨g, o, none⟩) n cap ∧ w.heap[g]? = some (.cells cur e (0, 0)) ∧ n ≤ cap ∧ o + cap * size ≤ cur.size ∧ (cur.toList.drop o).take (n * size) = xs := by
  rcases h.2 with ⟨_, h0⟩ | ⟨g, o, cap, cur, hv, hh, hn, _, hs, ht⟩
  · omega
  · exact ⟨g, o, cap, cur, hv, hh, hn, hs, ht⟩
/-- What stands at place j of such a row. -/
theorem Row.at (h : Row w e size v n xs) {g o c m : Nat} (hv : v = .slice (some ⟨g, o, none⟩) m c) {j : Nat} {u : Value} (hu : xs[j]? = some u) : w.cell? ⟨g, o + j, none⟩ = some u := by
  subst hv
  rcases h.2 with ⟨h0, _⟩ | ⟨g', o', cap, cur, h1, hh, _, _, _, ht⟩
  · cases h0
  · injection h1 with h1
    injection h1 with h1
    injection h1 with h1 h2
    subst h1; subst h2
    rw [← ht, List.getElem?_take] at hu
    split at hu
    · rw [List.getElem?_drop] at hu
      exact blk_cell hh (by simpa using hu)
    · cases hu
theorem Row.free (h : Row w e size v n xs) {g o c m : Nat} (hv : v = .slice (some ⟨g, o, none⟩) m c) (j : Nat) : w.frozen? ⟨g, j, none⟩ = false := by
  subst hv
  obtain ⟨cur, hc⟩ := h.blk (k := g) rfl
  exact blk_free hc j
/-- Cut off at the head. -/
theorem Row.drop (h : Row w e size v n xs) {A : Option Addr} {c : Nat} (hv : v = .slice A n c) (k : Nat) (hk : k ≤ n) : Row w e size (.slice (if c = k then A else A.map (·.add (k * size))) (n - k) (c - k)) (n - k) (xs.drop (k * size)) := by
  refine ⟨by rw [List.length_drop, h.1, Nat.sub_mul], ?_⟩
  rcases h.2 with ⟨h0, h1⟩ | ⟨g, o, cap, cur, h1, hh, hn, hm, hs, ht⟩
  · subst hv
    cases h0
    obtain rfl : k = 0 := by omega
    exact .inl ⟨by simp, by omega⟩
  · rw [h1] at hv
    injection hv with hA hnn hc
    subst hA; subst hc
    by_cases hck : cap = k
    · refine .inr ⟨g, o, cap - k, cur, by rw [if_pos hck], hh, by omega, by omega, ?_, ?_⟩
      · have : (cap - k) * size ≤ cap * size := Nat.mul_le_mul_right _ (by omega)
        omega
      · have : n - k = 0 := by omega
        rw [this]
        have : k = n := by omega
        subst this
        rw [Nat.zero_mul, List.take_zero]
        exact (List.drop_eq_nil_of_le (by rw [h.1]; exact Nat.le_refl _)).symm
    · refine .inr ⟨g, o + k * size, cap - k, cur, ?_, hh, by omega, by omega, ?_, ?_⟩
      · rw [if_neg hck]
        simp only [Option.map_some, Addr.add]
        split
        · rename_i h0
          rw [h0]; simp
        · rfl
      · have : (cap - k) * size + k * size = cap * size := by rw [← Nat.add_mul]; congr 1; omega
        omega
      · rw [← ht, List.drop_take, List.drop_drop, Nat.sub_mul]
end

/-! ### append -/
theorem setCells_other (g : Nat) : ∀ (r : List Value) (o : Nat) (w : World) (k : Nat), k ≠ g → (w.setCells g o r).heap[k]? = w.heap[k]?
  | [], _, _, _, _ => rfl
  | v :: r, o, w, k, hk => (setCells_other g r (o + 1) _ k hk).trans (Below.heap_setCell _ _ _ _ hk)
theorem setCells_rest (g : Nat) : ∀ (r : List Value) (o : Nat) (w : World), (w.setCells g o r).os = w.os ∧ (w.setCells g o r).tape = w.tape ∧ (w.setCells g o r).output = w.output ∧ (w.setCells g o r).heap.size = w.heap.size
  | [], _, _ => ⟨rfl, rfl, rfl, rfl⟩
  | v :: r, o, w => by
    obtain ⟨h1, h2, h3, h4⟩ := setCells_rest g r (o + 1) (w.setCell ⟨g, o, none⟩ v)
    exact ⟨h1, h2, h3, by rw [World.setCells, h4]; simp [World.setCell]⟩
theorem setCells_blk (g : Nat) {e : TypeId} : ∀ (r : List Value) (o : Nat) (w : World) (cur : Array Value), w.heap[g]? = some (.cells cur e (0, 0)) → o + r.length ≤ cur.size →
    ∃ cur', (w.setCells g o r).heap[g]? = some (.cells cur' e (0, 0)) ∧ cur'.size = cur.size ∧ cur'.toList = cur.toList.take o ++ r ++ cur.toList.drop (o + r.length)
  | [], o, w, cur, h, _ => ⟨cur, h, rfl, by simp⟩
  | v :: r, o, w, cur, h, hl => by
    have h2 := blk_set h o v
    simp only [List.length_cons] at hl
    obtain ⟨cur', h3, h4, h5⟩ := setCells_blk g r (o + 1) (w.setCell ⟨g, o, none⟩ v) _ h2 (by simp; omega)
    refine ⟨cur', h3, by rw [h4]; simp, ?_⟩
    rw [h5, Array.toList_setIfInBounds]
    have ho : o < cur.toList.length := by rw [Array.length_toList]; omega
    rw [List.take_set, List.drop_set_of_lt (by omega)]
    simp only [List.length_cons]
    rw [show o + 1 + r.length = o + (r.length + 1) by omega]
    congr 1
    rw [List.take_succ_eq_append_getElem ho, List.set_append_right _ _ (by rw [List.length_take]; omega)]
    have ho' : o < cur.size := by omega
    simp [Nat.min_eq_left (Nat.le_of_lt ho')]

section
variable {P : Program}
/-- append to a row of its own: what comes of it. -/
theorem run_append (w : World) (t ty e : TypeId) (i : TypeInfo) (z : Value) (size bytes : Nat) (ht : P.underlying t = some (.slice e)) (hi : P.info? e = some i) (hz : i.zero = some z)
    (hsize : i.size = size) (hby : i.bytes = bytes) (hzs : z.cells.size = size) (hsz : 0 < size)
    (v : Value) (n : Nat) (xs : List Value) (hr : Row w e size v n xs)
    (A : Option Addr) (m c : Nat) (news : List Value) (hl : news.length = m * size) (hA : 0 < m → ∃ a, A = some a ∧ ∀ j u, news[j]? = some u → w.cell? (a.add j) = some u) (hA0 : A = none → c = 0) (h1 : ∀ u ∈ news, u.oneCell' = true)
    (h63 : n + m ≤ maxLen) (hbytes : (n + m) * bytes ≤ 140737488355328) :
    ∃ v' w', (Builtin.append_ #[t, t] ty #[v, .slice A m c]).run P w = .ok v' w' ∧ Row w' e size v' (n + m) (xs ++ news) ∧ Unch (fun k => v.ownBlock = some k) w w' ∧ (v'.ownBlock = v.ownBlock ∨ ∃ b, v'.ownBlock = some b ∧ w.heap.size ≤ b) := by
  rcases Nat.eq_zero_or_pos m with hm | hm
  · subst hm
    obtain rfl : news = [] := List.eq_nil_of_length_eq_zero (by simpa using hl)
    refine ⟨v, w, ?_, by simpa using hr, Unch.refl _ _, .inl rfl⟩
    obtain ⟨B, cc, rfl, hnc⟩ := hr.slice
    cases A <;> cases B <;> simp [Builtin.append_, run_underlying ht, sizeOf, typeInfo, hi, Builtin.lenOf, Builtin.firstCells, hnc, storeCells, loadCells, loadCellsFrom]
  · obtain ⟨a, rfl, hnews⟩ := hA hm
    have grows : ∀ (b : Addr) (cap : Nat), cap < n + m → (∀ j u, xs[j]? = some u → w.cell? (b.add j) = some u) → v = .slice (some b) n cap →
        ∃ v' w', (Builtin.append_ #[t, t] ty #[v, .slice (some a) m c]).run P w = .ok v' w' ∧ Row w' e size v' (n + m) (xs ++ news) ∧ Unch (fun k => v.ownBlock = some k) w w' ∧ (v'.ownBlock = v.ownBlock ∨ ∃ b, v'.ownBlock = some b ∧ w.heap.size ≤ b) := by
      intro b cap hcap hcells hv
      obtain ⟨v', w', hrun, ho, hg⟩ := run_append_arg_grows (P := P) (w := w) t ty e i z size bytes ht hi hz hsize hby hzs hsz b n cap xs hr.1 hcells a m c news hl hnews hcap h63 hbytes
      obtain ⟨g', cap', he, hb, _⟩ := ho.form (by omega)
      exact ⟨v', w', by rw [hv]; exact hrun, Row.of_own ho, (Unch.refl _ _).grown hg (fun k _ h => by cases h), .inr ⟨g', by rw [he]; rfl, hb⟩⟩
    rcases hr.2 with ⟨hv, h0⟩ | ⟨g, o, cap, cur, hv, hg, hnc, hcm, hcs, htake⟩
    · subst h0
      have ho : w.ownsRow 0 e size v 0 xs := ⟨hr.1, .inl ⟨hv, rfl⟩⟩
      obtain ⟨v', w', hrun, ho', hg, _, hat⟩ := run_append_own_at (P := P) w 0 t ty e i z size bytes ht hi hz hsize hby hzs hsz v 0 xs ho a m c news hl hnews h1 h63 hbytes (Nat.zero_le _)
      refine ⟨v', w', hrun, Row.of_own ho', (Unch.refl _ _).grown hg (fun k _ h => h), ?_⟩
      rcases hat with hat | hat
      · exact .inl hat
      · exact .inr ⟨_, hat, Nat.le_refl _⟩
    · by_cases hroom : n + m ≤ cap
      · have hle : (n + m) * size ≤ cap * size := Nat.mul_le_mul_right _ hroom
        rw [Nat.add_mul] at hle
        have hfit : o + n * size + news.length ≤ cur.size := by rw [hl]; omega
        subst hsize
        have hrun := run_append_room_cells (P := P) (w := w) t ty e i ht hi g o n cap a m c news hl hnews h1 hroom
          (fun j hj => by rw [cell_of_row w g _ cur e (0, 0) hg]; simp; omega) (fun j _ => blk_free hg _)
        obtain ⟨cur', h3, h4, h5⟩ := setCells_blk g news (o + n * i.size) w cur hg hfit
        obtain ⟨s1, s2, s3, s4⟩ := setCells_rest g news (o + n * i.size) w
        refine ⟨_, _, by rw [hv]; exact hrun, ⟨by rw [List.length_append, hr.1, hl, Nat.add_mul], .inr ⟨g, o, cap, cur', rfl, h3, hroom, hcm, by rw [h4]; exact hcs, ?_⟩⟩,
          ⟨s1, s2, s3, by rw [s4]; exact Nat.le_refl _, fun k _ hk => setCells_other g news _ w k (fun he => hk (by rw [hv, he]; rfl))⟩, .inl (by rw [hv]; rfl)⟩
        have hcl : cur.toList.length = cur.size := Array.length_toList
        rw [h5, List.append_assoc, List.drop_append_of_le_length (by rw [List.length_take, hcl]; omega), List.drop_take]
        rw [show o + n * i.size - o = n * i.size by omega, htake]
        rw [← List.append_assoc]
        exact List.take_left' (by rw [List.length_append, hr.1, hl, Nat.add_mul])
      · refine grows ⟨g, o, none⟩ cap (by omega) (fun j u hu => ?_) hv
        rw [Addr.add_lit]
        exact hr.at hv hu

/-- The same as a step of the walk. -/
theorem wpList_append {ops : Array Oper} {rest : List Oper} {op : Oper} {a : Act} {Q : Exit → Act → World → Prop} (w : World) (hgd : op.guard = none) (s x : Operand) (t e : TypeId) (z : Value) (size bytes : Nat)
    (hop : op.op = .call { callee := .builtin .append, args := #[s, x], argTypes := #[t, t] }) (ht : P.underlying t = some (.slice e)) (hinfo : (P.info? e).map (fun i => (i.zero, i.size, i.bytes)) = some (some z, size, bytes)) (hzs : z.cells.size = size) (hsz : 0 < size)
    (v : Value) (n : Nat) (xs : List Value) (hs : a.eval s = v) (hr : Row w e size v n xs)
    (A : Option Addr) (m c : Nat) (news : List Value) (hx : a.eval x = .slice A m c) (hl : news.length = m * size) (hA : 0 < m → ∃ ad, A = some ad ∧ ∀ j u, news[j]? = some u → w.cell? (ad.add j) = some u) (hA0 : A = none → c = 0) (h1 : ∀ u ∈ news, u.oneCell' = true)
    (h63 : n + m ≤ maxLen) (hbytes : (n + m) * bytes ≤ 140737488355328)
    (h : ∀ v' w', Row w' e size v' (n + m) (xs ++ news) → Unch (fun k => v.ownBlock = some k) w w' → (v'.ownBlock = v.ownBlock ∨ ∃ b, v'.ownBlock = some b ∧ w.heap.size ≤ b) → wpList P ops Q rest (a.put op.dst v') w') :
    wpList P ops Q (op :: rest) a w := by
  obtain ⟨i0, hi, hzz⟩ := Option.map_eq_some_iff.1 hinfo
  simp only [Prod.mk.injEq] at hzz
  obtain ⟨hz0, hz1, hz2⟩ := hzz
  obtain ⟨v1, w1, hrun, h2, h3, h4⟩ := run_append (P := P) w t op.type e i0 z size bytes ht hi hz0 hz1 hz2 hzs hsz v n xs hr A m c news hl hA hA0 h1 h63 hbytes
  refine wpList_plain hgd fun K hK => ?_
  unfold Oper.wp execOp
  simp only [hop, resolve, invoke, builtin, Sem.run_bind, Sem.run_pure, Result.andThen_ok, List.map_toArray, List.map_cons, List.map_nil, hs, hx, hrun]
  exact hK _ _ (h v1 w1 h2 h3 h4)
/-- One value, boxed for the call. -/
theorem wpList_append1 {ops : Array Oper} {rest : List Oper} {op : Oper} {a : Act} {Q : Exit → Act → World → Prop} (w : World) (hgd : op.guard = none) (s x : Operand) (t e : TypeId) (z : Value) (size bytes : Nat)
    (hop : op.op = .call { callee := .builtin .append, args := #[s, x], argTypes := #[t, t] }) (ht : P.underlying t = some (.slice e)) (hinfo : (P.info? e).map (fun i => (i.zero, i.size, i.bytes)) = some (some z, size, bytes)) (hzs : z.cells.size = size) (hsz : 0 < size)
    (v : Value) (n : Nat) (xs : List Value) (hs : a.eval s = v) (hr : Row w e size v n xs) (cs : List Value) (hcs : cs.length = size) (h1 : ∀ u ∈ cs, u.oneCell' = true)
    (hx : a.eval x = .slice (some ⟨w.heap.size, 0, none⟩) 1 1) (h63 : n + 1 ≤ maxLen) (hbytes : (n + 1) * bytes ≤ 140737488355328)
    (h : ∀ v' w', Row w' e size v' (n + 1) (xs ++ cs) → Unch (fun k => v.ownBlock = some k) w w' → (v'.ownBlock = v.ownBlock ∨ ∃ b, v'.ownBlock = some b ∧ w.heap.size ≤ b) → wpList P ops Q rest (a.put op.dst v') w') :
    wpList P ops Q (op :: rest) a (w.alloc (.cells cs.toArray e)) := by
  have hu : Unch none_ w (w.alloc (.cells cs.toArray e)) := (Unch.refl _ _).alloc _
  refine wpList_append _ hgd s x t e z size bytes hop ht hinfo hzs hsz v n xs hs (hr.unch hu (fun _ _ h => h)) (some ⟨w.heap.size, 0, none⟩) 1 1 cs hx (by omega)
    (fun _ => ⟨_, rfl, World.news_of_block (heap_alloc_new w _)⟩) (fun h => by cases h) h1 h63 hbytes ?_
  intro v' w' h2 h3 h4
  refine h v' w' h2 ?_ ?_
  · refine ⟨h3.os, h3.tape, h3.output, Nat.le_trans (by simp) h3.size, fun k hk hX => ?_⟩
    exact (h3.block k (by simp; omega) hX).trans (Below.heap_alloc w _ k hk)
  · rcases h4 with h4 | ⟨b, hb, hlt⟩
    · exact .inl h4
    · exact .inr ⟨b, hb, by simp at hlt; omega⟩
end

/-! ### clear(xs), of a whole row of one-cell elements -/
section
variable {P : Program}
theorem run_clear (w : World) (t ty e : TypeId) (z : Value) (bytes : Nat) (ht : P.underlying t = some (.slice e)) (hinfo : (P.info? e).map (fun i => (i.zero, i.size, i.bytes)) = some (some z, 1, bytes)) (hz : z.cells = #[z]) (hz1 : z.oneCell' = true)
    (g n c : Nat) (cur : Array Value) (hg : w.heap[g]? = some (.cells cur e (0, 0))) (hn : cur.size = n) :
    (Builtin.clear_ #[t] ty #[.slice (some ⟨g, 0, none⟩) n c]).run P w = .ok (.tuple #[]) (w.setRow g (Array.replicate n z)) := by
  obtain ⟨i0, hi, hzz⟩ := Option.map_eq_some_iff.1 hinfo
  simp only [Prod.mk.injEq] at hzz
  obtain ⟨hz0, hs1, hb1⟩ := hzz
  have hzc : Builtin.zeroCells #[z] n = Array.replicate n z := by
    apply Array.ext
    · simp [Builtin.zeroCells]
    · intro i h1 h2
      simp [Builtin.zeroCells, Nat.mod_one]
  have hst := run_storeCells_at P g 0 e (Array.replicate n z).toList 0 cur w hg (by simp; omega) (by intro v hv; simp at hv; rw [hv.2]; exact hz1)
  have hrow : (cur.toList.take (0 + 0) ++ (Array.replicate n z).toList ++ cur.toList.drop (0 + 0 + (Array.replicate n z).toList.length)).toArray = Array.replicate n z := by
    have hl : cur.toList.length = n := by rw [Array.length_toList, hn]
    apply Array.toList_inj.1
    simp [List.drop_eq_nil_of_le, hl]
  rw [hrow] at hst
  rw [Array.toList_replicate] at hst
  cases n with
  | zero =>
    have hcur : cur = #[] := by apply Array.eq_empty_of_size_eq_zero; exact hn
    have : w.setRow g (Array.replicate 0 z) = w := by
      rw [show Array.replicate 0 z = cur by rw [hcur]; rfl]
      exact setRow_self w g cur e (0, 0) hg
    rw [this]
    simp [Builtin.clear_, run_underlying ht]
  | succ n =>
    simp [Builtin.clear_, run_underlying ht, zeroValue, typeInfo, hi, hz0, hz, hzc, hst]
theorem Unch.setRow {X : Nat → Prop} {w w1 : World} (h : Unch X w w1) (g : Nat) (cs : Array Value) (hp : g < w.heap.size → X g) : Unch X w (w1.setRow g cs) :=
  h.step (Y := fun k => k = g) ⟨rfl, rfl, rfl, by simp, fun k _ hk => setRow_other _ _ _ _ hk⟩ (fun i hi e => by subst e; exact hp hi)
end
end Go.Proofs.Ytmffpeblcaalgaa.Pal
