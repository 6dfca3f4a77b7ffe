/-
  Entries as they lie in memory: their five cells, their parents.
  Who belongs to a room, over places in a list of entries: the past, the ranks, what holds, the members, what is good.
  Ranks as numbers; what holds, by ranks.
  The same entries in another list: what is good, holds, and is a member hangs on the entries and their pasts alone (plain).
  The founder's entries hold; who was never added; an entry's past by itself; the members as a list (plain).
  palaverref15: Closed, Root, count.
  palaverref15: Root, count; rows of bools that are made and written.
  palaverref15: Pasts.
  palaverref15: a Set as it lies, first, Lower.
  palaverref15: Lower.
  palaverref15: Holds, by its author's rank.
  palaverref15: holding, member, Member, Holding.
  palaverref15: member, Member, Holding.
  palaverref15: Member, Holding.
-/
import Derived.Test.YtgcpoppinnnciaaGreatDoorCBase
import Derived.Test.YtgcpoppinnnciaaGreatDoorRows
import Derived.WalkKit
import Derived.Laws.Strings
import Derived.IntWalk
import Derived.Deep.QuietTactic
import Derived.Deep.OwnRows
import Derived.Deep.CutRange
/- Entries as they lie in memory: their five cells, their parents. -/
set_option linter.unusedVariables false
set_option linter.unusedSimpArgs false
namespace Go.Proofs.YtgcpoppinnnciaaGreatDoor
open Go Go.RowKit Go.Proofs.YtgcpoppinnnciaaGreatDoor.Pal

/-- An entry; pv: the slice of its parents, as it lies; ps: what it holds. -/
structure Ent where
  id : ByteArray
  kind : Int
  author : ByteArray
  pv : Value
  ps : List ByteArray
  body : ByteArray
def Ent.cells (e : Ent) : List Value := [.string e.id, .int .i64 e.kind, .string e.author, e.pv, .string e.body]
def Ent.val (e : Ent) : Value := .agg #[.string e.id, .int .i64 e.kind, .string e.author, e.pv, .string e.body]
def StrR (s : ByteArray) (c : List Value) : Prop := c = [.string s]
def EntR (e : Ent) (c : List Value) : Prop := c = e.cells
def BoolR (x : Bool) (c : List Value) : Prop := c = [.bool x]
structure EntOk (w : World) (e : Ent) : Prop where
  ps : ∃ A c, e.pv = .slice A e.ps.length c ∧ e.ps.length ≤ c ∧ RdS w 1 StrR A e.ps.length e.ps
  sid : e.id.size ≤ maxLen
  saut : e.author.size ≤ maxLen
  sbody : e.body.size ≤ maxLen
  sps : ∀ p ∈ e.ps, p.size ≤ maxLen
structure Ents (w : World) (A : Option Addr) (n : Nat) (l : List Ent) : Prop where
  rd : RdS w 5 EntR A n l
  ok : ∀ e ∈ l, EntOk w e
section
variable {w w1 : World} {A : Option Addr} {n : Nat} {l : List Ent}
theorem RdS.fresh {α : Type} {size : Nat} {R : α → List Value → Prop} {xs : List α} (h : RdS w size R A n xs) (hu : Unch none_ w w1) : RdS w1 size R A n xs := h.unch hu (fun _ _ h => h) (fun _ _ h => h)
theorem RdS.take {α : Type} {size : Nat} {R : α → List Value → Prop} {xs : List α} (h : RdS w size R A n xs) (i : Nat) (hi : i ≤ n) : RdS w size R A i (xs.take i) :=
  ⟨by rw [List.length_take, h.len]; omega, Nat.le_trans hi h.max, fun h0 => by
    obtain ⟨b, o, h1, h2, h3⟩ := h.get (by omega)
    refine ⟨b, o, h1, h2, fun j x hx => ?_⟩
    rw [List.getElem?_take] at hx
    split at hx
    · exact h3 j x hx
    · cases hx⟩
theorem EntOk.fresh {e : Ent} (h : EntOk w e) (hu : Unch none_ w w1) : EntOk w1 e := by
  obtain ⟨⟨A, c, h1, h2, h3⟩, a, b, c', d⟩ := h
  exact ⟨⟨A, c, h1, h2, RdS.fresh h3 hu⟩, a, b, c', d⟩
theorem Ents.fresh (h : Ents w A n l) (hu : Unch none_ w w1) : Ents w1 A n l := ⟨RdS.fresh h.rd hu, fun e he => (h.ok e he).fresh hu⟩
theorem Ents.take (h : Ents w A n l) (i : Nat) (hi : i ≤ n) : Ents w A i (l.take i) := ⟨RdS.take h.rd i hi, fun e he => h.ok e (List.mem_of_mem_take he)⟩
theorem Ents.len (h : Ents w A n l) : l.length = n := h.rd.len
/-- Entry k's cells. -/
theorem Ents.at (h : Ents w A n l) {k : Nat} {e : Ent} (he : l[k]? = some e) : ∃ b o, A = some ⟨b, o, none⟩ ∧ b < w.heap.size ∧
    w.cell? ⟨b, o + k * 5, none⟩ = some (.string e.id) ∧ w.cell? ⟨b, o + k * 5 + 1, none⟩ = some (.int .i64 e.kind) ∧ w.cell? ⟨b, o + k * 5 + 2, none⟩ = some (.string e.author) ∧
    w.cell? ⟨b, o + k * 5 + 3, none⟩ = some e.pv ∧ w.cell? ⟨b, o + k * 5 + 4, none⟩ = some (.string e.body) := by
  obtain ⟨b, o, c, hA, hb, _, hc, hcell⟩ := h.rd.at he
  unfold EntR at hc
  subst hc
  exact ⟨b, o, hA, hb, hcell 0 _ rfl, hcell 1 _ rfl, hcell 2 _ rfl, hcell 3 _ rfl, hcell 4 _ rfl⟩
theorem RdS.str {xs : List ByteArray} (h : RdS w 1 StrR A n xs) {k : Nat} {s : ByteArray} (hs : xs[k]? = some s) : ∃ b o, A = some ⟨b, o, none⟩ ∧ b < w.heap.size ∧ w.cell? ⟨b, o + k, none⟩ = some (.string s) := by
  obtain ⟨b, o, c, hA, hb, _, hc, hcell⟩ := h.at hs
  unfold StrR at hc
  subst hc
  have := hcell 0 _ rfl
  rw [Nat.mul_one] at this
  exact ⟨b, o, hA, hb, this⟩
theorem RdS.bool {xs : List Bool} (h : RdS w 1 BoolR A n xs) {k : Nat} {s : Bool} (hs : xs[k]? = some s) : ∃ b o, A = some ⟨b, o, none⟩ ∧ b < w.heap.size ∧ w.cell? ⟨b, o + k, none⟩ = some (.bool s) := by
  obtain ⟨b, o, c, hA, hb, _, hc, hcell⟩ := h.at hs
  unfold BoolR at hc
  subst hc
  have := hcell 0 _ rfl
  rw [Nat.mul_one] at this
  exact ⟨b, o, hA, hb, this⟩
end
/-! ### Strings -/
theorem str_eq {s t : ByteArray} : s.toList = t.toList ↔ s = t := by
  constructor
  · intro h
    have e : ∀ x : ByteArray, x.toList = x.data.toList := fun x => by rw [ByteArray.toList_eq]
    rw [e, e] at h
    cases s; cases t
    simp only at h
    rw [Array.toList_inj.1 h]
  · intro h; rw [h]
theorem str_beq {s t : ByteArray} : (s.toList == t.toList) = decide (s = t) := by
  rw [Bool.eq_iff_iff]
  simp only [beq_iff_eq, decide_eq_true_eq]
  exact str_eq
theorem str_ne {s t : ByteArray} (h : s ≠ t) : (s.toList == t.toList) = false := by rw [str_beq]; exact decide_eq_false h

/-! ### Find of palaverref15 -/
def findN (l : List Ent) (s : ByteArray) : Option Nat := l.findIdx? fun e => decide (e.id = s)
def optI : Option Nat → Int
  | none => -1
  | some i => i
theorem findN_some {l : List Ent} {s : ByteArray} {i : Nat} (h : findN l s = some i) : ∃ e, l[i]? = some e ∧ e.id = s ∧ ∀ j e', j < i → l[j]? = some e' → e'.id ≠ s := by
  unfold findN at h
  rw [List.findIdx?_eq_some_iff_getElem] at h
  obtain ⟨h1, h2, h3⟩ := h
  refine ⟨l[i], List.getElem?_eq_getElem h1, by simpa using h2, fun j e' hj he => ?_⟩
  have := h3 j hj
  obtain ⟨a, b⟩ := List.getElem?_eq_some_iff.1 he
  rw [b] at this
  simpa using this
theorem findN_of {l : List Ent} {s : ByteArray} {i : Nat} {e : Ent} (h : l[i]? = some e) (he : e.id = s) (hlt : ∀ j e', j < i → l[j]? = some e' → e'.id ≠ s) : findN l s = some i := by
  unfold findN
  rw [List.findIdx?_eq_some_iff_getElem]
  obtain ⟨a, b⟩ := List.getElem?_eq_some_iff.1 h
  refine ⟨a, by rw [b]; simpa using he, fun j hj => ?_⟩
  have := hlt j _ hj (List.getElem?_eq_getElem (by omega))
  simpa using this
theorem findN_none {l : List Ent} {s : ByteArray} : findN l s = none ↔ ∀ e ∈ l, e.id ≠ s := by
  unfold findN
  rw [List.findIdx?_eq_none_iff]
  simp
end Go.Proofs.YtgcpoppinnnciaaGreatDoor
/- Who belongs to a room, over places in a list of entries: the past, the ranks, what holds, the members, what is good. -/
set_option linter.unusedVariables false
set_option linter.unusedSimpArgs false
namespace Go.Proofs.YtgcpoppinnnciaaGreatDoor
open Go Go.RowKit Go.Proofs.YtgcpoppinnnciaaGreatDoor.Pal

/-! ### The order of bytes -/
theorem bytesLess_irrefl : ∀ x : List UInt8, Op.bytesLess x x = false
  | [] => rfl
  | a :: x => by simp [Op.bytesLess, bytesLess_irrefl x]
theorem bytesLess_trans : ∀ {x y z : List UInt8}, Op.bytesLess x y = true → Op.bytesLess y z = true → Op.bytesLess x z = true
  | _, [], _, h, _ => by simp [Op.bytesLess] at h
  | _, _ :: _, [], _, h => by simp [Op.bytesLess] at h
  | [], _ :: _, _ :: _, _, _ => rfl
  | a :: x, b :: y, c :: z, h1, h2 => by
    simp only [Op.bytesLess, Bool.or_eq_true, decide_eq_true_eq, Bool.and_eq_true, beq_iff_eq] at h1 h2 ⊢
    rcases h1 with h1 | ⟨rfl, h1⟩ <;> rcases h2 with h2 | ⟨rfl, h2⟩
    · exact .inl (UInt8.lt_trans h1 h2)
    · exact .inl h1
    · exact .inl h2
    · exact .inr ⟨rfl, bytesLess_trans h1 h2⟩
theorem bytesLess_total : ∀ {x y : List UInt8}, Op.bytesLess x y = false → Op.bytesLess y x = false → x = y
  | [], [], _, _ => rfl
  | [], _ :: _, h, _ => by simp [Op.bytesLess] at h
  | _ :: _, [], _, h => by simp [Op.bytesLess] at h
  | a :: x, b :: y, h1, h2 => by
    simp only [Op.bytesLess, Bool.or_eq_false_iff, decide_eq_false_iff_not, Bool.and_eq_false_iff, beq_eq_false_iff_ne] at h1 h2
    have hab : a = b := by
      apply UInt8.toNat_inj.1
      have := h1.1; have := h2.1
      simp only [UInt8.lt_iff_toNat_lt] at *
      omega
    subst hab
    rw [bytesLess_total (h1.2.resolve_left (fun h => h rfl)) (h2.2.resolve_left (fun h => h rfl))]
def bl (s t : ByteArray) : Bool := Op.bytesLess s.toList t.toList
theorem bl_irrefl (s : ByteArray) : bl s s = false := bytesLess_irrefl _
theorem bl_trans {s t u : ByteArray} (h1 : bl s t = true) (h2 : bl t u = true) : bl s u = true := bytesLess_trans h1 h2
theorem bl_total {s t : ByteArray} (h1 : bl s t = false) (h2 : bl t s = false) : s = t := str_eq.1 (bytesLess_total h1 h2)

/-! ### Places -/
instance : Inhabited Ent := ⟨⟨ByteArray.empty, 0, ByteArray.empty, .slice none 0 0, [], ByteArray.empty⟩⟩
def ent (l : List Ent) (i : Nat) : Ent := l.getD i default
theorem ent_of {l : List Ent} {i : Nat} {e : Ent} (h : l[i]? = some e) : ent l i = e := by simp [ent, List.getD_eq_getElem?_getD, h]
theorem ent_get {l : List Ent} {i : Nat} (h : i < l.length) : l[i]? = some (ent l i) := by
  rw [List.getElem?_eq_getElem h, ent_of (List.getElem?_eq_getElem h)]
/-- p is one of i's parents. -/
def parB (l : List Ent) (i p : Nat) : Bool := (ent l i).ps.any fun s => decide (s = (ent l p).id)
def pastRow (l : List Ent) (rows : Nat → Nat → Bool) (i j : Nat) : Bool := (List.range i).any fun p => parB l i p && (decide (p = j) || rows p j)
def pasts (l : List Ent) : Nat → Nat → Nat → Bool
  | 0 => fun _ _ => false
  | k + 1 => fun i j => if i = k then pastRow l (pasts l k) k j else pasts l k i j
/-- j is in i's past. -/
def past (l : List Ent) (i j : Nat) : Bool := pasts l (i + 1) i j
theorem pasts_eq (l : List Ent) (i j : Nat) : ∀ k, i < k → pasts l k i j = past l i j
  | 0, h => by omega
  | k + 1, h => by
    by_cases hik : i = k
    · subst hik; rfl
    · have : i < k := by omega
      show (if i = k then pastRow l (pasts l k) k j else pasts l k i j) = _
      rw [if_neg hik]
      exact pasts_eq l i j k this
theorem any_congr {α : Type} {l : List α} {p q : α → Bool} (h : ∀ x ∈ l, p x = q x) : l.any p = l.any q := by
  induction l with
  | nil => rfl
  | cons a l ih => rw [List.any_cons, List.any_cons, h a (by simp), ih (fun x hx => h x (by simp [hx]))]
theorem past_eq (l : List Ent) (i j : Nat) : past l i j = (List.range i).any fun p => parB l i p && (decide (p = j) || past l p j) := by
  show (if i = i then pastRow l (pasts l i) i j else _) = _
  rw [if_pos rfl]
  unfold pastRow
  apply any_congr
  intro p hp
  rw [pasts_eq l p j i (by simpa using hp)]
theorem past_lt (l : List Ent) : ∀ i j, past l i j = true → j < i := by
  intro i
  induction i using Nat.strongRecOn with
  | ind i ih =>
    intro j h
    rw [past_eq, List.any_eq_true] at h
    obtain ⟨p, hp, h⟩ := h
    have hp' : p < i := by simpa using hp
    simp only [Bool.and_eq_true, Bool.or_eq_true, decide_eq_true_eq] at h
    rcases h.2 with rfl | h2
    · exact hp'
    · have := ih p hp' j h2; omega
/-! ### Closed lists -/
def closedAt (pre : List Ent) (e : Ent) : Bool := decide (1 ≤ e.id.size) && (decide (e.id.size ≤ 64) && ((findN pre e.id).isNone && e.ps.all fun s => (findN pre s).isSome))
def closedUpto (l : List Ent) (k : Nat) : Bool := (List.range k).all fun i => closedAt (l.take i) (ent l i)
def closedB (l : List Ent) : Bool := decide (l.length ≤ 300) && closedUpto l l.length
theorem closedUpto_succ (l : List Ent) (k : Nat) : closedUpto l (k + 1) = (closedUpto l k && closedAt (l.take k) (ent l k)) := by
  unfold closedUpto
  rw [List.range_succ, List.all_append]
  simp
structure Closed (l : List Ent) : Prop where
  len : l.length ≤ 300
  lo : ∀ i, i < l.length → 1 ≤ (ent l i).id.size
  hi : ∀ i, i < l.length → (ent l i).id.size ≤ 64
  ids : ∀ i j, i < l.length → j < l.length → (ent l i).id = (ent l j).id → i = j
  pars : ∀ i s, i < l.length → s ∈ (ent l i).ps → ∃ p, p < i ∧ (ent l p).id = s
theorem closed_iff {l : List Ent} : closedB l = true ↔ Closed l := by
  constructor
  · intro h
    simp only [closedB, closedUpto, Bool.and_eq_true, decide_eq_true_eq, List.all_eq_true, List.mem_range, closedAt] at h
    obtain ⟨h0, h⟩ := h
    have key : ∀ i j, i < l.length → j < i → (ent l j).id ≠ (ent l i).id := fun i j hi hj => by
      have h3 := (h i hi).2.2.1
      rw [Option.isNone_iff_eq_none, findN_none] at h3
      exact h3 _ (List.mem_iff_getElem?.2 ⟨j, by rw [List.getElem?_take, if_pos hj]; exact ent_get (by omega)⟩)
    refine ⟨h0, fun i hi => (h i hi).1, fun i hi => (h i hi).2.1, fun i j hi hj he => ?_, fun i s hi hs => ?_⟩
    · rcases Nat.lt_trichotomy i j with h1 | h1 | h1
      · exact absurd he (key j i hj h1)
      · exact h1
      · exact absurd he.symm (key i j hi h1)
    · have h3 := (h i hi).2.2.2 s hs
      obtain ⟨p, hp⟩ := Option.isSome_iff_exists.1 h3
      obtain ⟨e, he, hid, _⟩ := findN_some hp
      rw [List.getElem?_take] at he
      split at he
      · rename_i hpi
        exact ⟨p, hpi, by rw [ent_of he]; exact hid⟩
      · cases he
  · intro h
    simp only [closedB, closedUpto, Bool.and_eq_true, decide_eq_true_eq, List.all_eq_true, List.mem_range, closedAt]
    refine ⟨h.len, fun i hi => ⟨h.lo i hi, h.hi i hi, ?_, fun s hs => ?_⟩⟩
    · rw [Option.isNone_iff_eq_none, findN_none]
      intro e he hid
      obtain ⟨j, hj⟩ := List.mem_iff_getElem?.1 he
      rw [List.getElem?_take] at hj
      split at hj
      · rename_i hji
        have := h.ids j i (by omega) hi (by rw [ent_of hj]; exact hid)
        omega
      · cases hj
    · obtain ⟨p, hp, hid⟩ := h.pars i s hi hs
      rw [Option.isSome_iff_ne_none]
      intro hn
      rw [findN_none] at hn
      exact hn _ (List.mem_iff_getElem?.2 ⟨p, by rw [List.getElem?_take, if_pos hp]; exact ent_get (by omega)⟩) hid
theorem Closed.find {l : List Ent} (h : Closed l) {i : Nat} (hi : i < l.length) : findN l (ent l i).id = some i :=
  findN_of (ent_get hi) rfl fun j e' hj he hid => by
    have := h.ids j i (by omega) hi (by rw [ent_of he]; exact hid)
    omega
/-- A parent's place. -/
theorem Closed.par {l : List Ent} (h : Closed l) {i : Nat} {s : ByteArray} (hi : i < l.length) (hs : s ∈ (ent l i).ps) : ∃ p, findN l s = some p ∧ p < i ∧ (ent l p).id = s := by
  obtain ⟨p, hp, hid⟩ := h.pars i s hi hs
  exact ⟨p, by rw [← hid]; exact h.find (by omega), hp, hid⟩
/-- The past, parent by parent. -/
def foundPast (l : List Ent) (i : Nat) (ss : List ByteArray) (j : Nat) : Bool := ss.any fun s => match findN l s with | some p => decide (p = j) || past l p j | none => false
theorem Closed.past {l : List Ent} (h : Closed l) {i : Nat} (hi : i < l.length) (j : Nat) : past l i j = foundPast l i (ent l i).ps j := by
  rw [past_eq, Bool.eq_iff_iff]
  unfold foundPast
  simp only [List.any_eq_true, List.mem_range, Bool.and_eq_true]
  constructor
  · rintro ⟨p, hp, h1, h2⟩
    simp only [parB, List.any_eq_true, decide_eq_true_eq] at h1
    obtain ⟨s, hs, rfl⟩ := h1
    exact ⟨_, hs, by rw [h.find (by omega)]; exact h2⟩
  · rintro ⟨s, hs, h1⟩
    obtain ⟨p, hf, hp, hid⟩ := h.par hi hs
    rw [hf] at h1
    exact ⟨p, hp, by simp only [parB, List.any_eq_true, decide_eq_true_eq]; exact ⟨s, hs, hid.symm⟩, h1⟩

/-! ### Ranks -/
def countB (bs : List Bool) : Nat := (bs.filter id).length
def prow (l : List Ent) (i : Nat) : List Bool := (List.range l.length).map (past l i)
def cnt (l : List Ent) (i : Nat) : Nat := countB (prow l i)
def lessE (l : List Ent) (i j : Nat) : Bool := decide (cnt l i < cnt l j) || (decide (cnt l i = cnt l j) && bl (ent l i).id (ent l j).id)
theorem lessE_irrefl (l : List Ent) (i : Nat) : lessE l i i = false := by simp [lessE, bl_irrefl]
theorem lessE_trans {l : List Ent} {i j k : Nat} (h1 : lessE l i j = true) (h2 : lessE l j k = true) : lessE l i k = true := by
  simp only [lessE, Bool.or_eq_true, Bool.and_eq_true, decide_eq_true_eq] at *
  rcases h1 with h1 | ⟨h1, h3⟩ <;> rcases h2 with h2 | ⟨h2, h4⟩
  · exact .inl (by omega)
  · exact .inl (by omega)
  · exact .inl (by omega)
  · exact .inr ⟨by omega, bl_trans h3 h4⟩
theorem Closed.lessE_total {l : List Ent} (h : Closed l) {i j : Nat} (hi : i < l.length) (hj : j < l.length) (h1 : lessE l i j = false) (h2 : lessE l j i = false) : i = j := by
  simp only [lessE, Bool.or_eq_false_iff, Bool.and_eq_false_iff, decide_eq_false_iff_not] at h1 h2
  have hc : cnt l i = cnt l j := by omega
  exact h.ids i j hi hj (bl_total (h1.2.resolve_left (fun h => h hc)) (h2.2.resolve_left (fun h => h hc.symm)))
/-- What stands in a set: l, its root, which of them are in. -/
structure Ms where
  l : List Ent
  r : Nat
  inn : Nat → Bool
namespace Ms
variable (s : Ms)
def n : Nat := s.l.length
def aut (i : Nat) : ByteArray := (ent s.l i).author
def body (i : Nat) : ByteArray := (ent s.l i).body
def kind (i : Nat) : Int := (ent s.l i).kind
def addOf (key : ByteArray) (i : Nat) : Bool := s.inn i && (decide (s.kind i = 4) && decide (s.body i = key))
def stepF (key : ByteArray) (best : Option Nat) (i : Nat) : Option Nat := if s.addOf key i then (match best with | none => some i | some b => if lessE s.l i b then some i else some b) else best
def firstU (key : ByteArray) (k : Nat) : Option Nat := (List.range k).foldl (s.stepF key) none
def first (key : ByteArray) : Option Nat := if key = s.aut s.r then some s.r else s.firstU key s.n
/-- Has a a lower rank than b: as the document says it. -/
def lower (a b : ByteArray) : Bool :=
  match s.first a, s.first b with
  | none, none => false
  | some _, none => true
  | none, some _ => false
  | some x, some y => if x = y then false else if x = s.r ∨ y = s.r then decide (x = s.r) else lessE s.l x y
/-- Would k, if it holds, strike i? -/
def strikes (k i : Nat) : Bool := !decide (k = i) && (s.inn k && (decide (s.kind k = 5) && (decide (s.body k = s.aut i) && (!past s.l i k && (!past s.l k i && s.lower (s.aut k) (s.aut i))))))
def holdsF : Nat → Nat → Bool
  | 0, _ => true
  | f + 1, i => !(List.range s.n).any fun k => s.strikes k i && holdsF f k
def card : Nat := ((List.range s.n).filter s.inn).length
def rk (key : ByteArray) : Nat := if key = s.aut s.r then 0 else match s.firstU key s.n with | none => s.card + 1 | some x => ((List.range s.n).filter fun j => s.inn j && lessE s.l j x).length + 1
def holds (i : Nat) : Bool := s.holdsF (s.rk (s.aut i) + 1) i
def holding (i : Nat) : Bool := s.inn i && s.holds i
def joins (key : ByteArray) (i : Nat) : Bool := s.inn i && ((decide (i = s.r) && decide (s.aut i = key)) || (decide (s.kind i = 4) && (decide (s.body i = key) && s.holding i)))
def leaves (key : ByteArray) (i k : Nat) : Bool := s.holding k && (decide (s.kind k = 5) && (decide (s.body k = key) && !past s.l i k))
def member (key : ByteArray) : Bool := (List.range s.n).any fun i => s.joins key i && !(List.range s.n).any fun k => s.leaves key i k
end Ms
/-- Which are good, of the first k. -/
def goodU (l : List Ent) (r : Nat) : Nat → Nat → Bool
  | 0 => fun _ => false
  | k + 1 => fun i => if i = k then decide (k = r) || (!decide ((ent l k).kind = 1) && (past l k r && (Ms.mk l r (fun j => goodU l r k j && past l k j)).member (ent l k).author)) else goodU l r k i
def goodL (l : List Ent) (r : Nat) (i : Nat) : Bool := goodU l r l.length i
end Go.Proofs.YtgcpoppinnnciaaGreatDoor
/- Ranks as numbers; what holds, by ranks. -/
set_option linter.unusedVariables false
set_option linter.unusedSimpArgs false
namespace Go.Proofs.YtgcpoppinnnciaaGreatDoor
open Go Go.RowKit Go.Proofs.YtgcpoppinnnciaaGreatDoor.Pal

theorem filt_le {α : Type} {p q : α → Bool} : ∀ (l : List α), (∀ x ∈ l, q x = true → p x = true) → (l.filter q).length ≤ (l.filter p).length
  | [], _ => Nat.le_refl _
  | a :: l, h => by
    have ih := filt_le l (fun x hx => h x (by simp [hx]))
    have ha := h a (by simp)
    rw [List.filter_cons, List.filter_cons]
    cases hq : q a
    · cases hp : p a <;> simp <;> omega
    · rw [ha hq]; simp; omega
theorem filt_lt {α : Type} {p q : α → Bool} : ∀ (l : List α), (∀ x ∈ l, q x = true → p x = true) → ∀ y ∈ l, p y = true → q y = false → (l.filter q).length < (l.filter p).length
  | [], _, y, hy, _, _ => by cases hy
  | a :: l, h, y, hy, hp, hq => by
    have hle := filt_le l (fun x hx => h x (by simp [hx]))
    rw [List.filter_cons, List.filter_cons]
    rcases List.mem_cons.1 hy with rfl | hy
    · rw [hp, hq]; simp; omega
    · have ih := filt_lt l (fun x hx => h x (by simp [hx])) y hy hp hq
      have ha := h a (by simp)
      cases hqa : q a
      · cases hpa : p a <;> simp <;> omega
      · rw [ha hqa]; simp; omega
namespace Ms
variable {s : Ms} {key : ByteArray}
theorem firstU_succ (k : Nat) : s.firstU key (k + 1) = s.stepF key (s.firstU key k) k := by
  unfold firstU
  rw [List.range_succ, List.foldl_append]
  rfl
theorem firstU_none : ∀ {k : Nat}, s.firstU key k = none → ∀ j, j < k → s.addOf key j = false
  | 0, _, j, hj => by omega
  | k + 1, h, j, hj => by
    rw [firstU_succ] at h
    unfold stepF at h
    cases ha : s.addOf key k with
    | true =>
      rw [ha, if_pos rfl] at h
      cases hb : s.firstU key k with
      | none => rw [hb] at h; cases h
      | some b => rw [hb] at h; simp only at h; split at h <;> cases h
    | false =>
      rw [ha] at h
      simp only [Bool.false_eq_true, if_false] at h
      rcases Nat.lt_or_ge j k with h1 | h1
      · exact firstU_none h j h1
      · obtain rfl : j = k := by omega
        exact ha
theorem firstU_some : ∀ {k x : Nat}, s.firstU key k = some x → x < k ∧ s.addOf key x = true ∧ ∀ j, j < k → s.addOf key j = true → lessE s.l j x = false
  | 0, x, h => by cases h
  | k + 1, x, h => by
    rw [firstU_succ] at h
    unfold stepF at h
    cases ha : s.addOf key k with
    | true =>
      rw [ha, if_pos rfl] at h
      cases hb : s.firstU key k with
      | none =>
        rw [hb] at h
        obtain rfl := Option.some.inj h
        refine ⟨by omega, ha, fun j hj hja => ?_⟩
        rcases Nat.lt_or_ge j k with h1 | h1
        · rw [firstU_none hb j h1] at hja; cases hja
        · obtain rfl : j = k := by omega
          exact lessE_irrefl _ _
      | some b =>
        obtain ⟨i1, i2, i3⟩ := firstU_some hb
        rw [hb] at h
        simp only at h
        cases hl : lessE s.l k b with
        | true =>
          rw [hl, if_pos rfl] at h
          obtain rfl := Option.some.inj h
          refine ⟨by omega, ha, fun j hj hja => ?_⟩
          rcases Nat.lt_or_ge j k with h1 | h1
          · cases hjk : lessE s.l j k with
            | false => rfl
            | true => have := i3 j h1 hja; rw [lessE_trans hjk hl] at this; cases this
          · obtain rfl : j = k := by omega
            exact lessE_irrefl _ _
        | false =>
          rw [hl] at h
          simp only [Bool.false_eq_true, if_false] at h
          obtain rfl := Option.some.inj h
          refine ⟨by omega, i2, fun j hj hja => ?_⟩
          rcases Nat.lt_or_ge j k with h1 | h1
          · exact i3 j h1 hja
          · obtain rfl : j = k := by omega
            exact hl
    | false =>
      rw [ha] at h
      simp only [Bool.false_eq_true, if_false] at h
      obtain ⟨i1, i2, i3⟩ := firstU_some h
      refine ⟨by omega, i2, fun j hj hja => ?_⟩
      rcases Nat.lt_or_ge j k with h1 | h1
      · exact i3 j h1 hja
      · obtain rfl : j = k := by omega
        rw [ha] at hja; cases hja
theorem addOf_inn {i : Nat} (h : s.addOf key i = true) : s.inn i = true := by
  simp only [addOf, Bool.and_eq_true] at h; exact h.1
def below (s : Ms) (x : Nat) : Nat := ((List.range s.n).filter fun j => s.inn j && lessE s.l j x).length
theorem below_card {x : Nat} (hx : x < s.n) (hin : s.inn x = true) : s.below x < s.card :=
  filt_lt _ (fun j _ h => by simp only [Bool.and_eq_true] at h; exact h.1) x (by simpa using hx) hin (by rw [lessE_irrefl]; simp)
theorem below_lt {x y : Nat} (hx : x < s.n) (hin : s.inn x = true) (h : lessE s.l x y = true) : s.below x < s.below y :=
  filt_lt _ (fun j _ h1 => by simp only [Bool.and_eq_true] at h1 ⊢; exact ⟨h1.1, lessE_trans h1.2 h⟩) x (by simpa using hx) (by rw [hin, h]; rfl) (by rw [lessE_irrefl]; simp)
/-- A set that makes sense: a closed list, its root, and what is in is a place. -/
structure Ok (s : Ms) : Prop where
  cl : Closed s.l
  r : s.r < s.n
  kr : s.kind s.r = 1
theorem Ok.lower_rk (h : s.Ok) (a b : ByteArray) : s.lower a b = decide (s.rk a < s.rk b) := by
  have hroot : ∀ {key x}, s.firstU key s.n = some x → x ≠ s.r := fun hx e => by
    obtain ⟨_, h2, _⟩ := firstU_some hx
    simp only [addOf, Bool.and_eq_true, decide_eq_true_eq] at h2
    rw [e, h.kr] at h2
    exact absurd h2.2.1 (by decide)
  unfold lower first rk
  by_cases ha : a = s.aut s.r
  · rw [if_pos ha, if_pos ha]
    by_cases hb : b = s.aut s.r
    · rw [if_pos hb, if_pos hb]; simp
    · rw [if_neg hb, if_neg hb]
      cases hy : s.firstU b s.n with
      | none => simp
      | some y =>
        have := hroot hy
        have h2 : s.r ≠ y := fun e => this e.symm
        simp [h2]
  · rw [if_neg ha, if_neg ha]
    by_cases hb : b = s.aut s.r
    · rw [if_pos hb, if_pos hb]
      cases hx : s.firstU a s.n with
      | none => simp
      | some x =>
        have := hroot hx
        simp [this]
    · rw [if_neg hb, if_neg hb]
      cases hx : s.firstU a s.n with
      | none =>
        cases hy : s.firstU b s.n with
        | none => simp
        | some y =>
          obtain ⟨y1, y2, _⟩ := firstU_some hy
          have := below_card y1 (addOf_inn y2)
          unfold below at this
          simp only
          symm
          apply decide_eq_false
          omega
      | some x =>
        obtain ⟨x1, x2, _⟩ := firstU_some hx
        cases hy : s.firstU b s.n with
        | none =>
          have := below_card x1 (addOf_inn x2)
          unfold below at this
          simp only
          symm
          apply decide_eq_true
          omega
        | some y =>
          obtain ⟨y1, y2, _⟩ := firstU_some hy
          have r1 := hroot hx
          have r2 := hroot hy
          simp only
          by_cases hxy : x = y
          · subst hxy; simp
          · rw [if_neg hxy, if_neg (by rintro (e | e); exact r1 e; exact r2 e)]
            cases hl : lessE s.l x y with
            | true =>
              have := below_lt x1 (addOf_inn x2) hl
              unfold below at this
              symm; apply decide_eq_true; omega
            | false =>
              have hl2 : lessE s.l y x = true := by
                cases hl2 : lessE s.l y x with
                | true => rfl
                | false => exact absurd (h.cl.lessE_total x1 y1 hl hl2) hxy
              have := below_lt y1 (addOf_inn y2) hl2
              unfold below at this
              symm; apply decide_eq_false; omega
theorem Ok.strikes_rk (h : s.Ok) {k i : Nat} (hs : s.strikes k i = true) : s.rk (s.aut k) < s.rk (s.aut i) := by
  simp only [strikes, Bool.and_eq_true, h.lower_rk, decide_eq_true_eq] at hs
  exact hs.2.2.2.2.2.2
theorem Ok.holdsF_eq (h : s.Ok) : ∀ (f g i : Nat), s.rk (s.aut i) < f → s.rk (s.aut i) < g → s.holdsF f i = s.holdsF g i
  | 0, _, _, h1, _ => by omega
  | _, 0, _, _, h1 => by omega
  | f + 1, g + 1, i, h1, h2 => by
    unfold holdsF
    congr 1
    apply any_congr
    intro k hk
    cases hs : s.strikes k i with
    | false => rfl
    | true =>
      have := h.strikes_rk hs
      rw [Bool.true_and, Bool.true_and]
      exact h.holdsF_eq f g k (by omega) (by omega)
theorem Ok.holds_eq (h : s.Ok) (i : Nat) : s.holds i = !(List.range s.n).any fun k => s.strikes k i && s.holds k := by
  unfold holds
  show (!(List.range s.n).any fun k => s.strikes k i && s.holdsF (s.rk (s.aut i)) k) = _
  congr 1
  apply any_congr
  intro k hk
  cases hs : s.strikes k i with
  | false => rfl
  | true =>
    have := h.strikes_rk hs
    rw [Bool.true_and, Bool.true_and]
    exact h.holdsF_eq _ _ k (by omega) (by omega)
end Ms
end Go.Proofs.YtgcpoppinnnciaaGreatDoor
/- The same entries in another list: what is good, holds, and is a member hangs on the entries and their pasts alone (plain). -/
set_option linter.unusedVariables false
set_option linter.unusedSimpArgs false
namespace Go.Proofs.YtgcpoppinnnciaaGreatDoor
open Go Go.RowKit Go.Proofs.YtgcpoppinnnciaaGreatDoor.Pal

theorem nodup_perm' {α : Type} : ∀ {a b : List α}, a.Nodup → b.Nodup → (∀ x, x ∈ a ↔ x ∈ b) → a.Perm b := by
  classical
  intro a b ha hb h
  rw [List.perm_ext_iff_of_nodup ha hb]
  exact h
theorem goodU_below (l : List Ent) (r : Nat) : ∀ (k i : Nat), i < k → goodU l r k i = goodU l r (i + 1) i
  | 0, i, h => by omega
  | k + 1, i, h => by
    by_cases e : i = k
    · subst e; rfl
    · show (if i = k then _ else goodU l r k i) = _
      rw [if_neg e]
      exact goodU_below l r k i (by omega)
/-- Good, said of itself. -/
theorem goodL_eq (l : List Ent) (r : Nat) {i : Nat} (hi : i < l.length) : goodL l r i = (decide (i = r) || (!decide ((ent l i).kind = 1) && (past l i r && (Ms.mk l r (fun j => goodL l r j && past l i j)).member (ent l i).author))) := by
  unfold goodL
  rw [goodU_below l r l.length i hi]
  show (if i = i then _ else _) = _
  rw [if_pos rfl]
  have : (fun j => goodU l r i j && past l i j) = (fun j => goodU l r l.length j && past l i j) := by
    funext j
    cases hp : past l i j with
    | false => simp
    | true =>
      have := past_lt l i j hp
      rw [goodU_below l r i j this, goodU_below l r l.length j (by omega)]
  rw [this]
/-- m is some of l's entries, each once, with their pasts: its place i is l's place σ i. -/
structure Sub (l m : List Ent) (σ : Nat → Nat) : Prop where
  cl : Closed l
  cm : Closed m
  lt : ∀ i, i < m.length → σ i < l.length
  same : ∀ i, i < m.length → ent m i = ent l (σ i)
section
variable {l m : List Ent} {σ : Nat → Nat}
theorem Sub.inj (h : Sub l m σ) {i j : Nat} (hi : i < m.length) (hj : j < m.length) (e : σ i = σ j) : i = j :=
  h.cm.ids i j hi hj (by rw [h.same i hi, h.same j hj, e])
/-- The parents' places go along. -/
theorem Sub.find (h : Sub l m σ) {i : Nat} {s : ByteArray} (hi : i < m.length) (hs : s ∈ (ent m i).ps) : ∃ p, p < i ∧ findN m s = some p ∧ findN l s = some (σ p) := by
  obtain ⟨p, hf, hp, hid⟩ := h.cm.par hi hs
  refine ⟨p, hp, hf, ?_⟩
  have := h.cl.find (h.lt p (by omega))
  rw [← h.same p (by omega), hid] at this
  exact this
theorem Sub.past (h : Sub l m σ) : ∀ i, i < m.length → (∀ j, past l (σ i) j = true → ∃ k, k < m.length ∧ σ k = j) ∧ ∀ j, j < m.length → past m i j = past l (σ i) (σ j) := by
  intro i
  induction i using Nat.strongRecOn with
  | ind i ih =>
    intro hi
    have e1 := h.cm.past hi
    have e2 := h.cl.past (h.lt i hi)
    rw [← h.same i hi] at e2
    constructor
    · intro j hj
      rw [e2] at hj
      unfold foundPast at hj
      rw [List.any_eq_true] at hj
      obtain ⟨s, hs, hj⟩ := hj
      obtain ⟨p, hp, _, hf⟩ := h.find hi hs
      rw [hf] at hj
      simp only [Bool.or_eq_true, decide_eq_true_eq] at hj
      rcases hj with rfl | hj
      · exact ⟨p, by omega, rfl⟩
      · exact (ih p hp (by omega)).1 j hj
    · intro j hj
      rw [e1, e2]
      unfold foundPast
      apply any_congr
      intro s hs
      obtain ⟨p, hp, hf1, hf2⟩ := h.find hi hs
      rw [hf1, hf2]
      simp only
      rw [(ih p hp (by omega)).2 j hj]
      congr 1
      rw [Bool.eq_iff_iff, decide_eq_true_eq, decide_eq_true_eq]
      exact ⟨fun e => by rw [e], fun e => h.inj (by omega) hj e⟩
theorem Sub.down (h : Sub l m σ) {i : Nat} (hi : i < m.length) {j : Nat} (hj : Go.Proofs.YtgcpoppinnnciaaGreatDoor.past l (σ i) j = true) : ∃ k, k < m.length ∧ σ k = j := (h.past i hi).1 j hj
theorem Sub.pst (h : Sub l m σ) {i j : Nat} (hi : i < m.length) (hj : j < m.length) : Go.Proofs.YtgcpoppinnnciaaGreatDoor.past m i j = Go.Proofs.YtgcpoppinnnciaaGreatDoor.past l (σ i) (σ j) := (h.past i hi).2 j hj
/-- Counting. -/
theorem Sub.count (h : Sub l m σ) {P Q : Nat → Bool} (hPQ : ∀ i, i < m.length → P i = Q (σ i)) (hd : ∀ j, Q j = true → j < l.length → ∃ k, k < m.length ∧ σ k = j) : ((List.range m.length).filter P).length = ((List.range l.length).filter Q).length := by
  have hp : (((List.range m.length).filter P).map σ).Perm ((List.range l.length).filter Q) := by
    refine nodup_perm' ?_ (List.Nodup.sublist List.filter_sublist List.nodup_range) fun x => ?_
    · unfold List.Nodup
      rw [List.pairwise_map]
      refine List.Pairwise.imp_of_mem ?_ (List.Nodup.sublist List.filter_sublist List.nodup_range)
      intro a b ha hb hne e
      have h1 : a < m.length := by have := (List.mem_filter.1 ha).1; simpa using this
      have h2 : b < m.length := by have := (List.mem_filter.1 hb).1; simpa using this
      exact hne (h.inj h1 h2 e)
    · constructor
      · intro hx
        obtain ⟨i, hi, rfl⟩ := List.mem_map.1 hx
        obtain ⟨h1, h2⟩ := List.mem_filter.1 hi
        have h1 : i < m.length := by simpa using h1
        exact List.mem_filter.2 ⟨by simpa using h.lt i h1, by rw [← hPQ i h1]; exact h2⟩
      · intro hx
        obtain ⟨h1, h2⟩ := List.mem_filter.1 hx
        obtain ⟨k, hk, rfl⟩ := hd x h2 (by simpa using h1)
        exact List.mem_map.2 ⟨k, List.mem_filter.2 ⟨by simpa using hk, by rw [hPQ k hk]; exact h2⟩, rfl⟩
  have := hp.length_eq
  rw [List.length_map] at this
  exact this
theorem Sub.any (h : Sub l m σ) {P Q : Nat → Bool} (hPQ : ∀ i, i < m.length → P i = Q (σ i)) (hd : ∀ j, Q j = true → j < l.length → ∃ k, k < m.length ∧ σ k = j) : (List.range m.length).any P = (List.range l.length).any Q := by
  rw [Bool.eq_iff_iff, List.any_eq_true, List.any_eq_true]
  constructor
  · rintro ⟨i, hi, hp⟩
    have hi : i < m.length := by simpa using hi
    exact ⟨σ i, by simpa using h.lt i hi, by rw [← hPQ i hi]; exact hp⟩
  · rintro ⟨j, hj, hq⟩
    obtain ⟨k, hk, rfl⟩ := hd j hq (by simpa using hj)
    exact ⟨k, by simpa using hk, by rw [hPQ k hk]; exact hq⟩
theorem cnt_filter (l : List Ent) (i : Nat) : cnt l i = ((List.range l.length).filter (past l i)).length := by
  unfold cnt countB prow
  rw [List.filter_map, List.length_map]
  rfl
theorem Sub.cnt (h : Sub l m σ) {i : Nat} (hi : i < m.length) : cnt m i = cnt l (σ i) := by
  rw [cnt_filter, cnt_filter]
  exact h.count (fun j hj => h.pst hi hj) (fun j hj _ => h.down hi hj)
theorem Sub.less (h : Sub l m σ) {i j : Nat} (hi : i < m.length) (hj : j < m.length) : lessE m i j = lessE l (σ i) (σ j) := by
  unfold lessE
  rw [h.cnt hi, h.cnt hj, h.same i hi, h.same j hj]
end
/-- Two sets of the same entries. -/
structure MSub (s t : Ms) (σ : Nat → Nat) : Prop where
  sub : Sub s.l t.l σ
  r : t.r < t.l.length
  rr : σ t.r = s.r
  kr : (ent s.l s.r).kind = 1
  inn : ∀ i, i < t.l.length → t.inn i = s.inn (σ i)
  dn : ∀ j, j < s.l.length → s.inn j = true → ∃ k, k < t.l.length ∧ σ k = j
namespace MSub
variable {s t : Ms} {σ : Nat → Nat}
theorem ok1 (h : MSub s t σ) : s.Ok := ⟨h.sub.cl, by have := h.sub.lt _ h.r; rw [h.rr] at this; exact this, h.kr⟩
theorem ok2 (h : MSub s t σ) : t.Ok := ⟨h.sub.cm, h.r, by show (ent t.l t.r).kind = 1; rw [h.sub.same _ h.r, h.rr]; exact h.kr⟩
theorem aut (h : MSub s t σ) {i : Nat} (hi : i < t.l.length) : t.aut i = s.aut (σ i) := by unfold Ms.aut; rw [h.sub.same i hi]
theorem body (h : MSub s t σ) {i : Nat} (hi : i < t.l.length) : t.body i = s.body (σ i) := by unfold Ms.body; rw [h.sub.same i hi]
theorem kind (h : MSub s t σ) {i : Nat} (hi : i < t.l.length) : t.kind i = s.kind (σ i) := by unfold Ms.kind; rw [h.sub.same i hi]
theorem eqr (h : MSub s t σ) {i j : Nat} (hi : i < t.l.length) (hj : j < t.l.length) : decide (i = j) = decide (σ i = σ j) := by
  rw [Bool.eq_iff_iff, decide_eq_true_eq, decide_eq_true_eq]
  exact ⟨fun e => by rw [e], fun e => h.sub.inj hi hj e⟩
theorem card (h : MSub s t σ) : t.card = s.card := h.sub.count h.inn (fun j hq hj => h.dn j hj hq)
theorem below (h : MSub s t σ) {x : Nat} (hx : x < t.l.length) : t.below x = s.below (σ x) :=
  h.sub.count (fun i hi => by rw [h.inn i hi, h.sub.less hi hx]) (fun j hq hj => by rw [Bool.and_eq_true] at hq; exact h.dn j hj hq.1)
theorem addOf (h : MSub s t σ) (key : ByteArray) {i : Nat} (hi : i < t.l.length) : t.addOf key i = s.addOf key (σ i) := by
  unfold Ms.addOf
  rw [h.inn i hi, h.kind hi, h.body hi]
theorem firstU (h : MSub s t σ) (key : ByteArray) : s.firstU key s.n = (t.firstU key t.n).map σ ∧ ∀ x, t.firstU key t.n = some x → x < t.l.length := by
  cases ht : t.firstU key t.n with
  | none =>
    refine ⟨?_, fun x hx => by cases hx⟩
    cases hs : s.firstU key s.n with
    | none => rfl
    | some y =>
      obtain ⟨h1, h2, _⟩ := Ms.firstU_some hs
      obtain ⟨k, hk, rfl⟩ := h.dn y h1 (Ms.addOf_inn h2)
      have := Ms.firstU_none ht k hk
      rw [h.addOf key hk, h2] at this
      cases this
  | some x =>
    obtain ⟨t1, t2, t3⟩ := Ms.firstU_some ht
    have t1 : x < t.l.length := t1
    refine ⟨?_, fun x' hx => by injection hx with hx; rw [← hx]; exact t1⟩
    rw [h.addOf key t1] at t2
    cases hs : s.firstU key s.n with
    | none =>
      have := Ms.firstU_none hs (σ x) (h.sub.lt x t1)
      rw [t2] at this; cases this
    | some y =>
      obtain ⟨h1, h2, h3⟩ := Ms.firstU_some hs
      obtain ⟨k, hk, rfl⟩ := h.dn y h1 (Ms.addOf_inn h2)
      have a1 := h3 (σ x) (h.sub.lt x t1) t2
      have a2 := t3 k hk (by rw [h.addOf key hk]; exact h2)
      rw [h.sub.less hk t1] at a2
      have := h.sub.cl.lessE_total (h.sub.lt k hk) (h.sub.lt x t1) a2 a1
      rw [this]; rfl
theorem rk (h : MSub s t σ) (key : ByteArray) : t.rk key = s.rk key := by
  unfold Ms.rk
  rw [h.aut h.r, h.rr]
  split
  · rfl
  · obtain ⟨h1, h2⟩ := h.firstU key
    rw [h1]
    cases ht : t.firstU key t.n with
    | none => simp only [Option.map_none]; rw [h.card]
    | some x =>
      simp only [Option.map_some]
      have := h.below (h2 x ht)
      unfold Ms.below at this
      rw [this]
theorem lower (h : MSub s t σ) (a b : ByteArray) : t.lower a b = s.lower a b := by rw [h.ok1.lower_rk, h.ok2.lower_rk, h.rk, h.rk]
theorem strikes (h : MSub s t σ) {k i : Nat} (hk : k < t.l.length) (hi : i < t.l.length) : t.strikes k i = s.strikes (σ k) (σ i) := by
  unfold Ms.strikes
  rw [h.eqr hk hi, h.inn k hk, h.kind hk, h.body hk, h.aut hi, h.aut hk, h.lower, h.sub.pst hi hk, h.sub.pst hk hi]
theorem holdsF (h : MSub s t σ) : ∀ (f i : Nat), i < t.l.length → t.holdsF f i = s.holdsF f (σ i)
  | 0, _, _ => rfl
  | f + 1, i, hi => by
    unfold Ms.holdsF
    congr 1
    refine h.sub.any (fun k hk => ?_) (fun j hq hj => ?_)
    · rw [h.strikes hk hi, h.holdsF f k hk]
    · rw [Bool.and_eq_true] at hq
      have hq := hq.1
      unfold Ms.strikes at hq
      simp only [Bool.and_eq_true] at hq
      exact h.dn j hj hq.2.1
theorem holds (h : MSub s t σ) {i : Nat} (hi : i < t.l.length) : t.holds i = s.holds (σ i) := by
  unfold Ms.holds
  rw [h.aut hi, h.rk, h.holdsF _ _ hi]
theorem holding (h : MSub s t σ) {i : Nat} (hi : i < t.l.length) : t.holding i = s.holding (σ i) := by
  unfold Ms.holding
  rw [h.inn i hi, h.holds hi]
theorem joins (h : MSub s t σ) (key : ByteArray) {i : Nat} (hi : i < t.l.length) : t.joins key i = s.joins key (σ i) := by
  unfold Ms.joins
  rw [h.inn i hi, h.eqr hi h.r, h.rr, h.aut hi, h.kind hi, h.body hi, h.holding hi]
theorem leaves (h : MSub s t σ) (key : ByteArray) {i k : Nat} (hi : i < t.l.length) (hk : k < t.l.length) : t.leaves key i k = s.leaves key (σ i) (σ k) := by
  unfold Ms.leaves
  rw [h.holding hk, h.kind hk, h.body hk, h.sub.pst hi hk]
theorem member (h : MSub s t σ) (key : ByteArray) : t.member key = s.member key := by
  unfold Ms.member
  refine h.sub.any (fun i hi => ?_) (fun j hq hj => ?_)
  · rw [h.joins key hi]
    congr 2
    refine h.sub.any (fun k hk => h.leaves key hi hk) (fun j hq hj => ?_)
    unfold Ms.leaves Ms.holding at hq
    simp only [Bool.and_eq_true] at hq
    exact h.dn j hj hq.1.1
  · rw [Bool.and_eq_true] at hq
    have hq := hq.1
    unfold Ms.joins at hq
    rw [Bool.and_eq_true] at hq
    exact h.dn j hj hq.1
end MSub
section
variable {l m : List Ent} {σ : Nat → Nat}
theorem Sub.good (h : Sub l m σ) {r : Nat} (hr : r < m.length) (hk : (ent m r).kind = 1) : ∀ i, i < m.length → goodL m r i = goodL l (σ r) (σ i) := by
  intro i
  induction i using Nat.strongRecOn with
  | ind i ih =>
    intro hi
    rw [goodL_eq m r hi, goodL_eq l (σ r) (h.lt i hi), h.same i hi, h.pst hi hr]
    have hk' : (ent l (σ r)).kind = 1 := by rw [← h.same r hr]; exact hk
    have e : decide (i = r) = decide (σ i = σ r) := by
      rw [Bool.eq_iff_iff, decide_eq_true_eq, decide_eq_true_eq]
      exact ⟨fun e => by rw [e], fun e => h.inj hi hr e⟩
    have hm : MSub ⟨l, σ r, fun j => goodL l (σ r) j && Go.Proofs.YtgcpoppinnnciaaGreatDoor.past l (σ i) j⟩ ⟨m, r, fun j => goodL m r j && Go.Proofs.YtgcpoppinnnciaaGreatDoor.past m i j⟩ σ := ⟨h, hr, rfl, hk', fun j hj => by
      show (goodL m r j && Go.Proofs.YtgcpoppinnnciaaGreatDoor.past m i j) = (goodL l (σ r) (σ j) && Go.Proofs.YtgcpoppinnnciaaGreatDoor.past l (σ i) (σ j))
      rw [h.pst hi hj]
      cases hp : Go.Proofs.YtgcpoppinnnciaaGreatDoor.past l (σ i) (σ j) with
      | false => simp
      | true => rw [ih j (past_lt m i j (by rw [h.pst hi hj]; exact hp)) hj], fun j hj hq => by
      have hq : (goodL l (σ r) j && Go.Proofs.YtgcpoppinnnciaaGreatDoor.past l (σ i) j) = true := hq
      rw [Bool.and_eq_true] at hq
      exact h.down hi hq.2⟩
    rw [e, hm.member]
end
end Go.Proofs.YtgcpoppinnnciaaGreatDoor
/- The founder's entries hold; who was never added; an entry's past by itself; the members as a list (plain). -/
set_option linter.unusedVariables false
set_option linter.unusedSimpArgs false
namespace Go.Proofs.YtgcpoppinnnciaaGreatDoor
open Go Go.RowKit Go.Proofs.YtgcpoppinnnciaaGreatDoor.Pal

theorem goodL_root {l : List Ent} {r : Nat} (hr : r < l.length) : goodL l r r = true := by
  rw [goodL_eq l r hr]; simp
theorem goodL_create {l : List Ent} {r i : Nat} (hi : i < l.length) (h : goodL l r i = true) (hk : (ent l i).kind = 1) : i = r := by
  rw [goodL_eq l r hi, hk] at h
  simpa using h
theorem founder_holds {s : Ms} (h : s.Ok) {i : Nat} (ha : s.aut i = s.aut s.r) : s.holds i = true := by
  rw [h.holds_eq, Bool.not_eq_true', List.any_eq_false]
  intro k _
  have : s.strikes k i = false := by
    unfold Ms.strikes
    rw [h.lower_rk, ha]
    have : s.rk (s.aut s.r) = 0 := by unfold Ms.rk; rw [if_pos rfl]
    rw [this]
    simp
  rw [this]; simp
theorem member_added {s : Ms} {key : ByteArray} (h : s.member key = true) : key = s.aut s.r ∨ ∃ x, x < s.n ∧ s.inn x = true ∧ s.kind x = 4 ∧ s.body x = key := by
  unfold Ms.member at h
  rw [List.any_eq_true] at h
  obtain ⟨i, hi, h⟩ := h
  have hi : i < s.n := by simpa using hi
  rw [Bool.and_eq_true] at h
  have h := h.1
  unfold Ms.joins at h
  simp only [Bool.and_eq_true, Bool.or_eq_true, decide_eq_true_eq] at h
  rcases h with ⟨h1, ⟨h2, h3⟩ | ⟨h2, h3, _⟩⟩
  · exact .inl (by rw [← h3, h2])
  · exact .inr ⟨i, hi, h1, h2, h3⟩
theorem good_added {l : List Ent} {r i : Nat} (hi : i < l.length) (h : goodL l r i = true) : (ent l i).author = (ent l r).author ∨ ∃ x, x < l.length ∧ goodL l r x = true ∧ (ent l x).kind = 4 ∧ (ent l x).body = (ent l i).author := by
  rw [goodL_eq l r hi, Bool.or_eq_true] at h
  rcases h with h | h
  · rw [decide_eq_true_eq] at h
    exact .inl (by rw [h])
  · rw [Bool.and_eq_true, Bool.and_eq_true] at h
    rcases member_added h.2.2 with e | ⟨x, h1, h2, h3, h4⟩
    · exact .inl e
    · have h2 : (goodL l r x && past l i x) = true := h2
      rw [Bool.and_eq_true] at h2
      exact .inr ⟨x, h1, h2.1, h3, h4⟩
/-! ### The members, as a list -/
def MemL (s : Ms) (L : List ByteArray) : Prop := L.Pairwise (fun a b => s.rk a < s.rk b) ∧ ∀ key, key ∈ L ↔ s.member key = true
theorem sorted_uniq {α : Type} {f : α → Nat} : ∀ {a b : List α}, a.Pairwise (fun x y => f x < f y) → b.Pairwise (fun x y => f x < f y) → (∀ x, x ∈ a ↔ x ∈ b) → a = b
  | [], [], _, _, _ => rfl
  | [], y :: b, _, _, h => by have := (h y).2 (by simp); cases this
  | x :: a, [], _, _, h => by have := (h x).1 (by simp); cases this
  | x :: a, y :: b, ha, hb, h => by
    rw [List.pairwise_cons] at ha hb
    have e : x = y := by
      rcases List.mem_cons.1 ((h x).1 (by simp)) with e | h1
      · exact e
      · rcases List.mem_cons.1 ((h y).2 (by simp)) with e | h2
        · exact e.symm
        · have := ha.1 y h2
          have := hb.1 x h1
          omega
    subst e
    congr 1
    refine sorted_uniq ha.2 hb.2 fun z => ?_
    have hz := h z
    simp only [List.mem_cons] at hz
    constructor
    · intro hza
      rcases hz.1 (.inr hza) with e | h1
      · subst e; have := ha.1 z hza; omega
      · exact h1
    · intro hzb
      rcases hz.2 (.inr hzb) with e | h1
      · subst e; have := hb.1 z hzb; omega
      · exact h1
theorem MemL.uniq {s : Ms} {a b : List ByteArray} (ha : MemL s a) (hb : MemL s b) : a = b := sorted_uniq ha.1 hb.1 fun x => by rw [ha.2, hb.2]
theorem MSub.memL {s t : Ms} {σ : Nat → Nat} (h : MSub s t σ) {L : List ByteArray} (hl : MemL t L) : MemL s L :=
  ⟨hl.1.imp fun {a b} hab => by rw [← h.rk, ← h.rk]; exact hab, fun key => by rw [hl.2, h.member]⟩
/-! ### An entry's past by itself -/
def pastIx (l : List Ent) (k : Nat) (i : Nat) : Bool := past l k i || decide (i = k)
def pastL (l : List Ent) (k n : Nat) : List Nat := (List.range n).filter (pastIx l k)
theorem filter_range_lt {P : Nat → Bool} {k : Nat} : ∀ {n : Nat}, k < n → P k = true → (∀ i, k < i → P i = false) → (List.range n).filter P = (List.range k).filter P ++ [k]
  | 0, h, _, _ => by omega
  | n + 1, h, hk, hlt => by
    rw [List.range_succ, List.filter_append]
    rcases Nat.lt_or_ge k n with h1 | h1
    · rw [filter_range_lt h1 hk hlt]
      simp [hlt n h1]
    · obtain rfl : k = n := by omega
      simp [hk]
theorem pastL_eq {l : List Ent} {k n : Nat} (hk : k < n) : pastL l k n = (List.range k).filter (pastIx l k) ++ [k] :=
  filter_range_lt hk (by simp [pastIx]) fun i hi => by
    unfold pastIx
    have : past l k i = false := by
      cases hp : past l k i with
      | false => rfl
      | true => have := past_lt l k i hp; omega
    rw [this, decide_eq_false (by omega)]; rfl
def subE (l : List Ent) (L : List Nat) : List Ent := L.map (ent l)
theorem subE_ent {l : List Ent} {L : List Nat} {i : Nat} (hi : i < L.length) : ent (subE l L) i = ent l (L.getD i 0) := by
  refine ent_of ?_
  unfold subE
  rw [List.getElem?_map, List.getElem?_eq_getElem hi, List.getD_eq_getElem?_getD, List.getElem?_eq_getElem hi]
  rfl
theorem past_trans {l : List Ent} : ∀ {i j k : Nat}, past l i j = true → past l j k = true → past l i k = true := by
  intro i
  induction i using Nat.strongRecOn with
  | ind i ih =>
    intro j k h1 h2
    rw [past_eq, List.any_eq_true] at h1 ⊢
    obtain ⟨p, hp, h1⟩ := h1
    have hp' : p < i := by simpa using hp
    refine ⟨p, hp, ?_⟩
    simp only [Bool.and_eq_true, Bool.or_eq_true, decide_eq_true_eq] at h1 ⊢
    refine ⟨h1.1, .inr ?_⟩
    rcases h1.2 with rfl | h3
    · exact h2
    · exact ih p hp' h3 h2
theorem par_past {l : List Ent} {i p : Nat} (hp : p < i) (hm : (ent l p).id ∈ (ent l i).ps) : past l i p = true := by
  rw [past_eq, List.any_eq_true]
  refine ⟨p, by simpa using hp, ?_⟩
  unfold parB
  rw [List.any_eq_true.2 ⟨_, hm, decide_eq_true rfl⟩]
  simp
/-- Any rising list of places that holds with each one its past. -/
theorem sub_rising {l : List Ent} (hC : Closed l) {L : List Nat} (hlt : ∀ i ∈ L, i < l.length) (hri : L.Pairwise (· < ·)) (hdn : ∀ i ∈ L, ∀ j, past l i j = true → j ∈ L) : Sub l (subE l L) (fun i => L.getD i 0) := by
  have hlen : (subE l L).length = L.length := by simp [subE]
  have hget : ∀ i, i < L.length → L.getD i 0 ∈ L := fun i hi => by
    rw [List.getD_eq_getElem?_getD, List.getElem?_eq_getElem hi]
    exact List.getElem_mem hi
  have hmono : ∀ i j, i < j → j < L.length → L.getD i 0 < L.getD j 0 := fun i j hij hj => by
    rw [List.getD_eq_getElem?_getD, List.getD_eq_getElem?_getD, List.getElem?_eq_getElem hj, List.getElem?_eq_getElem (show i < L.length by omega)]
    exact List.pairwise_iff_getElem.1 hri i j (by omega) hj hij
  have hsame : ∀ i, i < (subE l L).length → ent (subE l L) i = ent l (L.getD i 0) := fun i hi => subE_ent (by omega)
  have hsub : L.length ≤ l.length := by
    have h1 : L.Nodup := hri.imp fun {a b} h => by omega
    have h2 : ∀ x, x ∈ L → x ∈ List.range l.length := fun x hx => by simpa using hlt x hx
    have h3 := (nodup_perm' h1 (List.Nodup.sublist List.filter_sublist List.nodup_range : ((List.range l.length).filter fun x => decide (x ∈ L)).Nodup) fun x => ⟨fun hx => List.mem_filter.2 ⟨h2 x hx, by simpa using hx⟩, fun hx => by simpa using (List.mem_filter.1 hx).2⟩).length_eq
    have h4 := List.length_filter_le (fun x => decide (x ∈ L)) (List.range l.length)
    rw [List.length_range] at h4
    omega
  refine ⟨hC, ⟨by have := hC.len; omega, fun i hi => ?_, fun i hi => ?_, fun i j hi hj e => ?_, fun i s hi hs => ?_⟩, fun i hi => hlt _ (hget i (by omega)), hsame⟩
  · rw [hsame i hi]; exact hC.lo _ (hlt _ (hget i (by omega)))
  · rw [hsame i hi]; exact hC.hi _ (hlt _ (hget i (by omega)))
  · rw [hsame i hi, hsame j hj] at e
    have := hC.ids _ _ (hlt _ (hget i (by omega))) (hlt _ (hget j (by omega))) e
    rcases Nat.lt_trichotomy i j with h1 | h1 | h1
    · have := hmono i j h1 (by omega); omega
    · exact h1
    · have := hmono j i h1 (by omega); omega
  · rw [hsame i hi] at hs
    have hiL := hget i (by omega)
    obtain ⟨p, hp, hid⟩ := hC.pars _ s (hlt _ hiL) hs
    have hpp := par_past hp (by rw [hid]; exact hs)
    have hpL := hdn _ hiL p hpp
    obtain ⟨q, hq⟩ := List.mem_iff_getElem?.1 hpL
    have hql := (List.getElem?_eq_some_iff.1 hq).1
    have hqd : L.getD q 0 = p := by rw [List.getD_eq_getElem?_getD, hq]; rfl
    refine ⟨q, ?_, by rw [hsame q (by omega), hqd]; exact hid⟩
    rcases Nat.lt_or_ge q i with h1 | h1
    · exact h1
    · rcases Nat.lt_or_ge i q with h2 | h2
      · have := hmono i q h2 hql; omega
      · obtain rfl : i = q := by omega
        omega
theorem sub_past {l : List Ent} (hC : Closed l) {k : Nat} (hk : k < l.length) : Sub l (subE l (pastL l k l.length)) (fun i => (pastL l k l.length).getD i 0) := by
  refine sub_rising hC (fun i hi => ?_) ?_ (fun i hi j hj => ?_)
  · have := (List.mem_filter.1 hi).1; simpa using this
  · exact List.Pairwise.sublist List.filter_sublist List.pairwise_lt_range
  · have hi2 := (List.mem_filter.1 hi).2
    have hi1 : i < l.length := by have := (List.mem_filter.1 hi).1; simpa using this
    have := past_lt l i j hj
    refine List.mem_filter.2 ⟨by simp; omega, ?_⟩
    unfold pastIx at hi2 ⊢
    rw [Bool.or_eq_true, decide_eq_true_eq] at hi2 ⊢
    rcases hi2 with h | rfl
    · exact .inl (past_trans h hj)
    · exact .inl hj
end Go.Proofs.YtgcpoppinnnciaaGreatDoor
/- palaverref15: Closed, Root, count. -/
set_option linter.unusedVariables false
set_option linter.unusedSimpArgs false
namespace Go.Proofs.YtgcpoppinnnciaaGreatDoor
open Go Go.RowKit Go.Proofs.YtgcpoppinnnciaaGreatDoor.Pal

/-- A quiet call: it hands v back and draws at most. -/
def Quiet (f : FuncId) (args : Array Value) (v : Value) (w : World) : Prop := ∀ m, Calls Tryz.prog f args (w.drewN m) fun e w'' => e = .returned v ∧ ∃ k, w'' = w.drewN k
theorem closedAt_eq (pre : List Ent) (e : Ent) : closedAt pre e = true ↔ 1 ≤ e.id.size ∧ e.id.size ≤ 64 ∧ findN pre e.id = none ∧ ∀ s ∈ e.ps, (findN pre s).isSome = true := by
  simp only [closedAt, Bool.and_eq_true, decide_eq_true_eq, Option.isNone_iff_eq_none, List.all_eq_true]
end Go.Proofs.YtgcpoppinnnciaaGreatDoor
/- palaverref15: Root, count; rows of bools that are made and written. -/
set_option linter.unusedVariables false
set_option linter.unusedSimpArgs false
namespace Go.Proofs.YtgcpoppinnnciaaGreatDoor
open Go Go.RowKit Go.Proofs.YtgcpoppinnnciaaGreatDoor.Pal

/-! ### Rows of bools -/
def bvec (n : Nat) (f : Nat → Bool) : List Value := (List.range n).map fun j => .bool (f j)
theorem bvec_len (n : Nat) (f : Nat → Bool) : (bvec n f).length = n := by simp [bvec]
theorem bvec_get (n : Nat) (f : Nat → Bool) {j : Nat} (hj : j < n) : (bvec n f)[j]? = some (.bool (f j)) := by simp [bvec, hj]
theorem bvec_set (n : Nat) (f : Nat → Bool) (j : Nat) (b : Bool) : (bvec n f).set j (.bool b) = bvec n (fun i => if i = j then b else f i) := by
  apply List.ext_getElem?
  intro i
  rw [List.getElem?_set]
  by_cases hi : i < n
  · rw [bvec_get _ _ hi]
    by_cases hij : j = i
    · subst hij; rw [if_pos rfl, bvec_get _ _ hi]; simp [bvec_len, hi]
    · rw [if_neg hij, bvec_get _ _ hi, if_neg (fun e => hij e.symm)]
  · rw [List.getElem?_eq_none (by rw [bvec_len]; omega), List.getElem?_eq_none (by rw [bvec_len]; omega)]
    split
    · split
      · rename_i h1 h2; rw [bvec_len] at h2; omega
      · rfl
    · rfl
theorem bvec_congr {n : Nat} {f g : Nat → Bool} (h : ∀ i, i < n → f i = g i) : bvec n f = bvec n g := by
  unfold bvec
  apply List.map_congr_left
  intro i hi
  rw [h i (by simpa using hi)]
/-- Block g is a row of n bools. -/
def Brow (w : World) (g n : Nat) (f : Nat → Bool) : Prop := w.heap[g]? = some (.cells (bvec n f).toArray 4 (0, 0))
section
variable {w w1 : World} {g n : Nat} {f : Nat → Bool}
theorem Brow.at (h : Brow w g n f) {j : Nat} (hj : j < n) : w.cell? ⟨g, j, none⟩ = some (.bool (f j)) := blk_cell h (by rw [List.getElem?_toArray]; exact bvec_get _ _ hj)
theorem Brow.free (h : Brow w g n f) (j : Nat) : w.frozen? ⟨g, j, none⟩ = false := blk_free h j
theorem Brow.set (h : Brow w g n f) (j : Nat) (b : Bool) : Brow (w.setCell ⟨g, j, none⟩ (.bool b)) g n (fun i => if i = j then b else f i) := by
  unfold Brow
  rw [blk_set h, List.setIfInBounds_toArray, bvec_set]
theorem Brow.congr {f' : Nat → Bool} (h : Brow w g n f) (hf : ∀ i, i < n → f i = f' i) : Brow w g n f' := by
  unfold Brow at *
  rw [h, bvec_congr hf]
theorem Brow.unch {X : Nat → Prop} (h : Brow w g n f) (hu : Unch X w w1) (hX : ¬ X g) : Brow w1 g n f := hu.heap h hX
theorem Brow.rds (h : Brow w g n f) (hn : n ≤ maxLen) : RdS w 1 BoolR (some ⟨g, 0, none⟩) n ((List.range n).map f) :=
  ⟨by simp, hn, fun _ => ⟨g, 0, rfl, lt_of_heap h, fun i x hx => by
    have hi : i < n := by have := (List.getElem?_eq_some_iff.1 hx).1; simpa using this
    have hx' : x = f i := by simp [hi] at hx; exact hx.symm
    refine ⟨[.bool x], rfl, rfl, fun j u hj => ?_⟩
    have : j = 0 := by have := (List.getElem?_eq_some_iff.1 hj).1; simp at this; omega
    subst this
    have hu : u = .bool x := by simpa using hj.symm
    rw [hu, hx', Nat.mul_one, Nat.zero_add, Nat.add_zero]
    exact h.at hi⟩⟩
theorem Brow.made (w : World) (n : Nat) : Brow (w.alloc (.cells (madeCells #[.bool false] n) 4)) w.heap.size n (fun _ => false) := by
  unfold Brow
  rw [madeCells_one]
  rw [blk_new]
  congr 2
  apply Array.toList_inj.1
  simp only [Array.toList_replicate, List.toList_toArray, bvec]
  rw [List.map_const']
  simp
end
theorem info_bool : (Tryz.prog.info? 4).map (fun i => (i.zero, i.size, i.bytes)) = some (some (.bool false), 1, 1) := by kernel_rfl
/-- make([]bool, n). -/
theorem run_make_bool (n : Nat) (hn : n ≤ 1048576) (W : World) : (Instr.makeSlice 220 (.int .i64 (n : Int)) (.int .i64 (n : Int))).run Tryz.prog W = .ok (.slice (some ⟨W.heap.size, 0, none⟩) n n) (W.alloc (.cells (madeCells #[.bool false] n) 4)) :=
  run_make_row' (P := Tryz.prog) 220 4 (.bool false) 1 Tryz.underlying220 info_bool rfl .i64 .i64 n (by omega) (by omega) W

/-! ### Root -/
def rootN (room : ByteArray) (l : List Ent) : Option Nat := match findN l room with | some i => if (ent l i).kind = 1 then some i else none | none => none
/-! ### count -/
theorem countB_take {bs : List Bool} {k : Nat} {b : Bool} (h : bs[k]? = some b) : countB (bs.take (k + 1)) = countB (bs.take k) + if b then 1 else 0 := by
  have hk := (List.getElem?_eq_some_iff.1 h).1
  rw [List.take_succ_eq_append_getElem hk, (List.getElem?_eq_some_iff.1 h).2]
  unfold countB
  rw [List.filter_append, List.length_append]
  cases b <;> simp
theorem countB_le (bs : List Bool) : countB bs ≤ bs.length := List.length_filter_le _ _
end Go.Proofs.YtgcpoppinnnciaaGreatDoor
/- palaverref15: Pasts. -/
set_option linter.unusedVariables false
set_option linter.unusedSimpArgs false
namespace Go.Proofs.YtgcpoppinnnciaaGreatDoor
open Go Go.RowKit Go.Proofs.YtgcpoppinnnciaaGreatDoor.Pal

def RowR (w : World) (row : List Bool) (c : List Value) : Prop := ∃ A cap, c = [.slice A row.length cap] ∧ row.length ≤ cap ∧ RdS w 1 BoolR A row.length row
theorem RowR.fresh {w w1 : World} {row : List Bool} {c : List Value} (h : RowR w row c) (hu : Unch none_ w w1) : RowR w1 row c := by
  obtain ⟨A, cap, h1, h2, h3⟩ := h
  exact ⟨A, cap, h1, h2, RdS.fresh h3 hu⟩
theorem RowR.at {w : World} {row : List Bool} {v : Value} (h : RowR w row [v]) : ∃ A cap, v = .slice A row.length cap ∧ row.length ≤ cap ∧ RdS w 1 BoolR A row.length row := by
  obtain ⟨A, cap, h1, h2, h3⟩ := h
  exact ⟨A, cap, by simpa using h1, h2, h3⟩
/-- A slice of rows of bools. -/
def PastsOk (w : World) (A : Option Addr) (n : Nat) (rows : List (List Bool)) : Prop := RdS w 1 (RowR w) A n rows
theorem PastsOk.fresh {w w1 : World} {A : Option Addr} {n : Nat} {rows : List (List Bool)} (h : PastsOk w A n rows) (hu : Unch none_ w w1) : PastsOk w1 A n rows :=
  RdS.unch (R' := RowR w1) h hu (fun _ _ h => h) (fun _ _ hr => RowR.fresh hr hu)
/-- A row as it was appended to, read. -/
theorem Row.rds {α : Type} {w : World} {e : TypeId} {n : Nat} {v : Value} {xs : List Value} {R : α → List Value → Prop} (h : Row w e 1 v n xs) (ys : List α) (hl : ys.length = n) (hR : ∀ (i : Nat) (x : Value) (y : α), xs[i]? = some x → ys[i]? = some y → R y [x]) :
    ∃ A c, v = .slice A n c ∧ n ≤ c ∧ RdS w 1 R A n ys := by
  obtain ⟨A, c, rfl, hnc⟩ := h.slice
  refine ⟨A, c, rfl, hnc, hl, h.max, fun hn => ?_⟩
  obtain ⟨g, o, cap, cur, hv, hg, _, _, _⟩ := h.form hn
  injection hv with h1 _ _
  subst h1
  refine ⟨g, o, rfl, lt_of_heap hg, fun i y hy => ?_⟩
  have hi : i < n := by rw [← hl]; exact (List.getElem?_eq_some_iff.1 hy).1
  obtain ⟨x, hx⟩ := get_some (l := xs) (n := n) (by have := h.1; omega) hi
  refine ⟨[x], rfl, hR i x y hx hy, fun j u hj => ?_⟩
  have : j = 0 := by have := (List.getElem?_eq_some_iff.1 hj).1; simp at this; omega
  subst this
  have hu : u = x := by simpa using hj.symm
  rw [hu, Nat.mul_one, Nat.add_zero]
  exact h.at rfl hx
theorem info_bools : (Tryz.prog.info? 220).map (fun i => (i.zero, i.size, i.bytes)) = some (some (.slice none 0 0), 1, 24) := by kernel_rfl
def pastsL (l : List Ent) (k : Nat) : List (List Bool) := (List.range k).map (prow l)
theorem prow_len (l : List Ent) (i : Nat) : (prow l i).length = l.length := by simp [prow]
theorem prow_get (l : List Ent) (i : Nat) {j : Nat} (hj : j < l.length) : (prow l i)[j]? = some (past l i j) := by simp [prow, hj]
theorem foundPast_take {l : List Ent} {i : Nat} {ss : List ByteArray} {j : Nat} {s : ByteArray} {p : Nat} (hs : ss[j]? = some s) (hf : findN l s = some p) (q : Nat) :
    foundPast l i (ss.take (j + 1)) q = ((foundPast l i (ss.take j) q || decide (p = q)) || past l p q) := by
  have hj := (List.getElem?_eq_some_iff.1 hs).1
  unfold foundPast
  rw [List.take_succ_eq_append_getElem hj, (List.getElem?_eq_some_iff.1 hs).2, List.any_append]
  simp [hf, Bool.or_assoc]
theorem mix {a r : Nat → Bool} {q : Nat} {b : Bool} (h : a q = true) (hb : b = true) (x n : Nat) (_ : x < n) : (fun i => if i = q then b else (fun x => if x < q then (a x || r x) else a x) i) x = if x < q + 1 then (a x || r x) else a x := by
  simp only
  by_cases hx : x = q
  · subst hx; rw [if_pos rfl, if_pos (by omega), h, hb]; rfl
  · rw [if_neg hx]
    by_cases h1 : x < q
    · rw [if_pos h1, if_pos (by omega)]
    · rw [if_neg h1, if_neg (by omega)]
theorem mix2 {a r : Nat → Bool} {q : Nat} (h : a q = false) (x n : Nat) (_ : x < n) : (fun i => if i = q then r q else (fun x => if x < q then (a x || r x) else a x) i) x = if x < q + 1 then (a x || r x) else a x := by
  simp only
  by_cases hx : x = q
  · subst hx; rw [if_pos rfl, if_pos (by omega), h, Bool.false_or]
  · rw [if_neg hx]
    by_cases h1 : x < q
    · rw [if_pos h1, if_pos (by omega)]
    · rw [if_neg h1, if_neg (by omega)]
/-- What Pasts has made behind k rounds. -/
def PMid (w wr : World) (l : List Ent) (n k : Nat) (v : Value) : Prop :=
  Unch none_ w wr ∧ (∀ b, v.ownBlock = some b → w.heap.size ≤ b) ∧ ∃ vs, Row wr 220 1 v k vs ∧ ∀ (i : Nat) (u : Value), vs[i]? = some u → ∃ g, u = .slice (some ⟨g, 0, none⟩) n n ∧ Brow wr g n (past l i) ∧ w.heap.size ≤ g
/-- The pasts, with where each row lies. -/
def PastsB (w : World) (A : Option Addr) (c n : Nat) (l : List Ent) (R : Nat → Prop) : Prop := ∃ vs, Row w 220 1 (.slice A n c) n vs ∧ ∀ (i : Nat) (u : Value), vs[i]? = some u → ∃ g, u = .slice (some ⟨g, 0, none⟩) n n ∧ Brow w g n (past l i) ∧ R g
theorem PastsB.ok {w : World} {A : Option Addr} {c n : Nat} {l : List Ent} {R : Nat → Prop} (h : PastsB w A c n l R) (hl : l.length = n) (hn : n ≤ maxLen) : PastsOk w A n (pastsL l n) := by
  obtain ⟨vs, hrow, hvs⟩ := h
  obtain ⟨A', c', h1, h2, h3⟩ := Row.rds (R := RowR w) hrow (pastsL l n) (by simp [pastsL]) (fun i x y hx hy => by
    have hi : i < n := by have := (List.getElem?_eq_some_iff.1 hy).1; simpa [pastsL] using this
    have : y = prow l i := by simp [pastsL, hi] at hy; exact hy.symm
    rw [this]
    obtain ⟨g, rfl, hg, _⟩ := hvs i x hx
    exact ⟨_, _, by rw [prow_len, hl], by rw [prow_len, hl]; exact Nat.le_refl _, by rw [prow_len, hl]; have := hg.rds hn; unfold prow; rw [hl]; exact this⟩)
  injection h1 with h1 _ h4
  subst h1
  exact h3
theorem PastsB.fresh {w w1 : World} {A : Option Addr} {c n : Nat} {l : List Ent} {R : Nat → Prop} (h : PastsB w A c n l R) (hu : Unch none_ w w1) : PastsB w1 A c n l R := by
  obtain ⟨vs, hrow, hvs⟩ := h
  refine ⟨vs, hrow.unch hu (fun _ _ h => h), fun i u hi => ?_⟩
  obtain ⟨g, h1, h2, h3⟩ := hvs i u hi
  exact ⟨g, h1, h2.unch hu (fun h => h), h3⟩
theorem PastsB.mono {w : World} {A : Option Addr} {c n : Nat} {l : List Ent} {R R' : Nat → Prop} (h : PastsB w A c n l R) (hR : ∀ g, g < w.heap.size → R g → R' g) : PastsB w A c n l R' := by
  obtain ⟨vs, hrow, hvs⟩ := h
  refine ⟨vs, hrow, fun i u hi => ?_⟩
  obtain ⟨g, h1, h2, h3⟩ := hvs i u hi
  exact ⟨g, h1, h2, hR g (lt_of_heap h2) h3⟩
/-- A block is written that is none of its own: not the slice's, and no row's. -/
theorem PastsB.other {w w1 : World} {A : Option Addr} {c n : Nat} {l : List Ent} {R : Nat → Prop} (h : PastsB w A c n l R) {b : Nat} {cs : Array Value} {e : TypeId} {fr : Nat × Nat} (hb : w.heap[b]? = some (.cells cs e fr)) (h1 : e ≠ 220) (h2 : e = 4 → ∀ g, R g → g ≠ b) (hu : Unch (fun k => k = b) w w1) : PastsB w1 A c n l R := by
  obtain ⟨vs, hrow, hvs⟩ := h
  refine ⟨vs, hrow.unch hu (fun k hk e' => ?_), fun i u hi => ?_⟩
  · obtain ⟨cur, hc⟩ := hrow.blk hk
    rw [e', hb] at hc
    injection hc with hc
    injection hc with _ hc
    exact h1 hc
  · obtain ⟨g, e1, e2, e3⟩ := hvs i u hi
    refine ⟨g, e1, e2.unch hu (fun e' => ?_), e3⟩
    have e4 := e2
    unfold Brow at e4
    rw [e', hb] at e4
    injection e4 with e4
    injection e4 with _ e4
    exact h2 e4 g e3 e'
theorem PMid.add {w w0 w2 w5 : World} {l : List Ent} {n k g : Nat} {v v' : Value} {vs : List Value} (hu : Unch none_ w w0) (hown : ∀ b, v.ownBlock = some b → w.heap.size ≤ b) (hrow : Row w0 220 1 v k vs) (hvs : ∀ (i : Nat) (u : Value), vs[i]? = some u → ∃ g, u = .slice (some ⟨g, 0, none⟩) n n ∧ Brow w0 g n (past l i) ∧ w.heap.size ≤ g) (hgw : w.heap.size ≤ g)
    (hu2 : Unch none_ w0 w2) (hb : Brow w2 g n (past l k)) (hr5 : Row w5 220 1 v' (k + 1) (vs ++ [.slice (some ⟨g, 0, none⟩) n n])) (hu5 : Unch (fun b => v.ownBlock = some b) w2 w5) (hat : v'.ownBlock = v.ownBlock ∨ ∃ b, v'.ownBlock = some b ∧ w2.heap.size ≤ b) : PMid w w5 l n (k + 1) v' := by
  have hlen : vs.length = k := by have := hrow.1; omega
  have hno : ∀ {g' : Nat} {f : Nat → Bool}, Brow w2 g' n f → ¬ v.ownBlock = some g' := fun hb' e => by
    obtain ⟨cur, hc⟩ := (hrow.unch hu2 (fun _ _ h => h)).blk e
    unfold Brow at hb'
    rw [hc] at hb'
    injection hb' with h1
    injection h1 with _ h2
    exact absurd h2 (by decide)
  refine ⟨(hu.trans hu2).step hu5 (fun i hi e => by have := hown i e; omega), fun b hb' => ?_, _, hr5, fun i u hi => ?_⟩
  · rcases hat with h1 | ⟨b', h1, h2⟩
    · exact hown b (h1 ▸ hb')
    · rw [h1] at hb'; injection hb' with hb'
      have := (hu.trans hu2).size; omega
  · rcases Nat.lt_or_ge i k with h1 | h1
    · rw [List.getElem?_append_left (by omega)] at hi
      obtain ⟨g', rfl, hb', hg'⟩ := hvs i u hi
      have hb2 := hb'.unch hu2 (fun h => h)
      exact ⟨g', rfl, hb2.unch hu5 (hno hb2), hg'⟩
    · rw [List.getElem?_append_right (by omega)] at hi
      have hik : i = k := by have := (List.getElem?_eq_some_iff.1 hi).1; simp at this; omega
      subst hik
      rw [hlen, Nat.sub_self] at hi
      exact ⟨g, by simpa using hi.symm, hb.unch hu5 (hno hb), hgw⟩
end Go.Proofs.YtgcpoppinnnciaaGreatDoor
/- palaverref15: a Set as it lies, first, Lower. -/
set_option linter.unusedVariables false
set_option linter.unusedSimpArgs false
namespace Go.Proofs.YtgcpoppinnnciaaGreatDoor
open Go Go.RowKit Go.Proofs.YtgcpoppinnnciaaGreatDoor.Pal

/-- Where a Set's parts lie. -/
structure Pl where
  n : Nat
  AL : Option Addr
  cL : Nat
  AP : Option Addr
  cP : Nat
  AI : Option Addr
  cI : Nat
def setC (p : Pl) (s : Ms) : Array Value := #[.slice p.AL p.n p.cL, .slice p.AP p.n p.cP, .int .i64 (s.r : Int), .slice p.AI p.n p.cI]
def setV (p : Pl) (s : Ms) : Value := .agg (setC p s)
structure SetOk (w : World) (p : Pl) (s : Ms) : Prop where
  ents : Ents w p.AL p.n s.l
  cL : p.n ≤ p.cL
  past : PastsOk w p.AP p.n (pastsL s.l p.n)
  inn : RdS w 1 BoolR p.AI p.n ((List.range p.n).map s.inn)
  ok : s.Ok
section
variable {w w1 : World} {p : Pl} {s : Ms}
theorem SetOk.fresh (h : SetOk w p s) (hu : Unch none_ w w1) : SetOk w1 p s := ⟨h.ents.fresh hu, h.cL, h.past.fresh hu, RdS.fresh h.inn hu, h.ok⟩
theorem SetOk.n (h : SetOk w p s) : s.n = p.n := h.ents.len
theorem SetOk.r (h : SetOk w p s) : s.r < p.n := by have := h.ok.r; rw [h.n] at this; exact this
theorem SetOk.n3 (h : SetOk w p s) : p.n ≤ 300 := by have := h.ok.cl.len; have := h.ents.len; omega
theorem SetOk.get (h : SetOk w p s) {k : Nat} (hk : k < p.n) : s.l[k]? = some (ent s.l k) := ent_get (by rw [h.ents.len]; exact hk)
theorem SetOk.inAt (h : SetOk w p s) {k : Nat} (hk : k < p.n) : ∃ b o, p.AI = some ⟨b, o, none⟩ ∧ w.cell? ⟨b, o + k, none⟩ = some (.bool (s.inn k)) := by
  obtain ⟨b, o, h1, _, h2⟩ := RdS.bool h.inn (k := k) (s := s.inn k) (by simp [hk])
  exact ⟨b, o, h1, h2⟩
/-- Row k of the pasts. -/
theorem SetOk.row (h : SetOk w p s) {k : Nat} (hk : k < p.n) : ∃ b o A c, p.AP = some ⟨b, o, none⟩ ∧ w.cell? ⟨b, o + k, none⟩ = some (.slice A p.n c) ∧ p.n ≤ c ∧ RdS w 1 BoolR A p.n (prow s.l k) := by
  obtain ⟨b, o, c, h1, _, _, ⟨A, cap, rfl, h3, h4⟩, hcell⟩ := RdS.at h.past (i := k) (x := prow s.l k) (by simp [pastsL, hk])
  have := hcell 0 _ rfl
  rw [Nat.mul_one, Nat.add_zero] at this
  rw [prow_len, h.ents.len] at this h3 h4
  exact ⟨b, o, A, cap, h1, this, h3, h4⟩
theorem SetOk.pastAt (h : SetOk w p s) {A : Option Addr} {i : Nat} (hr : RdS w 1 BoolR A p.n (prow s.l i)) {k : Nat} (hk : k < p.n) : ∃ b o, A = some ⟨b, o, none⟩ ∧ w.cell? ⟨b, o + k, none⟩ = some (.bool (Go.Proofs.YtgcpoppinnnciaaGreatDoor.past s.l i k)) := by
  obtain ⟨b, o, h1, _, h2⟩ := RdS.bool hr (k := k) (prow_get s.l i (by rw [h.ents.len]; exact hk))
  exact ⟨b, o, h1, h2⟩
end
theorem str_bne {s t : ByteArray} (h : s ≠ t) : (s.toList != t.toList) = true := by rw [bne, str_ne h]; rfl
theorem int_bne {a b : Int} (h : a ≠ b) : (a != b) = true := by rw [bne, beq_eq_false_iff_ne.2 h]; rfl
theorem optI_none : optI none = -1 := rfl
theorem optI_some (i : Nat) : optI (some i) = (i : Int) := rfl
end Go.Proofs.YtgcpoppinnnciaaGreatDoor
/- palaverref15: Lower. -/
set_option linter.unusedVariables false
set_option linter.unusedSimpArgs false
namespace Go.Proofs.YtgcpoppinnnciaaGreatDoor
open Go Go.RowKit Go.Proofs.YtgcpoppinnnciaaGreatDoor.Pal

theorem Ms.Ok.first_lt {s : Ms} (h : s.Ok) {key : ByteArray} {x : Nat} (hx : s.first key = some x) : x < s.n := by
  unfold Ms.first at hx
  split at hx
  · have := h.r; obtain rfl := Option.some.inj hx; exact this
  · exact (Ms.firstU_some hx).1
theorem nat_ne {a b : Nat} (h : a ≠ b) : ((a : Int) == (b : Int)) = false ∧ (a == b) = false ∧ ((a : Int) != (b : Int)) = true ∧ (a != b) = true := by
  have h1 : (a : Int) ≠ (b : Int) := by omega
  exact ⟨by simpa using h1, by simpa using h, int_bne h1, by simpa using h⟩
/-- What Lower says of the places of two firsts. -/
def lowerOf (s : Ms) : Option Nat → Option Nat → Bool
  | none, none => false
  | some _, none => true
  | none, some _ => false
  | some x, some y => if x = y then false else if x = s.r ∨ y = s.r then decide (x = s.r) else lessE s.l x y
theorem lower_of (s : Ms) (a b : ByteArray) : s.lower a b = lowerOf s (s.first a) (s.first b) := rfl
end Go.Proofs.YtgcpoppinnnciaaGreatDoor
/- palaverref15: Holds, by its author's rank. -/
set_option linter.unusedVariables false
set_option linter.unusedSimpArgs false
namespace Go.Proofs.YtgcpoppinnnciaaGreatDoor
open Go Go.RowKit Go.Proofs.YtgcpoppinnnciaaGreatDoor.Pal

/-- An entry, loaded and kept. -/
theorem SetOk.entry {w : World} {p : Pl} {s : Ms} (h : SetOk w p s) {k : Nat} (hk : k < p.n) : ∃ b o A c, p.AL = some ⟨b, o, none⟩ ∧ (ent s.l k).pv = .slice A (ent s.l k).ps.length c ∧
    w.cell? ⟨b, o + k * 5, none⟩ = some (.string (ent s.l k).id) ∧ w.cell? ⟨b, o + k * 5 + 1, none⟩ = some (.int .i64 (s.kind k)) ∧ w.cell? ⟨b, o + k * 5 + 2, none⟩ = some (.string (s.aut k)) ∧
    w.cell? ⟨b, o + k * 5 + 3, none⟩ = some (.slice A (ent s.l k).ps.length c) ∧ w.cell? ⟨b, o + k * 5 + 4, none⟩ = some (.string (s.body k)) := by
  obtain ⟨b, o, h1, _, x0, x1, x2, x3, x4⟩ := h.ents.at (h.get hk)
  obtain ⟨A, c, hpv, _⟩ := (h.ents.ok _ (List.mem_of_getElem? (h.get hk))).ps
  rw [hpv] at x3
  exact ⟨b, o, A, c, h1, hpv, x0, x1, x2, x3, x4⟩
end Go.Proofs.YtgcpoppinnnciaaGreatDoor
/- palaverref15: holding, member, Member, Holding. -/
set_option linter.unusedVariables false
set_option linter.unusedSimpArgs false
namespace Go.Proofs.YtgcpoppinnnciaaGreatDoor
open Go Go.RowKit Go.Proofs.YtgcpoppinnnciaaGreatDoor.Pal

/-- A row of bools was made and is handed back. -/
def MadeB (w : World) (n : Nat) (f : Nat → Bool) (e : Ending) (w' : World) : Prop := ∃ g, e = .returned (.slice (some ⟨g, 0, none⟩) n n) ∧ Brow w' g n f ∧ w.heap.size ≤ g ∧ Unch none_ w w'
end Go.Proofs.YtgcpoppinnnciaaGreatDoor
/- palaverref15: member, Member, Holding. -/
set_option linter.unusedVariables false
set_option linter.unusedSimpArgs false
namespace Go.Proofs.YtgcpoppinnnciaaGreatDoor
open Go Go.RowKit Go.Proofs.YtgcpoppinnnciaaGreatDoor.Pal

theorem any_succ (f : Nat → Bool) (k : Nat) : (List.range (k + 1)).any f = ((List.range k).any f || f k) := by
  rw [List.range_succ, List.any_append]; simp
def foundsB (s : Ms) (key : ByteArray) (i : Nat) : Bool := decide (i = s.r) && decide (s.aut i = key)
end Go.Proofs.YtgcpoppinnnciaaGreatDoor
/- palaverref15: Member, Holding. -/
set_option linter.unusedVariables false
set_option linter.unusedSimpArgs false
namespace Go.Proofs.YtgcpoppinnnciaaGreatDoor
open Go Go.RowKit Go.Proofs.YtgcpoppinnnciaaGreatDoor.Pal Go.Proofs.YtgcpoppinnnciaaGreatDoor.Plan

end Go.Proofs.YtgcpoppinnnciaaGreatDoor
