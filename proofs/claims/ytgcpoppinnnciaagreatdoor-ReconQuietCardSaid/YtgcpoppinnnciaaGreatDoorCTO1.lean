/-
  palaverref12, Order: the plain part; the same entries told in another order.
  palaverref12, Order: the walk.
  slices.Values, Collect: the range over a slice's iterator.
  What Sort and Compact leave of strings: sortS (plain).
  dag.Order: the plain part: what is ready, by how many parents are left; rows that lie apart.
-/
import Derived.Test.YtgcpoppinnnciaaGreatDoorCKM2
import Derived.RangeFuncBox
import Derived.Lib.SlicesCompact
import Derived.Sort.EncStr
import Derived.Sort.Walk0
/- palaverref12, Order: the plain part; the same entries told in another order. -/
set_option linter.unusedVariables false
set_option linter.unusedSimpArgs false
namespace Go.Proofs.YtgcpoppinnnciaaGreatDoor
open Go Go.RowKit Go.Proofs.YtgcpoppinnnciaaGreatDoor.Pal Go.Proofs.YtgcpoppinnnciaaGreatDoor.Plan

structure OrdP (es : List Ent) (ys : List ByteArray) : Prop where
  nd : ys.Nodup
  sub : ∀ s ∈ ys, ∃ i, i < es.length ∧ (ent es i).id = s
  par : ∀ (j : Nat) (s : ByteArray), ys[j]? = some s → ∀ i, i < es.length → (ent es i).id = s → ∀ p ∈ (ent es i).ps, p ∈ ys.take j
def readyB (es : List Ent) (ys : List ByteArray) (j : Nat) : Bool := !hasB ys (ent es j).id && (ent es j).ps.all (hasB ys)
theorem OrdP.start (es : List Ent) : OrdP es [] := ⟨List.nodup_nil, (fun s h => by cases h), fun j s h => by cases h⟩
theorem readyB_iff {es : List Ent} {ys : List ByteArray} {j : Nat} : readyB es ys j = true ↔ (ent es j).id ∉ ys ∧ ∀ p ∈ (ent es j).ps, p ∈ ys := by
  unfold readyB
  rw [Bool.and_eq_true, Bool.not_eq_true', List.all_eq_true]
  constructor
  · rintro ⟨h1, h2⟩
    exact ⟨(fun h => by rw [hasB_iff.2 h] at h1; cases h1), fun p hp => hasB_iff.1 (h2 p hp)⟩
  · rintro ⟨h1, h2⟩
    refine ⟨?_, fun p hp => hasB_iff.2 (h2 p hp)⟩
    cases h : hasB ys (ent es j).id with
    | false => rfl
    | true => exact absurd (hasB_iff.1 h) h1
theorem OrdP.put {es : List Ent} (hC : Closed es) {ys : List ByteArray} (h : OrdP es ys) {j : Nat} (hj : j < es.length) (hr : readyB es ys j = true) : OrdP es (ys ++ [(ent es j).id]) := by
  obtain ⟨h1, h2⟩ := readyB_iff.1 hr
  refine ⟨?_, fun s hs => ?_, fun q s hq i hi hid p hp => ?_⟩
  · rw [List.nodup_append]
    refine ⟨h.nd, by simp, fun a ha b hb => ?_⟩
    rw [List.mem_singleton.1 hb]
    exact fun e => h1 (e ▸ ha)
  · rcases List.mem_append.1 hs with hs | hs
    · exact h.sub s hs
    · exact ⟨j, hj, (List.mem_singleton.1 hs).symm⟩
  · rcases Nat.lt_or_ge q ys.length with hlt | hge
    · rw [List.getElem?_append_left hlt] at hq
      rw [List.take_append_of_le_length (by omega)]
      exact h.par q s hq i hi hid p hp
    · have hql : q < (ys ++ [(ent es j).id]).length := (List.getElem?_eq_some_iff.1 hq).1
      rw [List.length_append, List.length_singleton] at hql
      obtain rfl : q = ys.length := by omega
      rw [List.getElem?_append_right (Nat.le_refl _), Nat.sub_self] at hq
      have hs : (ent es j).id = s := by simpa using hq
      obtain rfl := hC.ids i j hi hj (by rw [hid, hs])
      rw [List.take_append_of_le_length (Nat.le_refl _), List.take_length]
      exact h2 p hp
theorem ids_nodup {es : List Ent} (hC : Closed es) : ((List.range es.length).map fun i => (ent es i).id).Nodup := by
  unfold List.Nodup
  rw [List.pairwise_map]
  refine List.Pairwise.imp_of_mem ?_ List.nodup_range
  intro a b ha hb hne e
  exact hne (hC.ids a b (by simpa using ha) (by simpa using hb) e)
theorem sub_len {α : Type} {a b : List α} (ha : a.Nodup) (hb : b.Nodup) (h : ∀ x ∈ a, x ∈ b) : a.length ≤ b.length := by
  classical
  have hp := nodup_perm' ha (List.Nodup.sublist List.filter_sublist hb : (b.filter fun x => decide (x ∈ a)).Nodup) fun x => ⟨fun hx => List.mem_filter.2 ⟨h x hx, by simpa using hx⟩, fun hx => by simpa using (List.mem_filter.1 hx).2⟩
  have := hp.length_eq
  have := List.length_filter_le (fun x => decide (x ∈ a)) b
  omega
theorem sub_full {α : Type} {a b : List α} (ha : a.Nodup) (hb : b.Nodup) (h : ∀ x ∈ a, x ∈ b) (hl : b.length ≤ a.length) : ∀ x ∈ b, x ∈ a := by
  classical
  intro x hx
  apply Classical.byContradiction
  intro hn
  have := sub_len (a := x :: a) (List.nodup_cons.2 ⟨hn, ha⟩) hb (fun y hy => by
    rcases List.mem_cons.1 hy with rfl | hy
    · exact hx
    · exact h y hy)
  rw [List.length_cons] at this
  omega
/-- As long as not all are told one is ready. -/
theorem OrdP.go {es : List Ent} (hC : Closed es) {ys : List ByteArray} (h : OrdP es ys) (hl : ys.length < es.length) : ∃ j, j < es.length ∧ readyB es ys j = true := by
  have hex : ∃ j, j < es.length ∧ (ent es j).id ∉ ys := by
    apply Classical.byContradiction
    intro hn
    have := sub_len (ids_nodup hC) h.nd (fun x hx => by
      obtain ⟨i, hi, rfl⟩ := List.mem_map.1 hx
      apply Classical.byContradiction
      intro h2
      exact hn ⟨i, by simpa using hi, h2⟩)
    simp at this
    omega
  obtain ⟨j0, hj0, hn0⟩ := hex
  have hleast : ∀ k, k < es.length → (ent es k).id ∉ ys → ∃ j, j < es.length ∧ (ent es j).id ∉ ys ∧ ∀ i, i < j → (ent es i).id ∈ ys := by
    intro k
    induction k using Nat.strongRecOn with
    | ind k ih =>
      intro hk hn
      by_cases hall : ∀ i, i < k → (ent es i).id ∈ ys
      · exact ⟨k, hk, hn, hall⟩
      · have : ∃ i, i < k ∧ (ent es i).id ∉ ys := by
          apply Classical.byContradiction
          intro h2
          exact hall fun i hi => by
            apply Classical.byContradiction
            intro h3
            exact h2 ⟨i, hi, h3⟩
        obtain ⟨i, hi, hni⟩ := this
        exact ih i hi (by omega) hni
  obtain ⟨j, hj, hnj, hbl⟩ := hleast j0 hj0 hn0
  refine ⟨j, hj, readyB_iff.2 ⟨hnj, fun p hp => ?_⟩⟩
  obtain ⟨q, hq, rfl⟩ := hC.pars j p hj hp
  exact hbl q hq
theorem OrdP.len {es : List Ent} (hC : Closed es) {ys : List ByteArray} (h : OrdP es ys) : ys.length ≤ es.length := by
  have := sub_len h.nd (ids_nodup hC) (fun s hs => by
    obtain ⟨i, hi, e⟩ := h.sub s hs
    exact List.mem_map.2 ⟨i, by simpa using hi, e⟩)
  simpa using this
/-! ### The least first -/
/-- At each step the least of what is ready. -/
def LeastP (es : List Ent) (ys : List ByteArray) : Prop := ∀ (j : Nat) (s : ByteArray), ys[j]? = some s → ∀ i, i < es.length → readyB es (ys.take j) i = true → bl (ent es i).id s = false
theorem LeastP.start (es : List Ent) : LeastP es [] := fun j s h => by cases h
theorem LeastP.put {es : List Ent} {ys : List ByteArray} {x : ByteArray} (h : LeastP es ys) (hx : ∀ i, i < es.length → readyB es ys i = true → bl (ent es i).id x = false) : LeastP es (ys ++ [x]) := by
  intro j s hj i hi hr
  rcases Nat.lt_or_ge j ys.length with hlt | hge
  · rw [List.getElem?_append_left hlt] at hj
    rw [List.take_append_of_le_length (by omega)] at hr
    exact h j s hj i hi hr
  · have hjl : j < (ys ++ [x]).length := (List.getElem?_eq_some_iff.1 hj).1
    rw [List.length_append, List.length_singleton] at hjl
    obtain rfl : j = ys.length := by omega
    rw [List.getElem?_append_right (Nat.le_refl _), Nat.sub_self] at hj
    have hs : x = s := by simpa using hj
    subst hs
    rw [List.take_append_of_le_length (Nat.le_refl _), List.take_length] at hr
    exact hx i hi hr
theorem OrdP.ready {es : List Ent} (hC : Closed es) {ys : List ByteArray} (h : OrdP es ys) {j : Nat} {s : ByteArray} (hj : ys[j]? = some s) : ∃ i, i < es.length ∧ (ent es i).id = s ∧ readyB es (ys.take j) i = true := by
  obtain ⟨i, hi, hid⟩ := h.sub s (List.mem_of_getElem? hj)
  refine ⟨i, hi, hid, readyB_iff.2 ⟨fun hm => ?_, h.par j s hj i hi hid⟩⟩
  rw [hid] at hm
  obtain ⟨q, hq⟩ := List.mem_iff_getElem?.1 hm
  rw [List.getElem?_take] at hq
  split at hq
  · rename_i hqj
    have := nodup_inj h.nd hq hj
    omega
  · cases hq
/-- There is one such order. -/
theorem order_uniq {es : List Ent} (hC : Closed es) {ys zs : List ByteArray} (h1 : OrdP es ys) (l1 : LeastP es ys) (h2 : OrdP es zs) (l2 : LeastP es zs) (hl : ys.length = zs.length) : ys = zs := by
  have key : ∀ j, j ≤ ys.length → ys.take j = zs.take j := by
    intro j
    induction j with
    | zero => intro _; simp
    | succ j ih =>
      intro hj
      have e := ih (by omega)
      obtain ⟨s, hs⟩ : ∃ s, ys[j]? = some s := ⟨_, List.getElem?_eq_getElem (by omega)⟩
      obtain ⟨t, ht⟩ : ∃ t, zs[j]? = some t := ⟨_, List.getElem?_eq_getElem (by omega)⟩
      obtain ⟨a, ha, hida, hra⟩ := h1.ready hC hs
      obtain ⟨b, hb, hidb, hrb⟩ := h2.ready hC ht
      have e1 := l1 j s hs b hb (by rw [e]; exact hrb)
      have e2 := l2 j t ht a ha (by rw [← e]; exact hra)
      rw [hidb] at e1
      rw [hida] at e2
      have hst : s = t := bl_total e2 e1
      rw [List.take_add_one, List.take_add_one, e, hs, ht, hst]
  have := key ys.length (Nat.le_refl _)
  rw [List.take_length] at this
  rw [this, hl, List.take_length]
/-- The same entries in another list have the same order. -/
theorem Sub.ordP {es m : List Ent} {σ : Nat → Nat} (h : Sub es m σ) (hs : ∀ j, j < es.length → ∃ k, k < m.length ∧ σ k = j) {zs : List ByteArray} (ho : OrdP m zs) : OrdP es zs := by
  refine ⟨ho.nd, fun s hs' => ?_, fun j s hj i hi hid p hp => ?_⟩
  · obtain ⟨i, hi, hid⟩ := ho.sub s hs'
    exact ⟨σ i, h.lt i hi, by rw [← h.same i hi]; exact hid⟩
  · obtain ⟨k, hk, rfl⟩ := hs i hi
    rw [← h.same k hk] at hid hp
    exact ho.par j s hj k hk hid p hp
theorem Sub.leastP {es m : List Ent} {σ : Nat → Nat} (h : Sub es m σ) (hs : ∀ j, j < es.length → ∃ k, k < m.length ∧ σ k = j) {zs : List ByteArray} (ho : LeastP m zs) : LeastP es zs := by
  intro j s hj i hi hr
  obtain ⟨k, hk, rfl⟩ := hs i hi
  have e := h.same k hk
  have hr' : readyB m (zs.take j) k = true := by
    unfold readyB at hr ⊢
    rw [e]
    exact hr
  have := ho j s hj k hk hr'
  rw [e] at this
  exact this
/-! ### Told in that order -/
def ixE (es : List Ent) (s : ByteArray) : Nat := (findN es s).getD 0
def mE (es : List Ent) (ys : List ByteArray) : List Ent := ys.map fun s => ent es (ixE es s)
def ixO (es : List Ent) (ys : List ByteArray) (i : Nat) : Nat := ixE es (ys.getD i ByteArray.empty)
theorem mE_len (es : List Ent) (ys : List ByteArray) : (mE es ys).length = ys.length := by simp [mE]
theorem OrdP.ix {es : List Ent} (hC : Closed es) {ys : List ByteArray} (h : OrdP es ys) {s : ByteArray} (hs : s ∈ ys) : findN es s = some (ixE es s) ∧ ixE es s < es.length ∧ (ent es (ixE es s)).id = s := by
  obtain ⟨i, hi, rfl⟩ := h.sub s hs
  have hf := hC.find hi
  have e : ixE es (ent es i).id = i := by unfold ixE; rw [hf]; rfl
  rw [e]
  exact ⟨hf, hi, rfl⟩
theorem getD_of {ys : List ByteArray} {i : Nat} (h : i < ys.length) : ys[i]? = some (ys.getD i ByteArray.empty) := by
  rw [List.getD_eq_getElem?_getD, List.getElem?_eq_getElem h]; rfl
theorem mE_ent {es : List Ent} {ys : List ByteArray} {i : Nat} (h : i < ys.length) : ent (mE es ys) i = ent es (ixO es ys i) := by
  refine ent_of ?_
  unfold mE
  rw [List.getElem?_map, getD_of h]
  rfl
theorem OrdP.toSub {es : List Ent} (hC : Closed es) {ys : List ByteArray} (h : OrdP es ys) (hl : ys.length = es.length) : Sub es (mE es ys) (ixO es ys) := by
  have hm : ∀ i, i < ys.length → ys.getD i ByteArray.empty ∈ ys := fun i hi => List.mem_of_getElem? (getD_of hi)
  have hid : ∀ i, i < ys.length → (ent (mE es ys) i).id = ys.getD i ByteArray.empty := fun i hi => by
    rw [mE_ent hi]
    exact (h.ix hC (hm i hi)).2.2
  refine ⟨hC, ⟨by rw [mE_len, hl]; exact hC.len, fun i hi => ?_, fun i hi => ?_, fun i j hi hj e => ?_, fun i s hi hs => ?_⟩, fun i hi => ?_, fun i hi => ?_⟩
  all_goals rw [mE_len] at hi
  · rw [mE_ent hi]; exact hC.lo _ (h.ix hC (hm i hi)).2.1
  · rw [mE_ent hi]; exact hC.hi _ (h.ix hC (hm i hi)).2.1
  · rw [mE_len] at hj
    rw [hid i hi, hid j hj] at e
    exact nodup_inj h.nd (getD_of hi) (by rw [e]; exact getD_of hj)
  · rw [mE_ent hi] at hs
    have hix := h.ix hC (hm i hi)
    have hp := h.par i _ (getD_of hi) _ hix.2.1 hix.2.2 s hs
    obtain ⟨q, hq⟩ := List.mem_iff_getElem?.1 hp
    rw [List.getElem?_take] at hq
    split at hq
    · rename_i hqi
      have hql := (List.getElem?_eq_some_iff.1 hq).1
      refine ⟨q, hqi, ?_⟩
      rw [hid q hql, List.getD_eq_getElem?_getD, hq]
      rfl
    · cases hq
  · exact (h.ix hC (hm i hi)).2.1
  · exact mE_ent hi
/-- What is told of the one is told of the other. -/
theorem turned {es : List Ent} (hC : Closed es) {ys : List ByteArray} (h : OrdP es ys) (hl : ys.length = es.length) (h0 : 0 < es.length) (hk : (ent es 0).kind = 1) :
    ∃ r', rootN (ent es 0).id (mE es ys) = some r' ∧ MSub (goodS es 0) (goodS (mE es ys) r') (ixO es ys) := by
  have hS := h.toSub hC hl
  have hall := sub_full h.nd (ids_nodup hC) (fun s hs => by
    obtain ⟨i, hi, e⟩ := h.sub s hs
    exact List.mem_map.2 ⟨i, by simpa using hi, e⟩) (by simp [hl])
  have hsur : ∀ j, j < es.length → ∃ k, k < (mE es ys).length ∧ ixO es ys k = j := fun j hj => by
    have hm := hall _ (List.mem_map.2 ⟨j, by simpa using hj, rfl⟩)
    obtain ⟨k, hk⟩ := List.mem_iff_getElem?.1 hm
    have hkl := (List.getElem?_eq_some_iff.1 hk).1
    refine ⟨k, by rw [mE_len]; exact hkl, ?_⟩
    unfold ixO ixE
    rw [List.getD_eq_getElem?_getD, hk]
    show (findN es (ent es j).id).getD 0 = j
    rw [hC.find hj]
    rfl
  obtain ⟨r', hr', he⟩ := hsur 0 h0
  have hsm := hS.same r' hr'
  rw [he] at hsm
  have hkr : (ent (mE es ys) r').kind = 1 := by rw [hsm]; exact hk
  refine ⟨r', ?_, hS, hr', he, hk, fun i hi => ?_, fun j hj _ => hsur j hj⟩
  · unfold rootN
    rw [← hsm, hS.cm.find hr']
    simp [hkr]
  · show goodL (mE es ys) r' i = goodL es 0 (ixO es ys i)
    have := hS.good hr' hkr i hi
    rw [he] at this
    exact this
end Go.Proofs.YtgcpoppinnnciaaGreatDoor
/- palaverref12, Order: the walk. -/
set_option linter.unusedVariables false
set_option linter.unusedSimpArgs false
namespace Go.Proofs.YtgcpoppinnnciaaGreatDoor
open Go Go.RowKit Go.Proofs.YtgcpoppinnnciaaGreatDoor.Pal Go.Proofs.YtgcpoppinnnciaaGreatDoor.Plan

theorem ne_nil {s : ByteArray} (h : s ≠ ⟨#[]⟩) : ¬ s.toList = [] := fun e => h (str_eq.1 (by rw [e]; kernel_rfl))
def REntR (e : Ent) (c : List Value) : Prop := c = [.string e.id, e.pv]
structure REnts (w : World) (A : Option Addr) (n : Nat) (l : List Ent) : Prop where
  rd : RdS w 2 REntR A n l
  ok : ∀ e ∈ l, EntOk w e
theorem REnts.fresh {w w1 : World} {A : Option Addr} {n : Nat} {l : List Ent} (h : REnts w A n l) (hu : Unch none_ w w1) : REnts w1 A n l := ⟨RdS.fresh h.rd hu, fun e he => (h.ok e he).fresh hu⟩
theorem REnts.at {w : World} {A : Option Addr} {n : Nat} {l : List Ent} (h : REnts w A n l) {k : Nat} {e : Ent} (he : l[k]? = some e) : ∃ b o, A = some ⟨b, o, none⟩ ∧ b < w.heap.size ∧
    w.cell? ⟨b, o + k * 2, none⟩ = some (.string e.id) ∧ w.cell? ⟨b, o + k * 2 + 1, none⟩ = some e.pv := by
  obtain ⟨b, o, c, hA, hb, _, hc, hcell⟩ := h.rd.at he
  unfold REntR at hc
  subst hc
  exact ⟨b, o, hA, hb, hcell 0 _ rfl, hcell 1 _ rfl⟩
/-- The best so far, of the first i. -/
def BestP (es : List Ent) (ys : List ByteArray) (i : Nat) (best : ByteArray) : Prop :=
  (best = ⟨#[]⟩ ∧ ∀ j, j < i → readyB es ys j = false) ∨ ∃ j, j < es.length ∧ best = (ent es j).id ∧ readyB es ys j = true ∧ ∀ k, k < i → readyB es ys k = true → bl (ent es k).id best = false
theorem BestP.no {es : List Ent} {ys : List ByteArray} {i : Nat} {best : ByteArray} (h : BestP es ys i best) (hr : readyB es ys i = false) : BestP es ys (i + 1) best := by
  rcases h with ⟨h1, h2⟩ | ⟨j, h1, h2, h3, h4⟩
  · refine .inl ⟨h1, fun j hj => ?_⟩
    rcases Nat.lt_or_ge j i with h3 | h3
    · exact h2 j h3
    · obtain rfl : j = i := by omega
      exact hr
  · refine .inr ⟨j, h1, h2, h3, fun k hk hrk => ?_⟩
    rcases Nat.lt_or_ge k i with h5 | h5
    · exact h4 k h5 hrk
    · obtain rfl : k = i := by omega
      rw [hr] at hrk; cases hrk
theorem BestP.keep {es : List Ent} {ys : List ByteArray} {i : Nat} {best : ByteArray} (h : BestP es ys i best) (hne : best ≠ ⟨#[]⟩) (hb : bl (ent es i).id best = false) : BestP es ys (i + 1) best := by
  rcases h with ⟨h1, h2⟩ | ⟨j, h1, h2, h3, h4⟩
  · exact absurd h1 hne
  · refine .inr ⟨j, h1, h2, h3, fun k hk hrk => ?_⟩
    rcases Nat.lt_or_ge k i with h5 | h5
    · exact h4 k h5 hrk
    · obtain rfl : k = i := by omega
      exact hb
theorem BestP.new {es : List Ent} (hC : Closed es) {ys : List ByteArray} {i : Nat} {best : ByteArray} (hi : i < es.length) (h : BestP es ys i best) (hr : readyB es ys i = true) (hb : best = ⟨#[]⟩ ∨ bl (ent es i).id best = true) : BestP es ys (i + 1) (ent es i).id := by
  refine .inr ⟨i, hi, rfl, hr, fun k hk hrk => ?_⟩
  rcases Nat.lt_or_ge k i with h5 | h5
  · rcases h with ⟨h1, h2⟩ | ⟨j, h1, h2, h3, h4⟩
    · have := h2 k h5
      rw [hrk] at this; cases this
    · have h6 := h4 k h5 hrk
      rcases hb with hb | hb
      · exfalso
        have := hC.lo j h1
        rw [← h2, hb] at this
        exact absurd this (by decide)
      · cases h7 : bl (ent es k).id (ent es i).id with
        | false => rfl
        | true => rw [bl_trans h7 hb] at h6; cases h6
  · obtain rfl : k = i := by omega
    exact bl_irrefl _
theorem readyB_take {es : List Ent} {ys : List ByteArray} {i k : Nat} {s : ByteArray} (hs : (ent es i).ps[k]? = some s) : ((ent es i).ps.take (k + 1)).all (hasB ys) = (((ent es i).ps.take k).all (hasB ys) && hasB ys s) := by
  rw [List.take_add_one, hs, List.all_append]
  simp
end Go.Proofs.YtgcpoppinnnciaaGreatDoor
/- slices.Values, Collect: the range over a slice's iterator. -/
set_option linter.unusedVariables false
set_option linter.unusedSimpArgs false
namespace Go.Proofs.YtgcpoppinnnciaaGreatDoor
open Go Go.RowKit Go.Proofs.YtgcpoppinnnciaaGreatDoor.Pal Go.Proofs.YtgcpoppinnnciaaGreatDoor.Plan
attribute [local go_sem] Oper.semAt_some

set_option maxRecDepth 100000 in
set_option maxHeartbeats 1000000 in
theorem values1_in (F : Fence) (n : Nat) (hf : F.fn 67) (hro : F.round = none) (hn : 1 ≤ n) (l Bm : Nat) (w0 : World) {A : Option Addr} {m c : Nat} {xs : List ByteArray} (hrd : RdS w0 1 StrR A m xs) (J Jx : List ByteArray → World → Prop)
    (hY : ∀ pre x W, J pre W → pre.length < xs.length → YieldAt F (n - 1) Tryz.prog l #[.string x] W fun e W' =>
      (e = .returned (.bool true) ∧ J (pre ++ [x]) W' ∧ Below w0.heap.size W W') ∨ (e = .returned (.bool false) ∧ Jx (pre ++ [x]) W'))
    (W : World) (hm : W.cell? ⟨Bm, 0, none⟩ = some (.slice A m c)) (hb : Below w0.heap.size w0 W) (h0 : J [] W) :
    CallsIn F n Tryz.prog 67 #[.func (.yield l) #[] #[], .pointer (some ⟨Bm, 0, none⟩)] W fun e W' => (∃ v, e = .returned v) ∧
      ((∃ ys : List ByteArray, ys = xs ∧ J ys W') ∨ (∃ pre : List ByteArray, True ∧ Jx pre W')) := by
  have hlen := hrd.len
  have hmx := hrd.max
  unfold maxLen at hmx
  have HRD := Lib.hid hrd
  have HL := Lib.hid hlen
  clear hrd hlen
  refine callsIn_of_wp Tryz.func67 rfl hf ?_ hro
  simp only [Tryz.ntmps67, List.size_toArray, List.length_cons, List.length_nil, Nat.reduceAdd, Nat.reduceSub, Array.replicate_succ, Array.replicate_zero, List.push_toArray, List.append_toArray, List.nil_append, List.cons_append]
  gi_wp2
  gi_loopg [4, 7] m (fun gk _ i7 wr => ∃ k : Nat, gk = m - k ∧ k ≤ m ∧ i7 = .int .i64 (k : Int) ∧ Below w0.heap.size w0 wr ∧ J (xs.take k) wr)
  case atStart => exact ⟨0, rfl, Nat.zero_le _, rfl, hb, by simpa using h0⟩
  case round =>
    obtain ⟨k, rfl, hk, rfl, hbk, hJ⟩ := hrel
    obtain ⟨w1, rfl⟩ : ∃ w1, w1 = wr := ⟨_, rfl⟩
    by_cases hkm : k < m
    · obtain ⟨x, hx⟩ := get_some HL.out hkm
      have z0 : (0 : Int) ≤ (k : Int) := by omega
      have z1 : (k : Int) < (m : Int) := by omega
      obtain ⟨b, o, rfl, _, xp⟩ := RdS.str (RdS.fresh HRD.out (Unch.ofBelow (X := none_) hbk)) hx
      obtain ⟨fn, tmps, assign, body, hy, hR⟩ := hY (xs.take k) x w1 hJ (by rw [List.length_take, HL.out]; omega)
      have htk : xs.take (k + 1) = xs.take k ++ [x] := by rw [List.take_add_one, hx]; rfl
      have HTK := Lib.hid htk
      have HR := Lib.hid hR
      have HBK := Lib.hid hbk
      clear htk hR hbk hx hJ
      gi_wp2
      refine HR.out.mono ?_
      rintro e W3 (⟨rfl, hJ3, hk3⟩ | ⟨rfl, hJx3⟩)
      · have HB3 := Lib.hid (HBK.out.trans hk3)
        gi_wp2
        gi_roundg (m - (k + 1))
        case rel => exact ⟨k + 1, rfl, by omega, by go_num, HB3.out, by rw [HTK.out]; exact hJ3⟩
        case measure => omega
      · gi_wp2
        refine bodyPost_ret (results_none rfl _ _ _) rfl ?_
        exact ⟨⟨_, rfl⟩, .inr ⟨_, trivial, hJx3⟩⟩
    · obtain rfl : m = k := by omega
      have hfin : xs.take m = xs := by rw [← HL.out]; exact List.take_length
      rw [hfin] at hJ
      gi_wp2
      go_end0
      exact ⟨⟨_, rfl⟩, .inl ⟨xs, rfl, hJ⟩⟩
theorem values_stops (F : Fence) (n : Nat) (hf : F.fn 67) (hro : F.round = none) (hn : 1 ≤ n) (Bm : Nat) (w0 w : World) {A : Option Addr} {m c : Nat} {xs : List ByteArray} (hrd : RdS w0 1 StrR A m xs) (hBm : Bm < w.heap.size)
    (hm : w.cell? ⟨Bm, 0, none⟩ = some (.slice A m c)) (hb : Below w0.heap.size w0 w) :
    SeqStopsK F n Tryz.prog 67 #[.pointer (some ⟨Bm, 0, none⟩)] (fun x : ByteArray => #[Value.string x]) (Below w0.heap.size) (fun ys => ys = xs) (fun _ => True) xs.length w := fun l J Jx W hW hJ _ hY h0 =>
  values1_in F n hf hro hn l Bm w0 hrd J Jx hY W ((hW.cell (p := ⟨Bm, 0, none⟩) hBm).trans hm) (hb.trans (hW.mono hb.size)) h0
set_option maxHeartbeats 1000000 in
theorem values_ok (w : World) (A : Option Addr) (m c : Nat) : Calls Tryz.prog 39 #[.slice A m c] w fun e w' => e = .returned (.func (.func 67) #[] #[.pointer (some ⟨w.heap.size, 0, none⟩)]) ∧ w' = w.alloc (.cells #[.slice A m c] 25) := by
  go_enter Tryz.func39, Tryz.ntmps39
  go_wp2
  go_ret
  exact ⟨rfl, rfl⟩
theorem MI.putU {w5 W W6 W7 : World} {bo : Nat} {f : ByteArray → Bool} {pre : List ByteArray} {v v' : Value} {x : ByteArray} (hb5 : bo < w5.heap.size) (hu : Unch (fun j => j = bo) w5 W) (h1 : W.heap[bo]? = some (.cells #[v] 25 (0, 0))) (h2 : ∀ b, v.ownBlock = some b → w5.heap.size ≤ b)
    (h3 : Row W 9 1 v (pre.filter f).length (sv (pre.filter f))) (hf : f x = true) (hu6 : Unch none_ W W6) (hr : Row W7 9 1 v' ((pre.filter f).length + 1) (sv (pre.filter f) ++ [.string x])) (hu7 : Unch (fun k => v.ownBlock = some k) W6 W7)
    (hat : v'.ownBlock = v.ownBlock ∨ ∃ b, v'.ownBlock = some b ∧ W6.heap.size ≤ b) :
    (MI w5 bo f (pre ++ [x]) (W7.setCell ⟨bo, 0, none⟩ v') ∧ KeepsOthers W (W7.setCell ⟨bo, 0, none⟩ v') ∧ W7.cell? ⟨bo, 0, none⟩ = some v ∧ W7.frozen? ⟨bo, 0, none⟩ = false) ∧ Unch (fun k => k = bo ∨ v.ownBlock = some k) W (W7.setCell ⟨bo, 0, none⟩ v') := by
  have huc : Unch (fun j => j = bo) W7 (W7.setCell ⟨bo, 0, none⟩ v') := (Unch.refl _ _).setCell _ (fun _ => rfl)
  exact ⟨MI.put hb5 hu h1 h2 h3 hf hu6 hr hu7 hat, ((hu6.mono (fun _ _ h => h.elim)).step hu7 (fun i hi e => .inr e)).step huc (fun i hi e => .inl e)⟩
theorem below_of {X : Nat → Prop} {n₀ : Nat} {W W' : World} (h : Unch X W W') (hn : n₀ ≤ W.heap.size) (hX : ∀ k, k < n₀ → ¬ X k) : Below n₀ W W' := ⟨h.os, h.tape, h.output, h.size, fun k hk => h.block k (by omega) (hX k hk)⟩
set_option maxRecDepth 100000 in
set_option maxHeartbeats 4000000 in
theorem appendSeq_ok {w : World} {A : Option Addr} {m c Bm : Nat} {xs : List ByteArray} (hrd : RdS w 1 StrR A m xs) (hm3 : m ≤ 1048576) (hm : w.cell? ⟨Bm, 0, none⟩ = some (.slice A m c)) :
    Calls Tryz.prog 101 #[.slice none 0 0, .func (.func 67) #[] #[.pointer (some ⟨Bm, 0, none⟩)]] w fun e w' => ∃ v, e = .returned v ∧ SMid w w' v xs.length xs := by
  have hlen := hrd.len
  have hxl : xs.length ≤ 1048576 := by rw [hlen]; exact hm3
  have hBm := World.block_lt_of_cell? w _ hm
  simp only at hBm
  refine (callsIn_wide (n := 6)).1 ?_
  refine callsIn_of_wp_marks Tryz.func101 rfl trivial ?_ rfl
  simp only [Tryz.ntmps101, List.size_toArray, List.length_cons, List.length_nil, Nat.reduceAdd, Nat.reduceSub, Array.replicate_succ, Array.replicate_zero, List.push_toArray, List.append_toArray, List.nil_append, List.cons_append]
  gi_wp2
  have hbo := blk_new w (.cells #[.slice none 0 0] 25)
  have hu5 : Unch none_ w (w.alloc (.cells #[.slice none 0 0] 25)) := (Unch.refl none_ w).alloc _
  have hb5 : Below w.heap.size w (w.alloc (.cells #[.slice none 0 0] 25)) := (Below.refl _ w).alloc (Nat.le_refl _) _
  have hsz : (w.alloc (.cells #[.slice none 0 0] 25)).heap.size = w.heap.size + 1 := by simp
  have hm5 := hu5.cell hm (fun h => h)
  obtain ⟨bo, hboe⟩ : ∃ b, w.heap.size = b := ⟨_, rfl⟩
  obtain ⟨w5, hw5⟩ : ∃ w5, w5 = w.alloc (.cells #[.slice none 0 0] 25) := ⟨_, rfl⟩
  rw [← hw5] at hbo hu5 hb5 hsz hm5 ⊢
  rw [hboe] at hbo hsz ⊢
  have n2 : bo < w5.heap.size := by omega
  have HRD := Lib.hid hrd
  have HBO := Lib.hid hbo
  have HU5 := Lib.hid hu5
  have HB5 := Lib.hid hb5
  have HM5 := Lib.hid hm5
  have HL := Lib.hid hlen
  clear hrd hbo hu5 hb5 hm5 hw5 hm hlen
  refine wpIn_rangeFunc_ownG (F := Fence.wide) (n := 6) rfl (by omega) (gf := 67) (lb := #[.pointer (some ⟨Bm, 0, none⟩)]) rfl trivial (enters_of Tryz.func67 (by kernel_rfl) rfl)
    (encs := fun x : ByteArray => #[Value.string x]) (values_stops Fence.wide (6 - 1) trivial rfl (by omega) Bm w w5 HRD.out (by omega) HM5.out HB5.out) belowK_t (belowK_b (by omega)) (Below.refl _ _) (fun _ => rfl)
    (MI w5 bo (fun _ => true)) (fun _ _ _ => False) (MI.own w5 bo _) (fun _ _ _ _ _ hs _ _ => hs)
    ⟨Unch.refl _ _, _, HBO.out, (fun b hb => by cases hb), Row.nil _ _ _⟩
    (fun x => { tmps := #[.slice none 0 0, .func (.func 67) #[] #[.pointer (some ⟨Bm, 0, none⟩)], .pointer (some ⟨bo, 0, none⟩), undef, .slice none 0 0, .string x, .func (.func 67) #[] #[.pointer (some ⟨Bm, 0, none⟩)], .string x, undef, undef, undef, undef, undef], defers := [] }) ?assign ?body ?done ?stop
  case assign =>
    intro l x W K hK
    gi_wp2
    exact hK
  case body =>
    rintro lr pre x W hI hlt
    have hu := hI.u
    obtain ⟨v, h1, h2, h3⟩ := hI.out
    have hfl : (pre.filter fun _ => true).length ≤ pre.length := List.length_filter_le _ _
    have y0 : W.cell? ⟨bo, 0, none⟩ = some v := blk_cell h1 (j := 0) rfl
    have HU := Lib.hid hu
    have H1 := Lib.hid h1
    have H2 := Lib.hid h2
    have H3 := Lib.hid h3
    clear hI hu h1 h2 h3
    gi_wp2_with (gi_at_builtin; refine wpListIn_append1 W rfl (.tmp 8) (.tmp 10) 25 9 (.string ⟨#[]⟩) 1 16 rfl Tryz.underlying25 info_str rfl (by decide) v _ _ rfl H3.out [.string x] rfl (by simp [Value.oneCell']) rfl (by unfold maxLen; omega) (by omega) ?_; rintro v' w7 hr7 hu7 hat7 ⟨A7, c7, rfl⟩; obtain ⟨⟨hmi, hko, hc7, hf7⟩, hun⟩ := MI.putU n2 HU.out H1.out H2.out H3.out (f := fun _ => true) rfl (Unch.refl none_ W) hr7 hu7 hat7; have HMI := Lib.hid hmi; have HKO := Lib.hid hko; have HUN := Lib.hid hun; clear hr7 hu7 hat7 hmi hko hun)
    refine ⟨HKO.out.from _, below_of HUN.out (by have := HU.out.size; omega) (fun k hk e => ?_), HMI.out⟩
    rcases e with e | e
    · omega
    · have := H2.out k e; omega
  case done =>
    rintro D ys W hD rfl hI hK
    have hu := hI.u
    obtain ⟨v, h1, h2, h3⟩ := hI.out
    have y0 : W.cell? ⟨bo, 0, none⟩ = some v := blk_cell h1 (j := 0) rfl
    have hft : ys.filter (fun _ => true) = ys := List.filter_eq_self.2 (fun _ _ => rfl)
    rw [hft] at h3
    have hneD : ¬ v.ownBlock = some D := fun e => by
      obtain ⟨cur, hc⟩ := h3.blk e
      rw [hK] at hc
      cases hc
    have hup := unch_of_grown (grownBy_putObj' W D (.deferred none))
    have HK := Lib.hid hK
    have HU := Lib.hid hu
    have H2 := Lib.hid h2
    have H3 := Lib.hid h3
    have HUP := Lib.hid hup
    clear hK hu h1 h2 h3 hup hI
    gi_wp2
    refine ⟨by simp, .inl ⟨_, _, rfl, run_takeDeferred HK.out, ?_⟩⟩
    refine ⟨_, results_tmp rfl _ _ _, v, rfl, ?_, fun b hb => ?_, ?_⟩
    · exact (HU5.out.step HU.out (fun i hi e => by omega)).step HUP.out (fun i hi e => by injection e with e; omega)
    · have := H2.out b hb; omega
    · exact H3.out.unch HUP.out (fun b hb e => hneD (by rw [hb]; exact e.symm))
  case stop =>
    rintro D c pre W _ _ h _
    exact h.elim
set_option maxHeartbeats 1000000 in
theorem collect_ok {w : World} {A : Option Addr} {m c Bm : Nat} {xs : List ByteArray} (hrd : RdS w 1 StrR A m xs) (hm3 : m ≤ 1048576) (hm : w.cell? ⟨Bm, 0, none⟩ = some (.slice A m c)) :
    Calls Tryz.prog 65 #[.func (.func 67) #[] #[.pointer (some ⟨Bm, 0, none⟩)]] w fun e w' => ∃ v, e = .returned v ∧ SMid w w' v xs.length xs := by
  have HA := Lib.hid (appendSeq_ok hrd hm3 hm)
  clear hrd hm
  go_enter Tryz.func65, Tryz.ntmps65
  go_wp2_with fail
  refine HA.out.mono ?_
  rintro e w' ⟨v, rfl, hs⟩
  go_wp2
  go_ret
  exact ⟨v, rfl, hs⟩
end Go.Proofs.YtgcpoppinnnciaaGreatDoor
/- What Sort and Compact leave of strings: sortS (plain). -/
set_option linter.unusedVariables false
set_option linter.unusedSimpArgs false
namespace Go.Proofs.YtgcpoppinnnciaaGreatDoor
open Go Go.RowKit Go.Proofs.YtgcpoppinnnciaaGreatDoor.Pal Go.Proofs.YtgcpoppinnnciaaGreatDoor.Plan

theorem bl_uniq : ∀ {a b : List ByteArray}, a.Pairwise (fun x y => bl x y = true) → b.Pairwise (fun x y => bl x y = true) → (∀ x, x ∈ a ↔ x ∈ b) → a = b
  | [], [], _, _, _ => rfl
  | [], y :: b, _, _, h => by have := (h y).2 (by simp); cases this
  | x :: a, [], _, _, h => by have := (h x).1 (by simp); cases this
  | x :: a, y :: b, ha, hb, h => by
    rw [List.pairwise_cons] at ha hb
    have asym : ∀ {s t : ByteArray}, bl s t = true → bl t s = true → False := fun h1 h2 => by
      have := bl_trans h1 h2
      rw [bl_irrefl] at this; cases this
    have e : x = y := by
      rcases List.mem_cons.1 ((h x).1 (by simp)) with e | h1
      · exact e
      · rcases List.mem_cons.1 ((h y).2 (by simp)) with e | h2
        · exact e.symm
        · exact (asym (ha.1 y h2) (hb.1 x h1)).elim
    subst e
    congr 1
    refine bl_uniq ha.2 hb.2 fun z => ?_
    have hz := h z
    simp only [List.mem_cons] at hz
    constructor
    · intro hza
      rcases hz.1 (.inr hza) with e | h1
      · subst e; have := ha.1 z hza; rw [bl_irrefl] at this; cases this
      · exact h1
    · intro hzb
      rcases hz.2 (.inr hzb) with e | h1
      · subst e; have := hb.1 z hzb; rw [bl_irrefl] at this; cases this
      · exact h1
theorem bl_nlt {s t u : ByteArray} (h1 : bl t s = false) (h2 : bl t u = true) : bl s u = true := by
  cases h3 : bl s u with
  | true => rfl
  | false =>
    cases h4 : bl s t with
    | true => rw [bl_trans h4 h2] at h3; cases h3
    | false =>
      have := bl_total h1 h4
      subst this
      rw [h2] at h3; cases h3
theorem compact_spec (d : Array ByteArray) (hs : ∀ i j, i < j → j < d.size → bl d[j]! d[i]! = false) : ∀ m, m ≤ d.size → (Lib.compactUpTo d m).Pairwise (fun x y => bl x y = true) ∧ ∀ x, x ∈ Lib.compactUpTo d m ↔ ∃ q, q < m ∧ d[q]! = x
  | 0, _ => ⟨by simp [Lib.compactUpTo], fun x => by simp [Lib.compactUpTo]⟩
  | m + 1, hm => by
    obtain ⟨h1, h2⟩ := compact_spec d hs m (by omega)
    rw [Lib.compactUpTo_succ]
    cases hk : Lib.keeps d m with
    | true =>
      simp only [if_true]
      refine ⟨?_, fun x => ?_⟩
      · rw [List.pairwise_append]
        refine ⟨h1, List.pairwise_singleton _ _, fun a ha b hb => ?_⟩
        rw [List.mem_singleton.1 hb]
        obtain ⟨q, hq, rfl⟩ := (h2 a).1 ha
        unfold Lib.keeps at hk
        rw [decide_eq_true_eq] at hk
        rcases hk with hk | hk
        · omega
        · have e1 : bl d[m - 1]! d[m]! = true := by
            cases h3 : bl d[m - 1]! d[m]! with
            | true => rfl
            | false => exact absurd (bl_total (hs (m - 1) m (by omega) (by omega)) h3) hk
          rcases Nat.lt_or_ge q (m - 1) with h4 | h4
          · exact bl_nlt (hs q (m - 1) h4 (by omega)) e1
          · obtain rfl : q = m - 1 := by omega
            exact e1
      · rw [List.mem_append, h2, List.mem_singleton]
        constructor
        · rintro (⟨q, hq, e⟩ | e)
          · exact ⟨q, by omega, e⟩
          · exact ⟨m, by omega, e.symm⟩
        · rintro ⟨q, hq, e⟩
          rcases Nat.lt_or_ge q m with h4 | h4
          · exact .inl ⟨q, h4, e⟩
          · obtain rfl : q = m := by omega
            exact .inr e.symm
    | false =>
      simp only [Bool.false_eq_true, if_false, List.append_nil]
      refine ⟨h1, fun x => ?_⟩
      rw [h2]
      unfold Lib.keeps at hk
      rw [decide_eq_false_iff_not] at hk
      constructor
      · rintro ⟨q, hq, e⟩; exact ⟨q, by omega, e⟩
      · rintro ⟨q, hq, e⟩
        rcases Nat.lt_or_ge q m with h4 | h4
        · exact ⟨q, h4, e⟩
        · obtain rfl : q = m := by omega
          have hm0 : q ≠ 0 := fun h => hk (.inl h)
          have he : d[q]! = d[q - 1]! := Classical.byContradiction fun h => hk (.inr h)
          exact ⟨q - 1, by omega, by rw [← he, e]⟩
/-- Sorted and compacted: sortS. -/
theorem compact_sortS {xs L : List ByteArray} (hp : L.Perm xs) (hs : L.Pairwise fun a b => bl b a = false) : Lib.compactUpTo L.toArray L.length = sortS xs := by
  have hg : ∀ j, (hj : j < L.length) → (L.toArray)[j]! = L[j] := fun j hj => by rw [getElem!_pos L.toArray j (by simpa using hj)]; simp
  obtain ⟨h1, h2⟩ := compact_spec L.toArray (fun i j hij hj => by
    have hj' : j < L.length := by simpa using hj
    rw [hg i (by omega), hg j hj']
    exact List.pairwise_iff_getElem.1 hs i j (by omega) hj' hij) L.length (by simp)
  refine bl_uniq h1 (sortS_sorted xs) fun x => ?_
  rw [h2, sortS_mem, ← hp.mem_iff]
  constructor
  · rintro ⟨q, hq, rfl⟩
    rw [hg q hq]
    exact List.getElem_mem hq
  · intro hx
    obtain ⟨q, hq, rfl⟩ := List.getElem_of_mem hx
    exact ⟨q, hq, hg q hq⟩
/-- Strings as the shelf's sort has them. -/
def toB (s : ByteArray) : List UInt8 := s.data.toList
def ofB (l : List UInt8) : ByteArray := ⟨l.toArray⟩
theorem ofB_toB (s : ByteArray) : ofB (toB s) = s := by cases s; simp [ofB, toB]
theorem toList_ofB (l : List UInt8) : (ofB l).toList = l := by rw [ByteArray.toList_eq]; simp [ofB]
theorem bl_ofB (x y : List UInt8) : bl (ofB x) (ofB y) = decide (x < y) := by
  unfold bl
  rw [toList_ofB, toList_ofB, Go.Proofs.bytesLess_eq]
theorem sort_ofB (ss : List (List UInt8)) : ((ss.mergeSort fun x y => decide (x ≤ y)).map ofB).Perm (ss.map ofB) ∧ ((ss.mergeSort fun x y => decide (x ≤ y)).map ofB).Pairwise fun a b => bl b a = false := by
  refine ⟨(List.mergeSort_perm _ _).map _, ?_⟩
  rw [List.pairwise_map]
  have := List.pairwise_mergeSort (le := fun x y : List UInt8 => decide (x ≤ y)) (fun a b c h1 h2 => by
    rw [decide_eq_true_eq] at *
    exact List.le_trans h1 h2) (fun a b => by
    rw [Bool.or_eq_true, decide_eq_true_eq, decide_eq_true_eq]
    exact List.le_total a b) ss
  refine this.imp fun {a b} h => ?_
  rw [decide_eq_true_eq] at h
  rw [bl_ofB, decide_eq_false_iff_not]
  exact List.not_lt.2 h
end Go.Proofs.YtgcpoppinnnciaaGreatDoor
/- dag.Order: the plain part: what is ready, by how many parents are left; rows that lie apart. -/
set_option linter.unusedVariables false
set_option linter.unusedSimpArgs false
namespace Go.Proofs.YtgcpoppinnnciaaGreatDoor
open Go Go.RowKit Go.Proofs.YtgcpoppinnnciaaGreatDoor.Pal Go.Proofs.YtgcpoppinnnciaaGreatDoor.Plan

/-! ### Rows that lie apart -/
/-- A family of rows of strings, in blocks of their own (from B on), each in another. -/
structure Fam {K : Type} (B : Nat) (w : World) (f : K → Value × List ByteArray) : Prop where
  row : ∀ a, Row w 9 1 (f a).1 (f a).2.length (sv (f a).2)
  own : ∀ a b, (f a).1.ownBlock = some b → B ≤ b
  ne : ∀ a a' b, a ≠ a' → (f a).1.ownBlock = some b → ¬ (f a').1.ownBlock = some b
section
variable {K : Type} {B : Nat} {w w2 : World} {f : K → Value × List ByteArray}
theorem Fam.unch (h : Fam B w f) {X : Nat → Prop} (hu : Unch X w w2) (hX : ∀ a b, (f a).1.ownBlock = some b → ¬ X b) : Fam B w2 f := ⟨fun a => (h.row a).unch hu (fun b hb => hX a b hb), h.own, h.ne⟩
theorem Fam.fresh (h : Fam B w f) (hu : Unch none_ w w2) : Fam B w2 f := h.unch hu (fun _ _ _ h => h)
variable [DecidableEq K]
def putF (f : K → Value × List ByteArray) (a : K) (v : Value) (ys : List ByteArray) : K → Value × List ByteArray := fun x => if x = a then (v, ys) else f x
theorem putF_at (f : K → Value × List ByteArray) (a : K) (v : Value) (ys : List ByteArray) : putF f a v ys a = (v, ys) := if_pos rfl
theorem putF_ne (f : K → Value × List ByteArray) {a x : K} (v : Value) (ys : List ByteArray) (h : x ≠ a) : putF f a v ys x = f x := if_neg h
/-- A row was turned, in its own block or in a new one. -/
theorem Fam.put (h : Fam B w f) (hB : B ≤ w.heap.size) (a : K) {v : Value} {ys : List ByteArray} (hr : Row w2 9 1 v ys.length (sv ys)) (hu : Unch (fun k => (f a).1.ownBlock = some k) w w2) (hat : ∀ b, v.ownBlock = some b → (f a).1.ownBlock = some b ∨ w.heap.size ≤ b) : Fam B w2 (putF f a v ys) := by
  have hlt : ∀ x b, (f x).1.ownBlock = some b → b < w.heap.size := fun x b hb => by
    obtain ⟨cur, hc⟩ := (h.row x).blk hb
    exact lt_of_heap hc
  refine ⟨fun x => ?_, fun x b hb => ?_, fun x x' b hne hb hb' => ?_⟩
  · by_cases e : x = a
    · subst e; rw [putF_at]; exact hr
    · rw [putF_ne f v ys e]; exact (h.row x).unch hu (fun b hb => h.ne x a b e hb)
  · by_cases e : x = a
    · subst e
      rw [putF_at] at hb
      rcases hat b hb with h1 | h1
      · exact h.own x b h1
      · omega
    · rw [putF_ne f v ys e] at hb; exact h.own x b hb
  · by_cases e : x = a
    · subst e
      rw [putF_at] at hb
      rw [putF_ne f v ys (fun e => hne e.symm)] at hb'
      rcases hat b hb with h1 | h1
      · exact h.ne x x' b hne h1 hb'
      · have := hlt x' b hb'; omega
    · rw [putF_ne f v ys e] at hb
      by_cases e' : x' = a
      · subst e'
        rw [putF_at] at hb'
        rcases hat b hb' with h1 | h1
        · exact h.ne x x' b hne hb h1
        · have := hlt x b hb; omega
      · rw [putF_ne f v ys e'] at hb'
        exact h.ne x x' b hne hb hb'
end
/-! ### What is ready -/
def parsL (es : List Ent) (i : Nat) : List ByteArray := sortS (ent es i).ps
theorem parsL_nodup (es : List Ent) (i : Nat) : (parsL es i).Nodup := (sortS_sorted _).imp fun {a b} hab e => by rw [e, bl_irrefl] at hab; cases hab
/-- How many of i's parents are not told yet. -/
def leftN (es : List Ent) (ys : List ByteArray) (i : Nat) : Nat := ((parsL es i).filter fun p => !hasB ys p).length
theorem leftN_nil (es : List Ent) (i : Nat) : leftN es [] i = (parsL es i).length := by
  unfold leftN
  rw [List.filter_eq_self.2 (fun p _ => by simp [hasB])]
theorem leftN_zero {es : List Ent} {ys : List ByteArray} {i : Nat} : leftN es ys i = 0 ↔ ∀ p ∈ (ent es i).ps, p ∈ ys := by
  unfold leftN
  rw [List.length_eq_zero_iff, List.filter_eq_nil_iff]
  constructor
  · intro h p hp
    have := h p (sortS_mem.2 hp)
    rw [Bool.not_eq_true, Bool.not_eq_false', hasB_iff] at this
    exact this
  · intro h p hp
    rw [Bool.not_eq_true, Bool.not_eq_false', hasB_iff]
    exact h p (sortS_mem.1 hp)
theorem hasB_app (ys : List ByteArray) (x p : ByteArray) : hasB (ys ++ [x]) p = (hasB ys p || decide (x = p)) := by
  rw [Bool.eq_iff_iff, hasB_iff, List.mem_append, List.mem_singleton, Bool.or_eq_true, hasB_iff, decide_eq_true_eq]
  exact ⟨fun h => h.imp id Eq.symm, fun h => h.imp id Eq.symm⟩
theorem filter_drop_one {l : List ByteArray} (hn : l.Nodup) {x : ByteArray} {P : ByteArray → Bool} (hx : P x = true) (hm : x ∈ l) : (l.filter P).length = (l.filter fun p => P p && !decide (x = p)).length + 1 := by
  induction l with
  | nil => cases hm
  | cons a l ih =>
    rw [List.nodup_cons] at hn
    rcases List.mem_cons.1 hm with e | hm
    · subst e
      have : (l.filter fun p => P p && !decide (x = p)) = l.filter P := by
        apply List.filter_congr
        intro p hp
        have : x ≠ p := fun e => hn.1 (e ▸ hp)
        rw [decide_eq_false this]; simp
      rw [List.filter_cons, List.filter_cons, hx, this]
      simp
    · have hne : x ≠ a := fun e => hn.1 (e ▸ hm)
      rw [List.filter_cons, List.filter_cons, decide_eq_false hne]
      cases hP : P a with
      | true => simp [ih hn.2 hm]
      | false => simp [ih hn.2 hm]
theorem leftN_kid {es : List Ent} {ys : List ByteArray} {i : Nat} {x : ByteArray} (hx : x ∉ ys) (hp : x ∈ (ent es i).ps) : leftN es ys i = leftN es (ys ++ [x]) i + 1 := by
  unfold leftN
  have hP : (!hasB ys x) = true := by
    cases h : hasB ys x with
    | false => rfl
    | true => exact absurd (hasB_iff.1 h) hx
  rw [filter_drop_one (parsL_nodup es i) hP (sortS_mem.2 hp)]
  congr 2
  apply List.filter_congr
  intro p _
  rw [hasB_app, Bool.not_or]
theorem leftN_other {es : List Ent} {ys : List ByteArray} {i : Nat} {x : ByteArray} (hp : x ∉ (ent es i).ps) : leftN es (ys ++ [x]) i = leftN es ys i := by
  unfold leftN
  congr 1
  apply List.filter_congr
  intro p hpp
  rw [hasB_app]
  have : x ≠ p := fun e => hp (e ▸ sortS_mem.1 hpp)
  rw [decide_eq_false this, Bool.or_false]
/-- The list of what is ready, rising. -/
structure RdyP (es : List Ent) (ys R : List ByteArray) : Prop where
  sorted : R.Pairwise fun a b => bl a b = true
  mem : ∀ s, s ∈ R ↔ ∃ i, i < es.length ∧ (ent es i).id = s ∧ readyB es ys i = true
theorem insS_sorted {s : ByteArray} {ys : List ByteArray} (h : ys.Pairwise fun a b => bl a b = true) (hs : s ∉ ys) : (insS s ys).Pairwise fun a b => bl a b = true := by
  have := addS_sorted (s := s) h
  unfold addS at this
  have hf : hasB ys s = false := by
    cases e : hasB ys s with
    | false => rfl
    | true => exact absurd (hasB_iff.1 e) hs
  rw [hf] at this
  exact this
/-- While the kids of the one that was told last are gone through: t of them. -/
structure KidP (es : List Ent) (ys : List ByteArray) (x : ByteArray) (ks : List ByteArray) (t : Nat) (R : List ByteArray) : Prop where
  sorted : R.Pairwise fun a b => bl a b = true
  mem : ∀ s, s ∈ R ↔ ∃ i, i < es.length ∧ (ent es i).id = s ∧ readyB es (ys ++ [x]) i = true ∧ (readyB es ys i = true ∨ s ∈ ks.take t)
theorem KidP.start {es : List Ent} (hC : Closed es) {ys R : List ByteArray} {x : ByteArray} {ks : List ByteArray} (h : RdyP es ys (x :: R)) (hx : x ∉ ys) : KidP es ys x ks 0 R := by
  have hp := List.pairwise_cons.1 h.sorted
  refine ⟨hp.2, fun s => ?_⟩
  constructor
  · intro hs
    obtain ⟨i, hi, hid, hr⟩ := (h.mem s).1 (List.mem_cons_of_mem _ hs)
    have hne : x ≠ s := fun e => by have := hp.1 s hs; rw [e, bl_irrefl] at this; cases this
    refine ⟨i, hi, hid, ?_, .inl hr⟩
    rw [readyB_iff] at hr ⊢
    refine ⟨fun hm => ?_, fun p hpp => List.mem_append_left _ (hr.2 p hpp)⟩
    rcases List.mem_append.1 hm with hm | hm
    · exact hr.1 hm
    · exact hne (by rw [← List.mem_singleton.1 hm, hid])
  · rintro ⟨i, hi, hid, hr, h1 | h1⟩
    · have hs := (h.mem s).2 ⟨i, hi, hid, h1⟩
      rcases List.mem_cons.1 hs with e | hs
      · rw [readyB_iff] at hr
        exact absurd (List.mem_append_right _ (List.mem_singleton.2 (by rw [hid, e]))) hr.1
      · exact hs
    · simp at h1
theorem KidP.done {es : List Ent} {ys R : List ByteArray} {x : ByteArray} {ks : List ByteArray} (h : KidP es ys x ks ks.length R) (hk : ∀ i, i < es.length → x ∈ (ent es i).ps → (ent es i).id ∈ ks) : RdyP es (ys ++ [x]) R := by
  refine ⟨h.sorted, fun s => ?_⟩
  rw [h.mem]
  constructor
  · rintro ⟨i, hi, hid, hr, _⟩; exact ⟨i, hi, hid, hr⟩
  · rintro ⟨i, hi, hid, hr⟩
    refine ⟨i, hi, hid, hr, ?_⟩
    by_cases hp : x ∈ (ent es i).ps
    · exact .inr (by rw [List.take_length, ← hid]; exact hk i hi hp)
    · refine .inl ?_
      rw [readyB_iff] at hr ⊢
      refine ⟨fun hm => hr.1 (List.mem_append_left _ hm), fun p hpp => ?_⟩
      rcases List.mem_append.1 (hr.2 p hpp) with h1 | h1
      · exact h1
      · exact absurd (List.mem_singleton.1 h1 ▸ hpp) hp
/-- A kid that waits for others still. -/
theorem KidP.wait {es : List Ent} (hC : Closed es) {ys R : List ByteArray} {x : ByteArray} {ks : List ByteArray} {t : Nat} (h : KidP es ys x ks t R) {i : Nat} (hi : i < es.length) (hk : ks[t]? = some (ent es i).id) (hl : leftN es (ys ++ [x]) i ≠ 0) : KidP es ys x ks (t + 1) R := by
  refine ⟨h.sorted, fun s => ?_⟩
  rw [h.mem, List.take_add_one, hk]
  constructor
  · rintro ⟨j, hj, hid, hr, h1 | h1⟩
    · exact ⟨j, hj, hid, hr, .inl h1⟩
    · exact ⟨j, hj, hid, hr, .inr (List.mem_append_left _ h1)⟩
  · rintro ⟨j, hj, hid, hr, h1 | h1⟩
    · exact ⟨j, hj, hid, hr, .inl h1⟩
    · rcases List.mem_append.1 h1 with h1 | h1
      · exact ⟨j, hj, hid, hr, .inr h1⟩
      · have e : s = (ent es i).id := by simpa using h1
        obtain rfl := hC.ids j i hj hi (by rw [hid, e])
        exact absurd (leftN_zero.2 (readyB_iff.1 hr).2) hl
theorem KidP.ins {es : List Ent} (hC : Closed es) {ys R : List ByteArray} {x : ByteArray} {ks : List ByteArray} {t : Nat} (h : KidP es ys x ks t R) (hnd : ks.Nodup) {i : Nat} (hi : i < es.length) (hk : ks[t]? = some (ent es i).id) (hp : x ∈ (ent es i).ps) (hx : x ∉ ys) (hny : (ent es i).id ∉ ys ++ [x]) (hl : leftN es (ys ++ [x]) i = 0) : KidP es ys x ks (t + 1) (insS (ent es i).id R) ∧ (ent es i).id ∉ R := by
  have hnr : readyB es ys i = false := by
    cases e : readyB es ys i with
    | false => rfl
    | true => exact absurd ((readyB_iff.1 e).2 x hp) hx
  have hnt : (ent es i).id ∉ ks.take t := fun hm => by
    obtain ⟨q, hq⟩ := List.mem_iff_getElem?.1 hm
    rw [List.getElem?_take] at hq
    split at hq
    · have := nodup_inj hnd hq hk; omega
    · cases hq
  have hnR : (ent es i).id ∉ R := fun hm => by
    obtain ⟨j, hj, hid, hr, h1⟩ := (h.mem _).1 hm
    obtain rfl := hC.ids j i hj hi hid
    rcases h1 with h1 | h1
    · rw [hnr] at h1; cases h1
    · exact hnt h1
  refine ⟨⟨insS_sorted h.sorted hnR, fun s => ?_⟩, hnR⟩
  rw [insS_mem, h.mem, List.take_add_one, hk]
  constructor
  · rintro (e | ⟨j, hj, hid, hr, h1⟩)
    · subst e
      exact ⟨i, hi, rfl, readyB_iff.2 ⟨hny, leftN_zero.1 hl⟩, .inr (by simp)⟩
    · exact ⟨j, hj, hid, hr, h1.imp id (List.mem_append_left _)⟩
  · rintro ⟨j, hj, hid, hr, h1 | h1⟩
    · exact .inr ⟨j, hj, hid, hr, .inl h1⟩
    · rcases List.mem_append.1 h1 with h1 | h1
      · exact .inr ⟨j, hj, hid, hr, .inr h1⟩
      · exact .inl (by simpa using h1)
end Go.Proofs.YtgcpoppinnnciaaGreatDoor
