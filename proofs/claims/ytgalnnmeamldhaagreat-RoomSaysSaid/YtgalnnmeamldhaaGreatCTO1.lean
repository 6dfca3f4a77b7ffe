/-
  palaverref12, Order: the plain part; the same entries told in another order.
-/
import Derived.Test.YtgalnnmeamldhaaGreatCKM2
/- palaverref12, Order: the plain part; the same entries told in another order. -/
set_option linter.unusedVariables false
set_option linter.unusedSimpArgs false
namespace Go.Proofs.YtgalnnmeamldhaaGreat
open Go Go.RowKit Go.Proofs.YtgalnnmeamldhaaGreat.Pal Go.Proofs.YtgalnnmeamldhaaGreat.Plan

structure OrdP (es : List Ent) (ys : List ByteArray) : Prop where
  nd : ys.Nodup
  sub : ∀ s ∈ ys, ∃ i, i < es.length ∧ (ent es i).id = s
  par : ∀ (j : Nat) (s : ByteArray), ys[j]? = some s → ∀ i, i < es.length → (ent es i).id = s → ∀ p ∈ (ent es i).ps, p ∈ ys.take j
def readyB (es : List Ent) (ys : List ByteArray) (j : Nat) : Bool := !hasB ys (ent es j).id && (ent es j).ps.all (hasB ys)
theorem OrdP.start (es : List Ent) : OrdP es [] := ⟨List.nodup_nil, (fun s h => by cases h), fun j s h => by cases h⟩
theorem readyB_iff {es : List Ent} {ys : List ByteArray} {j : Nat} : readyB es ys j = true ↔ (ent es j).id ∉ ys ∧ ∀ p ∈ (ent es j).ps, p ∈ ys := by
  unfold readyB
  rw [Bool.and_eq_true, Bool.not_eq_true', List.all_eq_true]
  constructor
  · rintro ⟨h1, h2⟩
    exact ⟨(fun h => by rw [hasB_iff.2 h] at h1; cases h1), fun p hp => hasB_iff.1 (h2 p hp)⟩
  · rintro ⟨h1, h2⟩
    refine ⟨?_, fun p hp => hasB_iff.2 (h2 p hp)⟩
    cases h : hasB ys (ent es j).id with
    | false => rfl
    | true => exact absurd (hasB_iff.1 h) h1
theorem OrdP.put {es : List Ent} (hC : Closed es) {ys : List ByteArray} (h : OrdP es ys) {j : Nat} (hj : j < es.length) (hr : readyB es ys j = true) : OrdP es (ys ++ [(ent es j).id]) := by
  obtain ⟨h1, h2⟩ := readyB_iff.1 hr
  refine ⟨?_, fun s hs => ?_, fun q s hq i hi hid p hp => ?_⟩
  · rw [List.nodup_append]
    refine ⟨h.nd, by simp, fun a ha b hb => ?_⟩
    rw [List.mem_singleton.1 hb]
    exact fun e => h1 (e ▸ ha)
  · rcases List.mem_append.1 hs with hs | hs
    · exact h.sub s hs
    · exact ⟨j, hj, (List.mem_singleton.1 hs).symm⟩
  · rcases Nat.lt_or_ge q ys.length with hlt | hge
    · rw [List.getElem?_append_left hlt] at hq
      rw [List.take_append_of_le_length (by omega)]
      exact h.par q s hq i hi hid p hp
    · have hql : q < (ys ++ [(ent es j).id]).length := (List.getElem?_eq_some_iff.1 hq).1
      rw [List.length_append, List.length_singleton] at hql
      obtain rfl : q = ys.length := by omega
      rw [List.getElem?_append_right (Nat.le_refl _), Nat.sub_self] at hq
      have hs : (ent es j).id = s := by simpa using hq
      obtain rfl := hC.ids i j hi hj (by rw [hid, hs])
      rw [List.take_append_of_le_length (Nat.le_refl _), List.take_length]
      exact h2 p hp
theorem ids_nodup {es : List Ent} (hC : Closed es) : ((List.range es.length).map fun i => (ent es i).id).Nodup := by
  unfold List.Nodup
  rw [List.pairwise_map]
  refine List.Pairwise.imp_of_mem ?_ List.nodup_range
  intro a b ha hb hne e
  exact hne (hC.ids a b (by simpa using ha) (by simpa using hb) e)
theorem sub_len {α : Type} {a b : List α} (ha : a.Nodup) (hb : b.Nodup) (h : ∀ x ∈ a, x ∈ b) : a.length ≤ b.length := by
  classical
  have hp := nodup_perm' ha (List.Nodup.sublist List.filter_sublist hb : (b.filter fun x => decide (x ∈ a)).Nodup) fun x => ⟨fun hx => List.mem_filter.2 ⟨h x hx, by simpa using hx⟩, fun hx => by simpa using (List.mem_filter.1 hx).2⟩
  have := hp.length_eq
  have := List.length_filter_le (fun x => decide (x ∈ a)) b
  omega
theorem sub_full {α : Type} {a b : List α} (ha : a.Nodup) (hb : b.Nodup) (h : ∀ x ∈ a, x ∈ b) (hl : b.length ≤ a.length) : ∀ x ∈ b, x ∈ a := by
  classical
  intro x hx
  apply Classical.byContradiction
  intro hn
  have := sub_len (a := x :: a) (List.nodup_cons.2 ⟨hn, ha⟩) hb (fun y hy => by
    rcases List.mem_cons.1 hy with rfl | hy
    · exact hx
    · exact h y hy)
  rw [List.length_cons] at this
  omega
/-- As long as not all are told one is ready. -/
theorem OrdP.go {es : List Ent} (hC : Closed es) {ys : List ByteArray} (h : OrdP es ys) (hl : ys.length < es.length) : ∃ j, j < es.length ∧ readyB es ys j = true := by
  have hex : ∃ j, j < es.length ∧ (ent es j).id ∉ ys := by
    apply Classical.byContradiction
    intro hn
    have := sub_len (ids_nodup hC) h.nd (fun x hx => by
      obtain ⟨i, hi, rfl⟩ := List.mem_map.1 hx
      apply Classical.byContradiction
      intro h2
      exact hn ⟨i, by simpa using hi, h2⟩)
    simp at this
    omega
  obtain ⟨j0, hj0, hn0⟩ := hex
  have hleast : ∀ k, k < es.length → (ent es k).id ∉ ys → ∃ j, j < es.length ∧ (ent es j).id ∉ ys ∧ ∀ i, i < j → (ent es i).id ∈ ys := by
    intro k
    induction k using Nat.strongRecOn with
    | ind k ih =>
      intro hk hn
      by_cases hall : ∀ i, i < k → (ent es i).id ∈ ys
      · exact ⟨k, hk, hn, hall⟩
      · have : ∃ i, i < k ∧ (ent es i).id ∉ ys := by
          apply Classical.byContradiction
          intro h2
          exact hall fun i hi => by
            apply Classical.byContradiction
            intro h3
            exact h2 ⟨i, hi, h3⟩
        obtain ⟨i, hi, hni⟩ := this
        exact ih i hi (by omega) hni
  obtain ⟨j, hj, hnj, hbl⟩ := hleast j0 hj0 hn0
  refine ⟨j, hj, readyB_iff.2 ⟨hnj, fun p hp => ?_⟩⟩
  obtain ⟨q, hq, rfl⟩ := hC.pars j p hj hp
  exact hbl q hq
theorem OrdP.len {es : List Ent} (hC : Closed es) {ys : List ByteArray} (h : OrdP es ys) : ys.length ≤ es.length := by
  have := sub_len h.nd (ids_nodup hC) (fun s hs => by
    obtain ⟨i, hi, e⟩ := h.sub s hs
    exact List.mem_map.2 ⟨i, by simpa using hi, e⟩)
  simpa using this
/-! ### The least first -/
/-- At each step the least of what is ready. -/
def LeastP (es : List Ent) (ys : List ByteArray) : Prop := ∀ (j : Nat) (s : ByteArray), ys[j]? = some s → ∀ i, i < es.length → readyB es (ys.take j) i = true → bl (ent es i).id s = false
theorem LeastP.start (es : List Ent) : LeastP es [] := fun j s h => by cases h
theorem LeastP.put {es : List Ent} {ys : List ByteArray} {x : ByteArray} (h : LeastP es ys) (hx : ∀ i, i < es.length → readyB es ys i = true → bl (ent es i).id x = false) : LeastP es (ys ++ [x]) := by
  intro j s hj i hi hr
  rcases Nat.lt_or_ge j ys.length with hlt | hge
  · rw [List.getElem?_append_left hlt] at hj
    rw [List.take_append_of_le_length (by omega)] at hr
    exact h j s hj i hi hr
  · have hjl : j < (ys ++ [x]).length := (List.getElem?_eq_some_iff.1 hj).1
    rw [List.length_append, List.length_singleton] at hjl
    obtain rfl : j = ys.length := by omega
    rw [List.getElem?_append_right (Nat.le_refl _), Nat.sub_self] at hj
    have hs : x = s := by simpa using hj
    subst hs
    rw [List.take_append_of_le_length (Nat.le_refl _), List.take_length] at hr
    exact hx i hi hr
theorem OrdP.ready {es : List Ent} (hC : Closed es) {ys : List ByteArray} (h : OrdP es ys) {j : Nat} {s : ByteArray} (hj : ys[j]? = some s) : ∃ i, i < es.length ∧ (ent es i).id = s ∧ readyB es (ys.take j) i = true := by
  obtain ⟨i, hi, hid⟩ := h.sub s (List.mem_of_getElem? hj)
  refine ⟨i, hi, hid, readyB_iff.2 ⟨fun hm => ?_, h.par j s hj i hi hid⟩⟩
  rw [hid] at hm
  obtain ⟨q, hq⟩ := List.mem_iff_getElem?.1 hm
  rw [List.getElem?_take] at hq
  split at hq
  · rename_i hqj
    have := nodup_inj h.nd hq hj
    omega
  · cases hq
/-- There is one such order. -/
theorem order_uniq {es : List Ent} (hC : Closed es) {ys zs : List ByteArray} (h1 : OrdP es ys) (l1 : LeastP es ys) (h2 : OrdP es zs) (l2 : LeastP es zs) (hl : ys.length = zs.length) : ys = zs := by
  have key : ∀ j, j ≤ ys.length → ys.take j = zs.take j := by
    intro j
    induction j with
    | zero => intro _; simp
    | succ j ih =>
      intro hj
      have e := ih (by omega)
      obtain ⟨s, hs⟩ : ∃ s, ys[j]? = some s := ⟨_, List.getElem?_eq_getElem (by omega)⟩
      obtain ⟨t, ht⟩ : ∃ t, zs[j]? = some t := ⟨_, List.getElem?_eq_getElem (by omega)⟩
      obtain ⟨a, ha, hida, hra⟩ := h1.ready hC hs
      obtain ⟨b, hb, hidb, hrb⟩ := h2.ready hC ht
      have e1 := l1 j s hs b hb (by rw [e]; exact hrb)
      have e2 := l2 j t ht a ha (by rw [← e]; exact hra)
      rw [hidb] at e1
      rw [hida] at e2
      have hst : s = t := bl_total e2 e1
      rw [List.take_add_one, List.take_add_one, e, hs, ht, hst]
  have := key ys.length (Nat.le_refl _)
  rw [List.take_length] at this
  rw [this, hl, List.take_length]
/-- The same entries in another list have the same order. -/
theorem Sub.ordP {es m : List Ent} {σ : Nat → Nat} (h : Sub es m σ) (hs : ∀ j, j < es.length → ∃ k, k < m.length ∧ σ k = j) {zs : List ByteArray} (ho : OrdP m zs) : OrdP es zs := by
  refine ⟨ho.nd, fun s hs' => ?_, fun j s hj i hi hid p hp => ?_⟩
  · obtain ⟨i, hi, hid⟩ := ho.sub s hs'
    exact ⟨σ i, h.lt i hi, by rw [← h.same i hi]; exact hid⟩
  · obtain ⟨k, hk, rfl⟩ := hs i hi
    rw [← h.same k hk] at hid hp
    exact ho.par j s hj k hk hid p hp
theorem Sub.leastP {es m : List Ent} {σ : Nat → Nat} (h : Sub es m σ) (hs : ∀ j, j < es.length → ∃ k, k < m.length ∧ σ k = j) {zs : List ByteArray} (ho : LeastP m zs) : LeastP es zs := by
  intro j s hj i hi hr
  obtain ⟨k, hk, rfl⟩ := hs i hi
  have e := h.same k hk
  have hr' : readyB m (zs.take j) k = true := by
    unfold readyB at hr ⊢
    rw [e]
    exact hr
  have := ho j s hj k hk hr'
  rw [e] at this
  exact this
/-! ### Told in that order -/
def ixE (es : List Ent) (s : ByteArray) : Nat := (findN es s).getD 0
def mE (es : List Ent) (ys : List ByteArray) : List Ent := ys.map fun s => ent es (ixE es s)
def ixO (es : List Ent) (ys : List ByteArray) (i : Nat) : Nat := ixE es (ys.getD i ByteArray.empty)
theorem mE_len (es : List Ent) (ys : List ByteArray) : (mE es ys).length = ys.length := by simp [mE]
theorem OrdP.ix {es : List Ent} (hC : Closed es) {ys : List ByteArray} (h : OrdP es ys) {s : ByteArray} (hs : s ∈ ys) : findN es s = some (ixE es s) ∧ ixE es s < es.length ∧ (ent es (ixE es s)).id = s := by
  obtain ⟨i, hi, rfl⟩ := h.sub s hs
  have hf := hC.find hi
  have e : ixE es (ent es i).id = i := by unfold ixE; rw [hf]; rfl
  rw [e]
  exact ⟨hf, hi, rfl⟩
theorem getD_of {ys : List ByteArray} {i : Nat} (h : i < ys.length) : ys[i]? = some (ys.getD i ByteArray.empty) := by
  rw [List.getD_eq_getElem?_getD, List.getElem?_eq_getElem h]; rfl
theorem mE_ent {es : List Ent} {ys : List ByteArray} {i : Nat} (h : i < ys.length) : ent (mE es ys) i = ent es (ixO es ys i) := by
  refine ent_of ?_
  unfold mE
  rw [List.getElem?_map, getD_of h]
  rfl
theorem OrdP.toSub {es : List Ent} (hC : Closed es) {ys : List ByteArray} (h : OrdP es ys) (hl : ys.length = es.length) : Sub es (mE es ys) (ixO es ys) := by
  have hm : ∀ i, i < ys.length → ys.getD i ByteArray.empty ∈ ys := fun i hi => List.mem_of_getElem? (getD_of hi)
  have hid : ∀ i, i < ys.length → (ent (mE es ys) i).id = ys.getD i ByteArray.empty := fun i hi => by
    rw [mE_ent hi]
    exact (h.ix hC (hm i hi)).2.2
  refine ⟨hC, ⟨by rw [mE_len, hl]; exact hC.len, fun i hi => ?_, fun i hi => ?_, fun i j hi hj e => ?_, fun i s hi hs => ?_⟩, fun i hi => ?_, fun i hi => ?_⟩
  all_goals rw [mE_len] at hi
  · rw [mE_ent hi]; exact hC.lo _ (h.ix hC (hm i hi)).2.1
  · rw [mE_ent hi]; exact hC.hi _ (h.ix hC (hm i hi)).2.1
  · rw [mE_len] at hj
    rw [hid i hi, hid j hj] at e
    exact nodup_inj h.nd (getD_of hi) (by rw [e]; exact getD_of hj)
  · rw [mE_ent hi] at hs
    have hix := h.ix hC (hm i hi)
    have hp := h.par i _ (getD_of hi) _ hix.2.1 hix.2.2 s hs
    obtain ⟨q, hq⟩ := List.mem_iff_getElem?.1 hp
    rw [List.getElem?_take] at hq
    split at hq
    · rename_i hqi
      have hql := (List.getElem?_eq_some_iff.1 hq).1
      refine ⟨q, hqi, ?_⟩
      rw [hid q hql, List.getD_eq_getElem?_getD, hq]
      rfl
    · cases hq
  · exact (h.ix hC (hm i hi)).2.1
  · exact mE_ent hi
/-- What is told of the one is told of the other. -/
theorem turned {es : List Ent} (hC : Closed es) {ys : List ByteArray} (h : OrdP es ys) (hl : ys.length = es.length) (h0 : 0 < es.length) (hk : (ent es 0).kind = 1) :
    ∃ r', rootN (ent es 0).id (mE es ys) = some r' ∧ MSub (goodS es 0) (goodS (mE es ys) r') (ixO es ys) := by
  have hS := h.toSub hC hl
  have hall := sub_full h.nd (ids_nodup hC) (fun s hs => by
    obtain ⟨i, hi, e⟩ := h.sub s hs
    exact List.mem_map.2 ⟨i, by simpa using hi, e⟩) (by simp [hl])
  have hsur : ∀ j, j < es.length → ∃ k, k < (mE es ys).length ∧ ixO es ys k = j := fun j hj => by
    have hm := hall _ (List.mem_map.2 ⟨j, by simpa using hj, rfl⟩)
    obtain ⟨k, hk⟩ := List.mem_iff_getElem?.1 hm
    have hkl := (List.getElem?_eq_some_iff.1 hk).1
    refine ⟨k, by rw [mE_len]; exact hkl, ?_⟩
    unfold ixO ixE
    rw [List.getD_eq_getElem?_getD, hk]
    show (findN es (ent es j).id).getD 0 = j
    rw [hC.find hj]
    rfl
  obtain ⟨r', hr', he⟩ := hsur 0 h0
  have hsm := hS.same r' hr'
  rw [he] at hsm
  have hkr : (ent (mE es ys) r').kind = 1 := by rw [hsm]; exact hk
  refine ⟨r', ?_, hS, hr', he, hk, fun i hi => ?_, fun j hj _ => hsur j hj⟩
  · unfold rootN
    rw [← hsm, hS.cm.find hr']
    simp [hkr]
  · show goodL (mE es ys) r' i = goodL es 0 (ixO es ys i)
    have := hS.good hr' hkr i hi
    rw [he] at this
    exact this
end Go.Proofs.YtgalnnmeamldhaaGreat
