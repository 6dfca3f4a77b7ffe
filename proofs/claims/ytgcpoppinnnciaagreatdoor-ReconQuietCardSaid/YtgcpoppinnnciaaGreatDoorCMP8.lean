/-
  slices.SortFunc over entries, by among's closure.
-/
import Derived.Test.YtgcpoppinnnciaaGreatDoorCMP7
import Derived.Test.YtgcpoppinnnciaaGreatDoorCLay
/- slices.SortFunc over entries, by among's closure. -/
set_option linter.unusedVariables false
set_option linter.unusedSimpArgs false
namespace Go.Proofs.YtgcpoppinnnciaaGreatDoor
open Go Go.RowKit Go.Proofs.YtgcpoppinnnciaaGreatDoor.Pal Go.Proofs.YtgcpoppinnnciaaGreatDoor.Plan

theorem row_of_cells {w : World} {e : TypeId} {size g o cap n : Nat} {cur : Array Value} {xs : List Value} (hh : w.heap[g]? = some (.cells cur e (0, 0))) (hn : n ≤ cap) (hm : cap ≤ maxLen) (hs : o + cap * size ≤ cur.size) (hl : xs.length = n * size) (hc : ∀ t, t < n * size → cur[o + t]? = xs[t]?) :
    Row w e size (.slice (some ⟨g, o, none⟩) n cap) n xs := by
  refine ⟨hl, .inr ⟨g, o, cap, cur, rfl, hh, hn, hm, hs, ?_⟩⟩
  apply List.ext_getElem?
  intro t
  rw [List.getElem?_take]
  split
  · rename_i ht
    rw [List.getElem?_drop, Array.getElem?_toList]
    exact hc t ht
  · rename_i ht
    rw [List.getElem?_eq_none (by omega)]
/-- What the sort's world is. -/
theorem put_heap (w : World) (blk off n : Nat) (F : Array Value) (os : Array Obj) {cur : Array Value} {e : TypeId} {fr : Nat × Nat} (h : w.heap[blk]? = some (.cells cur e fr)) :
    (Sort.grow (Sort.putRow id (Sort.ahead w n) blk off F) os).heap[blk]? = some (.cells (Sort.putCells id off F cur) e fr) := by
  have hlt := lt_of_heap h
  have h1 : (Sort.putRow id (Sort.ahead w n) blk off F).heap[blk]? = some (.cells (Sort.putCells id off F cur) e fr) := by
    show ((Sort.ahead w n).heap.modify blk _)[blk]? = _
    rw [Array.getElem?_modify]
    have : (Sort.ahead w n).heap[blk]? = some (.cells cur e fr) := h
    rw [this]
    simp [Sort.onCells]
  rw [Sort.heap_grow_old _ _ (by simpa using hlt)]
  exact h1
theorem put_unch (w : World) (blk off n : Nat) (F : Array Value) (os : Array Obj) : Unch (fun k => k = blk) w (Sort.grow (Sort.putRow id (Sort.ahead w n) blk off F) os) := by
  refine ⟨rfl, rfl, rfl, by simp [Sort.putRow, Sort.mapBlock, Sort.ahead], fun k hk hne => ?_⟩
  rw [Sort.heap_grow_old _ _ (by simpa using hk)]
  show ((Sort.ahead w n).heap.modify blk _)[k]? = _
  rw [Array.getElem?_modify]
  have : blk ≠ k := fun e => hne e.symm
  simp [this, Sort.ahead]
theorem putCells_get (off : Nat) (F cur : Array Value) {t : Nat} (ht : t < F.size) (hc : off + t < cur.size) : (Sort.putCells id off F cur)[off + t]? = some F[t]! := by
  unfold Sort.putCells
  rw [Array.getElem?_mapIdx, Array.getElem?_eq_getElem hc]
  simp [ht]
/-- Places in l. -/
abbrev Pn (l : List Ent) := { i : Nat // i < l.length }
def encP (l : List Ent) (x : Pn l) : List Value := (ent l x.1).cells
theorem cmpI_neg (a b : Nat) : cmpI a b < 0 ↔ a < b := by
  unfold cmpI
  split
  · omega
  · split <;> omega
theorem cmpI_zero (a b : Nat) : cmpI a b = 0 ↔ a = b := by
  unfold cmpI
  split
  · omega
  · split <;> omega
theorem cmpS_neg (s t : ByteArray) : cmpS s t < 0 ↔ bl s t = true := by
  unfold cmpS
  split
  · rename_i h; simp [h]
  · rename_i h
    split
    · simp [h]
    · simp [h]
theorem cmpE_lt (l : List Ent) (i j : Nat) : decide (cmpE l i j < 0) = lessE l i j := by
  unfold cmpE lessE
  rw [Bool.eq_iff_iff]
  simp only [decide_eq_true_eq, Bool.or_eq_true, Bool.and_eq_true]
  split
  · rename_i h
    have h := (cmpI_zero _ _).1 h
    rw [cmpS_neg]
    constructor
    · intro h1; exact .inr ⟨h, h1⟩
    · rintro (h1 | ⟨_, h1⟩)
      · omega
      · exact h1
  · rename_i h
    have h : ¬ cnt l i = cnt l j := fun e => h ((cmpI_zero _ _).2 e)
    rw [cmpI_neg]
    constructor
    · intro h1; exact .inl h1
    · rintro (h1 | ⟨h1, _⟩)
      · exact h1
      · exact absurd h1 h
theorem lessE_swo {l : List Ent} (hC : Closed l) : Sort.SWO (ltOf fun x y : Pn l => cmpE l x.1 y.1) where
  irrefl x := by unfold ltOf; rw [cmpE_lt]; exact lessE_irrefl _ _
  trans x y z h1 h2 := by unfold ltOf at *; rw [cmpE_lt] at *; exact lessE_trans h1 h2
  ntrans x y z h1 h2 := by
    unfold ltOf at *
    rw [cmpE_lt] at *
    cases h3 : lessE l x.1 z.1 with
    | false => rfl
    | true =>
      cases h4 : lessE l y.1 x.1 with
      | true => rw [lessE_trans h4 h3] at h2; cases h2
      | false =>
        have := hC.lessE_total x.2 y.2 h1 h4
        rw [this] at h3
        rw [h3] at h2
        cases h2
section
variable {w : World} {l : List Ent} {r : Nat} {q : PB} {G : Nat → Bool}
def toPn (l : List Ent) (hr : r < l.length) (i : Nat) : Pn l := if h : i < l.length then ⟨i, h⟩ else ⟨r, hr⟩
theorem toPn_val {hr : r < l.length} {i : Nat} (h : i < l.length) : (toPn l hr i).1 = i := by unfold toPn; rw [dif_pos h]
theorem sortE_ok (h : PSet w l r q G) {bx : Nat} (hx : w.heap[bx]? = some (.cells #[.pointer (some ⟨q.bs, 0, none⟩)] 238 (0, 0))) {blk off c m : Nat} {L0 : List Nat} (hm3 : m ≤ 300) (hL : ∀ j ∈ L0, j < l.length) (hnd : L0.Nodup)
    (hrow : Row w 114 5 (.slice (some ⟨blk, off, none⟩) m c) m (ecells (L0.map (ent l)))) :
    Calls Tryz.prog 205 #[.slice (some ⟨blk, off, none⟩) m c, .func (.func 206) #[] #[.pointer (some ⟨bx, 0, none⟩)]] w fun e w' =>
      e = .returned (.tuple #[]) ∧ ∃ L : List Nat, L.Perm L0 ∧ L.Pairwise (fun i j => lessE l i j = true) ∧ Row w' 114 5 (.slice (some ⟨blk, off, none⟩) m c) m (ecells (L.map (ent l))) ∧ Unch (fun k => k = blk) w w' := by
  have : Inhabited (Pn l) := ⟨⟨r, h.hr⟩⟩
  have hlen : L0.length = m := by have := hrow.1; rw [ecells_len, List.length_map] at this; omega
  obtain ⟨cur, hblk⟩ := hrow.blk (k := blk) rfl
  have hmm := hrow.max
  obtain ⟨d, hd⟩ : ∃ d : Array (Pn l), d = (L0.map (toPn l h.hr)).toArray := ⟨_, rfl⟩
  have hds : d.size = m := by rw [hd]; simp [hlen]
  have hdg : ∀ j, (hj : j < m) → (d[j]!).1 = L0.getD j 0 := fun j hj => by
    have hj0 : j < L0.length := by omega
    have hj1 : j < d.size := by omega
    have e1 : d[j]! = toPn l h.hr L0[j] := by
      subst hd
      rw [getElem!_pos _ j hj1]
      simp
    rw [e1, toPn_val (hL _ (List.getElem_mem hj0)), List.getD_eq_getElem?_getD, List.getElem?_eq_getElem hj0]
    rfl
  have hH : Sort.HoldsK (encP l) 5 w blk off d := by
    intro t ht
    rw [Sort.size_flatK] at ht
    rw [Sort.get_flatK _ _ _ _ ht]
    refine ⟨?_, blk_free hblk _⟩
    have h5 : t / 5 < m := by omega
    have hk : t % 5 < (encP l d[t / 5]!).length := by show t % 5 < (ent l _).cells.length; rw [cells_len]; omega
    have hu : (ecells (L0.map (ent l)))[t]? = some ((encP l d[t / 5]!)[t % 5]!) := by
      have e1 : (L0.map (ent l))[t / 5]? = some (ent l (L0.getD (t / 5) 0)) := by
        rw [List.getElem?_map, List.getD_eq_getElem?_getD, List.getElem?_eq_getElem (by omega)]; rfl
      have e2 := ecells_get _ (t / 5) (t % 5) _ ((encP l d[t / 5]!)[t % 5]!) e1 (by
        rw [← hdg _ h5]
        show (encP l d[t / 5]!)[t % 5]? = _
        rw [List.getElem?_eq_getElem hk]
        congr 1
        exact (getElem!_pos (encP l d[t / 5]!) (t % 5) hk).symm)
      rw [show t / 5 * 5 + t % 5 = t by omega] at e2
      exact e2
    exact hrow.at rfl hu
  have hne : bx ≠ blk := fun e => by
    rw [← e, hx] at hblk
    injection hblk with hblk
    injection hblk with _ hblk
    exact absurd hblk (by decide)
  have hcmp : CmpLays Tryz.prog 206 #[.pointer (some ⟨bx, 0, none⟩)] (encP l) 5 (fun x y : Pn l => cmpE l x.1 y.1) blk off d.size w := fun mm os dk hs x y => by
    have hu : Unch (fun k => k = blk) w (sortWorldK (encP l) 5 w blk off mm dk os) := put_unch _ _ _ _ _ _
    have hW := h.other hblk (by decide) hu
    have hxW := blk_cell (hu.heap hx hne) (j := 0) rfl
    exact (among1_ok hW hxW x.2 y.2).mono fun e w' ⟨h1, h2⟩ => ⟨h1, h2⟩
  have hcon := AnyQ.slices_SortFunc Tryz.sortE 5 (fun w => Tryz.isAgg114 w) (fun w => Tryz.sizeOf114 w) (encP l) (fun x => rfl) (fun x v hv => by
    obtain ⟨A, mm, cc, hpv⟩ := h.sz.pv x.1 x.2
    unfold encP Ent.cells at hv
    simp at hv
    rcases hv with rfl | rfl | rfl | rfl | rfl <;> first | rfl | (rw [hpv]; rfl)) (fun x y : Pn l => cmpE l x.1 y.1) (lessE_swo h.cl) 206 #[.pointer (some ⟨bx, 0, none⟩)] blk off c d w
    (enters_of Tryz.func206 (by kernel_rfl) rfl) hcmp hH (lt_of_heap hblk) (by rw [hds]; omega)
  rw [hds] at hcon
  refine Calls.mono hcon ?_
  rintro e w' ⟨rfl, d', n, os, hp, hs, rfl⟩
  obtain ⟨hps, _, hpp⟩ := hp
  have hds' : d'.size = m := by rw [hps, hds]
  have hpl : d'.toList.Perm d.toList := by
    have e1 : d'.extract 0 m = d' := by rw [← hds']; simp
    have e2 : d.extract 0 m = d := by rw [← hds]; simp
    rw [e1, e2] at hpp
    exact hpp
  have hmapd : d.toList.map (·.1) = L0 := by
    apply List.ext_getElem?
    intro j
    rw [List.getElem?_map, Array.getElem?_toList]
    by_cases hj : j < m
    · have := hdg j hj
      rw [getElem!_pos d j (by omega)] at this
      rw [Array.getElem?_eq_getElem (by omega), Option.map_some, this, List.getD_eq_getElem?_getD, List.getElem?_eq_getElem (by omega)]
      rfl
    · rw [Array.getElem?_eq_none (by omega), List.getElem?_eq_none (by omega)]
      rfl
  have hLp : (d'.toList.map (·.1)).Perm L0 := by rw [← hmapd]; exact hpl.map _
  have hget : ∀ j, (hj : j < m) → (d'.toList.map (·.1))[j]? = some (d'[j]!).1 := fun j hj => by
    rw [List.getElem?_map, Array.getElem?_toList, Array.getElem?_eq_getElem (by omega), getElem!_pos d' j (by omega)]
    rfl
  have hlen' : (d'.toList.map (·.1)).length = m := by simp [hds']
  refine ⟨rfl, d'.toList.map (·.1), hLp, ?_, ?_, put_unch _ _ _ _ _ _⟩
  · rw [List.pairwise_iff_getElem]
    intro i j hi hj hij
    have hi' : i < m := by omega
    have hj' : j < m := by omega
    have e1 : (d'.toList.map (·.1))[i] = (d'[i]!).1 := by
      have := hget i hi'
      rw [List.getElem?_eq_getElem hi] at this
      exact Option.some.inj this
    have e2 : (d'.toList.map (·.1))[j] = (d'[j]!).1 := by
      have := hget j hj'
      rw [List.getElem?_eq_getElem hj] at this
      exact Option.some.inj this
    have hsij := hs i j (Nat.zero_le _) hij hj'
    unfold ltOf at hsij
    rw [cmpE_lt] at hsij
    rw [e1, e2]
    cases h3 : lessE l (d'[i]!).1 (d'[j]!).1 with
    | true => rfl
    | false =>
      have heq := h.cl.lessE_total (d'[i]!).2 (d'[j]!).2 h3 hsij
      have hnd' : (d'.toList.map (·.1)).Nodup := hLp.nodup_iff.2 hnd
      have := nodup_inj hnd' (hget i hi') (by rw [heq]; exact hget j hj')
      omega
  · obtain ⟨_, hform⟩ := hrow
    rcases hform with ⟨h0, _⟩ | ⟨g', o', cap, cur2, hv, hh, hn, hm2, hs2, _⟩
    · cases h0
    injection hv with hv1 hv2 hv3
    injection hv1 with hv1
    injection hv1 with hv1 hv4
    subst hv1; subst hv4; subst hv3
    refine row_of_cells (put_heap w blk off n _ os hh) hn hm2 (by simpa [Sort.putCells] using hs2) (by rw [ecells_len, List.length_map, hlen']) fun t ht => ?_
    have h5 : t / 5 < m := by omega
    have hcs : off + t < cur2.size := by
      have : m * 5 ≤ c * 5 := Nat.mul_le_mul_right _ hn
      omega
    rw [putCells_get _ _ _ (by rw [Sort.size_flatK, hds']; exact ht) hcs, Sort.get_flatK _ _ _ _ (by rw [hds']; exact ht)]
    have hk : t % 5 < (encP l d'[t / 5]!).length := by show t % 5 < (ent l _).cells.length; rw [cells_len]; omega
    have e1 : ((d'.toList.map (·.1)).map (ent l))[t / 5]? = some (ent l (d'[t / 5]!).1) := by rw [List.getElem?_map, hget _ h5]; rfl
    have e2 := ecells_get _ (t / 5) (t % 5) _ ((encP l d'[t / 5]!)[t % 5]!) e1 (by
      show (encP l d'[t / 5]!)[t % 5]? = _
      rw [List.getElem?_eq_getElem hk]
      congr 1
      exact (getElem!_pos (encP l d'[t / 5]!) (t % 5) hk).symm)
    rw [show t / 5 * 5 + t % 5 = t by omega] at e2
    exact e2.symm
end
end Go.Proofs.YtgcpoppinnnciaaGreatDoor
