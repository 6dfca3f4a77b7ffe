/-
  A map keyed by strings, as a list of its entries in the order in which they were laid: made, looked up, stored into, counted, ranged over.
-/
import Derived.Test.YtgalnnmeamldhaaGreatCBase
import Derived.Maps.OwnSet
import Derived.Maps.RangeRun
import Derived.Maps.RangeWalk
import Derived.StringKeys
/- A map keyed by strings, as a list of its entries in the order in which they were laid: made, looked up, stored into, counted, ranged over. -/
set_option linter.unusedVariables false
set_option linter.unusedSimpArgs false
namespace Go.Proofs.YtgalnnmeamldhaaGreat.Pal
open Go Go.RowKit Go.ChangeMaps
open Go.Maps (Keyed string_keyed)
open Go.WideMaps (keyOf_string_mk)

abbrev Asc := List (ByteArray × Value)
def mget (m : Asc) (k : ByteArray) : Option Value := (m.find? fun p => decide (p.1 = k)).map (·.2)
def mput (m : Asc) (k : ByteArray) (v : Value) : Asc := if (mget m k).isSome then m.map (fun p => if p.1 = k then (p.1, v) else p) else m ++ [(k, v)]
theorem mget_none {m : Asc} {k : ByteArray} : mget m k = none ↔ ∀ p ∈ m, p.1 ≠ k := by
  unfold mget
  rw [Option.map_eq_none_iff, List.find?_eq_none]
  simp
theorem mget_mem {m : Asc} {k : ByteArray} {v : Value} (h : mget m k = some v) : (k, v) ∈ m := by
  unfold mget at h
  obtain ⟨p, hp, rfl⟩ := Option.map_eq_some_iff.1 h
  have h1 := List.find?_some hp
  have h2 := List.mem_of_find?_eq_some hp
  obtain ⟨a, b⟩ := p
  simp at h1; subst h1
  exact h2
theorem mget_of {m : Asc} (hn : (m.map (·.1)).Nodup) {k : ByteArray} {v : Value} (h : (k, v) ∈ m) : mget m k = some v := by
  induction m with
  | nil => cases h
  | cons p m ih =>
    simp only [List.map_cons, List.nodup_cons] at hn
    unfold mget
    rw [List.find?_cons]
    rcases List.mem_cons.1 h with h | h
    · rw [← h]; simp
    · have : p.1 ≠ k := fun e => hn.1 (by rw [e]; exact List.mem_map.2 ⟨_, h, rfl⟩)
      simp only [decide_eq_true_eq, this, decide_false]
      exact ih hn.2 h
theorem mget_isSome {m : Asc} {k : ByteArray} : (mget m k).isSome = true ↔ k ∈ m.map (·.1) := by
  constructor
  · intro h
    obtain ⟨v, hv⟩ := Option.isSome_iff_exists.1 h
    exact List.mem_map.2 ⟨_, mget_mem hv, rfl⟩
  · intro h
    cases hg : mget m k with
    | some v => rfl
    | none =>
      obtain ⟨p, hp, rfl⟩ := List.mem_map.1 h
      exact absurd rfl (mget_none.1 hg p hp)
theorem mput_keys {m : Asc} {k : ByteArray} {v : Value} : (mput m k v).map (·.1) = if (mget m k).isSome then m.map (·.1) else m.map (·.1) ++ [k] := by
  unfold mput
  by_cases h : (mget m k).isSome = true
  · rw [if_pos h, if_pos h, List.map_map]
    apply List.map_congr_left
    intro p hp
    simp only [Function.comp]
    split <;> rfl
  · rw [if_neg h, if_neg h]
    simp
theorem mput_nodup {m : Asc} {k : ByteArray} {v : Value} (h : (m.map (·.1)).Nodup) : ((mput m k v).map (·.1)).Nodup := by
  rw [mput_keys]
  split
  · exact h
  · rename_i hk
    exact List.nodup_append.2 ⟨h, by simp, fun a ha b hb e => by simp at hb; subst hb; subst e; exact hk (mget_isSome.2 ha)⟩
theorem mget_mput {m : Asc} {k j : ByteArray} {v : Value} : mget (mput m k v) j = if j = k then some v else mget m j := by
  unfold mput
  by_cases h : (mget m k).isSome = true
  · rw [if_pos h]
    have hk := mget_isSome.1 h
    clear h
    induction m with
    | nil => cases hk
    | cons p m ih =>
      unfold mget at ih ⊢
      rw [List.map_cons, List.find?_cons, List.find?_cons]
      by_cases hp : p.1 = k
      · by_cases hj : j = k
        · subst hj; simp [hp]
        · have : ¬ k = j := fun e => hj e.symm
          simp only [hp, if_true, this, decide_false, hj, if_false]
          rcases Classical.em (k ∈ m.map (·.1)) with hk2 | hk2
          · rw [ih hk2, if_neg hj]
          · have hm : m.map (fun p => if p.1 = k then (p.1, v) else p) = m := by
              rw [List.map_congr_left (g := id)]
              · simp
              · intro q hq
                rw [if_neg (fun e => hk2 (by rw [← e]; exact List.mem_map.2 ⟨q, hq, rfl⟩))]
                rfl
            rw [hm]
      · have hk2 : k ∈ m.map (·.1) := by
          rcases List.mem_cons.1 hk with h | h
          · exact absurd h.symm hp
          · exact h
        rw [if_neg hp]
        by_cases hj : p.1 = j
        · have : j ≠ k := fun e => hp (hj.trans e)
          simp [hj, this]
        · simp only [hj, decide_false]
          exact ih hk2
  · rw [if_neg h]
    have hk : ∀ p ∈ m, p.1 ≠ k := mget_none.1 (by cases hg : mget m k with | none => rfl | some v => rw [hg] at h; exact absurd rfl h)
    unfold mget
    rw [List.find?_append]
    by_cases hj : j = k
    · subst hj
      have : m.find? (fun p => decide (p.1 = j)) = none := by rw [List.find?_eq_none]; simpa using hk
      rw [this]; simp
    · have : ¬ k = j := fun e => hj e.symm
      rw [if_neg hj]
      cases hf : m.find? (fun p => decide (p.1 = j)) <;> simp [this]

theorem set_same {α : Type} {l : List α} {i : Nat} {x : α} (h : l[i]? = some x) : l.set i x = l := by
  apply List.ext_getElem?
  intro j
  rw [List.getElem?_set]
  split
  · rename_i e
    subst e
    split
    · exact h.symm
    · rename_i hn
      rw [List.getElem?_eq_none (by omega)]
  · rfl
theorem nodup_inj {α : Type} {l : List α} (h : l.Nodup) {i j : Nat} {x : α} (hi : l[i]? = some x) (hj : l[j]? = some x) : i = j := by
  obtain ⟨h1, h2⟩ := List.getElem?_eq_some_iff.1 hi
  obtain ⟨h3, h4⟩ := List.getElem?_eq_some_iff.1 hj
  have hp := List.pairwise_iff_getElem.1 h
  rcases Nat.lt_trichotomy i j with hlt | he | hlt
  · exact absurd (h2.trans h4.symm) (hp i j h1 h3 hlt)
  · exact he
  · exact absurd (h4.trans h2.symm) (hp j i h3 h1 hlt)
structure SmE (es : Array MapEntry) (clock : Nat) (m : Asc) : Prop where
  ents : es.toList.map (fun x => (x.key, x.val)) = m.map fun p => (Value.string p.1, p.2)
  one : (m.map (·.1)).Nodup
  small : ∀ p ∈ m, p.1.size ≤ maxLen
  bornNodup : (es.toList.map (·.born)).Nodup
  bornLt : ∀ x ∈ es.toList, x.born < clock
/-- Block b is a map with the entries m. -/
def Sm (w : World) (b : Nat) (m : Asc) : Prop := ∃ es clock, w.heap[b]? = some (.map es clock) ∧ SmE es clock m
section
variable {es : Array MapEntry} {clock : Nat} {m : Asc}
theorem SmE.mem (h : SmE es clock m) {x : MapEntry} (hx : x ∈ es.toList) : ∃ p ∈ m, x.key = .string p.1 ∧ x.val = p.2 := by
  have : (x.key, x.val) ∈ m.map fun p => (Value.string p.1, p.2) := by rw [← h.ents]; exact List.mem_map.2 ⟨x, hx, rfl⟩
  obtain ⟨p, hp, he⟩ := List.mem_map.1 this
  injection he with h1 h2
  exact ⟨p, hp, h1.symm, h2.symm⟩
theorem SmE.of (h : SmE es clock m) {p : ByteArray × Value} (hp : p ∈ m) : ∃ x ∈ es.toList, x.key = .string p.1 ∧ x.val = p.2 := by
  have : (Value.string p.1, p.2) ∈ es.toList.map (fun x => (x.key, x.val)) := by rw [h.ents]; exact List.mem_map.2 ⟨p, hp, rfl⟩
  obtain ⟨x, hx, he⟩ := List.mem_map.1 this
  injection he with h1 h2
  exact ⟨x, hx, h1, h2⟩
theorem SmE.len (h : SmE es clock m) : es.size = m.length := by
  have := congrArg List.length h.ents
  simpa using this
theorem SmE.keyed {P : Program} {k : TypeId} (hk : P.underlying k = some .string) (h : SmE es clock m) : ∀ e ∈ es.toList, ∃ l, keyOf P k e.key = some l := fun e he => by
  obtain ⟨p, hp, h1, _⟩ := h.mem he
  rw [h1]
  exact ⟨_, keyOf_string_mk hk (h.small p hp)⟩
end
section
variable {w w1 : World} {b : Nat} {m : Asc} {X : Nat → Prop}
theorem Sm.lt (h : Sm w b m) : b < w.heap.size := by obtain ⟨es, clock, h1, _⟩ := h; exact lt_of_heap h1
theorem Sm.unch (h : Sm w b m) (hu : Unch X w w1) (hX : ¬ X b) : Sm w1 b m := by obtain ⟨es, clock, h1, h2⟩ := h; exact ⟨es, clock, hu.heap h1 hX, h2⟩
theorem Sm.made (w : World) : Sm (w.alloc (.map #[] 0)) w.heap.size [] := ⟨#[], 0, blk_new w _, ⟨rfl, List.nodup_nil, (fun p hp => by cases hp), (by simp), (fun x hx => by simp at hx)⟩⟩
theorem Sm.one (h : Sm w b m) : (m.map (·.1)).Nodup := by obtain ⟨_, _, _, h2⟩ := h; exact h2.one
theorem Sm.small (h : Sm w b m) : ∀ p ∈ m, p.1.size ≤ maxLen := by obtain ⟨_, _, _, h2⟩ := h; exact h2.small
end
theorem unch_setBlock {w : World} {K : Nat} (o : Obj) : Unch (fun k => k = K) w (setBlock w K o) :=
  ⟨rfl, rfl, rfl, by simp [setBlock], fun k _ hk => by simp [setBlock, Array.getElem?_setIfInBounds, Ne.symm hk]⟩
theorem heap_setBlock {w : World} {K : Nat} (o : Obj) (hK : K < w.heap.size) : (setBlock w K o).heap[K]? = some o := by
  simp [setBlock, Array.getElem?_setIfInBounds, hK]
section
variable {P : Program} {t k e : TypeId}
/-- m[k] (c = false), m[k] with ok (c = true). -/
theorem sm_look {w : World} {b : Nat} {m : Asc} (c : Bool) (h : Sm w b m) (ht : P.underlying t = some (.map k e)) (hk : P.underlying k = some .string) {z : Value} (hz : (zeroValue e).run P w = .ok z w) (s : ByteArray) (hs : s.size ≤ maxLen) :
    (Instr.lookup t (.map (some b)) (.string s) c).run P w = .ok (if c then .tuple #[(mget m s).getD z, .bool (mget m s).isSome] else (mget m s).getD z) w := by
  obtain ⟨es, clock, hK, hc⟩ := h
  have K := string_keyed hk
  have hl := keyOf_string_mk hk hs
  rcases K.find w hl es.toList (hc.keyed hk) with ⟨h1, h2⟩ | ⟨j, e0, h1, h2, h3⟩
  · have hn : mget m s = none := mget_none.2 fun p hp e1 => by
      obtain ⟨x, hx, hxk, _⟩ := hc.of hp
      exact h2 x hx (by rw [hxk, e1])
    cases c <;> simp [Instr.lookup, run_underlying ht, MapKept.run_getObj_map hK, K.check w _ hl, h1, hz, hn]
  · obtain ⟨p, hp, hpk, hpv⟩ := hc.mem (List.mem_of_getElem? h2)
    rw [h3] at hpk
    injection hpk with hpk
    have hg : mget m s = some e0.val := mget_of hc.one (by rw [hpv, hpk]; exact hp)
    cases c <;> simp [Instr.lookup, run_underlying ht, MapKept.run_getObj_map hK, K.check w _ hl, h1, hg]
/-- of a nil map. -/
theorem sm_look_nil {w : World} (c : Bool) (ht : P.underlying t = some (.map k e)) (hk : P.underlying k = some .string) {z : Value} (hz : (zeroValue e).run P w = .ok z w) (s : ByteArray) (hs : s.size ≤ maxLen) :
    (Instr.lookup t (.map none) (.string s) c).run P w = .ok (if c then .tuple #[z, .bool false] else z) w := by
  have K := string_keyed hk
  have hl := keyOf_string_mk hk hs
  have hf : (Instr.findKey k (.string s) []).run P w = .ok none w := by
    rcases K.find w hl [] (fun e he => by cases he) with ⟨h1, _⟩ | ⟨j, e0, _, h2, _⟩
    · exact h1
    · cases h2
  cases c <;> simp [Instr.lookup, run_underlying ht, K.check w _ hl, hz, hf]
/-- m[k] = v. -/
theorem sm_put {w : World} {b : Nat} {m : Asc} (h : Sm w b m) (ht : P.underlying t = some (.map k e)) (hk : P.underlying k = some .string) (s : ByteArray) (hs : s.size ≤ maxLen) (v : Value) :
    ∃ w1, (Instr.mapUpdate t (.map (some b)) (.string s) v).run P w = .ok () w1 ∧ Sm w1 b (mput m s v) ∧ Unch (fun j => j = b) w w1 := by
  obtain ⟨es, clock, hK, hc⟩ := h
  have K := string_keyed hk
  have hl := keyOf_string_mk hk hs
  rcases K.find w hl es.toList (hc.keyed hk) with ⟨h1, h2⟩ | ⟨j, e0, h1, h2, h3⟩
  · have hn : mget m s = none := mget_none.2 fun p hp e1 => by
      obtain ⟨x, hx, hxk, _⟩ := hc.of hp
      exact h2 x hx (by rw [hxk, e1])
    refine ⟨setBlock w b (.map (es.push ⟨.string s, v, clock⟩) (clock + 1)), ?_, ⟨_, _, heap_setBlock _ (lt_of_heap hK), ⟨?_, mput_nodup hc.one, ?_, ?_, ?_⟩⟩, unch_setBlock _⟩
    · simp [Instr.mapUpdate, run_underlying ht, MapKept.run_getObj_map hK, K.check w false hl, h1, MapKept.run_setObj_map _ hK, Result.andThen, setBlock]
    · simp only [Array.toList_push, List.map_append, List.map_cons, List.map_nil, hc.ents, mput, hn, Option.isSome_none, Bool.false_eq_true, if_false]
    · intro p hp
      simp only [mput, hn, Option.isSome_none, Bool.false_eq_true, if_false, List.mem_append, List.mem_singleton] at hp
      rcases hp with hp | rfl
      · exact hc.small p hp
      · exact hs
    · simp only [Array.toList_push, List.map_append, List.map_cons, List.map_nil]
      refine List.nodup_append.2 ⟨hc.bornNodup, by simp, fun u hu v hv e1 => ?_⟩
      simp only [List.mem_singleton] at hv
      obtain ⟨x, hx, rfl⟩ := List.mem_map.1 hu
      have := hc.bornLt x hx
      omega
    · intro x hx
      simp at hx
      rcases hx with hx | rfl
      · have := hc.bornLt x (by simpa using hx); omega
      · simp
  · obtain ⟨p, hp, hpk, hpv⟩ := hc.mem (List.mem_of_getElem? h2)
    rw [h3] at hpk
    injection hpk with hpk
    have hj : es[j]? = some e0 := by simpa using h2
    have hg : mget m s = some e0.val := mget_of hc.one (by rw [hpv, hpk]; exact hp)
    have hkeyf : ∀ e', es[j]? = some e' → ({ e' with key := .string s, val := v } : MapEntry).key = e'.key := fun e' he' => by rw [hj] at he'; cases he'; exact h3.symm
    have hL : (es.modify j fun e' => { e' with key := .string s, val := v }).toList = es.toList.set j { e0 with key := .string s, val := v } := by rw [Array.toList_modify, modify_eq_set _ _ _ _ h2]
    have hjl : j < es.toList.length := (List.getElem?_eq_some_iff.1 h2).1
    have hmapb : (es.toList.set j { e0 with key := .string s, val := v }).map (·.born) = es.toList.map (·.born) := by
      rw [List.map_set]
      exact set_same (by simp [h2])
    refine ⟨setBlock w b (.map (es.modify j fun e' => { e' with key := .string s, val := v }) clock), ?_, ⟨_, _, heap_setBlock _ (lt_of_heap hK), ⟨?_, mput_nodup hc.one, ?_, by rw [hL, hmapb]; exact hc.bornNodup, ?_⟩⟩, unch_setBlock _⟩
    · simp [Instr.mapUpdate, run_underlying ht, MapKept.run_getObj_map hK, K.check w false hl, h1, hj, h3, K.stays w hl, MapKept.run_setObj_map _ hK, Result.andThen, setBlock]
    · rw [hL, List.map_set]
      simp only [mput, hg, Option.isSome_some, if_true]
      apply List.ext_getElem?
      intro i
      have hi := congrArg (fun l => l[i]?) hc.ents
      simp only [List.getElem?_map] at hi
      rw [List.getElem?_set, List.getElem?_map, List.getElem?_map, List.getElem?_map]
      have hjm : ∃ q, m[j]? = some q ∧ q.1 = s := by
        have hj2 := congrArg (fun l => l[j]?) hc.ents
        simp only [List.getElem?_map, h2, Option.map_some] at hj2
        cases hm : m[j]? with
        | none => rw [hm] at hj2; cases hj2
        | some q =>
          rw [hm] at hj2
          simp only [Option.map_some, Option.some.injEq, Prod.mk.injEq, h3] at hj2
          exact ⟨q, rfl, by have := hj2.1; injection this with this; exact this.symm⟩
      obtain ⟨q, hq, hqs⟩ := hjm
      by_cases hij : j = i
      · subst hij
        rw [if_pos rfl, if_pos (by simpa using hjl), hq]
        simp [hqs]
      · rw [if_neg hij, hi]
        cases hm : m[i]? with
        | none => rfl
        | some r =>
          have : r.1 ≠ s := fun e1 => by
            have hnd := hc.one
            have h5 : (m.map (·.1))[i]? = some s := by rw [List.getElem?_map, hm]; simp [e1]
            have h6 : (m.map (·.1))[j]? = some s := by rw [List.getElem?_map, hq]; simp [hqs]
            exact hij (nodup_inj hnd h6 h5)
          simp [this]
    · intro p' hp'
      simp only [mput, hg, Option.isSome_some, if_true] at hp'
      obtain ⟨q, hq, rfl⟩ := List.mem_map.1 hp'
      have := hc.small q hq
      split <;> exact this
    · intro x hx
      have hm : x.born ∈ (es.toList.set j { e0 with key := .string s, val := v }).map (·.born) := List.mem_map.2 ⟨x, by rw [← hL]; exact hx, rfl⟩
      rw [hmapb] at hm
      obtain ⟨y, hy, hyb⟩ := List.mem_map.1 hm
      rw [← hyb]; exact hc.bornLt y hy
/-- len(m). -/
theorem sm_len {w : World} {b : Nat} {m : Asc} (h : Sm w b m) (ht : P.underlying t = some (.map k e)) (ty : TypeId) : (Builtin.len_ #[t] ty #[.map (some b)]).run P w = .ok (.int .i64 (m.length : Int)) w := by
  obtain ⟨es, clock, hK, hc⟩ := h
  simp [Builtin.len_, run_underlying ht, MapKept.run_getObj_map hK, hc.len, goInt]
/-! ### range -/
/-- Block r ranges over the map in block b, of the entries m; those of left are still to come. -/
def Sit (w : World) (b r : Nat) (m left : Asc) : Prop :=
  ∃ es clock since seen c0, w.heap[b]? = some (.map es clock) ∧ w.heap[r]? = some (.mapIter (some b) since seen c0) ∧ SmE es clock m ∧ (∀ x ∈ es.toList, x.born < since) ∧ since ≤ c0 ∧ since ≤ clock ∧ (leftOf es seen).toList.map (fun x => (x.key, x.val)) = left.map fun p => (Value.string p.1, p.2)
theorem Sit.sm {w : World} {b r : Nat} {m left : Asc} (h : Sit w b r m left) : Sm w b m := by obtain ⟨es, clock, since, seen, c0, h1, _, h2, _⟩ := h; exact ⟨es, clock, h1, h2⟩
theorem Sit.ne {w : World} {b r : Nat} {m left : Asc} (h : Sit w b r m left) : b ≠ r := by
  obtain ⟨es, clock, since, seen, c0, h1, h2, _⟩ := h
  intro e; subst e; rw [h1] at h2; cases h2
theorem Sit.lt {w : World} {b r : Nat} {m left : Asc} (h : Sit w b r m left) : r < w.heap.size := by obtain ⟨es, clock, since, seen, c0, h1, h2, _⟩ := h; exact lt_of_heap h2
theorem Sit.unch {w w1 : World} {b r : Nat} {m left : Asc} {X : Nat → Prop} (h : Sit w b r m left) (hu : Unch X w w1) (hb : ¬ X b) (hr : ¬ X r) : Sit w1 b r m left := by
  obtain ⟨es, clock, since, seen, c0, h1, h2, h3⟩ := h
  exact ⟨es, clock, since, seen, c0, hu.heap h1 hb, hu.heap h2 hr, h3⟩
theorem Sit.mem {w : World} {b r : Nat} {m left : Asc} (h : Sit w b r m left) : ∀ p ∈ left, p ∈ m := by
  obtain ⟨es, clock, since, seen, c0, h1, h2, hE, _, _, _, hl⟩ := h
  intro p hp
  have : (Value.string p.1, p.2) ∈ (leftOf es seen).toList.map (fun x => (x.key, x.val)) := by rw [hl]; exact List.mem_map.2 ⟨p, hp, rfl⟩
  obtain ⟨x, hx, he⟩ := List.mem_map.1 this
  obtain ⟨q, hq, h5, h6⟩ := hE.mem (mem_left hx).1
  injection he with e1 e2
  rw [h5] at e1
  injection e1 with e1
  obtain ⟨p1, p2⟩ := p
  obtain ⟨q1, q2⟩ := q
  simp only at e1 e2 h6 ⊢
  subst e1
  rw [← e2, h6]
  exact hq
theorem sm_range {w : World} {b : Nat} {m : Asc} (h : Sm w b m) (ht : P.underlying t = some (.map k e)) :
    ∃ w', (Instr.range t (.map (some b))).run P w = .ok (.pointer (some ⟨w.heap.size, 0, none⟩)) w' ∧ Sit w' b w.heap.size m m ∧ Unch none_ w w' ∧ w'.heap.size = w.heap.size + 1 := by
  have hlt := h.lt
  obtain ⟨es, clock, hb, hE⟩ := h
  refine ⟨_, run_range_map w t k e b es clock ht hb, ⟨es, clock, clock, #[], clock, blk_alloc hb _, blk_new w _, hE, hE.bornLt, Nat.le_refl _, Nat.le_refl _, ?_⟩, (Unch.refl none_ w).alloc _, by simp⟩
  have e1 : leftOf es #[] = es := by
    unfold leftOf
    exact Array.filter_eq_self.2 (fun x _ => by simp)
  rw [← hE.ents, e1]
theorem sit_next {w : World} {b r : Nat} {m left : Asc} (h : Sit w b r m left) (ty : TypeId) :
    (left = [] ∧ (Instr.next (.pointer (some ⟨r, 0, none⟩)) false ty).run P w = .ok (.tuple #[.bool false]) w) ∨
    ∃ p ∈ left, ∃ w', (Instr.next (.pointer (some ⟨r, 0, none⟩)) false ty).run P w = .ok (.tuple #[.bool true, .string p.1, p.2]) w' ∧ Sit w' b r m (left.filter fun q => decide (q.1 ≠ p.1)) ∧ Unch (fun j => j = r) w w' ∧ w'.heap.size = w.heap.size ∧
      (Instr.entry (.pointer (some ⟨r, 0, none⟩))).run P w' = .ok (.tuple #[.string p.1, p.2]) w' := by
  classical
  have hne := h.ne
  obtain ⟨es, clock, since, seen, c0, hb, hr, hE, hold, hsc, hsk, hl⟩ := h
  rcases run_next_at (P := P) w ty r b since c0 seen es clock hr hb hold hsc with ⟨h0, hrun⟩ | ⟨x, hx, w1, hal, hrun⟩
  · refine .inl ⟨?_, hrun⟩
    have := congrArg List.length hl
    simp only [List.length_map, Array.length_toList, h0] at this
    exact List.eq_nil_of_length_eq_zero this.symm
  · obtain ⟨hxm, hxs⟩ := mem_left hx
    have hin : (x.key, x.val) ∈ left.map fun p => (Value.string p.1, p.2) := by rw [← hl]; exact List.mem_map.2 ⟨x, hx, rfl⟩
    obtain ⟨p, hp, he⟩ := List.mem_map.1 hin
    injection he with hk hv
    have hr1 : w1.heap[r]? = some (.mapIter (some b) since seen c0) := by rcases hal with rfl | rfl <;> exact hr
    have hb1 : w1.heap[b]? = some (.map es clock) := by rcases hal with rfl | rfl <;> exact hb
    have hu1 : Unch (fun j => j = r) w w1 := by
      rcases hal with rfl | rfl
      · exact Unch.refl _ _
      · exact (Unch.refl _ _).drew
    have hb' : (setBlock w1 r (.mapIter (some b) since (seen.push x.born) clock)).heap[b]? = some (.map es clock) := (unch_setBlock _).heap hb1 hne
    have hr' := heap_setBlock (w := w1) (.mapIter (some b) since (seen.push x.born) clock) (lt_of_heap hr1)
    refine .inr ⟨p, hp, _, by rw [hrun, hk, hv], ⟨es, clock, since, seen.push x.born, clock, hb', hr', hE, hold, hsk, hsk, ?_⟩, hu1.trans (unch_setBlock _), ?_, by rw [hk, hv]; exact run_entry_at _ r b since seen es clock x hr' hb' hxm hE.bornNodup⟩
    · have e1 : (leftOf es (seen.push x.born)).toList = (leftOf es seen).toList.filter fun y => decide (y.key ≠ x.key) := by
        unfold leftOf
        rw [Array.toList_filter, Array.toList_filter, List.filter_filter]
        apply List.filter_congr
        intro y hy
        rw [contains_push]
        have hiff : (y.born == x.born) = decide (y.key = x.key) := by
          rw [Bool.eq_iff_iff]
          simp only [beq_iff_eq, decide_eq_true_eq]
          have hkn : (es.toList.map (·.key)).Nodup := by
            have h7 : es.toList.map (·.key) = (m.map (·.1)).map Value.string := by
              have := congrArg (List.map Prod.fst) hE.ents
              simpa [List.map_map, Function.comp_def] using this
            rw [h7]
            exact List.Pairwise.map _ (fun a b hab e => hab (by injection e)) hE.one
          obtain ⟨i, hi⟩ := List.getElem?_of_mem hy
          obtain ⟨j, hj⟩ := List.getElem?_of_mem hxm
          have go : ∀ {β : Type} (f : MapEntry → β), (es.toList.map f).Nodup → f y = f x → y = x := by
            intro β f hn hf
            have : i = j := nodup_inj hn (x := f y) (by rw [List.getElem?_map, hi]; rfl) (by rw [List.getElem?_map, hj, hf]; rfl)
            subst this
            rw [hi] at hj
            exact Option.some.inj hj
          exact ⟨fun h => by rw [go (·.born) hE.bornNodup h], fun h => by rw [go (·.key) hkn h]⟩
        rw [hiff]
        generalize seen.contains y.born = s
        by_cases hyk : y.key = x.key <;> cases s <;> simp [hyk]
      rw [e1]
      have e2 : ((leftOf es seen).toList.filter fun y => decide (y.key ≠ x.key)).map (fun y => (y.key, y.val)) = ((leftOf es seen).toList.map fun y => (y.key, y.val)).filter fun z => decide (z.1 ≠ x.key) := by
        rw [List.filter_map]; rfl
      rw [e2, hl, ← hk, List.filter_map]
      congr 1
      apply List.filter_congr
      intro q _
      simp
    · simp only [setBlock, Array.size_setIfInBounds]
      rcases hal with rfl | rfl <;> rfl
theorem left_less {left : Asc} {p : ByteArray × Value} (hp : p ∈ left) : (left.filter fun q => decide (q.1 ≠ p.1)).length < left.length := by
  rcases Nat.lt_or_ge (left.filter fun q => decide (q.1 ≠ p.1)).length left.length with h | h
  · exact h
  · have := List.length_filter_le (fun q : ByteArray × Value => decide (q.1 ≠ p.1)) left
    have h2 := (List.filter_eq_self (p := fun q : ByteArray × Value => decide (q.1 ≠ p.1)) (l := left)).1 (List.Sublist.eq_of_length List.filter_sublist (by omega)) p hp
    simp at h2
/-! ### As steps of the walk -/
variable {ops : Array Oper} {rest : List Oper} {o : Oper} {a : Act} {Q : Exit → Act → World → Prop}
theorem wpList_sm_look (w : World) (hg : o.guard = none) (x y : Operand) (t : TypeId) (c : Bool) (hop : o.op = Op.lookup t x y c) (k e : TypeId) (ht : P.underlying t = some (.map k e)) (hk : P.underlying k = some .string) (z : Value) (hz : (zeroValue e).run P w = .ok z w)
    (b : Nat) (m : Asc) (hx : a.eval x = .map (some b)) (h : Sm w b m) (s : ByteArray) (hy : a.eval y = .string s) (hs : s.size ≤ maxLen)
    (hK : wpList P ops Q rest (a.put o.dst (if c then .tuple #[(mget m s).getD z, .bool (mget m s).isSome] else (mget m s).getD z)) w) : wpList P ops Q (o :: rest) a w := by
  refine wpList_plain hg fun K' hK' => ?_
  unfold Oper.wp
  simp only [execOp, hop, hx, hy, sm_look c h ht hk hz s hs, Sem.run_bind, Result.andThen, Sem.run_pure]
  exact hK' _ _ hK
theorem wpList_sm_put (w : World) (hg : o.guard = none) (x y v : Operand) (t : TypeId) (hop : o.op = Op.mapUpdate t x y v) (k e : TypeId) (ht : P.underlying t = some (.map k e)) (hk : P.underlying k = some .string)
    (b : Nat) (m : Asc) (hx : a.eval x = .map (some b)) (h : Sm w b m) (s : ByteArray) (hy : a.eval y = .string s) (hs : s.size ≤ maxLen) (u : Value) (hv : a.eval v = u)
    (hK : ∀ w', Sm w' b (mput m s u) → Unch (fun j => j = b) w w' → wpList P ops Q rest (a.put o.dst undef) w') : wpList P ops Q (o :: rest) a w := by
  refine wpList_plain hg fun K' hK' => ?_
  obtain ⟨w', hrun, r1, r2⟩ := sm_put h ht hk s hs u
  unfold Oper.wp
  simp [execOp, hop, hx, hy, hv, hrun, Result.andThen]
  exact hK' _ _ (hK w' r1 r2)
theorem wpList_sm_len (w : World) (hg : o.guard = none) (x : Operand) (t : TypeId) (hop : o.op = Op.call { callee := Callee.builtin Builtin.len, args := #[x], argTypes := #[t] }) (k e : TypeId) (ht : P.underlying t = some (.map k e))
    (b : Nat) (m : Asc) (hx : a.eval x = .map (some b)) (h : Sm w b m)
    (hK : wpList P ops Q rest (a.put o.dst (.int .i64 (m.length : Int))) w) : wpList P ops Q (o :: rest) a w := by
  refine wpList_plain hg fun K' hK' => ?_
  unfold Oper.wp
  simp [execOp, hop, resolve, invoke, builtin, hx, sm_len h ht o.type, Result.andThen]
  exact hK' _ _ hK
theorem wpList_sm_range (w : World) (hg : o.guard = none) (x : Operand) (t : TypeId) (hop : o.op = Op.range t x) (k e : TypeId) (ht : P.underlying t = some (.map k e))
    (b : Nat) (m : Asc) (hx : a.eval x = .map (some b)) (h : Sm w b m)
    (hK : ∀ w', Sit w' b w.heap.size m m → Unch none_ w w' → w'.heap.size = w.heap.size + 1 → wpList P ops Q rest (a.put o.dst (.pointer (some ⟨w.heap.size, 0, none⟩))) w') : wpList P ops Q (o :: rest) a w := by
  refine wpList_plain hg fun K' hK' => ?_
  obtain ⟨w', hrun, r1, r2, r3⟩ := sm_range h ht
  unfold Oper.wp
  simp [execOp, hop, hx, hrun, Result.andThen]
  exact hK' _ _ (hK w' r1 r2 r3)
theorem wpList_sit_next (w : World) (hg : o.guard = none) (it : Operand) (hop : o.op = Op.next it false) (b r : Nat) (m left : Asc) (hit : a.eval it = .pointer (some ⟨r, 0, none⟩)) (h : Sit w b r m left)
    (hDone : left = [] → wpList P ops Q rest (a.put o.dst (.tuple #[.bool false])) w)
    (hMore : ∀ p w', p ∈ left → Sit w' b r m (left.filter fun q => decide (q.1 ≠ p.1)) → Unch (fun j => j = r) w w' → w'.heap.size = w.heap.size → (Instr.entry (.pointer (some ⟨r, 0, none⟩))).run P w' = .ok (.tuple #[.string p.1, p.2]) w' → wpList P ops Q rest (a.put o.dst (.tuple #[.bool true, .string p.1, p.2])) w') :
    wpList P ops Q (o :: rest) a w := by
  refine wpList_plain hg fun K' hK' => ?_
  unfold Oper.wp
  rcases sit_next (P := P) h o.type with ⟨h0, hrun⟩ | ⟨p, hp, w', hrun, r1, r2, r3, r4⟩
  · simp [execOp, hop, hit, hrun, Result.andThen]
    exact hK' _ _ (hDone h0)
  · simp [execOp, hop, hit, hrun, Result.andThen]
    exact hK' _ _ (hMore p w' hp r1 r2 r3 r4)
end
end Go.Proofs.YtgalnnmeamldhaaGreat.Pal
