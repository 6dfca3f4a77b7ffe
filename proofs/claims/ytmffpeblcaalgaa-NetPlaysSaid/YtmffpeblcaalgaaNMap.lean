/-
  The map of net.go: which pairs are cut. What a look-up, a store and clear do to it.
-/
import Derived.Test.YtmffpeblcaalgaaBase
import Derived.Test.YtmffpeblcaalgaaRows
import Derived.DeepKeys4
import Derived.WideKeyEntry
import Derived.WalkKit
set_option linter.unusedVariables false
set_option linter.unusedSimpArgs false
namespace Go.Proofs.Ytmffpeblcaalgaa
open Go Go.RowKit Go.Proofs.Ytmffpeblcaalgaa.Pal Go.ChangeMaps
open Go.WideElems (findIdx_born findIdx_arr)

theorem laidOutN : laidOutB Try.prog = true := by kernel_rfl
theorem pairLaw : WideMaps.KeyLaw Try.prog 73 := deep_law_laid laidOutN (m := 3) (by omega) (of_decide_eq_true (by kernel_rfl)) (by kernel_rfl) (by kernel_rfl)
/-- A pair as a key. -/
def kv (a b : Nat) : Value := .agg #[.int .i64 (a : Int), .int .i64 (b : Int)]
theorem kv_inj {a b c d : Nat} (h : kv a b = kv c d) : a = c ∧ b = d := by
  simp [kv] at h; omega
theorem nodup_inj {α : Type} {l : List α} (h : l.Nodup) {i j : Nat} {x : α} (hi : l[i]? = some x) (hj : l[j]? = some x) : i = j := by
  obtain ⟨h1, h2⟩ := List.getElem?_eq_some_iff.1 hi
  obtain ⟨h3, h4⟩ := List.getElem?_eq_some_iff.1 hj
  have hp := List.pairwise_iff_getElem.1 h
  rcases Nat.lt_trichotomy i j with hlt | he | hlt
  · exact absurd (h2.trans h4.symm) (hp i j h1 h3 hlt)
  · exact he
  · exact absurd (h4.trans h2.symm) (hp j i h3 h1 hlt)
theorem kv_key (a b : Nat) (ha : a < 16) (hb : b < 16) : ∃ l, keyOf Try.prog 73 (kv a b) = some l := by
  have : ∀ a : Fin 16, ∀ b : Fin 16, (keyOf Try.prog 73 (kv a.val b.val)).isSome = true := by decide +kernel
  exact Option.isSome_iff_exists.1 (this ⟨a, ha⟩ ⟨b, hb⟩)

/-- Block K is a map of pairs: c tells which are there with true. -/
structure CmE (es : Array MapEntry) (clock : Nat) (c : Nat → Nat → Bool) : Prop where
  key : ∀ x ∈ es.toList, ∃ a b, a < 16 ∧ b < 16 ∧ x.key = kv a b ∧ x.val = .bool (c a b)
  has : ∀ a b, c a b = true → ∃ x ∈ es.toList, x.key = kv a b
  one : (es.toList.map (·.key)).Nodup
  bornNodup : (es.toList.map (·.born)).Nodup
  bornLt : ∀ x ∈ es.toList, x.born < clock
def Cm (w : World) (K : Nat) (c : Nat → Nat → Bool) : Prop := ∃ es clock, w.heap[K]? = some (.map es clock) ∧ CmE es clock c
/-- The same, and the entry at (a, b) bears the stamp st. -/
def CmAt (w : World) (K : Nat) (c : Nat → Nat → Bool) (a b st : Nat) : Prop := ∃ es clock, w.heap[K]? = some (.map es clock) ∧ CmE es clock c ∧ ∃ x ∈ es.toList, x.key = kv a b ∧ x.born = st
theorem CmE.keyed {es : Array MapEntry} {clock : Nat} {c : Nat → Nat → Bool} (h : CmE es clock c) : ∀ e ∈ es.toList, ∃ l, keyOf Try.prog 73 e.key = some l := fun e he => by
  obtain ⟨a, b, ha, hb, hk, _⟩ := h.key e he
  rw [hk]; exact kv_key a b ha hb
theorem Cm.lt {w : World} {K : Nat} {c : Nat → Nat → Bool} (h : Cm w K c) : K < w.heap.size := by
  obtain ⟨es, clock, h1, _⟩ := h; exact lt_of_heap h1
theorem Cm.unch {w w1 : World} {K : Nat} {c : Nat → Nat → Bool} {X : Nat → Prop} (h : Cm w K c) (hu : Unch X w w1) (hX : ¬ X K) : Cm w1 K c := by
  obtain ⟨es, clock, h1, h2⟩ := h; exact ⟨es, clock, hu.heap h1 hX, h2⟩
theorem Cm.made (w : World) : Cm (w.alloc (.map #[] 0)) w.heap.size (fun _ _ => false) :=
  ⟨#[], 0, blk_new w _, ⟨fun x hx => by simp at hx, fun a b h => by simp at h, by simp, by simp, fun x hx => by simp at hx⟩⟩
theorem unch_setBlock {w : World} {K : Nat} (o : Obj) : Unch (fun k => k = K) w (setBlock w K o) :=
  ⟨rfl, rfl, rfl, by simp [setBlock], fun k _ hk => by simp [setBlock, Array.getElem?_setIfInBounds, Ne.symm hk]⟩
theorem heap_setBlock {w : World} {K : Nat} (o : Obj) (hK : K < w.heap.size) : (setBlock w K o).heap[K]? = some o := by
  simp [setBlock, Array.getElem?_setIfInBounds, hK]
/-- m[k]. -/
theorem cm_lookup {w : World} {K : Nat} {c : Nat → Nat → Bool} (h : Cm w K c) (a b : Nat) (ha : a < 16) (hb : b < 16) :
    (Instr.lookup 69 (.map (some K)) (kv a b) false).run Try.prog w = .ok (.bool (c a b)) w := by
  obtain ⟨es, clock, hK, hc⟩ := h
  obtain ⟨l, hl⟩ := kv_key a b ha hb
  have hz : (zeroValue 4).run Try.prog w = .ok (.bool false) w := by
    obtain ⟨i0, hi, hzz⟩ := Option.map_eq_some_iff.1 (show (Try.prog.info? 4).map (fun i => i.zero) = some (some (.bool false)) by kernel_rfl)
    simp [zeroValue, typeInfo, hi, hzz]
  rcases pairLaw.find w hl es.toList hc.keyed with ⟨h1, h2⟩ | ⟨j, e0, h1, h2, h3⟩
  · have hcf : c a b = false := by
      by_cases hh : c a b = true
      · obtain ⟨x, hx, hk⟩ := hc.has a b hh; exact absurd hk (h2 x hx)
      · simpa using hh
    simp [Instr.lookup, run_underlying Try.underlying69, MapKept.run_getObj_map hK, pairLaw.check w _ hl, h1, hz, hcf]
  · obtain ⟨a', b', _, _, hk, hv⟩ := hc.key e0 (List.mem_of_getElem? h2)
    rw [h3] at hk
    obtain ⟨rfl, rfl⟩ := kv_inj hk
    simp [Instr.lookup, run_underlying Try.underlying69, MapKept.run_getObj_map hK, pairLaw.check w _ hl, h1, hv]
/-- The entry is looked up for a store. -/
theorem cm_entry {w : World} {K : Nat} {c : Nat → Nat → Bool} (h : Cm w K c) (a b : Nat) (ha : a < 16) (hb : b < 16) :
    ∃ st w1, (Instr.mapEntry 69 (.map (some K)) (kv a b)).run Try.prog w = .ok (.tuple #[.bool (c a b), .int .i64 (st : Nat)]) w1 ∧ CmAt w1 K c a b st ∧ Unch (fun k => k = K) w w1 := by
  obtain ⟨es, clock, hK, hc⟩ := h
  obtain ⟨l, hl⟩ := kv_key a b ha hb
  have hz : (zeroValue 4).run Try.prog w = .ok (.bool false) w := by
    obtain ⟨i0, hi, hzz⟩ := Option.map_eq_some_iff.1 (show (Try.prog.info? 4).map (fun i => i.zero) = some (some (.bool false)) by kernel_rfl)
    simp [zeroValue, typeInfo, hi, hzz]
  rcases pairLaw.find w hl es.toList hc.keyed with ⟨h1, h2⟩ | ⟨j, e0, h1, h2, h3⟩
  · have hcf : c a b = false := by
      by_cases hh : c a b = true
      · obtain ⟨x, hx, hk⟩ := hc.has a b hh; exact absurd hk (h2 x hx)
      · simpa using hh
    refine ⟨clock, setBlock w K (.map (es.push ⟨kv a b, .bool false, clock⟩) (clock + 1)), ?_, ⟨_, _, heap_setBlock _ (lt_of_heap hK), ⟨?_, ?_, ?_, ?_, ?_⟩, ⟨kv a b, .bool false, clock⟩, by simp, rfl, rfl⟩, unch_setBlock _⟩
    · simp [Instr.mapEntry, run_underlying Try.underlying69, MapKept.run_getObj_map hK, pairLaw.check w false hl, h1, hz, MapKept.run_setObj_map _ hK, Result.andThen, setBlock, hcf, goInt]
    · intro x hx
      simp at hx
      rcases hx with hx | rfl
      · exact hc.key x (by simpa using hx)
      · exact ⟨a, b, ha, hb, rfl, by rw [hcf]⟩
    · intro a' b' hh
      obtain ⟨x, hx, hk⟩ := hc.has a' b' hh
      exact ⟨x, by simp; exact .inl (by simpa using hx), hk⟩
    · simp only [Array.toList_push, List.map_append, List.map_cons, List.map_nil]
      refine List.nodup_append.2 ⟨hc.one, by simp, fun u hu v hv e1 => ?_⟩
      simp only [List.mem_singleton] at hv
      obtain ⟨x, hx, rfl⟩ := List.mem_map.1 hu
      exact h2 x hx (by rw [e1, hv])
    · simp only [Array.toList_push, List.map_append, List.map_cons, List.map_nil]
      refine List.nodup_append.2 ⟨hc.bornNodup, by simp, fun u hu v hv e1 => ?_⟩
      simp only [List.mem_singleton] at hv
      obtain ⟨x, hx, rfl⟩ := List.mem_map.1 hu
      have := hc.bornLt x hx
      omega
    · intro x hx
      simp at hx
      rcases hx with hx | rfl
      · have := hc.bornLt x (by simpa using hx); omega
      · simp
  · obtain ⟨a', b', _, _, hk, hv⟩ := hc.key e0 (List.mem_of_getElem? h2)
    rw [h3] at hk
    obtain ⟨rfl, rfl⟩ := kv_inj hk
    have hj : es[j]? = some e0 := by simpa using h2
    have hsame : es.modify j (fun e => { e with key := kv a b }) = es := by
      apply Array.ext'
      rw [Array.toList_modify, modify_eq_set _ _ _ _ h2]
      have : ({ e0 with key := kv a b } : MapEntry) = e0 := by rw [← h3]
      rw [this]
      exact WideElems.set_self _ _ _ h2
    refine ⟨e0.born, setBlock w K (.map es clock), ?_, ⟨es, clock, heap_setBlock _ (lt_of_heap hK), hc, e0, List.mem_of_getElem? h2, h3, rfl⟩, unch_setBlock _⟩
    simp [Instr.mapEntry, run_underlying Try.underlying69, MapKept.run_getObj_map hK, pairLaw.check w false hl, h1, hj, h3, pairLaw.stays w hl, hsame, MapKept.run_setObj_map _ hK, Result.andThen, setBlock, hv, goInt]
/-- true is stored into it. -/
def cutOf (c : Nat → Nat → Bool) (a b : Nat) : Nat → Nat → Bool := fun x y => if x = a ∧ y = b then true else c x y
theorem cm_store {w : World} {K : Nat} {c : Nat → Nat → Bool} {a b st : Nat} (h : CmAt w K c a b st) :
    ∃ w1, (Instr.entryStore 69 (.map (some K)) (.int .i64 (st : Nat)) (.bool true)).run Try.prog w = .ok () w1 ∧ Cm w1 K (cutOf c a b) ∧ Unch (fun k => k = K) w w1 := by
  obtain ⟨es, clock, hK, hc, e0, he0, hk0, rfl⟩ := h
  obtain ⟨j, hj⟩ := List.getElem?_of_mem he0
  have hidx : es.findIdx? (fun e => ((e.born : Nat) : Int) == ((e0.born : Nat) : Int)) = some j := by
    rw [findIdx_arr]; exact findIdx_born hc.bornNodup hj
  refine ⟨setBlock w K (.map (es.modify j fun e => { e with val := .bool true }) clock), ?_, ⟨_, _, heap_setBlock _ (lt_of_heap hK), ?_⟩, unch_setBlock _⟩
  · simp [Instr.entryStore, MapKept.run_getObj_map hK, asInt, asIntOf, hidx, MapKept.run_setObj_map _ hK, Result.andThen, setBlock]
  · have hL : (es.modify j fun e => { e with val := .bool true }).toList = es.toList.set j { e0 with val := .bool true } := by
      rw [Array.toList_modify, modify_eq_set _ _ _ _ hj]
    have hjl : j < es.toList.length := (List.getElem?_eq_some_iff.1 hj).1
    have hge : es.toList[j] = e0 := (List.getElem?_eq_some_iff.1 hj).2
    have hmapk : (es.toList.set j { e0 with val := .bool true }).map (·.key) = es.toList.map (·.key) := by
      rw [List.map_set]
      exact WideElems.set_self _ _ _ (by simp [hj])
    have hmapb : (es.toList.set j { e0 with val := .bool true }).map (·.born) = es.toList.map (·.born) := by
      rw [List.map_set]
      exact WideElems.set_self _ _ _ (by simp [hj])
    refine ⟨?_, ?_, by rw [hL, hmapk]; exact hc.one, by rw [hL, hmapb]; exact hc.bornNodup, ?_⟩
    · intro x hx
      rw [hL] at hx
      obtain ⟨i, hi⟩ := List.getElem?_of_mem hx
      by_cases hij : j = i
      · subst hij
        rw [List.getElem?_set_self hjl] at hi
        obtain rfl := Option.some.inj hi
        obtain ⟨a', b', h1, h2, h3, h4⟩ := hc.key e0 he0
        rw [hk0] at h3
        obtain ⟨rfl, rfl⟩ := kv_inj h3
        exact ⟨a, b, h1, h2, hk0, by simp [cutOf]⟩
      · rw [List.getElem?_set_ne hij] at hi
        obtain ⟨a', b', h1, h2, h3, h4⟩ := hc.key x (List.mem_of_getElem? hi)
        refine ⟨a', b', h1, h2, h3, ?_⟩
        rw [h4]
        unfold cutOf
        rw [if_neg]
        rintro ⟨rfl, rfl⟩
        have hnd := hc.one
        have := nodup_inj hnd (i := i) (j := j) (x := kv a' b') (by rw [List.getElem?_map, hi, Option.map_some, h3]) (by rw [List.getElem?_map, hj, Option.map_some, hk0])
        exact hij this.symm
    · intro a' b' hh
      unfold cutOf at hh
      have : ∃ x ∈ es.toList, x.key = kv a' b' := by
        split at hh
        · rename_i h1
          obtain ⟨rfl, rfl⟩ := h1
          exact ⟨e0, he0, hk0⟩
        · exact hc.has a' b' hh
      obtain ⟨x, hx, hk⟩ := this
      have hm : kv a' b' ∈ (es.toList.set j { e0 with val := .bool true }).map (·.key) := by
        rw [hmapk]; exact List.mem_map.2 ⟨x, hx, hk⟩
      rw [hL]
      obtain ⟨y, hy, hyk⟩ := List.mem_map.1 hm
      exact ⟨y, hy, hyk⟩
    · intro x hx
      have hm : x.born ∈ (es.toList.set j { e0 with val := .bool true }).map (·.born) := List.mem_map.2 ⟨x, by rw [← hL]; exact hx, rfl⟩
      rw [hmapb] at hm
      obtain ⟨y, hy, hyb⟩ := List.mem_map.1 hm
      rw [← hyb]; exact hc.bornLt y hy
theorem CmAt.cm {w : World} {K : Nat} {c : Nat → Nat → Bool} {a b st : Nat} (h : CmAt w K c a b st) : Cm w K c := by
  obtain ⟨es, clock, h1, h2, _⟩ := h; exact ⟨es, clock, h1, h2⟩
/-- clear(m). -/
theorem cm_clear {w : World} {K : Nat} {c : Nat → Nat → Bool} (h : Cm w K c) (ty : TypeId) :
    ∃ w1, (Builtin.clear_ #[69] ty #[.map (some K)]).run Try.prog w = .ok (.tuple #[]) w1 ∧ Cm w1 K (fun _ _ => false) ∧ Unch (fun k => k = K) w w1 := by
  obtain ⟨es, clock, hK, hc⟩ := h
  refine ⟨setBlock w K (.map #[] clock), ?_, ⟨_, _, heap_setBlock _ (lt_of_heap hK), ⟨fun x hx => by simp at hx, fun a b h => by simp at h, by simp, by simp, fun x hx => by simp at hx⟩⟩, unch_setBlock _⟩
  simp [Builtin.clear_, run_underlying Try.underlying69, MapKept.run_getObj_map hK, MapKept.run_setObj_map _ hK, Result.andThen, setBlock]
end Go.Proofs.Ytmffpeblcaalgaa
