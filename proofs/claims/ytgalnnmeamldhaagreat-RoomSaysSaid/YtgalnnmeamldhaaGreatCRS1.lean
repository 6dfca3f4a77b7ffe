/-
  palaverref15, Set.Members: the plain part, and its state.
-/
import Derived.Test.YtgalnnmeamldhaaGreatCKM2
/- palaverref15, Set.Members: the plain part, and its state. -/
set_option linter.unusedVariables false
set_option linter.unusedSimpArgs false
namespace Go.Proofs.YtgalnnmeamldhaaGreat
open Go Go.RowKit Go.Proofs.YtgalnnmeamldhaaGreat.Pal Go.Proofs.YtgalnnmeamldhaaGreat.Plan

def kAt (s : Ms) (i : Nat) : List ByteArray := (if i = s.r then [s.aut i] else []) ++ (if (s.inn i && decide (s.kind i = 4)) = true then [s.body i] else [])
def keysL (s : Ms) (k : Nat) : List ByteArray := (List.range k).flatMap (kAt s)
theorem keysL_succ (s : Ms) (k : Nat) : keysL s (k + 1) = keysL s k ++ kAt s k := by
  unfold keysL
  rw [List.range_succ, List.flatMap_append]
  simp
theorem keysL_len {s : Ms} (h : s.Ok) (k : Nat) : (keysL s k).length ≤ k := by
  induction k with
  | zero => simp [keysL]
  | succ k ih =>
    rw [keysL_succ, List.length_append]
    have : (kAt s k).length ≤ 1 := by
      unfold kAt
      by_cases e : k = s.r
      · subst e
        have : ¬ s.kind s.r = 4 := by rw [h.kr]; decide
        simp [this]
      · rw [if_neg e]
        split <;> simp
    omega
theorem keysL_mem {s : Ms} (h : s.Ok) {key : ByteArray} : key ∈ keysL s s.n ↔ (rkO s key).isSome = true := by
  unfold keysL
  rw [List.mem_flatMap]
  constructor
  · rintro ⟨i, hi, hk⟩
    have hi : i < s.n := by simpa using hi
    unfold kAt at hk
    rw [List.mem_append] at hk
    unfold rkO
    by_cases ha : key = s.aut s.r
    · rw [if_pos ha]; rfl
    · rw [if_neg ha]
      rcases hk with hk | hk
      · split at hk
        · rename_i e
          have := List.mem_singleton.1 hk
          rw [e] at this
          exact absurd this ha
        · cases hk
      · split at hk
        · rename_i e
          have hb := List.mem_singleton.1 hk
          cases hf : s.firstU key s.n with
          | some x => rfl
          | none =>
            have := Ms.firstU_none hf i hi
            unfold Ms.addOf at this
            rw [Bool.and_eq_true, decide_eq_true_eq] at e
            rw [e.1, decide_eq_true e.2, decide_eq_true hb.symm] at this
            cases this
        · cases hk
  · intro hk
    unfold rkO at hk
    by_cases ha : key = s.aut s.r
    · exact ⟨s.r, by simpa using h.r, by unfold kAt; rw [if_pos rfl, ha]; simp⟩
    · rw [if_neg ha] at hk
      cases hf : s.firstU key s.n with
      | none => rw [hf] at hk; cases hk
      | some x =>
        obtain ⟨x1, x2, _⟩ := Ms.firstU_some hf
        unfold Ms.addOf at x2
        simp only [Bool.and_eq_true, decide_eq_true_eq] at x2
        refine ⟨x, by simpa using x1, ?_⟩
        unfold kAt
        rw [List.mem_append]
        refine .inr ?_
        rw [if_pos (by rw [x2.1, decide_eq_true x2.2.1]; rfl), x2.2.2]
        exact List.mem_singleton.2 rfl
/-- Again and again the lowest of what is left. -/
structure Sel (s : Ms) (K0 K O : List ByteArray) : Prop where
  nd : K.Nodup
  sub : ∀ a ∈ K, a ∈ K0
  sorted : O.Pairwise (fun a b => s.rk a < s.rk b)
  lt : ∀ a ∈ O, ∀ b ∈ K, s.rk a < s.rk b
  mem : ∀ key, key ∈ O ↔ key ∈ K0 ∧ key ∉ K ∧ s.member key = true
theorem Sel.start (s : Ms) {K0 : List ByteArray} (h : K0.Nodup) : Sel s K0 K0 [] := ⟨h, fun a h => h, List.Pairwise.nil, (fun a h => by cases h), fun key => by
  constructor
  · intro h; cases h
  · rintro ⟨h1, h2, _⟩; exact absurd h1 h2⟩
def dropAt (K : List ByteArray) (k : Nat) : List ByteArray := K.take k ++ K.drop (k + 1)
theorem dropAt_perm {K : List ByteArray} {k : Nat} {x : ByteArray} (h : K[k]? = some x) : K.Perm (x :: dropAt K k) := by
  have hk := (List.getElem?_eq_some_iff.1 h).1
  have e : K = K.take k ++ x :: K.drop (k + 1) := by
    conv => lhs; rw [← List.take_append_drop k K]
    congr 1
    rw [List.drop_eq_getElem_cons hk]
    congr 1
    exact (List.getElem?_eq_some_iff.1 h).2
  conv => lhs; rw [e]
  exact List.perm_middle
theorem dropAt_len {K : List ByteArray} {k : Nat} (h : k < K.length) : (dropAt K k).length = K.length - 1 := by
  unfold dropAt
  rw [List.length_append, List.length_take, List.length_drop]
  omega
theorem Sel.step {s : Ms} (hO : s.Ok) {K0 K O : List ByteArray} (h : Sel s K0 K O) (hK0 : ∀ a ∈ K0, (rkO s a).isSome = true) {k : Nat} {x : ByteArray} (hx : K[k]? = some x) (hmin : ∀ b ∈ K, s.rk x ≤ s.rk b) :
    Sel s K0 (dropAt K k) (if s.member x = true then O ++ [x] else O) := by
  have hp := dropAt_perm hx
  have hnd := (hp.nodup_iff).1 h.nd
  rw [List.nodup_cons] at hnd
  have hxK : x ∈ K := List.mem_of_getElem? hx
  have hm : ∀ b, b ∈ K ↔ b = x ∨ b ∈ dropAt K k := fun b => by rw [hp.mem_iff, List.mem_cons]
  have hlt : ∀ b ∈ dropAt K k, s.rk x < s.rk b := fun b hb => by
    have hbK := (hm b).2 (.inr hb)
    rcases Nat.lt_or_ge (s.rk x) (s.rk b) with h1 | h1
    · exact h1
    · have e := rkO_inj hO (hK0 x (h.sub x hxK)) (hK0 b (h.sub b hbK)) (by have := hmin b hbK; omega)
      subst e
      exact absurd hb hnd.1
  refine ⟨hnd.2, fun a ha => h.sub a ((hm a).2 (.inr ha)), ?_, ?_, ?_⟩
  · split
    · rw [List.pairwise_append]
      refine ⟨h.sorted, List.pairwise_singleton _ _, fun a ha b hb => ?_⟩
      rw [List.mem_singleton.1 hb]
      exact h.lt a ha x hxK
    · exact h.sorted
  · intro a ha b hb
    have hbK := (hm b).2 (.inr hb)
    split at ha
    · rcases List.mem_append.1 ha with ha | ha
      · exact h.lt a ha b hbK
      · rw [List.mem_singleton.1 ha]; exact hlt b hb
    · exact h.lt a ha b hbK
  · intro key
    split
    · rename_i hmx
      rw [List.mem_append, h.mem, List.mem_singleton]
      constructor
      · rintro (⟨h1, h2, h3⟩ | rfl)
        · exact ⟨h1, fun hd => h2 ((hm key).2 (.inr hd)), h3⟩
        · exact ⟨h.sub _ hxK, hnd.1, hmx⟩
      · rintro ⟨h1, h2, h3⟩
        by_cases e : key = x
        · exact .inr e
        · exact .inl ⟨h1, fun hk => ((hm key).1 hk).elim e h2, h3⟩
    · rename_i hmx
      rw [h.mem]
      constructor
      · rintro ⟨h1, h2, h3⟩
        exact ⟨h1, fun hd => h2 ((hm key).2 (.inr hd)), h3⟩
      · rintro ⟨h1, h2, h3⟩
        refine ⟨h1, fun hk => ((hm key).1 hk).elim (fun e => ?_) h2, h3⟩
        subst e
        exact hmx h3
theorem Sel.done {s : Ms} {K0 O : List ByteArray} (h : Sel s K0 [] O) (hK0 : ∀ a, (rkO s a).isSome = true → a ∈ K0) : MemL s O :=
  ⟨h.sorted, fun key => by
    rw [h.mem]
    exact ⟨fun h => h.2.2, fun hm => ⟨hK0 key (member_rkO hm), List.not_mem_nil, hm⟩⟩⟩
/-- The keys that are left, and what was told. -/
structure MSt (w wr : World) (vK vO : Value) (K O : List ByteArray) : Prop where
  k : SMid w wr vK K.length K
  o : SMid w wr vO O.length O
  ne : ∀ b, vK.ownBlock = some b → ¬ vO.ownBlock = some b
section
variable {w wr w2 : World} {vK vO v2 : Value} {K O : List ByteArray}
theorem MSt.fresh (h : MSt w wr vK vO K O) (hu : Unch none_ wr w2) : MSt w w2 vK vO K O := ⟨h.k.fresh hu, h.o.fresh hu, h.ne⟩
theorem own_lt {w : World} {e : TypeId} {size n : Nat} {v : Value} {xs : List Value} (h : Row w e size v n xs) {b : Nat} (hb : v.ownBlock = some b) : b < w.heap.size := by
  obtain ⟨cur, hc⟩ := h.blk hb
  exact lt_of_heap hc
theorem MSt.putO (h : MSt w wr vK vO K O) {x : ByteArray} (hr : Row w2 9 1 v2 (O.length + 1) (sv O ++ [.string x])) (hu : Unch (fun k => vO.ownBlock = some k) wr w2)
    (hat : v2.ownBlock = vO.ownBlock ∨ ∃ b, v2.ownBlock = some b ∧ wr.heap.size ≤ b) : MSt w w2 vK v2 K (O ++ [x]) := by
  have ho := h.o.app1 hr hu hat
  refine ⟨⟨ho.hu, h.k.own, h.k.row.unch hu (fun b hb => h.ne b hb)⟩, by rw [List.length_append, List.length_singleton]; exact ho, fun b hb e => ?_⟩
  rcases hat with h1 | ⟨b', h1, h2⟩
  · exact h.ne b hb (h1 ▸ e)
  · rw [h1] at e; injection e with e; have := own_lt h.k.row hb; omega
theorem MSt.newK (h : MSt w wr vK vO K O) {K2 : List ByteArray} (hu : Unch none_ wr w2) (hr : Row w2 9 1 v2 K2.length (sv K2)) (hb2 : ∀ b, v2.ownBlock = some b → wr.heap.size ≤ b) : MSt w w2 v2 vO K2 O :=
  ⟨⟨h.k.hu.trans hu, fun b hb => Nat.le_trans h.k.hu.size (hb2 b hb), hr⟩, h.o.fresh hu, fun b hb e => by have := own_lt h.o.row e; have := hb2 b hb; omega⟩
end
end Go.Proofs.YtgalnnmeamldhaaGreat
