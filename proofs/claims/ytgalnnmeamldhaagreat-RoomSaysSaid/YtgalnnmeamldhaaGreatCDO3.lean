/-
  dag.Order: what lies in memory while it runs, and what it means (plain).
-/
import Derived.Test.YtgalnnmeamldhaaGreatCDG5
/- dag.Order: what lies in memory while it runs, and what it means (plain). -/
set_option linter.unusedVariables false
set_option linter.unusedSimpArgs false
namespace Go.Proofs.YtgalnnmeamldhaaGreat
open Go Go.RowKit Go.Proofs.YtgalnnmeamldhaaGreat.Pal Go.Proofs.YtgalnnmeamldhaaGreat.Plan

inductive DK where
  | out
  | rdy
  | kid (s : ByteArray)
deriving DecidableEq
structure OW (w wr : World) (bl bkk : Nat) (lm km : Asc) (f : DK → Value × List ByteArray) : Prop where
  hu : Unch none_ w wr
  fam : Fam w.heap.size wr f
  left : Sm wr bl lm
  kids : Sm wr bkk km
  kget : ∀ s, (mget km s).getD (.slice none 0 0) = (f (.kid s)).1
  hl : w.heap.size ≤ bl
  hk : w.heap.size ≤ bkk
  hne : bl ≠ bkk
section
variable {w wr w2 w3 : World} {bl bkk : Nat} {lm km lm2 : Asc} {f : DK → Value × List ByteArray}
theorem Fam.not_map {B : Nat} (h : Fam B wr f) {b : Nat} {m : Asc} (hs : Sm wr b m) {a : DK} {k : Nat} (hk : (f a).1.ownBlock = some k) : k ≠ b := fun e => by
  obtain ⟨cur, hc⟩ := (h.row a).blk hk
  subst e
  exact sm_ne_cells hs hc rfl
theorem OW.fresh (h : OW w wr bl bkk lm km f) (hu : Unch none_ wr w2) : OW w w2 bl bkk lm km f :=
  ⟨h.hu.trans hu, h.fam.fresh hu, h.left.unch hu (fun h => h), h.kids.unch hu (fun h => h), h.kget, h.hl, h.hk, h.hne⟩
theorem OW.leftput (h : OW w wr bl bkk lm km f) (hu : Unch (fun j => j = bl) wr w2) (hs : Sm w2 bl lm2) : OW w w2 bl bkk lm2 km f :=
  ⟨h.hu.step hu (fun i hi e => by have := h.hl; omega), h.fam.unch hu (fun a b hb e => h.fam.not_map h.left hb e), hs, h.kids.unch hu (fun e => h.hne e.symm), h.kget, h.hl, h.hk, h.hne⟩
theorem OW.row (h : OW w wr bl bkk lm km f) (a : DK) (ha : ∀ s, a ≠ .kid s) {v : Value} {ys : List ByteArray} (hr : Row w2 9 1 v ys.length (sv ys)) (hu : Unch (fun k => (f a).1.ownBlock = some k) wr w2) (hat : ∀ b, v.ownBlock = some b → (f a).1.ownBlock = some b ∨ wr.heap.size ≤ b) :
    OW w w2 bl bkk lm km (putF f a v ys) :=
  ⟨h.hu.step hu (fun i hi e => by have := h.fam.own a i e; omega), h.fam.put h.hu.size a hr hu hat, h.left.unch hu (fun e => h.fam.not_map h.left e rfl), h.kids.unch hu (fun e => h.fam.not_map h.kids e rfl), fun s => by rw [putF_ne f v ys (fun e => ha s e.symm)]; exact h.kget s, h.hl, h.hk, h.hne⟩
theorem OW.kidrow (h : OW w wr bl bkk lm km f) (s : ByteArray) {v : Value} {ys : List ByteArray} (hr : Row w2 9 1 v ys.length (sv ys)) (hu : Unch (fun k => (f (.kid s)).1.ownBlock = some k) wr w2) (hat : ∀ b, v.ownBlock = some b → (f (.kid s)).1.ownBlock = some b ∨ wr.heap.size ≤ b)
    (hu3 : Unch (fun j => j = bkk) w2 w3) (hs : Sm w3 bkk (mput km s v)) : OW w w3 bl bkk lm (mput km s v) (putF f (.kid s) v ys) := by
  have hfam2 := h.fam.put h.hu.size (.kid s) hr hu hat
  have hkids2 := h.kids.unch hu (fun e => h.fam.not_map h.kids e rfl)
  have hleft2 := h.left.unch hu (fun e => h.fam.not_map h.left e rfl)
  refine ⟨(h.hu.step hu (fun i hi e => by have := h.fam.own _ i e; omega)).step hu3 (fun i hi e => by have := h.hk; omega), hfam2.unch hu3 (fun a b hb e => hfam2.not_map hkids2 hb e), hleft2.unch hu3 h.hne, hs, fun x => ?_, h.hl, h.hk, h.hne⟩
  rw [mget_mput]
  by_cases e : x = s
  · subst e; rw [if_pos rfl, putF_at]; rfl
  · rw [if_neg e, putF_ne f v ys (fun h => e (by injection h))]; exact h.kget x
end
/-! ### While the parents are gone through -/
def f0 : DK → Value × List ByteArray := fun _ => (.slice none 0 0, [])
theorem OW.start {w wr : World} {bl bkk : Nat} (hu : Unch none_ w wr) (h1 : Sm wr bl []) (h2 : Sm wr bkk []) (hl : w.heap.size ≤ bl) (hk : w.heap.size ≤ bkk) (hne : bl ≠ bkk) : OW w wr bl bkk [] [] f0 :=
  ⟨hu, ⟨fun a => Row.nil _ _ _, (fun a b hb => by cases hb), fun a a' b _ hb => by cases hb⟩, h1, h2, fun s => rfl, hl, hk, hne⟩
structure KidsP (es : List Ent) (D : Nat → ByteArray → Bool) (f : DK → Value × List ByteArray) : Prop where
  nd : ∀ s, (f (.kid s)).2.Nodup
  mem : ∀ s x, x ∈ (f (.kid s)).2 ↔ ∃ i, i < es.length ∧ (ent es i).id = x ∧ D i s = true
def LeftP (es : List Ent) (T : Nat → Bool) (lm : Asc) : Prop := ∀ i, i < es.length → T i = true → mget lm (ent es i).id = some (.int .i64 ((parsL es i).length : Int))
structure RdP (es : List Ent) (T : Nat → Bool) (f : DK → Value × List ByteArray) : Prop where
  nd : (f .rdy).2.Nodup
  mem : ∀ x, x ∈ (f .rdy).2 ↔ ∃ i, i < es.length ∧ (ent es i).id = x ∧ T i = true ∧ (parsL es i).length = 0
section
variable {es : List Ent} {D D2 : Nat → ByteArray → Bool} {T T2 : Nat → Bool} {lm : Asc} {f f2 : DK → Value × List ByteArray}
theorem KidsP.of (h : KidsP es D f) (hD : ∀ i s, i < es.length → D2 i s = D i s) (hf : ∀ s, f2 (.kid s) = f (.kid s)) : KidsP es D2 f2 := by
  refine ⟨fun s => by rw [hf]; exact h.nd s, fun s x => ?_⟩
  rw [hf, h.mem]
  constructor <;> rintro ⟨i, a, b, c⟩
  · exact ⟨i, a, b, by rw [hD i s a]; exact c⟩
  · exact ⟨i, a, b, by rw [← hD i s a]; exact c⟩
theorem KidsP.add (h : KidsP es D f) (hC : Closed es) {i0 : Nat} (hi0 : i0 < es.length) {s : ByteArray} (hn : D i0 s = false) (hD : ∀ i x, i < es.length → D2 i x = (D i x || (decide (i = i0) && decide (x = s)))) (v : Value) : KidsP es D2 (putF f (.kid s) v ((f (.kid s)).2 ++ [(ent es i0).id])) := by
  refine ⟨fun x => ?_, fun x y => ?_⟩
  · by_cases e : x = s
    · subst e
      rw [putF_at, List.nodup_append]
      refine ⟨h.nd x, by simp, fun a ha b hb => ?_⟩
      rw [List.mem_singleton.1 hb]
      intro e
      obtain ⟨i, hi, hid, hd⟩ := (h.mem x a).1 ha
      obtain rfl := hC.ids i i0 hi hi0 (hid.trans e)
      rw [hn] at hd; cases hd
    · rw [putF_ne f v _ (fun h => e (by injection h))]; exact h.nd x
  · by_cases e : x = s
    · subst e
      rw [putF_at, List.mem_append, h.mem, List.mem_singleton]
      constructor
      · rintro (⟨i, a, b, c⟩ | rfl)
        · exact ⟨i, a, b, by rw [hD i x a, c]; rfl⟩
        · exact ⟨i0, hi0, rfl, by rw [hD i0 x hi0]; simp⟩
      · rintro ⟨i, a, b, c⟩
        rw [hD i x a, Bool.or_eq_true, Bool.and_eq_true, decide_eq_true_eq] at c
        rcases c with c | ⟨rfl, _⟩
        · exact .inl ⟨i, a, b, c⟩
        · exact .inr b.symm
    · rw [putF_ne f v _ (fun h => e (by injection h)), h.mem]
      constructor <;> rintro ⟨i, a, b, c⟩
      · exact ⟨i, a, b, by rw [hD i x a, c]; rfl⟩
      · refine ⟨i, a, b, ?_⟩
        rw [hD i x a, decide_eq_false e, Bool.and_false, Bool.or_false] at c
        exact c
theorem RdP.of (h : RdP es T f) (hf : f2 .rdy = f .rdy) : RdP es T f2 := ⟨by rw [hf]; exact h.nd, fun x => by rw [hf]; exact h.mem x⟩
theorem RdP.skip (h : RdP es T f) {i0 : Nat} (hT : ∀ i, i < es.length → T2 i = (T i || decide (i = i0))) (hi : (parsL es i0).length ≠ 0) : RdP es T2 f := by
  refine ⟨h.nd, fun x => ?_⟩
  rw [h.mem]
  constructor <;> rintro ⟨i, a, b, c, d⟩
  · exact ⟨i, a, b, by rw [hT i a, c]; rfl, d⟩
  · rw [hT i a, Bool.or_eq_true, decide_eq_true_eq] at c
    rcases c with c | rfl
    · exact ⟨i, a, b, c, d⟩
    · exact absurd d hi
theorem RdP.add (h : RdP es T f) (hC : Closed es) {i0 : Nat} (hi0 : i0 < es.length) (hn : T i0 = false) (hT : ∀ i, i < es.length → T2 i = (T i || decide (i = i0))) (hi : (parsL es i0).length = 0) (v : Value) : RdP es T2 (putF f .rdy v ((f .rdy).2 ++ [(ent es i0).id])) := by
  refine ⟨?_, fun x => ?_⟩
  · rw [putF_at, List.nodup_append]
    refine ⟨h.nd, by simp, fun a ha b hb => ?_⟩
    rw [List.mem_singleton.1 hb]
    intro e
    obtain ⟨i, hi, hid, hd, _⟩ := (h.mem a).1 ha
    obtain rfl := hC.ids i i0 hi hi0 (hid.trans e)
    rw [hn] at hd; cases hd
  · rw [putF_at, List.mem_append, h.mem, List.mem_singleton]
    constructor
    · rintro (⟨i, a, b, c, d⟩ | rfl)
      · exact ⟨i, a, b, by rw [hT i a, c]; rfl, d⟩
      · exact ⟨i0, hi0, rfl, by rw [hT i0 hi0]; simp, hi⟩
    · rintro ⟨i, a, b, c, d⟩
      rw [hT i a, Bool.or_eq_true, decide_eq_true_eq] at c
      rcases c with c | rfl
      · exact .inl ⟨i, a, b, c, d⟩
      · exact .inr b.symm
theorem LeftP.put (h : LeftP es T lm) (hC : Closed es) {i0 : Nat} (hi0 : i0 < es.length) (hT : ∀ i, i < es.length → T2 i = (T i || decide (i = i0))) : LeftP es T2 (mput lm (ent es i0).id (.int .i64 ((parsL es i0).length : Int))) := by
  intro i hi ht
  rw [mget_mput]
  by_cases e : (ent es i).id = (ent es i0).id
  · obtain rfl := hC.ids i i0 hi hi0 e
    rw [if_pos rfl]
  · rw [if_neg e]
    rw [hT i hi, Bool.or_eq_true, decide_eq_true_eq] at ht
    rcases ht with ht | rfl
    · exact h i hi ht
    · exact absurd rfl e
end
/-- i was told: it is not to come any more. -/
def tB (es : List Ent) (left : Asc) (i : Nat) : Bool := left.all fun p => decide (p.1 ≠ (ent es i).id)
theorem tB_start {es : List Ent} {pv : Nat → Value} {i : Nat} (hi : i < es.length) : tB es (idA es allT pv es.length) i = false := by
  unfold tB
  rw [List.all_eq_false]
  refine ⟨((ent es i).id, pv i), idA_mem.2 ⟨i, hi, rfl, rfl⟩, by simp⟩
theorem tB_nil (es : List Ent) (i : Nat) : tB es [] i = true := rfl
theorem tB_step {es : List Ent} (hC : Closed es) {left : Asc} {i0 : Nat} (hi0 : i0 < es.length) {i : Nat} (hi : i < es.length) : tB es (left.filter fun q => decide (q.1 ≠ (ent es i0).id)) i = (tB es left i || decide (i = i0)) := by
  unfold tB
  by_cases e : i = i0
  · subst e
    rw [decide_eq_true rfl, Bool.or_true, List.all_eq_true]
    intro p hp
    exact (List.mem_filter.1 hp).2
  · rw [decide_eq_false e, Bool.or_false, Bool.eq_iff_iff, List.all_eq_true, List.all_eq_true]
    have hne : (ent es i).id ≠ (ent es i0).id := fun h => e (hC.ids i i0 hi hi0 h)
    constructor
    · intro h p hp
      by_cases e2 : p.1 = (ent es i0).id
      · rw [decide_eq_true_eq, e2]; exact fun h => hne h.symm
      · exact h p (List.mem_filter.2 ⟨hp, by simpa using e2⟩)
    · intro h p hp
      exact h p (List.mem_filter.1 hp).1
theorem tB_now {es : List Ent} {left : Asc} {i0 : Nat} {v : Value} (h : ((ent es i0).id, v) ∈ left) : tB es left i0 = false := by
  unfold tB
  rw [List.all_eq_false]
  exact ⟨_, h, by simp⟩
/-- The pairs of a kid and a parent that are laid, t parents of i0 in. -/
def dB (es : List Ent) (left : Asc) (i0 t : Nat) (i : Nat) (s : ByteArray) : Bool := (tB es left i && hasB (parsL es i) s) || (decide (i = i0) && hasB ((parsL es i0).take t) s)
def dO (es : List Ent) (left : Asc) (i : Nat) (s : ByteArray) : Bool := tB es left i && hasB (parsL es i) s
theorem dB_zero (es : List Ent) (left : Asc) (i0 i : Nat) (s : ByteArray) : dB es left i0 0 i s = dO es left i s := by simp [dB, dO, hasB]
theorem dB_step {es : List Ent} {left : Asc} {i0 t : Nat} {p : ByteArray} (hp : (parsL es i0)[t]? = some p) (i : Nat) (x : ByteArray) : dB es left i0 (t + 1) i x = (dB es left i0 t i x || (decide (i = i0) && decide (x = p))) := by
  unfold dB
  rw [List.take_add_one, hp, Option.toList_some, hasB_app, Bool.and_or_distrib_left, Bool.or_assoc]
  congr 3
  exact decide_eq_decide.2 ⟨Eq.symm, Eq.symm⟩
theorem dB_now {es : List Ent} {left : Asc} {i0 t : Nat} {p : ByteArray} (hp : (parsL es i0)[t]? = some p) (h : tB es left i0 = false) : dB es left i0 t i0 p = false := by
  unfold dB
  rw [h, Bool.false_and, Bool.false_or, decide_eq_true rfl, Bool.true_and]
  cases e : hasB ((parsL es i0).take t) p with
  | false => rfl
  | true =>
    have := hasB_iff.1 e
    obtain ⟨q, hq⟩ := List.mem_iff_getElem?.1 this
    rw [List.getElem?_take] at hq
    split at hq
    · have := nodup_inj (parsL_nodup es i0) hq hp; omega
    · cases hq
theorem dB_end {es : List Ent} (hC : Closed es) {left : Asc} {i0 : Nat} (hi0 : i0 < es.length) {i : Nat} (hi : i < es.length) (s : ByteArray) : dO es (left.filter fun q => decide (q.1 ≠ (ent es i0).id)) i s = dB es left i0 (parsL es i0).length i s := by
  unfold dO dB
  rw [tB_step hC hi0 hi, List.take_length]
  by_cases e : i = i0
  · subst e; simp
  · rw [decide_eq_false e]; simp
/-! ### While what is ready is told -/
structure P3 (es : List Ent) (ys : List ByteArray) (lm : Asc) (f : DK → Value × List ByteArray) : Prop where
  ord : OrdP es ys
  least : LeastP es ys
  rdy : RdyP es ys (f .rdy).2
  out : (f .out).2 = ys
  kids : KidsP es (fun i s => hasB (parsL es i) s) f
  left : ∀ i, i < es.length → mget lm (ent es i).id = some (.int .i64 (leftN es ys i : Int))
theorem nodup_of_lt {l : List ByteArray} (h : l.Pairwise fun a b => bl a b = true) : l.Nodup := h.imp fun {a b} hab e => by rw [e, bl_irrefl] at hab; cases hab
theorem P3.start {es : List Ent} (hC : Closed es) {lm : Asc} {f : DK → Value × List ByteArray} (hk : KidsP es (dO es []) f) (hl : LeftP es (tB es []) lm) (hr : RdP es (tB es []) f) (ho : (f .out).2 = []) {L : List ByteArray} (hp : L.Perm (f .rdy).2) (hs : L.Pairwise fun a b => bl b a = false) (v : Value) : P3 es [] lm (putF f .rdy v L) := by
  refine ⟨OrdP.start es, LeastP.start es, ?_, by rw [putF_ne f v L (by decide)]; exact ho, hk.of (fun i s _ => by unfold dO; rw [tB_nil, Bool.true_and]) (fun s => putF_ne f v L (fun h => by cases h)), fun i hi => by rw [leftN_nil]; exact hl i hi rfl⟩
  rw [putF_at]
  have hnd : L.Nodup := hp.nodup_iff.2 hr.nd
  refine ⟨?_, fun s => ?_⟩
  · refine List.Pairwise.imp_of_mem ?_ (List.pairwise_and_iff.2 ⟨hs, hnd⟩)
    rintro a b _ _ ⟨h1, h2⟩
    cases h3 : bl a b with
    | true => rfl
    | false => exact absurd (bl_total h3 h1) h2
  · rw [hp.mem_iff, hr.mem]
    constructor <;> rintro ⟨i, a, b, c⟩
    · exact ⟨i, a, b, readyB_iff.2 ⟨by simp, fun p hpp => by
        have := sortS_mem.2 hpp
        rw [show sortS (ent es i).ps = [] from List.eq_nil_of_length_eq_zero c.2] at this
        cases this⟩⟩
    · refine ⟨i, a, b, rfl, ?_⟩
      have := (readyB_iff.1 c).2
      apply List.length_eq_zero_iff.2
      apply List.eq_nil_iff_forall_not_mem.2
      intro p hpp
      have := this p (sortS_mem.1 hpp)
      cases this
/-- While the kids of the one that was told last are gone through. -/
structure P4 (es : List Ent) (ys : List ByteArray) (x : ByteArray) (ks : List ByteArray) (t : Nat) (lm : Asc) (f : DK → Value × List ByteArray) : Prop where
  ord : OrdP es (ys ++ [x])
  least : LeastP es (ys ++ [x])
  out : (f .out).2 = ys ++ [x]
  kid : KidP es ys x ks t (f .rdy).2
  kids : KidsP es (fun i s => hasB (parsL es i) s) f
  left : ∀ i, i < es.length → mget lm (ent es i).id = some (.int .i64 ((if hasB (ks.take t) (ent es i).id then leftN es (ys ++ [x]) i else leftN es ys i : Nat) : Int))
section
variable {es : List Ent} {ys ks : List ByteArray} {x : ByteArray} {t : Nat} {lm : Asc} {f : DK → Value × List ByteArray}
theorem P3.head (h : P3 es ys lm f) {R : List ByteArray} (hR : (f .rdy).2 = x :: R) : ∃ j, j < es.length ∧ (ent es j).id = x ∧ readyB es ys j = true := (h.rdy.mem x).1 (by rw [hR]; simp)
theorem P3.tell (h : P3 es ys lm f) (hC : Closed es) {R : List ByteArray} (hR : (f .rdy).2 = x :: R) (v1 v2 : Value) (hks : (f (.kid x)).2 = ks) : P4 es ys x ks 0 lm (putF (putF f .rdy v1 R) .out v2 (ys ++ [x])) ∧ x ∉ ys := by
  obtain ⟨j, hj, hid, hr⟩ := h.head hR
  have hx : x ∉ ys := by rw [← hid]; exact (readyB_iff.1 hr).1
  have hrd := h.rdy
  rw [hR] at hrd
  have hst := KidP.start (ks := ks) hC hrd hx
  have hp := List.pairwise_cons.1 hrd.sorted
  refine ⟨⟨by rw [← hid]; exact h.ord.put hC hj hr, h.least.put fun i hi hri => ?_, by rw [putF_at], by rw [putF_ne _ _ _ (by decide), putF_at]; exact hst, h.kids.of (fun _ _ _ => rfl) (fun s => by rw [putF_ne _ _ _ (fun h => by cases h), putF_ne _ _ _ (fun h => by cases h)]), fun i hi => ?_⟩, hx⟩
  · have hm := (hrd.mem _).2 ⟨i, hi, rfl, hri⟩
    rcases List.mem_cons.1 hm with e | hm
    · rw [e]; exact bl_irrefl x
    · cases e : bl (ent es i).id x with
      | false => rfl
      | true =>
        have := bl_trans e (hp.1 _ hm)
        rw [bl_irrefl] at this; cases this
  · rw [show ks.take 0 = [] by simp]
    exact h.left i hi
theorem KidsP.mine (h : KidsP es (fun i s => hasB (parsL es i) s) f) (hks : (f (.kid x)).2 = ks) {i : Nat} (hi : i < es.length) (hp : x ∈ (ent es i).ps) : (ent es i).id ∈ ks := by
  rw [← hks, h.mem]
  exact ⟨i, hi, rfl, hasB_iff.2 (sortS_mem.2 hp)⟩
theorem KidsP.at (h : KidsP es (fun i s => hasB (parsL es i) s) f) (hks : (f (.kid x)).2 = ks) {k : ByteArray} (hk : ks[t]? = some k) : ∃ i, i < es.length ∧ (ent es i).id = k ∧ x ∈ (ent es i).ps := by
  have hm := List.mem_of_getElem? hk
  rw [← hks, h.mem] at hm
  obtain ⟨i, hi, hid, hb⟩ := hm
  exact ⟨i, hi, hid, sortS_mem.1 (hasB_iff.1 hb)⟩
theorem P4.now (h : P4 es ys x ks t lm f) (hC : Closed es) (hx : x ∉ ys) (hnd : ks.Nodup) {i : Nat} (hi : i < es.length) (hk : ks[t]? = some (ent es i).id) (hp : x ∈ (ent es i).ps) : mget lm (ent es i).id = some (.int .i64 ((leftN es (ys ++ [x]) i + 1 : Nat) : Int)) ∧ (ent es i).id ∉ ys ++ [x] := by
  refine ⟨?_, fun hm => ?_⟩
  · rw [h.left i hi, if_neg, leftN_kid hx hp]
    intro e
    obtain ⟨q, hq⟩ := List.mem_iff_getElem?.1 (hasB_iff.1 e)
    rw [List.getElem?_take] at hq
    split at hq
    · have := nodup_inj hnd hq hk; omega
    · cases hq
  · obtain ⟨q, hq⟩ := List.mem_iff_getElem?.1 hm
    have := h.ord.par q _ hq i hi rfl x hp
    rcases Nat.lt_or_ge ys.length q with h1 | h1
    · have := (List.getElem?_eq_some_iff.1 hq).1
      simp at this; omega
    · rw [List.take_append_of_le_length h1] at this
      exact hx (List.mem_of_mem_take this)
theorem P4.putleft (h : P4 es ys x ks t lm f) (hC : Closed es) {i : Nat} (hi : i < es.length) (hk : ks[t]? = some (ent es i).id) : ∀ j, j < es.length → mget (mput lm (ent es i).id (.int .i64 (leftN es (ys ++ [x]) i : Int))) (ent es j).id = some (.int .i64 ((if hasB (ks.take (t + 1)) (ent es j).id then leftN es (ys ++ [x]) j else leftN es ys j : Nat) : Int)) := by
  intro j hj
  rw [mget_mput, List.take_add_one, hk, Option.toList_some, hasB_app]
  by_cases e : (ent es j).id = (ent es i).id
  · obtain rfl := hC.ids j i hj hi e
    rw [if_pos rfl, decide_eq_true rfl, Bool.or_true, if_pos rfl]
  · rw [if_neg e, decide_eq_false (fun h => e h.symm), Bool.or_false]
    exact h.left j hj
theorem P4.wait (h : P4 es ys x ks t lm f) (hC : Closed es) {i : Nat} (hi : i < es.length) (hk : ks[t]? = some (ent es i).id) (hl : leftN es (ys ++ [x]) i ≠ 0) : P4 es ys x ks (t + 1) (mput lm (ent es i).id (.int .i64 (leftN es (ys ++ [x]) i : Int))) f :=
  ⟨h.ord, h.least, h.out, h.kid.wait hC hi hk hl, h.kids, h.putleft hC hi hk⟩
theorem P4.ins (h : P4 es ys x ks t lm f) (hC : Closed es) (hx : x ∉ ys) (hnd : ks.Nodup) {i : Nat} (hi : i < es.length) (hk : ks[t]? = some (ent es i).id) (hp : x ∈ (ent es i).ps) (hl : leftN es (ys ++ [x]) i = 0) (v : Value) : P4 es ys x ks (t + 1) (mput lm (ent es i).id (.int .i64 (leftN es (ys ++ [x]) i : Int))) (putF f .rdy v (insS (ent es i).id (f .rdy).2)) :=
  ⟨h.ord, h.least, by rw [putF_ne _ _ _ (by decide)]; exact h.out, by rw [putF_at]; exact (h.kid.ins hC hnd hi hk hp hx (h.now hC hx hnd hi hk hp).2 hl).1, h.kids.of (fun _ _ _ => rfl) (fun s => putF_ne _ _ _ (fun h => by cases h)), h.putleft hC hi hk⟩
theorem P4.done (h : P4 es ys x ks ks.length lm f) (hks : (f (.kid x)).2 = ks) : P3 es (ys ++ [x]) lm f := by
  refine ⟨h.ord, h.least, h.kid.done fun i hi hp => h.kids.mine hks hi hp, h.out, h.kids, fun i hi => ?_⟩
  rw [h.left i hi, List.take_length]
  by_cases e : hasB ks (ent es i).id = true
  · rw [if_pos e]
  · rw [if_neg e, leftN_other]
    intro hp
    exact e (hasB_iff.2 (h.kids.mine hks hi hp))
/-- What is ready is not more than all. -/
theorem sub_ids {R : List ByteArray} (hC : Closed es) (hn : R.Nodup) (h : ∀ s ∈ R, ∃ i, i < es.length ∧ (ent es i).id = s) : R.length ≤ 300 := by
  have := sub_len hn (ids_nodup hC) (fun s hs => by
    obtain ⟨i, hi, e⟩ := h s hs
    exact List.mem_map.2 ⟨i, by simpa using hi, e⟩)
  have := hC.len
  simp at *
  omega
theorem P4.rlen (h : P4 es ys x ks t lm f) (hC : Closed es) : (f .rdy).2.length ≤ 300 := sub_ids hC (nodup_of_lt h.kid.sorted) fun s hs => by
  obtain ⟨i, a, b, _⟩ := (h.kid.mem s).1 hs
  exact ⟨i, a, b⟩
theorem P3.rlen (h : P3 es ys lm f) (hC : Closed es) : (f .rdy).2.length ≤ 300 := sub_ids hC (nodup_of_lt h.rdy.sorted) fun s hs => by
  obtain ⟨i, a, b, _⟩ := (h.rdy.mem s).1 hs
  exact ⟨i, a, b⟩
theorem KidsP.klen {D : Nat → ByteArray → Bool} (h : KidsP es D f) (hC : Closed es) (s : ByteArray) : (f (.kid s)).2.length ≤ 300 := sub_ids hC (h.nd s) fun y hy => by
  obtain ⟨i, a, b, _⟩ := (h.mem s y).1 hy
  exact ⟨i, a, b⟩
theorem RdP.len {T : Nat → Bool} (h : RdP es T f) (hC : Closed es) : (f .rdy).2.length ≤ 300 := sub_ids hC h.nd fun y hy => by
  obtain ⟨i, a, b, _⟩ := (h.mem y).1 hy
  exact ⟨i, a, b⟩
theorem P3.fin (h : P3 es ys lm f) (hC : Closed es) (hR : (f .rdy).2 = []) : ys.length = es.length := by
  rcases Nat.lt_or_ge ys.length es.length with h1 | h1
  · obtain ⟨j, hj, hr⟩ := h.ord.go hC h1
    have := (h.rdy.mem _).2 ⟨j, hj, rfl, hr⟩
    rw [hR] at this; cases this
  · have := h.ord.len hC; omega
end
end Go.Proofs.YtgalnnmeamldhaaGreat
