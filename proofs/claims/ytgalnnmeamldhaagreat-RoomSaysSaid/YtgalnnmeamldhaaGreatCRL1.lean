/-
  What a room looks like: plain, and as it lies in memory while it is made.
  What a room looks like, told of other lists of the same entries, and of what was said ahead (plain).
  A post or a topic, said behind all heads (plain).
  palaverref16, Same: two looks alike.
  append(append([]T{}, l...), x), its operations in whatever order they are drawn.
-/
import Derived.Test.YtgalnnmeamldhaaGreatCDO4
import Derived.Test.YtgalnnmeamldhaaGreatCDG5
import Derived.Test.YtgalnnmeamldhaaGreatCRS2
import Derived.Test.YtgalnnmeamldhaaGreatCTO2
/- What a room looks like: plain, and as it lies in memory while it is made. -/
set_option linter.unusedVariables false
set_option linter.unusedSimpArgs false
namespace Go.Proofs.YtgalnnmeamldhaaGreat
open Go Go.RowKit Go.Proofs.YtgalnnmeamldhaaGreat.Pal Go.Proofs.YtgalnnmeamldhaaGreat.Plan

abbrev Look := ByteArray × List (ByteArray × ByteArray)
def ixL (l : List Ent) (id : ByteArray) : Nat := (findN l id).getD 0
def stepV (l : List Ent) (G : Nat → Bool) (s : Look) (i : Nat) : Look :=
  if G i = true then (if (ent l i).kind = 3 then ((ent l i).body, s.2) else if (ent l i).kind = 2 then (s.1, s.2 ++ [((ent l i).author, (ent l i).body)]) else s) else s
def viewV (l : List Ent) (G : Nat → Bool) (ys : List ByteArray) : Look := (ys.map (ixL l)).foldl (stepV l G) (⟨#[]⟩, [])
theorem viewV_nil (l : List Ent) (G : Nat → Bool) : viewV l G [] = (⟨#[]⟩, []) := rfl
theorem viewV_app (l : List Ent) (G : Nat → Bool) (ys : List ByteArray) (x : ByteArray) : viewV l G (ys ++ [x]) = stepV l G (viewV l G ys) (ixL l x) := by
  unfold viewV
  rw [List.map_append, List.foldl_append]
  rfl
theorem viewV_take (l : List Ent) (G : Nat → Bool) {ys : List ByteArray} {q : Nat} {x : ByteArray} (h : ys[q]? = some x) : viewV l G (ys.take (q + 1)) = stepV l G (viewV l G (ys.take q)) (ixL l x) := by
  rw [List.take_add_one, h]
  exact viewV_app l G _ x
theorem ixL_id {l : List Ent} (hC : Closed l) {i : Nat} (hi : i < l.length) : ixL l (ent l i).id = i := by
  unfold ixL
  rw [hC.find hi]
  rfl
theorem stepV_len (l : List Ent) (G : Nat → Bool) (s : Look) (i : Nat) : (stepV l G s i).2.length ≤ s.2.length + 1 := by
  unfold stepV
  split
  · split
    · simp
    · split
      · simp
      · simp
  · simp
theorem viewV_len (l : List Ent) (G : Nat → Bool) (ys : List ByteArray) : (viewV l G ys).2.length ≤ ys.length := by
  have key : ∀ (xs : List Nat) (s : Look), (xs.foldl (stepV l G) s).2.length ≤ s.2.length + xs.length := by
    intro xs
    induction xs with
    | nil => intro s; simp
    | cons x xs ih =>
      intro s
      rw [List.foldl_cons, List.length_cons]
      have := ih (stepV l G s x)
      have := stepV_len l G s x
      omega
  have := key (ys.map (ixL l)) (⟨#[]⟩, [])
  unfold viewV
  simpa using this
/-! ### In memory -/
def pcells (ps : List (ByteArray × ByteArray)) : List Value := ps.flatMap fun p => [.string p.1, .string p.2]
theorem pcells_app (ps : List (ByteArray × ByteArray)) (a b : ByteArray) : pcells (ps ++ [(a, b)]) = pcells ps ++ [.string a, .string b] := by simp [pcells]
theorem pcells_len : ∀ ps : List (ByteArray × ByteArray), (pcells ps).length = ps.length * 2
  | [] => rfl
  | p :: ps => by
    have := pcells_len ps
    unfold pcells at this ⊢
    rw [List.flatMap_cons, List.length_append, this, List.length_cons]
    simp; omega
theorem pcells_get : ∀ {ps : List (ByteArray × ByteArray)} {i : Nat} {p : ByteArray × ByteArray}, ps[i]? = some p → (pcells ps)[i * 2]? = some (.string p.1) ∧ (pcells ps)[i * 2 + 1]? = some (.string p.2)
  | q :: ps, 0, p, h => by
    have : q = p := by simpa using h
    subst this
    exact ⟨rfl, rfl⟩
  | q :: ps, i + 1, p, h => by
    have ih := pcells_get (ps := ps) (i := i) (p := p) (by simpa using h)
    have e : pcells (q :: ps) = .string q.1 :: .string q.2 :: pcells ps := rfl
    rw [e, show (i + 1) * 2 = i * 2 + 1 + 1 by omega, List.getElem?_cons_succ, List.getElem?_cons_succ, List.getElem?_cons_succ, List.getElem?_cons_succ]
    exact ih
theorem info_said : (Tryz.prog.info? 53).map (fun i => (i.zero, i.size, i.bytes)) = some (some (.agg #[.string ⟨#[]⟩, .string ⟨#[]⟩]), 2, 32) := by kernel_rfl
def zeroView : Obj := .cells #[.string ⟨#[]⟩, .string ⟨#[]⟩, .slice none 0 0, .slice none 0 0] 30
structure MRow (w wr : World) (v : Value) (L : List ByteArray) : Prop where
  row : Row wr 9 1 v L.length (sv L)
  own : ∀ b, v.ownBlock = some b → w.heap.size ≤ b
theorem MRow.of {w w1 wr : World} {v : Value} {L : List ByteArray} (h : SMid w1 wr v L.length L) (hu : Unch none_ w w1) : MRow w wr v L := ⟨h.row, fun b hb => by have := h.own b hb; have := hu.size; omega⟩
/-- What is only read. -/
structure LO (w wr : World) (bz gH n : Nat) (G : Nat → Bool) (vm : Value) (L : List ByteArray) (vy : Value) (ys : List ByteArray) : Prop where
  bz : wr.heap[bz]? = some zeroView
  hg : Brow wr gH n G
  mem : MRow w wr vm L
  ysr : MRow w wr vy ys
def isV (wr : World) (bz : Nat) (j : Nat) : Prop := ∃ cur e fr, wr.heap[j]? = some (.cells cur e fr) ∧ ((e = 30 ∧ j ≠ bz) ∨ e = 53)
section
variable {w wr w2 : World} {bz gH n : Nat} {G : Nat → Bool} {vm vy : Value} {L ys : List ByteArray} {X : Nat → Prop}
theorem MRow.unch (h : MRow w wr vm L) (hu : Unch X wr w2) (hX : ∀ j, X j → isV wr bz j) : MRow w w2 vm L := by
  refine ⟨h.row.unch hu fun k hk hx => ?_, h.own⟩
  obtain ⟨cur, hc⟩ := h.row.blk hk
  obtain ⟨cur', e, fr, h1, h2⟩ := hX k hx
  rw [hc] at h1
  injection h1 with h1
  injection h1 with _ h1
  subst h1
  rcases h2 with ⟨h2, _⟩ | h2
  · exact absurd h2 (by decide)
  · exact absurd h2 (by decide)
theorem MRow.fresh (h : MRow w wr vm L) (hu : Unch none_ wr w2) : MRow w w2 vm L := h.unch (bz := 0) hu (fun _ h => h.elim)
theorem LO.unch (h : LO w wr bz gH n G vm L vy ys) (hu : Unch X wr w2) (hX : ∀ j, X j → isV wr bz j) : LO w w2 bz gH n G vm L vy ys := by
  refine ⟨hu.heap h.bz fun hx => ?_, h.hg.unch hu fun hx => ?_, h.mem.unch hu hX, h.ysr.unch hu hX⟩
  · obtain ⟨cur', e, fr, h1, h2⟩ := hX _ hx
    rw [h.bz] at h1
    injection h1 with h1
    injection h1 with _ h1
    subst h1
    rcases h2 with ⟨_, h2⟩ | h2
    · exact h2 rfl
    · exact absurd h2 (by decide)
  · obtain ⟨cur', e, fr, h1, h2⟩ := hX _ hx
    have := h.hg
    unfold Brow at this
    rw [this] at h1
    injection h1 with h1
    injection h1 with _ h1
    subst h1
    rcases h2 with ⟨h2, _⟩ | h2
    · exact absurd h2 (by decide)
    · exact absurd h2 (by decide)
theorem LO.fresh (h : LO w wr bz gH n G vm L vy ys) (hu : Unch none_ wr w2) : LO w w2 bz gH n G vm L vy ys := h.unch hu (fun _ h => h.elim)
theorem isV.not_map {b : Nat} {m : Asc} (hs : Sm wr b m) : ¬ isV wr bz b := by
  rintro ⟨cur, e, fr, h1, _⟩
  exact sm_ne_cells hs h1 rfl
end
/-- The view under way. -/
structure VB (w wr : World) (bv : Nat) (nm : ByteArray) (vm vp : Value) (s : Look) : Prop where
  blk : wr.heap[bv]? = some (.cells #[.string nm, .string s.1, vm, vp] 30 (0, 0))
  row : Row wr 53 2 vp s.2.length (pcells s.2)
  own : ∀ b, vp.ownBlock = some b → w.heap.size ≤ b
  hb : w.heap.size ≤ bv
section
variable {w wr w2 : World} {bz bv : Nat} {nm : ByteArray} {vm vp : Value} {s : Look}
theorem said_ne {b : Nat} {v : Value} {ps : List (ByteArray × ByteArray)} {cs : Array Value} {fr : Nat × Nat} {k : Nat} (hr : Row wr 53 2 v k (pcells ps)) (hb : wr.heap[b]? = some (.cells cs 30 fr)) {j : Nat} (hj : v.ownBlock = some j) : j ≠ b := fun e => by
  obtain ⟨cur, hc⟩ := hr.blk hj
  subst e
  rw [hc] at hb
  injection hb with hb
  injection hb with _ hb
  exact absurd hb (by decide)
theorem VB.fresh (h : VB w wr bv nm vm vp s) (hu : Unch none_ wr w2) : VB w w2 bv nm vm vp s := ⟨hu.heap h.blk (fun h => h), h.row.unch hu (fun _ _ h => h), h.own, h.hb⟩
theorem VB.isB (h : VB w wr bv nm vm vp s) (hne : bv ≠ bz) : ∀ j, j = bv → isV wr bz j := fun j e => by subst e; exact ⟨_, _, _, h.blk, .inl ⟨rfl, hne⟩⟩
theorem VB.isP (h : VB w wr bv nm vm vp s) : ∀ j, vp.ownBlock = some j → isV wr bz j := fun j e => by
  obtain ⟨cur, hc⟩ := h.row.blk e
  exact ⟨_, _, _, hc, .inr rfl⟩
theorem VB.topic (h : VB w wr bv nm vm vp s) (t : ByteArray) : VB w (wr.setCell ⟨bv, 1, none⟩ (.string t)) bv nm vm vp (t, s.2) := by
  have hu : Unch (fun j => j = bv) wr (wr.setCell ⟨bv, 1, none⟩ (.string t)) := (Unch.refl _ _).setCell _ (fun _ => rfl)
  exact ⟨blk_set h.blk 1 _, h.row.unch hu (fun k hk e => said_ne h.row h.blk hk e), h.own, h.hb⟩
theorem VB.post (h : VB w wr bv nm vm vp s) {v2 : Value} {a b : ByteArray} (hw : w.heap.size ≤ wr.heap.size) (hr : Row w2 53 2 v2 (s.2.length + 1) (pcells s.2 ++ [.string a, .string b])) (hu : Unch (fun k => vp.ownBlock = some k) wr w2) (hat : ∀ b, v2.ownBlock = some b → vp.ownBlock = some b ∨ wr.heap.size ≤ b) :
    VB w (w2.setCell ⟨bv, 3, none⟩ v2) bv nm vm v2 (s.1, s.2 ++ [(a, b)]) := by
  have hb2 := hu.heap h.blk (fun e => said_ne h.row h.blk e rfl)
  have hu3 : Unch (fun j => j = bv) w2 (w2.setCell ⟨bv, 3, none⟩ v2) := (Unch.refl _ _).setCell _ (fun _ => rfl)
  rw [← pcells_app] at hr
  refine ⟨blk_set hb2 3 _, ?_, fun k hk => ?_, h.hb⟩
  · rw [List.length_append, List.length_singleton]
    exact hr.unch hu3 (fun k hk e => said_ne hr hb2 hk e)
  · rcases hat k hk with h1 | h1
    · exact h.own k h1
    · omega
end
/-- What is returned. -/
structure ViewR (w w' : World) (vm vp : Value) (L : List ByteArray) (ps : List (ByteArray × ByteArray)) : Prop where
  hu : Unch none_ w w'
  mem : MRow w w' vm L
  row : Row w' 53 2 vp ps.length (pcells ps)
  own : ∀ b, vp.ownBlock = some b → w.heap.size ≤ b
theorem ViewR.fresh {w w' w2 : World} {vm vp : Value} {L : List ByteArray} {ps : List (ByteArray × ByteArray)} (h : ViewR w w' vm vp L ps) (hu : Unch none_ w' w2) : ViewR w w2 vm vp L ps := ⟨h.hu.trans hu, h.mem.fresh hu, h.row.unch hu (fun _ _ h => h), h.own⟩
/-! ### The view's first statement, in whatever order: the members (i1, slot s1), the value (i2, s2), the box (i3, s3), the store (i4) -/
structure VPre (w0 : World) (i1 i2 i3 s1 s2 s3 : Nat) (S : Ms) (nm : ByteArray) (D : Nat → Bool) (x : Nat → Value) (w' : World) : Prop where
  u : Unch none_ w0 w'
  d1 : D i1 = true → ∃ A c L, x s1 = .slice A L.length c ∧ MemL S L ∧ MRow w0 w' (x s1) L
  d2 : D i2 = true → D i1 = true ∧ x s2 = .agg #[.string nm, .string ⟨#[]⟩, x s1, .slice none 0 0]
  d3 : D i3 = true → ∃ b, x s3 = .pointer (some ⟨b, 0, none⟩) ∧ w0.heap.size ≤ b ∧ w'.heap[b]? = some zeroView
def VFin (w0 : World) (s3 : Nat) (S : Ms) (nm : ByteArray) (x : Nat → Value) (w' : World) : Prop :=
  Unch none_ w0 w' ∧ ∃ vm L b, x s3 = .pointer (some ⟨b, 0, none⟩) ∧ MemL S L ∧ MRow w0 w' vm L ∧ VB w0 w' b nm vm (.slice none 0 0) (⟨#[]⟩, [])
def VI (w0 : World) (i1 i2 i3 i4 s1 s2 s3 : Nat) (S : Ms) (nm : ByteArray) (D : Nat → Bool) (x : Nat → Value) (w' : World) : Prop :=
  (D i4 = false ∧ VPre w0 i1 i2 i3 s1 s2 s3 S nm D x w') ∨ ((∀ i ∈ [i1, i2, i3, i4], D i = true) ∧ VFin w0 s3 S nm x w')
section
variable {w0 : World} {i1 i2 i3 s1 s2 s3 : Nat} {S : Ms} {nm : ByteArray} {D : Nat → Bool} {x : Nat → Value} {w' w2 : World}
theorem VPre.fresh (h : VPre w0 i1 i2 i3 s1 s2 s3 S nm D x w') (hu : Unch none_ w' w2) : VPre w0 i1 i2 i3 s1 s2 s3 S nm D x w2 := by
  refine ⟨h.u.trans hu, fun hd => ?_, h.d2, fun hd => ?_⟩
  · obtain ⟨A, c, L, a, b, d⟩ := h.d1 hd; exact ⟨A, c, L, a, b, d.fresh hu⟩
  · obtain ⟨b, e1, e2, e3⟩ := h.d3 hd; exact ⟨b, e1, e2, hu.heap e3 (fun h => h)⟩
theorem VPre.call (h : VPre w0 i1 i2 i3 s1 s2 s3 S nm D x w') (hi : D i1 = false) (h12 : i1 ≠ i2) (h13 : i1 ≠ i3) (h3 : s3 ≠ s1) {A : Option Addr} {c : Nat} {L : List ByteArray} (hm : MemL S L) (hs : SMid w' w2 (.slice A L.length c) L.length L) :
    VPre w0 i1 i2 i3 s1 s2 s3 S nm (fun j => decide (j = i1) || D j) (upd x s1 (.slice A L.length c)) w2 := by
  have h' := h.fresh hs.hu
  refine ⟨h'.u, fun _ => ⟨A, c, L, by simp [upd], hm, by simp only [upd, if_true]; exact MRow.of hs h.u⟩, fun hd => ?_, fun hd => ?_⟩
  · rw [decide_eq_false (Ne.symm h12), Bool.false_or] at hd
    have := (h.d2 hd).1
    rw [hi] at this; cases this
  · rw [decide_eq_false (Ne.symm h13), Bool.false_or] at hd
    obtain ⟨b, e1, e2⟩ := h'.d3 hd
    exact ⟨b, by simp only [upd]; rw [if_neg h3]; exact e1, e2⟩
theorem VPre.build (h : VPre w0 i1 i2 i3 s1 s2 s3 S nm D x w') (h1 : D i1 = true) (h12 : i1 ≠ i2) (h23 : i2 ≠ i3) (hs12 : s1 ≠ s2) (hs23 : s3 ≠ s2) :
    VPre w0 i1 i2 i3 s1 s2 s3 S nm (fun j => decide (j = i2) || D j) (upd x s2 (.agg #[.string nm, .string ⟨#[]⟩, x s1, .slice none 0 0])) w' := by
  have e1 : upd x s2 (.agg #[.string nm, .string ⟨#[]⟩, x s1, .slice none 0 0]) s1 = x s1 := by simp only [upd]; rw [if_neg hs12]
  refine ⟨h.u, fun _ => ?_, fun _ => ⟨by rw [h1, Bool.or_true], ?_⟩, fun hd => ?_⟩
  · obtain ⟨A, c, L, a, b, d⟩ := h.d1 h1
    exact ⟨A, c, L, by rw [e1]; exact a, b, by rw [e1]; exact d⟩
  · rw [e1]; simp [upd]
  · rw [decide_eq_false (Ne.symm h23), Bool.false_or] at hd
    obtain ⟨b, e2, e3⟩ := h.d3 hd
    exact ⟨b, by simp only [upd]; rw [if_neg hs23]; exact e2, e3⟩
theorem VPre.box (h : VPre w0 i1 i2 i3 s1 s2 s3 S nm D x w') (h13 : i1 ≠ i3) (h23 : i2 ≠ i3) (hs13 : s1 ≠ s3) (hs23 : s2 ≠ s3) :
    VPre w0 i1 i2 i3 s1 s2 s3 S nm (fun j => decide (j = i3) || D j) (upd x s3 (.pointer (some ⟨w'.heap.size, 0, none⟩))) (w'.alloc zeroView) := by
  have hu : Unch none_ w' (w'.alloc zeroView) := (Unch.refl none_ w').alloc _
  have h' := h.fresh hu
  have e1 : upd x s3 (.pointer (some ⟨w'.heap.size, 0, none⟩)) s1 = x s1 := by simp only [upd]; rw [if_neg hs13]
  have e2 : upd x s3 (.pointer (some ⟨w'.heap.size, 0, none⟩)) s2 = x s2 := by simp only [upd]; rw [if_neg hs23]
  refine ⟨h'.u, fun hd => ?_, fun hd => ?_, fun _ => ⟨_, by simp [upd], h.u.size, blk_new w' zeroView⟩⟩
  · rw [decide_eq_false h13, Bool.false_or] at hd
    rw [e1]; exact h'.d1 hd
  · rw [decide_eq_false h23, Bool.false_or] at hd
    rw [e1, e2]
    have := h'.d2 hd
    exact ⟨by rw [this.1, Bool.or_true], this.2⟩
end
theorem vfin_of {w0 w' : World} {b : Nat} {S : Ms} {nm : ByteArray} {vm : Value} {L : List ByteArray} (hu : Unch none_ w0 w') (hb : w'.heap[b]? = some zeroView) (hbl : w0.heap.size ≤ b) (hm : MemL S L) (hr : MRow w0 w' vm L) {x : Nat → Value} {s3 : Nat} (hx : x s3 = .pointer (some ⟨b, 0, none⟩)) :
    VFin w0 s3 S nm x ((((w'.setCell ⟨b, 0, none⟩ (.string nm)).setCell ⟨b, 1, none⟩ (.string ⟨#[]⟩)).setCell ⟨b, 2, none⟩ vm).setCell ⟨b, 3, none⟩ (.slice none 0 0)) := by
  have huW : Unch (fun k => k = b) w' ((((w'.setCell ⟨b, 0, none⟩ (.string nm)).setCell ⟨b, 1, none⟩ (.string ⟨#[]⟩)).setCell ⟨b, 2, none⟩ vm).setCell ⟨b, 3, none⟩ (.slice none 0 0)) :=
    ((((Unch.refl (fun k => k = b) w').setCell _ (fun _ => rfl)).setCell _ (fun _ => rfl)).setCell _ (fun _ => rfl)).setCell _ (fun _ => rfl)
  refine ⟨hu.step huW (fun i hi e => by omega), vm, L, b, hx, hm, hr.unch (bz := b + 1) huW (fun j e => ?_), ⟨blk_set (blk_set (blk_set (blk_set hb 0 _) 1 _) 2 _) 3 _, Row.nil _ _ _, (fun b hb => by cases hb), hbl⟩⟩
  subst e
  exact ⟨_, _, _, hb, .inl ⟨rfl, by omega⟩⟩
end Go.Proofs.YtgalnnmeamldhaaGreat
/- What a room looks like, told of other lists of the same entries, and of what was said ahead (plain). -/
set_option linter.unusedVariables false
set_option linter.unusedSimpArgs false
namespace Go.Proofs.YtgalnnmeamldhaaGreat
open Go Go.RowKit Go.Proofs.YtgalnnmeamldhaaGreat.Pal Go.Proofs.YtgalnnmeamldhaaGreat.Plan

theorem viewV_congr {l m : List Ent} {Gl Gm : Nat → Bool} {ys : List ByteArray} (h : ∀ s ∈ ys, ∀ v, stepV m Gm v (ixL m s) = stepV l Gl v (ixL l s)) : viewV m Gm ys = viewV l Gl ys := by
  have key : ∀ (zs : List ByteArray) (v : Look), (∀ s ∈ zs, s ∈ ys) → (zs.map (ixL m)).foldl (stepV m Gm) v = (zs.map (ixL l)).foldl (stepV l Gl) v := by
    intro zs
    induction zs with
    | nil => intro v _; rfl
    | cons z zs ih =>
      intro v hz
      rw [List.map_cons, List.map_cons, List.foldl_cons, List.foldl_cons, h z (hz z (List.mem_cons_self ..)) v]
      exact ih _ fun s hs => hz s (List.mem_cons_of_mem _ hs)
  exact key ys _ fun s hs => hs
theorem Sub.view {l m : List Ent} {σ : Nat → Nat} (h : Sub l m σ) {Gl Gm : Nat → Bool} (hG : ∀ i, i < m.length → Gm i = Gl (σ i)) {ys : List ByteArray} (hy : ∀ s ∈ ys, ∃ i, i < m.length ∧ (ent m i).id = s) : viewV m Gm ys = viewV l Gl ys := by
  refine viewV_congr fun s hs v => ?_
  obtain ⟨i, hi, rfl⟩ := hy s hs
  have e := h.same i hi
  have e2 : ixL l (ent m i).id = σ i := by rw [e]; exact ixL_id h.cl (h.lt i hi)
  rw [ixL_id h.cm hi, e2]
  unfold stepV
  rw [hG i hi, e]
theorem ent_tk {l : List Ent} {k i : Nat} (hi : i < k) : ent (l.take k) i = ent l i := by
  unfold ent
  rw [List.getD_eq_getElem?_getD, List.getD_eq_getElem?_getD, List.getElem?_take, if_pos hi]
theorem prefix_sub {l : List Ent} (hC : Closed l) (k : Nat) : Sub l (l.take k) (fun i => i) := by
  have hlen : (l.take k).length ≤ l.length := by rw [List.length_take]; omega
  have hk : ∀ i, i < (l.take k).length → ent (l.take k) i = ent l i := fun i hi => ent_tk (by rw [List.length_take] at hi; omega)
  have hlt : ∀ i, i < (l.take k).length → i < l.length := fun i hi => by omega
  refine ⟨hC, ⟨by have := hC.len; omega, fun i hi => ?_, fun i hi => ?_, fun i j hi hj e => ?_, fun i s hi hs => ?_⟩, hlt, hk⟩
  · rw [hk i hi]; exact hC.lo i (hlt i hi)
  · rw [hk i hi]; exact hC.hi i (hlt i hi)
  · rw [hk i hi, hk j hj] at e
    exact hC.ids i j (hlt i hi) (hlt j hj) e
  · rw [hk i hi] at hs
    obtain ⟨p, hp, hid⟩ := hC.pars i s (hlt i hi) hs
    exact ⟨p, hp, by rw [hk p (by omega)]; exact hid⟩
theorem OrdP.all {l : List Ent} (hC : Closed l) {ys : List ByteArray} (h : OrdP l ys) (hl : ys.length = l.length) {j : Nat} (hj : j < l.length) : (ent l j).id ∈ ys :=
  sub_full h.nd (ids_nodup hC) (fun s hs => by
    obtain ⟨i, hi, e⟩ := h.sub s hs
    exact List.mem_map.2 ⟨i, by simpa using hi, e⟩) (by simp [hl]) _ (List.mem_map.2 ⟨j, by simpa using hj, rfl⟩)
/-! ### The last one left out -/
theorem filter_at {P : ByteArray → Bool} : ∀ {ys : List ByteArray} {j : Nat} {s : ByteArray}, (ys.filter P)[j]? = some s → ∃ q, ys[q]? = some s ∧ (ys.filter P).take j = (ys.take q).filter P
  | [], j, s, h => by cases h
  | y :: ys, j, s, h => by
    by_cases hy : P y = true
    · rw [List.filter_cons, if_pos hy] at h ⊢
      cases j with
      | zero => exact ⟨0, by simpa using h, by simp⟩
      | succ j =>
        rw [List.getElem?_cons_succ] at h
        obtain ⟨q, hq, e⟩ := filter_at h
        exact ⟨q + 1, by rw [List.getElem?_cons_succ]; exact hq, by rw [List.take_succ_cons, List.take_succ_cons, List.filter_cons, if_pos hy, e]⟩
    · rw [List.filter_cons, if_neg hy] at h ⊢
      obtain ⟨q, hq, e⟩ := filter_at h
      exact ⟨q + 1, by rw [List.getElem?_cons_succ]; exact hq, by rw [List.take_succ_cons, List.filter_cons, if_neg hy, e]⟩
def notB (x s : ByteArray) : Bool := !decide (s = x)
theorem notB_iff {x s : ByteArray} : notB x s = true ↔ s ≠ x := by simp [notB]
theorem order_drop {l : List Ent} (hC : Closed l) {k : Nat} (hk : l.length = k + 1) {ys : List ByteArray} (h1 : OrdP l ys) (h2 : LeastP l ys) (h3 : ys.length = l.length) :
    OrdP (l.take k) (ys.filter (notB (ent l k).id)) ∧ LeastP (l.take k) (ys.filter (notB (ent l k).id)) ∧ (ys.filter (notB (ent l k).id)).length = (l.take k).length := by
  have hS := prefix_sub hC k
  have hlen : (l.take k).length = k := by rw [List.length_take]; omega
  have hne : ∀ i, i < k → (ent l i).id ≠ (ent l k).id := fun i hi e => by
    have := hC.ids i k (by omega) (by omega) e
    omega
  have hO : OrdP (l.take k) (ys.filter (notB (ent l k).id)) := by
    refine ⟨h1.nd.sublist List.filter_sublist, fun s hs => ?_, fun j s hj i hi hid p hp => ?_⟩
    · obtain ⟨a, b⟩ := List.mem_filter.1 hs
      obtain ⟨i, hi, e⟩ := h1.sub s a
      have : i ≠ k := fun h => notB_iff.1 b (by rw [← e, h])
      exact ⟨i, by omega, by rw [hS.same i (by omega)]; exact e⟩
    · obtain ⟨q, hq, e⟩ := filter_at hj
      rw [e]
      rw [hS.same i hi] at hid hp
      have hm := h1.par q s hq i (hS.lt i hi) hid p hp
      refine List.mem_filter.2 ⟨hm, notB_iff.2 ?_⟩
      obtain ⟨r, hr, er⟩ := hC.pars i p (hS.lt i hi) hp
      rw [← er]
      exact hne r (by omega)
  refine ⟨hO, fun j s hj i hi hr => ?_, ?_⟩
  · obtain ⟨q, hq, e⟩ := filter_at hj
    rw [e] at hr
    obtain ⟨r1, r2⟩ := readyB_iff.1 hr
    rw [hS.same i hi] at r1 r2 ⊢
    refine h2 q s hq i (hS.lt i hi) (readyB_iff.2 ⟨fun hm => r1 (List.mem_filter.2 ⟨hm, notB_iff.2 (hne i (by omega))⟩), fun p hp => (List.mem_filter.1 (r2 p hp)).1⟩)
  · have a := hO.len hS.cm
    have b := sub_len (ids_nodup hS.cm) hO.nd (fun s hs => by
      obtain ⟨i, hi, e⟩ := List.mem_map.1 hs
      have hi' : i < (l.take k).length := by simpa using hi
      rw [hS.same i hi'] at e
      rw [← e]
      exact List.mem_filter.2 ⟨h1.all hC h3 (hS.lt i hi'), notB_iff.2 (hne i (by omega))⟩)
    rw [List.length_map, List.length_range] at b
    omega
theorem viewV_skip {l : List Ent} (hC : Closed l) {G : Nat → Bool} {k : Nat} (hk : k < l.length) (hG : G k = false) (ys : List ByteArray) : viewV l G ys = viewV l G (ys.filter (notB (ent l k).id)) := by
  have key : ∀ (zs : List ByteArray) (v : Look), (zs.map (ixL l)).foldl (stepV l G) v = ((zs.filter (notB (ent l k).id)).map (ixL l)).foldl (stepV l G) v := by
    intro zs
    induction zs with
    | nil => intro v; rfl
    | cons z zs ih =>
      intro v
      by_cases hz : notB (ent l k).id z = true
      · rw [List.filter_cons, if_pos hz, List.map_cons, List.map_cons, List.foldl_cons, List.foldl_cons]
        exact ih _
      · have e : z = (ent l k).id := by
          by_cases h : z = (ent l k).id
          · exact h
          · exact absurd (notB_iff.2 h) hz
        rw [List.filter_cons, if_neg hz, List.map_cons, List.foldl_cons, e, ixL_id hC hk]
        have : stepV l G v k = v := by unfold stepV; rw [hG]; rfl
        rw [this]
        exact ih v
  exact key ys _
theorem refuse_sub {l : List Ent} (hC : Closed l) {k : Nat} (hk : l.length = k + 1) (h0 : 0 < k) (hr : (ent l 0).kind = 1) (hg : goodL l 0 k = false) : MSub (goodS l 0) (goodS (l.take k) 0) (fun i => i) := by
  have hS := prefix_sub hC k
  have hlen : (l.take k).length = k := by rw [List.length_take]; omega
  have h0' : 0 < (l.take k).length := by omega
  refine ⟨hS, h0', rfl, hr, fun i hi => ?_, fun j hj hin => ⟨j, ?_, rfl⟩⟩
  · exact hS.good h0' (by rw [hS.same 0 h0']; exact hr) i hi
  · show j < (l.take k).length
    have hj : j < l.length := hj
    by_cases hjk : j = k
    · subst hjk
      have hin : goodL l 0 j = true := hin
      rw [hg] at hin; cases hin
    · omega
/-- What isn't good, said last, changes nothing. -/
theorem refuse_view {l : List Ent} (hC : Closed l) {k : Nat} (hk : l.length = k + 1) (h0 : 0 < k) (hr : (ent l 0).kind = 1) (hg : goodL l 0 k = false) {ys zs : List ByteArray} (h1 : OrdP l ys) (h2 : LeastP l ys) (h3 : ys.length = l.length)
    (k1 : OrdP (l.take k) zs) (k2 : LeastP (l.take k) zs) (k3 : zs.length = (l.take k).length) : viewV l (goodS l 0).holding ys = viewV (l.take k) (goodS (l.take k) 0).holding zs := by
  obtain ⟨a, b, c⟩ := order_drop hC hk h1 h2 h3
  have hM := refuse_sub hC hk h0 hr hg
  have e := order_uniq hM.sub.cm a b k1 k2 (by rw [c, k3])
  have hGk : (goodS l 0).holding k = false := by
    unfold Ms.holding
    show (goodL l 0 k && _) = false
    rw [hg]; rfl
  rw [viewV_skip hC (by omega) hGk ys, e]
  exact (hM.sub.view (fun i hi => hM.holding hi) k1.sub).symm
end Go.Proofs.YtgalnnmeamldhaaGreat
/- A post or a topic, said behind all heads (plain). -/
set_option linter.unusedVariables false
set_option linter.unusedSimpArgs false
namespace Go.Proofs.YtgalnnmeamldhaaGreat
open Go Go.RowKit Go.Proofs.YtgalnnmeamldhaaGreat.Pal Go.Proofs.YtgalnnmeamldhaaGreat.Plan

def isHead (l : List Ent) (i : Nat) : Prop := ∀ k, k < l.length → (ent l i).id ∉ (ent l k).ps
/-- x is said behind all others: its parents are the heads. -/
structure Behind (l : List Ent) (x : Ent) : Prop where
  cl : Closed l
  cm : Closed (l ++ [x])
  hds : ∀ i, i < l.length → isHead l i → (ent l i).id ∈ x.ps
namespace Behind
variable {l : List Ent} {x : Ent}
theorem len (l : List Ent) (x : Ent) : (l ++ [x]).length = l.length + 1 := by simp
theorem sub (h : Behind l x) : Sub (l ++ [x]) l (fun i => i) := by
  have := prefix_sub h.cm l.length
  rwa [List.take_left] at this
theorem at_ (l : List Ent) (x : Ent) : ent (l ++ [x]) l.length = x := ent_app_at
/-- What holds of all heads, and of the parents of what it holds of, holds of all. -/
theorem down (h : Behind l x) {P : Nat → Prop} (h1 : ∀ i, i < l.length → isHead l i → P i) (h2 : ∀ k, k < l.length → P k → ∀ i, i < k → (ent l i).id ∈ (ent l k).ps → P i) : ∀ i, i < l.length → P i := by
  have key : ∀ d i, l.length - i = d → i < l.length → P i := by
    intro d
    induction d using Nat.strongRecOn with
    | ind d ih =>
      intro i hd hi
      by_cases hh : isHead l i
      · exact h1 i hi hh
      · have : ∃ k, k < l.length ∧ (ent l i).id ∈ (ent l k).ps := by
          refine Classical.byContradiction fun hn => hh fun k hk hm => hn ⟨k, hk, hm⟩
        obtain ⟨k, hk, hm⟩ := this
        obtain ⟨p, hp, hid⟩ := h.cl.pars k _ hk hm
        have : p = i := h.cl.ids p i (by omega) hi hid
        subst this
        exact h2 k hk (ih (l.length - k) (by omega) k rfl hk) p hp hm
  exact fun i hi => key _ i rfl hi
theorem past (h : Behind l x) {i : Nat} (hi : i < l.length) : Go.Proofs.YtgalnnmeamldhaaGreat.past (l ++ [x]) l.length i = true := by
  refine h.down (P := fun i => Go.Proofs.YtgalnnmeamldhaaGreat.past (l ++ [x]) l.length i = true) (fun i hi hh => ?_) (fun k hk hp i hik hm => ?_) i hi
  · refine par_past hi ?_
    rw [at_, ← h.sub.same i hi]
    exact h.hds i hi hh
  · refine past_trans hp (par_past hik ?_)
    rw [← h.sub.same k hk, ← h.sub.same i (by omega)]
    exact hm
theorem order (h : Behind l x) {ys : List ByteArray} (h1 : OrdP l ys) (h2 : LeastP l ys) (h3 : ys.length = l.length) :
    OrdP (l ++ [x]) (ys ++ [x.id]) ∧ LeastP (l ++ [x]) (ys ++ [x.id]) ∧ (ys ++ [x.id]).length = (l ++ [x]).length := by
  have hall : ∀ i, i < l.length → (ent l i).id ∈ ys := fun i hi => h1.all h.cl h3 hi
  have hx : x.id ∉ ys := fun hm => by
    obtain ⟨i, hi, e⟩ := h1.sub _ hm
    rw [h.sub.same i hi] at e
    have := h.cm.ids i l.length (by rw [len]; omega) (by rw [len]; omega) (by rw [e, at_])
    omega
  have hO : OrdP (l ++ [x]) ys := by
    refine ⟨h1.nd, fun s hs => ?_, fun j s hj i hi hid p hp => ?_⟩
    · obtain ⟨i, hi, e⟩ := h1.sub s hs
      exact ⟨i, by rw [len]; omega, by rw [← h.sub.same i hi]; exact e⟩
    · by_cases hil : i < l.length
      · rw [← h.sub.same i hil] at hid hp
        exact h1.par j s hj i hil hid p hp
      · have : i = l.length := by rw [len] at hi; omega
        subst this
        rw [at_] at hid
        rw [← hid] at hj
        exact absurd (List.mem_of_getElem? hj) hx
  have hr : readyB (l ++ [x]) ys l.length = true := by
    refine readyB_iff.2 ⟨by rw [at_]; exact hx, fun p hp => ?_⟩
    obtain ⟨q, hq, e⟩ := h.cm.pars l.length p (by rw [len]; omega) hp
    rw [← e, ← h.sub.same q hq]
    exact hall q hq
  refine ⟨?_, LeastP.put (fun j s hj i hi hr => ?_) (fun i hi hr => ?_), by rw [List.length_append, h3, len]; rfl⟩
  · have := hO.put h.cm (by rw [len]; omega) hr
    rwa [at_] at this
  · have hjl := (List.getElem?_eq_some_iff.1 hj).1
    by_cases hil : i < l.length
    · obtain ⟨r1, r2⟩ := readyB_iff.1 hr
      rw [← h.sub.same i hil] at r1 r2 ⊢
      exact h2 j s hj i hil (readyB_iff.2 ⟨r1, r2⟩)
    · have : i = l.length := by rw [len] at hi; omega
      subst this
      obtain ⟨_, r2⟩ := readyB_iff.1 hr
      rw [at_] at r2
      have hin : ∀ i, i < l.length → (ent l i).id ∈ ys.take j := h.down (P := fun i => (ent l i).id ∈ ys.take j) (fun i hi hh => r2 _ (h.hds i hi hh)) (fun k hk hp i hik hm => by
        obtain ⟨q, hq⟩ := List.mem_iff_getElem?.1 hp
        rw [List.getElem?_take] at hq
        split at hq
        · rename_i hqj
          have hm2 := h1.par q _ hq k hk rfl _ hm
          obtain ⟨r, hr⟩ := List.mem_iff_getElem?.1 hm2
          rw [List.getElem?_take] at hr
          split at hr
          · rename_i hrq
            exact List.mem_of_getElem? (i := r) (by rw [List.getElem?_take, if_pos (by omega)]; exact hr)
          · cases hr
        · cases hq)
      have := sub_len (ids_nodup h.cl) (h1.nd.sublist (List.take_sublist _ _) : (ys.take j).Nodup) (fun s hs => by
        obtain ⟨i, hi, e⟩ := List.mem_map.1 hs
        rw [← e]
        exact hin i (by simpa using hi))
      rw [List.length_map, List.length_range, List.length_take] at this
      omega
  · by_cases hil : i < l.length
    · obtain ⟨r1, _⟩ := readyB_iff.1 hr
      rw [← h.sub.same i hil] at r1
      exact absurd (hall i hil) r1
    · have : i = l.length := by rw [len] at hi; omega
      subst this
      rw [at_]
      exact bl_irrefl _
/-! ### Who holds -/
section
variable (h : Behind l x) (h0 : 0 < l.length) (hr : (ent l 0).kind = 1) (hk4 : x.kind ≠ 4) (hk5 : x.kind ≠ 5)
theorem good (h : Behind l x) (h0 : 0 < l.length) (hr : (ent l 0).kind = 1) {i : Nat} (hi : i < l.length) : goodL l 0 i = goodL (l ++ [x]) 0 i := h.sub.good h0 hr i hi
theorem kindN {l : List Ent} {x : Ent} {k : Int} (hk : x.kind ≠ k) : ((goodS (l ++ [x]) 0).kind l.length = k) → False := fun e => by
  have e : (ent (l ++ [x]) l.length).kind = k := e
  rw [at_] at e
  exact hk e
include h h0 hr in
theorem addOf (key : ByteArray) {i : Nat} (hi : i < l.length) : (goodS (l ++ [x]) 0).addOf key i = (goodS l 0).addOf key i := by
  have e : (goodS (l ++ [x]) 0).inn i = (goodS l 0).inn i := (h.good h0 hr hi).symm
  unfold Ms.addOf Ms.kind Ms.body
  rw [e]
  show _ = ((goodS l 0).inn i && (decide ((ent l i).kind = 4) && decide ((ent l i).body = key)))
  rw [h.sub.same i hi]
  rfl
include h h0 hr in
theorem firstN (key : ByteArray) : ∀ k, k ≤ l.length → (goodS (l ++ [x]) 0).firstU key k = (goodS l 0).firstU key k := by
  intro k
  induction k with
  | zero => intro _; rfl
  | succ k ih =>
    intro hk
    rw [Ms.firstU_succ, Ms.firstU_succ, ih (by omega)]
    unfold Ms.stepF
    rw [addOf h h0 hr key (by omega)]
    cases hf : (goodS l 0).firstU key k with
    | none => rfl
    | some b =>
      have hb := (Ms.firstU_some hf).1
      have := h.sub.less (i := k) (j := b) (by omega) (by omega)
      show (if _ then (if lessE (l ++ [x]) k b = true then _ else _) else _) = (if _ then (if lessE l k b = true then _ else _) else _)
      rw [this]
include h h0 hr hk4 in
theorem firstA (key : ByteArray) : (goodS (l ++ [x]) 0).firstU key (goodS (l ++ [x]) 0).n = (goodS l 0).firstU key (goodS l 0).n := by
  have e : (goodS (l ++ [x]) 0).n = l.length + 1 := len l x
  rw [e, Ms.firstU_succ, firstN h h0 hr key l.length (Nat.le_refl _)]
  have : (goodS (l ++ [x]) 0).addOf key l.length = false := by
    unfold Ms.addOf
    rw [decide_eq_false (kindN hk4)]
    simp
  unfold Ms.stepF
  rw [this]
  rfl
include h h0 hr hk4 in
theorem first (key : ByteArray) : (goodS (l ++ [x]) 0).first key = (goodS l 0).first key := by
  unfold Ms.first
  have e : (goodS (l ++ [x]) 0).aut (goodS (l ++ [x]) 0).r = (goodS l 0).aut (goodS l 0).r := by
    show (ent (l ++ [x]) 0).author = (ent l 0).author
    rw [h.sub.same 0 h0]
  rw [e, firstA h h0 hr hk4 key]
  rfl
include h0 in
theorem first_lt (key : ByteArray) {a : Nat} (hf : (goodS l 0).first key = some a) : a < l.length := by
  unfold Ms.first at hf
  split at hf
  · injection hf with hf
    rw [← hf]; exact h0
  · exact (Ms.firstU_some hf).1
include h h0 hr hk4 in
theorem lower (a b : ByteArray) : (goodS (l ++ [x]) 0).lower a b = (goodS l 0).lower a b := by
  unfold Ms.lower
  rw [first h h0 hr hk4 a, first h h0 hr hk4 b]
  cases ha : (goodS l 0).first a with
  | none => cases (goodS l 0).first b <;> rfl
  | some p =>
    cases hb : (goodS l 0).first b with
    | none => rfl
    | some q =>
      have := h.sub.less (first_lt h0 a ha) (first_lt h0 b hb)
      show (if p = q then false else if p = 0 ∨ q = 0 then decide (p = 0) else lessE (l ++ [x]) p q) = (if p = q then false else if p = 0 ∨ q = 0 then decide (p = 0) else lessE l p q)
      rw [this]
include h h0 hr hk4 in
theorem strikes {k i : Nat} (hk : k < l.length) (hi : i < l.length) : (goodS (l ++ [x]) 0).strikes k i = (goodS l 0).strikes k i := by
  have e : (goodS (l ++ [x]) 0).inn k = (goodS l 0).inn k := (h.good h0 hr hk).symm
  unfold Ms.strikes
  rw [e, lower h h0 hr hk4]
  unfold Ms.kind Ms.body Ms.aut
  show _ = (!decide (k = i) && ((goodS l 0).inn k && (decide ((ent l k).kind = 5) && (decide ((ent l k).body = (ent l i).author) && (!Go.Proofs.YtgalnnmeamldhaaGreat.past l i k && (!Go.Proofs.YtgalnnmeamldhaaGreat.past l k i && (goodS l 0).lower (ent l k).author (ent l i).author))))))
  rw [h.sub.pst hi hk, h.sub.pst hk hi, h.sub.same k hk, h.sub.same i hi]
  rfl
include hk5 in
theorem strikesN {i : Nat} : (goodS (l ++ [x]) 0).strikes l.length i = false := by
  unfold Ms.strikes
  rw [decide_eq_false (kindN hk5)]
  simp
theorem strikesL (h : Behind l x) {k : Nat} (hk : k < l.length) : (goodS (l ++ [x]) 0).strikes k l.length = false := by
  unfold Ms.strikes
  have : Go.Proofs.YtgalnnmeamldhaaGreat.past (goodS (l ++ [x]) 0).l l.length k = true := h.past hk
  rw [this]
  simp
include h h0 hr hk4 hk5 in
theorem holdsF : ∀ (f i : Nat), i < l.length → (goodS (l ++ [x]) 0).holdsF f i = (goodS l 0).holdsF f i
  | 0, _, _ => rfl
  | f + 1, i, hi => by
    unfold Ms.holdsF
    have e : (goodS (l ++ [x]) 0).n = l.length + 1 := len l x
    rw [e, List.range_succ, List.any_append]
    have e2 : ([l.length].any fun k => (goodS (l ++ [x]) 0).strikes k i && (goodS (l ++ [x]) 0).holdsF f k) = false := by
      simp [strikesN hk5]
    rw [e2, Bool.or_false]
    congr 1
    apply any_congr
    intro k hk
    have hk' : k < l.length := by simpa using hk
    rw [strikes h h0 hr hk4 hk' hi, holdsF f k hk']
theorem okM (h : Behind l x) (h0 : 0 < l.length) (hr : (ent l 0).kind = 1) : (goodS (l ++ [x]) 0).Ok := ⟨h.cm, by show 0 < (l ++ [x]).length; rw [len]; omega, by show (ent (l ++ [x]) 0).kind = 1; rw [← h.sub.same 0 h0]; exact hr⟩
theorem okL (h : Behind l x) (h0 : 0 < l.length) (hr : (ent l 0).kind = 1) : (goodS l 0).Ok := ⟨h.cl, h0, hr⟩
include h h0 hr hk4 hk5 in
theorem holding {i : Nat} (hi : i < l.length) : (goodS l 0).holding i = (goodS (l ++ [x]) 0).holding i := by
  have e : (goodS (l ++ [x]) 0).inn i = (goodS l 0).inn i := (h.good h0 hr hi).symm
  unfold Ms.holding
  rw [e]
  congr 1
  unfold Ms.holds
  have ha : (goodS (l ++ [x]) 0).aut i = (goodS l 0).aut i := by
    show (ent (l ++ [x]) i).author = (ent l i).author
    rw [h.sub.same i hi]
  rw [(okL h h0 hr).holdsF_eq _ ((goodS l 0).rk ((goodS l 0).aut i) + (goodS (l ++ [x]) 0).rk ((goodS (l ++ [x]) 0).aut i) + 1) i (by omega) (by omega), (okM h h0 hr).holdsF_eq _ ((goodS l 0).rk ((goodS l 0).aut i) + (goodS (l ++ [x]) 0).rk ((goodS (l ++ [x]) 0).aut i) + 1) i (by omega) (by omega), holdsF h h0 hr hk4 hk5 _ i hi]
theorem holdsL (h : Behind l x) : (goodS (l ++ [x]) 0).holds l.length = true := by
  unfold Ms.holds
  unfold Ms.holdsF
  have e : (goodS (l ++ [x]) 0).n = l.length + 1 := len l x
  rw [e, Bool.not_eq_true', List.any_eq_false]
  intro k hk
  have hk' : k < l.length + 1 := by simpa using hk
  by_cases hkl : k < l.length
  · rw [h.strikesL hkl]; simp
  · have : k = l.length := by omega
    subst this
    unfold Ms.strikes
    simp
include h h0 hr hk4 hk5 in
/-- What a room looks like behind it. -/
theorem view (hg : goodL (l ++ [x]) 0 l.length = true) {ys zs : List ByteArray} (h1 : OrdP l ys) (h2 : LeastP l ys) (h3 : ys.length = l.length)
    (k1 : OrdP (l ++ [x]) zs) (k2 : LeastP (l ++ [x]) zs) (k3 : zs.length = (l ++ [x]).length) :
    viewV (l ++ [x]) (goodS (l ++ [x]) 0).holding zs = stepV (l ++ [x]) (fun _ => true) (viewV l (goodS l 0).holding ys) l.length := by
  obtain ⟨a, b, c⟩ := h.order h1 h2 h3
  have e := order_uniq h.cm k1 k2 a b (by rw [c, k3])
  have hG : (goodS (l ++ [x]) 0).holding l.length = true := by
    unfold Ms.holding
    rw [h.holdsL]
    show (goodL (l ++ [x]) 0 l.length && true) = true
    rw [hg]; rfl
  have hix : ixL (l ++ [x]) x.id = l.length := by
    have := ixL_id h.cm (i := l.length) (by rw [len]; omega)
    rwa [at_] at this
  rw [e, viewV_app, hix, h.sub.view (fun i hi => holding h h0 hr hk4 hk5 hi) h1.sub]
  unfold stepV
  rw [hG]
end
end Behind
end Go.Proofs.YtgalnnmeamldhaaGreat
/- palaverref16, Same: two looks alike. -/
set_option linter.unusedVariables false
set_option linter.unusedSimpArgs false
namespace Go.Proofs.YtgalnnmeamldhaaGreat
open Go Go.RowKit Go.Proofs.YtgalnnmeamldhaaGreat.Pal Go.Proofs.YtgalnnmeamldhaaGreat.Plan

/-- A view as it lies. -/
structure ViewL (w : World) (nm tp : ByteArray) (L : List ByteArray) (ps : List (ByteArray × ByteArray)) (v : Value) : Prop where
  ex : ∃ A c P d, v = .agg #[.string nm, .string tp, .slice A L.length c, .slice P ps.length d] ∧ RdS w 1 StrR A L.length L ∧ Row w 53 2 (.slice P ps.length d) ps.length (pcells ps)
theorem ViewL.fresh {w w2 : World} {nm tp : ByteArray} {L : List ByteArray} {ps : List (ByteArray × ByteArray)} {v : Value} (h : ViewL w nm tp L ps v) (hu : Unch none_ w w2) : ViewL w2 nm tp L ps v := by
  obtain ⟨A, c, P, d, e, h1, h2⟩ := h
  exact ⟨A, c, P, d, e, RdS.fresh h1 hu, h2.unch hu (fun _ _ h => h)⟩
theorem ViewR.lies {w w' : World} {nm tp : ByteArray} {L : List ByteArray} {ps : List (ByteArray × ByteArray)} {vm vp : Value} (h : ViewR w w' vm vp L ps) : ViewL w' nm tp L ps (.agg #[.string nm, .string tp, vm, vp]) := by
  obtain ⟨A, c, hv, _⟩ := h.mem.row.slice
  obtain ⟨P, d, hp, _⟩ := h.row.slice
  have h1 := h.mem.row
  have h2 := h.row
  rw [hv] at h1
  rw [hp] at h2
  exact ⟨A, c, P, d, by rw [hv, hp], srow_rds h1, h2⟩
theorem ViewL.ln {w : World} {nm tp : ByteArray} {L : List ByteArray} {ps : List (ByteArray × ByteArray)} {v : Value} (h : ViewL w nm tp L ps v) {m : Nat} (hm : ps.length = m) {l : Nat} (hl : L.length = l) :
    ∃ A c P d, v = .agg #[.string nm, .string tp, .slice A l c, .slice P m d] ∧ RdS w 1 StrR A l L ∧ Row w 53 2 (.slice P m d) m (pcells ps) := by
  subst hm; subst hl
  exact h.ex
theorem post_at {w : World} {P : Option Addr} {m d : Nat} {ps : List (ByteArray × ByteArray)} (h : Row w 53 2 (.slice P m d) m (pcells ps)) {q : Nat} {x : ByteArray × ByteArray} (hx : ps[q]? = some x) (hq : q < m) :
    ∃ g o, P = some ⟨g, o, none⟩ ∧ w.cell? ⟨g, o + q * 2, none⟩ = some (.string x.1) ∧ w.cell? ⟨g, o + q * 2 + 1, none⟩ = some (.string x.2) := by
  obtain ⟨g, o, cap, cur, hv, hh, _⟩ := h.form (by omega)
  injection hv with h1 h2 h3
  obtain ⟨e1, e2⟩ := pcells_get hx
  refine ⟨g, o, h1, h.at (by rw [h1]) e1, ?_⟩
  rw [Nat.add_assoc]
  exact h.at (by rw [h1]) e2
set_option maxRecDepth 100000 in
set_option maxHeartbeats 4000000 in
theorem same_view {w : World} {nm tp : ByteArray} {L : List ByteArray} {ps : List (ByteArray × ByteArray)} {v1 v2 : Value} (h1 : ViewL w nm tp L ps v1) (h2 : ViewL w nm tp L ps v2) :
    Calls Tryz.prog 10 #[v1, v2] w fun e w' => e = .returned (.bool true) ∧ Unch none_ w w' := by
  obtain ⟨m, hm⟩ : ∃ m, ps.length = m := ⟨_, rfl⟩
  obtain ⟨ml, hml⟩ : ∃ m, L.length = m := ⟨_, rfl⟩
  obtain ⟨A1, c1, P1, d1, rfl, a1, b1⟩ := h1.ln hm hml
  obtain ⟨A2, c2, P2, d2, rfl, a2, b2⟩ := h2.ln hm hml
  clear h1 h2 hml
  have mx := b1.max
  unfold maxLen at mx
  have B1 := Lib.hid b1
  have B2 := Lib.hid b2
  have A1' := Lib.hid a1
  have A2' := Lib.hid a2
  have HM := Lib.hid hm
  have g1 := blk_new w (.cells #[.string nm, .string tp, .slice A1 ml c1, .slice P1 m d1] 30)
  have g2 := blk_new (w.alloc (.cells #[.string nm, .string tp, .slice A1 ml c1, .slice P1 m d1] 30)) (.cells #[.string nm, .string tp, .slice A2 ml c2, .slice P2 m d2] 30)
  have g1' := blk_alloc g1 (.cells #[.string nm, .string tp, .slice A2 ml c2, .slice P2 m d2] 30)
  simp only [World.size_alloc] at g2
  have hu : Unch none_ w ((w.alloc (.cells #[.string nm, .string tp, .slice A1 ml c1, .slice P1 m d1] 30)).alloc (.cells #[.string nm, .string tp, .slice A2 ml c2, .slice P2 m d2] 30)) := ((Unch.refl none_ w).alloc _).alloc _
  have HU := Lib.hid hu
  have G1 := Lib.hid g1'
  have G2 := Lib.hid g2
  clear b1 b2 a1 a2 hm g1 g1' g2 hu
  go_enter Tryz.func10, Tryz.ntmps10
  go_upto_region 1 with fail
  have hu := HU.out
  have g1 := G1.out
  have g2 := G2.out
  clear HU G1 G2
  generalize (w.alloc (.cells #[.string nm, .string tp, .slice A1 ml c1, .slice P1 m d1] 30)).alloc (.cells #[.string nm, .string tp, .slice A2 ml c2, .slice P2 m d2] 30) = w1 at *
  generalize w.heap.size = bx at *
  have x0 := blk_cell g1 (j := 0) rfl
  have x1 := blk_cell g1 (j := 1) rfl
  have x2 := blk_cell g1 (j := 2) rfl
  have x3 := blk_cell g1 (j := 3) rfl
  have y0 := blk_cell g2 (j := 0) rfl
  have y1 := blk_cell g2 (j := 1) rfl
  have y2 := blk_cell g2 (j := 2) rfl
  have y3 := blk_cell g2 (j := 3) rfl
  have hsame := refsame_ok (c := c1) (d := c2) (RdS.fresh A1'.out hu) (RdS.fresh A2'.out hu)
  rw [decide_eq_true rfl] at hsame
  have HS := Lib.hid hsame
  have HU := Lib.hid hu
  have G1 := Lib.hid g1
  have G2 := Lib.hid g2
  clear hsame hu g1 g2 A1' A2'
  go_wp2_with fail
  refine HS.out.mono ?_
  rintro e w2 ⟨rfl, hu2⟩
  have x3' := hu2.cell x3 (fun h => h)
  have y3' := hu2.cell y3 (fun h => h)
  have HU2 := Lib.hid (HU.out.trans hu2)
  have HU12 := Lib.hid hu2
  clear hu2 HS x0 x1 x2 x3 y0 y1 y2 y3
  go_wp2_with fail
  go_loopg [5] m (fun gk i wr => ∃ q : Nat, q ≤ m ∧ gk = m - q ∧ i = .int .i64 (q : Int) ∧ Unch none_ w2 wr)
  case atStart => exact ⟨0, Nat.zero_le _, rfl, rfl, Unch.refl _ _⟩
  case round =>
    obtain ⟨q, hq, rfl, rfl, hu⟩ := hrel
    obtain ⟨w3, rfl⟩ : ∃ w3, w3 = wr := ⟨_, rfl⟩
    have f1 := hu.cell x3' (fun h => h)
    have f2 := hu.cell y3' (fun h => h)
    by_cases hqm : q < m
    · obtain ⟨x, hx⟩ := get_some HM.out hqm
      have hU := HU2.out.trans hu
      obtain ⟨ga, oa, rfl, p0, p1⟩ := post_at (B1.out.unch hU (fun _ _ h => h)) hx hqm
      obtain ⟨gb, ob, rfl, q0, q1⟩ := post_at (B2.out.unch hU (fun _ _ h => h)) hx hqm
      have z0 : (0 : Int) ≤ (q : Int) := by omega
      have z1 : (q : Int) < (m : Int) := by omega
      have f1u := cellU f1
      have f2u := cellU f2
      have p0 := cellU p0
      have p1 := cellU p1
      have q0 := cellU q0
      have q1 := cellU q1
      clear hx hU
      go_wp2
      refine wp_region_quiet_u (by kernel_rfl) (by kernel_rfl) (fun _ => ?_)
      repeat (go_big_quiet_step (fail))
      refine wpQuiet_nil ?_
      intro wq hw'
      obtain ⟨⟨wqq, huq⟩, hw''⟩ := hw'
      subst hw''
      go_wp2
      go_roundg (m - (q + 1))
      case measure => omega
      case rel => exact ⟨q + 1, by omega, rfl, by go_num, hu.trans huq⟩
    · obtain rfl : q = m := by omega
      have HU3 := Lib.hid (HU2.out.trans hu)
      go_wp2
      go_ret
      exact ⟨rfl, HU3.out⟩
end Go.Proofs.YtgalnnmeamldhaaGreat
/- append(append([]T{}, l...), x), its operations in whatever order they are drawn. -/
set_option linter.unusedVariables false
set_option linter.unusedSimpArgs false
namespace Go.Proofs.YtgalnnmeamldhaaGreat
open Go Go.RowKit Go.Proofs.YtgalnnmeamldhaaGreat.Pal Go.Proofs.YtgalnnmeamldhaaGreat.Plan

/-- The empty slice (i0, s0), l behind it (i2, s2), x boxed (i4, s4), x behind (i5, s5). -/
structure AP (w1 : World) (te : TypeId) (sz n : Nat) (xs xc : List Value) (i0 i2 i4 i5 s0 s2 s4 s5 : Nat) (D : Nat → Bool) (y : Nat → Value) (w' : World) : Prop where
  u : Unch none_ w1 w'
  d0 : D i5 = false → D i2 = false → D i0 = true → ∃ g, y s0 = .slice (some ⟨g, 0, none⟩) 0 0 ∧ w1.heap.size ≤ g ∧ w'.heap[g]? = some (.cells #[] te (0, 0))
  d2 : D i5 = false → D i2 = true → ∃ B cB, y s2 = .slice B n cB ∧ Row w' te sz (.slice B n cB) n xs ∧ ∀ b, (Value.slice B n cB).ownBlock = some b → w1.heap.size ≤ b
  d4 : D i5 = false → D i4 = true → ∃ g, y s4 = .slice (some ⟨g, 0, none⟩) 1 1 ∧ w1.heap.size ≤ g ∧ w'.heap[g]? = some (.cells xc.toArray te (0, 0))
  d5 : D i5 = true → ∃ B cB, y s5 = .slice B (n + 1) cB ∧ n + 1 ≤ cB ∧ Row w' te sz (.slice B (n + 1) cB) (n + 1) (xs ++ xc)
  e5 : D i5 = true → D i2 = true
structure APn (i0 i2 i4 i5 s0 s2 s4 s5 : Nat) : Prop where
  a : i0 ≠ i2 ∧ i0 ≠ i4 ∧ i0 ≠ i5 ∧ i2 ≠ i4 ∧ i2 ≠ i5 ∧ i4 ≠ i5
  b : s0 ≠ s2 ∧ s0 ≠ s4 ∧ s0 ≠ s5 ∧ s2 ≠ s4 ∧ s2 ≠ s5 ∧ s4 ≠ s5
section
variable {w1 : World} {te : TypeId} {sz n : Nat} {xs xc : List Value} {i0 i2 i4 i5 s0 s2 s4 s5 : Nat} {D : Nat → Bool} {y : Nat → Value} {w' w2 : World}
theorem AP.start (hw : Unch none_ w1 w') : AP w1 te sz n xs xc i0 i2 i4 i5 s0 s2 s4 s5 (fun _ => false) y w' := ⟨hw, (fun _ _ h => by cases h), (fun _ h => by cases h), (fun _ h => by cases h), (fun h => by cases h), fun h => by cases h⟩
theorem upd_ne {y : Nat → Value} {d e : Nat} {v : Value} (h : e ≠ d) : upd y d v e = y e := by unfold upd; rw [if_neg h]
theorem upd_at {y : Nat → Value} {d : Nat} {v : Value} : upd y d v d = v := by unfold upd; rw [if_pos rfl]
theorem orD_ne {D : Nat → Bool} {i j : Nat} (h : j ≠ i) : (decide (j = i) || D j) = D j := by rw [decide_eq_false h, Bool.false_or]
theorem orD_at {D : Nat → Bool} {i : Nat} : (decide (i = i) || D i) = true := by simp
theorem AP.fresh (h : AP w1 te sz n xs xc i0 i2 i4 i5 s0 s2 s4 s5 D y w') (hu : Unch none_ w' w2) : AP w1 te sz n xs xc i0 i2 i4 i5 s0 s2 s4 s5 D y w2 := by
  refine ⟨h.u.trans hu, fun a b c => ?_, fun a b => ?_, fun a b => ?_, fun a => ?_, h.e5⟩
  · obtain ⟨g, e1, e2, e3⟩ := h.d0 a b c; exact ⟨g, e1, e2, hu.heap e3 (fun h => h)⟩
  · obtain ⟨B, cB, e1, e2, e3⟩ := h.d2 a b; exact ⟨B, cB, e1, e2.unch hu (fun _ _ h => h), e3⟩
  · obtain ⟨g, e1, e2, e3⟩ := h.d4 a b; exact ⟨g, e1, e2, hu.heap e3 (fun h => h)⟩
  · obtain ⟨B, cB, e1, e2, e3⟩ := h.d5 a; exact ⟨B, cB, e1, e2, e3.unch hu (fun _ _ h => h)⟩
theorem AP.other (h : AP w1 te sz n xs xc i0 i2 i4 i5 s0 s2 s4 s5 D y w') (hu : Unch none_ w' w2) {i s : Nat} {v : Value} (hi : i0 ≠ i ∧ i2 ≠ i ∧ i4 ≠ i ∧ i5 ≠ i) (hs : s0 ≠ s ∧ s2 ≠ s ∧ s4 ≠ s ∧ s5 ≠ s) :
    AP w1 te sz n xs xc i0 i2 i4 i5 s0 s2 s4 s5 (fun j => decide (j = i) || D j) (upd y s v) w2 := by
  have h' := h.fresh hu
  obtain ⟨a0, a2, a4, a5⟩ := hi
  obtain ⟨b0, b2, b4, b5⟩ := hs
  refine ⟨h'.u, fun a b c => ?_, fun a b => ?_, fun a b => ?_, fun a => ?_, fun a => by rw [orD_ne a5] at a; rw [orD_ne a2]; exact h.e5 a⟩
  · rw [orD_ne a5] at a; rw [orD_ne a2] at b; rw [orD_ne a0] at c; rw [upd_ne b0]; exact h'.d0 a b c
  · rw [orD_ne a5] at a; rw [orD_ne a2] at b; rw [upd_ne b2]; exact h'.d2 a b
  · rw [orD_ne a5] at a; rw [orD_ne a4] at b; rw [upd_ne b4]; exact h'.d4 a b
  · rw [orD_ne a5] at a; rw [upd_ne b5]; exact h'.d5 a
theorem AP.st (h : AP w1 te sz n xs xc i0 i2 i4 i5 s0 s2 s4 s5 D y w') (hu : Unch none_ w' w2) {i : Nat} (hi : i0 ≠ i ∧ i2 ≠ i ∧ i4 ≠ i ∧ i5 ≠ i) :
    AP w1 te sz n xs xc i0 i2 i4 i5 s0 s2 s4 s5 (fun j => decide (j = i) || D j) y w2 := by
  have h' := h.fresh hu
  obtain ⟨a0, a2, a4, a5⟩ := hi
  refine ⟨h'.u, fun a b c => ?_, fun a b => ?_, fun a b => ?_, fun a => ?_, fun a => by rw [orD_ne a5] at a; rw [orD_ne a2]; exact h.e5 a⟩
  · rw [orD_ne a5] at a; rw [orD_ne a2] at b; rw [orD_ne a0] at c; exact h'.d0 a b c
  · rw [orD_ne a5] at a; rw [orD_ne a2] at b; exact h'.d2 a b
  · rw [orD_ne a5] at a; rw [orD_ne a4] at b; exact h'.d4 a b
  · rw [orD_ne a5] at a; exact h'.d5 a
theorem AP.put0 (h : AP w1 te sz n xs xc i0 i2 i4 i5 s0 s2 s4 s5 D y w') (N : APn i0 i2 i4 i5 s0 s2 s4 s5) :
    AP w1 te sz n xs xc i0 i2 i4 i5 s0 s2 s4 s5 (fun j => decide (j = i0) || D j) (upd y s0 (.slice (some ⟨w'.heap.size, 0, none⟩) 0 0)) (w'.alloc (.cells #[] te)) := by
  have hu : Unch none_ w' (w'.alloc (.cells #[] te)) := (Unch.refl none_ w').alloc _
  have h' := h.fresh hu
  obtain ⟨⟨a1, a2, a3, a4, a5, a6⟩, b1, b2, b3, b4, b5, b6⟩ := N
  refine ⟨h'.u, fun a b c => ⟨_, upd_at, h.u.size, blk_new w' _⟩, fun a b => ?_, fun a b => ?_, fun a => ?_, fun a => by rw [orD_ne a3.symm] at a; rw [orD_ne a1.symm]; exact h.e5 a⟩
  · rw [orD_ne a3.symm] at a; rw [orD_ne a1.symm] at b; rw [upd_ne b1.symm]; exact h'.d2 a b
  · rw [orD_ne a3.symm] at a; rw [orD_ne a2.symm] at b; rw [upd_ne b2.symm]; exact h'.d4 a b
  · rw [orD_ne a3.symm] at a; rw [upd_ne b3.symm]; exact h'.d5 a
theorem AP.put4 (h : AP w1 te sz n xs xc i0 i2 i4 i5 s0 s2 s4 s5 D y w') (N : APn i0 i2 i4 i5 s0 s2 s4 s5) :
    AP w1 te sz n xs xc i0 i2 i4 i5 s0 s2 s4 s5 (fun j => decide (j = i4) || D j) (upd y s4 (.slice (some ⟨w'.heap.size, 0, none⟩) 1 1)) (w'.alloc (.cells xc.toArray te)) := by
  have hu : Unch none_ w' (w'.alloc (.cells xc.toArray te)) := (Unch.refl none_ w').alloc _
  have h' := h.fresh hu
  obtain ⟨⟨a1, a2, a3, a4, a5, a6⟩, b1, b2, b3, b4, b5, b6⟩ := N
  refine ⟨h'.u, fun a b c => ?_, fun a b => ?_, fun a b => ⟨_, upd_at, h.u.size, blk_new w' _⟩, fun a => ?_, fun a => by rw [orD_ne a6.symm] at a; rw [orD_ne a4]; exact h.e5 a⟩
  · rw [orD_ne a6.symm] at a; rw [orD_ne a4] at b; rw [orD_ne a2] at c; rw [upd_ne b2]; exact h'.d0 a b c
  · rw [orD_ne a6.symm] at a; rw [orD_ne a4] at b; rw [upd_ne b4]; exact h'.d2 a b
  · rw [orD_ne a6.symm] at a; rw [upd_ne b6.symm]; exact h'.d5 a
/-- The row of what is empty. -/
theorem empty_row {w : World} {g : Nat} (hg : w.heap[g]? = some (.cells #[] te (0, 0))) : Row w te sz (.slice (some ⟨g, 0, none⟩) 0 0) 0 [] := ⟨by simp, .inr ⟨g, 0, 0, #[], rfl, hg, Nat.le_refl _, Nat.zero_le _, by simp, by simp⟩⟩
theorem AP.put2 (h : AP w1 te sz n xs xc i0 i2 i4 i5 s0 s2 s4 s5 D y w') (N : APn i0 i2 i4 i5 s0 s2 s4 s5) (hD : D i5 = false) (hxc : 0 < xc.length) {g : Nat} (hg : w'.heap[g]? = some (.cells #[] te (0, 0))) (hgl : w1.heap.size ≤ g) {B : Option Addr} {cB : Nat}
    (hr : Row w2 te sz (.slice B n cB) n xs) (hu : Unch (fun k => k = g) w' w2) (hat : ∀ b, (Value.slice B n cB).ownBlock = some b → w1.heap.size ≤ b) :
    AP w1 te sz n xs xc i0 i2 i4 i5 s0 s2 s4 s5 (fun j => decide (j = i2) || D j) (upd y s2 (.slice B n cB)) w2 := by
  obtain ⟨⟨a1, a2, a3, a4, a5, a6⟩, b1, b2, b3, b4, b5, b6⟩ := N
  refine ⟨h.u.step hu (fun i hi e => by omega), (fun a b c => by rw [orD_at] at b; cases b), fun a b => ⟨B, cB, upd_at, hr, hat⟩, fun a b => ?_, (fun a => by rw [orD_ne a5.symm, hD] at a; cases a), fun a => orD_at⟩
  rw [orD_ne a4.symm] at b; rw [upd_ne b4.symm]
  obtain ⟨g4, e1, e2, e3⟩ := h.d4 hD b
  refine ⟨g4, e1, e2, hu.heap e3 fun e => ?_⟩
  subst e
  rw [hg] at e3
  injection e3 with e3
  injection e3 with e3
  have e4 : xc = [] := by have := congrArg Array.toList e3; simpa using this.symm
  rw [e4] at hxc
  simp at hxc
theorem AP.put5 (h : AP w1 te sz n xs xc i0 i2 i4 i5 s0 s2 s4 s5 D y w') {v2 : Value} (hne : i2 ≠ i5) (h2 : D i2 = true) (hv : ∀ b, v2.ownBlock = some b → w1.heap.size ≤ b) {B : Option Addr} {cB : Nat} (hc : n + 1 ≤ cB)
    (hr : Row w2 te sz (.slice B (n + 1) cB) (n + 1) (xs ++ xc)) (hu : Unch (fun k => v2.ownBlock = some k) w' w2) :
    AP w1 te sz n xs xc i0 i2 i4 i5 s0 s2 s4 s5 (fun j => decide (j = i5) || D j) (upd y s5 (.slice B (n + 1) cB)) w2 := by
  refine ⟨h.u.step hu (fun i hi e => by have := hv i e; omega), (fun a b c => by rw [orD_at] at a; cases a), (fun a b => by rw [orD_at] at a; cases a), (fun a b => by rw [orD_at] at a; cases a), fun a => ⟨B, cB, upd_at, hc, hr⟩, fun a => by rw [orD_ne hne]; exact h2⟩
end
theorem wpList_append_any {P : Program} {ops : Array Oper} {rest : List Oper} {op : Oper} {a : Act} {Q : Exit → Act → World → Prop} (w : World) (hgd : op.guard = none) (s x : Operand) (t e : TypeId) (z : Value) (size bytes : Nat)
    (hop : op.op = .call { callee := .builtin .append, args := #[s, x], argTypes := #[t, t] }) (ht : P.underlying t = some (.slice e)) (hinfo : (P.info? e).map (fun i => (i.zero, i.size, i.bytes)) = some (some z, size, bytes)) (hzs : z.cells.size = size) (hsz : 0 < size)
    (v : Value) (n : Nat) (xs : List Value) (hs : a.eval s = v) (hr : Row w e size v n xs)
    (A : Option Addr) (m c : Nat) (news : List Value) (hx : a.eval x = .slice A m c) (hl : news.length = m * size) (hA : 0 < m → ∃ ad, A = some ad ∧ ∀ j u, news[j]? = some u → w.cell? (ad.add j) = some u) (h1 : ∀ u ∈ news, u.oneCell' = true)
    (h63 : n + m ≤ maxLen) (hbytes : (n + m) * bytes ≤ 140737488355328)
    (h : ∀ B cB w', n + m ≤ cB → Row w' e size (.slice B (n + m) cB) (n + m) (xs ++ news) → Unch (fun k => v.ownBlock = some k) w w' → (∀ b, (Value.slice B (n + m) cB).ownBlock = some b → v.ownBlock = some b ∨ w.heap.size ≤ b) → wpList P ops Q rest (a.put op.dst (.slice B (n + m) cB)) w') :
    wpList P ops Q (op :: rest) a w := by
  have fin : ∀ v' w', Row w' e size v' (n + m) (xs ++ news) → Unch (fun k => v.ownBlock = some k) w w' → (v'.ownBlock = v.ownBlock ∨ ∃ b, v'.ownBlock = some b ∧ w.heap.size ≤ b) → wpList P ops Q rest (a.put op.dst v') w' := fun v' w' h2 h3 h4 => by
    obtain ⟨B, cB, rfl, hcB⟩ := h2.slice
    refine h B cB w' hcB h2 h3 fun b hb => ?_
    rcases h4 with h4 | ⟨b', h4, h5⟩
    · exact .inl (h4 ▸ hb)
    · rw [h4] at hb
      injection hb with hb
      exact .inr (hb ▸ h5)
  rcases Nat.eq_zero_or_pos m with hm | hm
  · subst hm
    obtain rfl : news = [] := List.eq_nil_of_length_eq_zero (by simpa using hl)
    obtain ⟨i0, hi, hzz⟩ := Option.map_eq_some_iff.1 hinfo
    obtain ⟨B, cc, rfl, hnc⟩ := hr.slice
    have hrun : (Builtin.append_ #[t, t] op.type #[.slice B n cc, .slice A 0 c]).run P w = .ok (.slice B n cc) w := by
      cases A <;> cases B <;> simp [Builtin.append_, run_underlying ht, sizeOf, typeInfo, hi, Builtin.lenOf, Builtin.firstCells, hnc, storeCells, loadCells, loadCellsFrom]
    refine wpList_plain hgd fun K hK => ?_
    unfold Oper.wp execOp
    simp only [hop, resolve, invoke, builtin, Sem.run_bind, Sem.run_pure, Result.andThen_ok, List.map_toArray, List.map_cons, List.map_nil, hs, hx, hrun]
    exact hK _ _ (fin (.slice B n cc) w (by simpa using hr) (Unch.refl _ _) (.inl rfl))
  · exact wpList_append w hgd s x t e z size bytes hop ht hinfo hzs hsz v n xs hs hr A m c news hx hl hA (fun e => by
      obtain ⟨ad, ha, _⟩ := hA hm
      rw [ha] at e; cases e) h1 h63 hbytes fin
end Go.Proofs.YtgalnnmeamldhaaGreat
