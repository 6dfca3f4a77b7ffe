/-
  member.Members: its state, maps.Keys.
-/
import Derived.Test.YtgalnnmeamldhaaGreatCKI1
import Derived.Test.YtgalnnmeamldhaaGreatCKS1
import Derived.Test.YtgalnnmeamldhaaGreatCMRd
/- member.Members: its state, maps.Keys. -/
set_option linter.unusedVariables false
set_option linter.unusedSimpArgs false
namespace Go.Proofs.YtgalnnmeamldhaaGreat
open Go Go.RowKit Go.Proofs.YtgalnnmeamldhaaGreat.Pal Go.Proofs.YtgalnnmeamldhaaGreat.Plan

set_option maxHeartbeats 1000000 in
theorem mapsKeys_ok (w : World) (b : Nat) : Calls Tryz.prog 42 #[.map (some b)] w fun e w' => e = .returned (.func (.func 66) #[] #[.pointer (some ⟨w.heap.size, 0, none⟩)]) ∧ w' = w.alloc (.cells #[.map (some b)] 61) := by
  go_enter Tryz.func42, Tryz.ntmps42
  go_wp2
  go_ret
  exact ⟨rfl, rfl⟩
/-- Between two rounds: the keys that are members, of those that came. -/
structure MI (w5 : World) (bo : Nat) (f : ByteArray → Bool) (pre : List ByteArray) (W : World) : Prop where
  u : Unch (fun j => j = bo) w5 W
  out : ∃ v, W.heap[bo]? = some (.cells #[v] 27 (0, 0)) ∧ (∀ b, v.ownBlock = some b → w5.heap.size ≤ b) ∧ Row W 9 1 v (pre.filter f).length (sv (pre.filter f))
theorem unch_of_grown {W W' : World} {row : Option Nat} (h : W.grownBy W' row) : Unch (fun k => row = some k) W W' := ⟨h.os, h.tape, h.output, h.size, fun k hk hne => h.block k hk (fun e => hne e.symm)⟩
theorem MI.own (w5 : World) (bo : Nat) (f : ByteArray → Bool) : OwnFrom w5.heap.size (MI w5 bo f) := by
  intro pre W W' row hs hg hr
  obtain ⟨hu, v, h1, h2, h3⟩ := hs
  have hu' := unch_of_grown hg
  have hcells : ∀ {k : Nat} {cs : Array Value} {e : TypeId} {fr : Nat × Nat}, W.heap[k]? = some (.cells cs e fr) → ¬ row = some k := fun hk e => by
    obtain ⟨_, o, ho, hc⟩ := hr _ e
    rw [hk] at ho
    injection ho with ho
    subst ho
    cases hc
  refine ⟨hu.step hu' (fun i hi e => by have := (hr i e).1; omega), v, hu'.heap h1 (hcells h1), h2, h3.unch hu' (fun b hb => ?_)⟩
  obtain ⟨cur, hc⟩ := h3.blk hb
  exact hcells hc
theorem rkO_inj {s : Ms} (h : s.Ok) {a b : ByteArray} (ha : (rkO s a).isSome = true) (hb : (rkO s b).isSome = true) (e : s.rk a = s.rk b) : a = b := by
  rw [rk_of, rk_of] at e
  unfold rkO at *
  by_cases c1 : a = s.aut s.r
  · by_cases c2 : b = s.aut s.r
    · rw [c1, c2]
    · rw [if_pos c1, if_neg c2] at e
      rw [if_neg c2] at hb
      cases hy : s.firstU b s.n with
      | none => rw [hy] at hb; cases hb
      | some y => rw [hy] at e; simp at e
  · rw [if_neg c1] at e ha
    cases hx : s.firstU a s.n with
    | none => rw [hx] at ha; cases ha
    | some x =>
      rw [hx] at e
      by_cases c2 : b = s.aut s.r
      · rw [if_pos c2] at e; simp at e
      · rw [if_neg c2] at e hb
        cases hy : s.firstU b s.n with
        | none => rw [hy] at hb; cases hb
        | some y =>
          rw [hy] at e
          simp only [Option.getD_some, Nat.add_right_cancel_iff] at e
          obtain ⟨x1, x2, _⟩ := Ms.firstU_some hx
          obtain ⟨y1, y2, _⟩ := Ms.firstU_some hy
          have hxy : x = y := by
            cases h1 : lessE s.l x y with
            | true => have := Ms.below_lt x1 (Ms.addOf_inn x2) h1; omega
            | false =>
              cases h2 : lessE s.l y x with
              | true => have := Ms.below_lt y1 (Ms.addOf_inn y2) h2; omega
              | false => exact h.cl.lessE_total x1 y1 h1 h2
          subst hxy
          unfold Ms.addOf at x2 y2
          simp only [Bool.and_eq_true, decide_eq_true_eq] at x2 y2
          rw [← x2.2.2, ← y2.2.2]
theorem member_rkO {s : Ms} {key : ByteArray} (h : s.member key = true) : (rkO s key).isSome = true := by
  unfold rkO
  split
  · rfl
  · rename_i hne
    rcases member_added h with e | ⟨x, h1, h2, h3, h4⟩
    · exact absurd e hne
    · cases hf : s.firstU key s.n with
      | some y => rfl
      | none =>
        have := Ms.firstU_none hf x h1
        unfold Ms.addOf at this
        rw [h2, decide_eq_true h3, decide_eq_true h4] at this
        cases this
/-- All keys that have a rank, each once; those of them that are members, sorted. -/
theorem memL_of {s : Ms} (h : s.Ok) {ss L : List ByteArray} (hn : ss.Nodup) (hm : ∀ x, x ∈ ss ↔ (rkO s x).isSome = true) (hp : L.Perm (ss.filter s.member)) (hs : L.Pairwise fun a b => s.rk a ≤ s.rk b) : MemL s L := by
  have hmem : ∀ key, key ∈ L ↔ s.member key = true := fun key => by
    rw [hp.mem_iff, List.mem_filter, hm]
    exact ⟨fun h => h.2, fun h => ⟨member_rkO h, h⟩⟩
  refine ⟨?_, hmem⟩
  have hnd : L.Nodup := hp.nodup_iff.2 (List.Nodup.sublist List.filter_sublist hn)
  unfold List.Nodup at hnd
  have := List.pairwise_and_iff.2 ⟨hs, hnd⟩
  refine List.Pairwise.imp_of_mem ?_ this
  rintro a b ha hb ⟨h1, h2⟩
  rcases Nat.lt_or_ge (s.rk a) (s.rk b) with h3 | h3
  · exact h3
  · exact absurd (rkO_inj h (member_rkO ((hmem a).1 ha)) (member_rkO ((hmem b).1 hb)) (by omega)) h2
theorem wpListIn_append1 {F : Fence} {nF : Nat} {P : Program} {ops : Array Oper} {rest : List Oper} {op : Oper} {a : Act} {Q : Exit → Act → World → Prop} (w : World) (hgd : op.guard = none) (s x : Operand) (t e : TypeId) (z : Value) (size bytes : Nat)
    (hop : op.op = .call { callee := .builtin .append, args := #[s, x], argTypes := #[t, t] }) (ht : P.underlying t = some (.slice e)) (hinfo : (P.info? e).map (fun i => (i.zero, i.size, i.bytes)) = some (some z, size, bytes)) (hzs : z.cells.size = size) (hsz : 0 < size)
    (v : Value) (n : Nat) (xs : List Value) (hs : a.eval s = v) (hr : Row w e size v n xs) (cs : List Value) (hcs : cs.length = size) (h1 : ∀ u ∈ cs, u.oneCell' = true)
    (hx : a.eval x = .slice (some ⟨w.heap.size, 0, none⟩) 1 1) (h63 : n + 1 ≤ maxLen) (hbytes : (n + 1) * bytes ≤ 140737488355328)
    (h : ∀ v' w', Row w' e size v' (n + 1) (xs ++ cs) → Unch (fun k => v.ownBlock = some k) w w' → (v'.ownBlock = v.ownBlock ∨ ∃ b, v'.ownBlock = some b ∧ w.heap.size ≤ b) → (∃ A c, v' = .slice A (n + 1) c) → wpListIn F nF P ops Q rest (a.put op.dst v') w') :
    wpListIn F nF P ops Q (op :: rest) a (w.alloc (.cells cs.toArray e)) := by
  have hu : Unch none_ w (w.alloc (.cells cs.toArray e)) := (Unch.refl _ _).alloc _
  obtain ⟨i0, hi, hzz⟩ := Option.map_eq_some_iff.1 hinfo
  simp only [Prod.mk.injEq] at hzz
  obtain ⟨hz0, hz1, hz2⟩ := hzz
  obtain ⟨v1, w1, hrun, h2, h3, h4⟩ := run_append (P := P) (w.alloc (.cells cs.toArray e)) t op.type e i0 z size bytes ht hi hz0 hz1 hz2 hzs hsz v n xs (hr.unch hu (fun _ _ h => h)) (some ⟨w.heap.size, 0, none⟩) 1 1 cs (by omega)
    (fun _ => ⟨_, rfl, World.news_of_block (heap_alloc_new w _)⟩) (fun h => by cases h) h1 h63 hbytes
  refine wpListIn_plain hgd fun K hK => ?_
  unfold Oper.wpIn
  refine ⟨by simp [Oper.about, hop, resolve, Target.leads, Sem.run_pure], ?_⟩
  rw [Oper.semAt_plain F _ _ (by rw [hop]; intro c hc'; cases hc')]
  simp [execOp, hop, resolve, invoke, builtin, hs, hx, hrun, Result.andThen]
  refine hK _ _ (h v1 w1 h2 ?_ ?_ ?_)
  · refine ⟨h3.os, h3.tape, h3.output, Nat.le_trans (by simp) h3.size, fun k hk hX => ?_⟩
    exact (h3.block k (by simp; omega) hX).trans (Below.heap_alloc w _ k hk)
  · rcases h4 with h4 | ⟨b, hb, hlt⟩
    · exact .inl h4
    · exact .inr ⟨b, hb, by simp at hlt; omega⟩
  · obtain ⟨B, cc, hv, _⟩ := h2.slice
    exact ⟨B, cc, hv⟩
theorem keeps_of_unch {X : Nat → Prop} {W W' : World} (h : Unch X W W') (hX : ∀ k, X k → ∃ cs e fr, W.heap[k]? = some (.cells cs e fr)) : KeepsOthers W W' :=
  ⟨h.size, fun k o hk ho => h.heap hk fun hx => by
    obtain ⟨cs, e, fr, hc⟩ := hX k hx
    rw [hk] at hc
    injection hc with hc
    subst hc
    cases ho⟩
/-- A round that takes its key. -/
theorem MI.put {w5 W W6 W7 : World} {bo : Nat} {f : ByteArray → Bool} {pre : List ByteArray} {v v' : Value} {x : ByteArray} (hb5 : bo < w5.heap.size) (hu : Unch (fun j => j = bo) w5 W) (h1 : W.heap[bo]? = some (.cells #[v] 27 (0, 0))) (h2 : ∀ b, v.ownBlock = some b → w5.heap.size ≤ b)
    (h3 : Row W 9 1 v (pre.filter f).length (sv (pre.filter f))) (hf : f x = true) (hu6 : Unch none_ W W6) (hr : Row W7 9 1 v' ((pre.filter f).length + 1) (sv (pre.filter f) ++ [.string x])) (hu7 : Unch (fun k => v.ownBlock = some k) W6 W7)
    (hat : v'.ownBlock = v.ownBlock ∨ ∃ b, v'.ownBlock = some b ∧ W6.heap.size ≤ b) :
    MI w5 bo f (pre ++ [x]) (W7.setCell ⟨bo, 0, none⟩ v') ∧ KeepsOthers W (W7.setCell ⟨bo, 0, none⟩ v') ∧ W7.cell? ⟨bo, 0, none⟩ = some v ∧ W7.frozen? ⟨bo, 0, none⟩ = false := by
  have hne : ¬ v.ownBlock = some bo := fun e => by have := h2 _ e; omega
  have b7 := hu7.heap (hu6.heap h1 (fun h => h)) hne
  have huc : Unch (fun j => j = bo) W7 (W7.setCell ⟨bo, 0, none⟩ v') := (Unch.refl _ _).setCell _ (fun _ => rfl)
  have e1 : (pre ++ [x]).filter f = pre.filter f ++ [x] := by simp [hf]
  have hs5 := hu.size
  have hs6 := hu6.size
  have hown : ∀ b, v'.ownBlock = some b → w5.heap.size ≤ b := fun b hb => by
    rcases hat with h | ⟨b', h, hlt⟩
    · exact h2 b (h ▸ hb)
    · rw [h] at hb; injection hb with hb; omega
  refine ⟨⟨?_, v', ?_, hown, ?_⟩, ?_, blk_cell b7 rfl, blk_free b7 0⟩
  · refine ((hu.step hu6 (fun _ _ h => h.elim)).step hu7 (fun i hi e => ?_)).step huc (fun i hi e => e)
    have := h2 i e; omega
  · have := blk_set b7 0 v'
    simpa using this
  · rw [e1, sv_app, List.length_append, List.length_singleton]
    exact hr.unch huc (fun b hb e => by have := hown b hb; omega)
  · refine keeps_of_unch (X := fun k => k = bo ∨ v.ownBlock = some k) ?_ ?_
    · exact ((hu6.mono (fun _ _ h => h.elim)).step hu7 (fun i hi e => .inr e)).step huc (fun i hi e => .inl e)
    · rintro k (rfl | hk)
      · exact ⟨_, _, _, h1⟩
      · obtain ⟨cur, hc⟩ := h3.blk hk
        exact ⟨_, _, _, hc⟩
theorem MI.pass {w5 W W6 : World} {bo : Nat} {f : ByteArray → Bool} {pre : List ByteArray} {x : ByteArray} (h : MI w5 bo f pre W) (hf : f x = false) (hu6 : Unch none_ W W6) : MI w5 bo f (pre ++ [x]) W6 := by
  obtain ⟨hu, v, h1, h2, h3⟩ := h
  have e1 : (pre ++ [x]).filter f = pre.filter f := by simp [hf]
  exact ⟨hu.step hu6 (fun _ _ h => h.elim), v, hu6.heap h1 (fun h => h), h2, by rw [e1]; exact h3.unch hu6 (fun _ _ h => h)⟩
theorem km_start (w2 : World) (bc brk : Nat) {w5 : World} (h : w5 = ((w2.alloc (.cells #[.pointer (some ⟨bc, 0, none⟩)] 74)).alloc (.cells #[.slice none 0 0] 27)).alloc (.cells #[.map (some brk)] 61)) :
    Unch none_ w2 w5 ∧ w5.heap[w2.heap.size]? = some (.cells #[.pointer (some ⟨bc, 0, none⟩)] 74 (0, 0)) ∧ w5.heap[w2.heap.size + 1]? = some (.cells #[.slice none 0 0] 27 (0, 0)) ∧ w5.cell? ⟨w2.heap.size + 1 + 1, 0, none⟩ = some (.map (some brk)) ∧ w5.heap.size = w2.heap.size + 1 + 1 + 1 := by
  subst h
  have b1 := blk_new w2 (.cells #[.pointer (some ⟨bc, 0, none⟩)] 74)
  have b2 := blk_new (w2.alloc (.cells #[.pointer (some ⟨bc, 0, none⟩)] 74)) (.cells #[.slice none 0 0] 27)
  have b3 := blk_new ((w2.alloc (.cells #[.pointer (some ⟨bc, 0, none⟩)] 74)).alloc (.cells #[.slice none 0 0] 27)) (.cells #[.map (some brk)] 61)
  simp only [World.size_alloc] at b2 b3
  exact ⟨(((Unch.refl none_ w2).alloc _).alloc _).alloc _, blk_alloc (blk_alloc b1 _) _, blk_alloc b2 _, blk_cell b3 rfl, by simp [World.size_alloc]⟩
theorem rankM_some {w : World} {brk : Nat} {s : Ms} (h : RankM w brk s) : ∃ m, Sm w brk m ∧ ∀ key, (mget m key).isSome = (rkO s key).isSome := by
  obtain ⟨m, a, b⟩ := h
  refine ⟨m, a, fun key => ?_⟩
  rw [b key]
  cases rkO s key <;> rfl
theorem ranks_len {w : World} {brk : Nat} {s : Ms} (h : s.Ok) (hC : s.n ≤ 300) {m : Asc} (hs : Sm w brk m) (hg : ∀ key, (mget m key).isSome = (rkO s key).isSome) : m.length ≤ 302 := by
  have hk : ∀ key ∈ m.map (·.1), (rkO s key).isSome = true := fun key hk => by
    have := mget_isSome.2 hk
    rw [hg] at this
    exact this
  have hnd : ((m.map (·.1)).map s.rk).Nodup := by
    unfold List.Nodup
    rw [List.pairwise_map]
    refine List.Pairwise.imp_of_mem ?_ hs.one
    intro a b ha hb hne e
    exact hne (rkO_inj h (hk a ha) (hk b hb) e)
  have hlt : ∀ j ∈ (m.map (·.1)).map s.rk, j < 302 := fun j hj => by
    obtain ⟨key, hkey, rfl⟩ := List.mem_map.1 hj
    have hc := card_le s
    unfold Ms.rk
    split
    · omega
    · cases hf : s.firstU key s.n with
      | none => simp only; omega
      | some x =>
        obtain ⟨x1, x2, _⟩ := Ms.firstU_some hf
        have := Ms.below_card x1 (Ms.addOf_inn x2)
        unfold Ms.below at this
        simp only
        omega
  have := nd_len hnd hlt
  simpa using this
end Go.Proofs.YtgalnnmeamldhaaGreat
