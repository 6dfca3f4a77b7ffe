/-
  append once more, told that what stood there is still there; a plan over a condition of one's own.
-/
import Derived.Test.YtmffpeblcaalgaaBase
set_option linter.unusedVariables false
set_option linter.unusedSimpArgs false
namespace Go.Proofs.Ytmffpeblcaalgaa.Pal
open Go Go.RowKit
section
variable {P : Program}
/-- append to a row of its own: what comes of it. -/
theorem run_append_keep (w : World) (t ty e : TypeId) (i : TypeInfo) (z : Value) (size bytes : Nat) (ht : P.underlying t = some (.slice e)) (hi : P.info? e = some i) (hz : i.zero = some z)
    (hsize : i.size = size) (hby : i.bytes = bytes) (hzs : z.cells.size = size) (hsz : 0 < size)
    (v : Value) (n : Nat) (xs : List Value) (hr : Row w e size v n xs)
    (A : Option Addr) (m c : Nat) (news : List Value) (hl : news.length = m * size) (hA : 0 < m → ∃ a, A = some a ∧ ∀ j u, news[j]? = some u → w.cell? (a.add j) = some u) (hA0 : A = none → c = 0) (h1 : ∀ u ∈ news, u.oneCell' = true)
    (h63 : n + m ≤ maxLen) (hbytes : (n + m) * bytes ≤ 140737488355328) :
    ∃ v' w', (Builtin.append_ #[t, t] ty #[v, .slice A m c]).run P w = .ok v' w' ∧ Row w' e size v' (n + m) (xs ++ news) ∧ Row w' e size v n xs ∧ Unch (fun k => v.ownBlock = some k) w w' ∧ (v'.ownBlock = v.ownBlock ∨ ∃ b, v'.ownBlock = some b ∧ w.heap.size ≤ b) := by
  rcases Nat.eq_zero_or_pos m with hm | hm
  · subst hm
    obtain rfl : news = [] := List.eq_nil_of_length_eq_zero (by simpa using hl)
    refine ⟨v, w, ?_, by simpa using hr, hr, Unch.refl _ _, .inl rfl⟩
    obtain ⟨B, cc, rfl, hnc⟩ := hr.slice
    cases A <;> cases B <;> simp [Builtin.append_, run_underlying ht, sizeOf, typeInfo, hi, Builtin.lenOf, Builtin.firstCells, hnc, storeCells, loadCells, loadCellsFrom]
  · obtain ⟨a, rfl, hnews⟩ := hA hm
    have grows : ∀ (b : Addr) (cap : Nat), cap < n + m → (∀ j u, xs[j]? = some u → w.cell? (b.add j) = some u) → v = .slice (some b) n cap →
        ∃ v' w', (Builtin.append_ #[t, t] ty #[v, .slice (some a) m c]).run P w = .ok v' w' ∧ Row w' e size v' (n + m) (xs ++ news) ∧ Row w' e size v n xs ∧ Unch (fun k => v.ownBlock = some k) w w' ∧ (v'.ownBlock = v.ownBlock ∨ ∃ b, v'.ownBlock = some b ∧ w.heap.size ≤ b) := by
      intro b cap hcap hcells hv
      obtain ⟨v', w', hrun, ho, hg⟩ := run_append_arg_grows (P := P) (w := w) t ty e i z size bytes ht hi hz hsize hby hzs hsz b n cap xs hr.1 hcells a m c news hl hnews hcap h63 hbytes
      obtain ⟨g', cap', he, hb, _⟩ := ho.form (by omega)
      exact ⟨v', w', by rw [hv]; exact hrun, Row.of_own ho, hr.unch ((Unch.refl none_ _).grown hg (fun k _ h => by cases h)) (fun _ _ h => h), (Unch.refl _ _).grown hg (fun k _ h => by cases h), .inr ⟨g', by rw [he]; rfl, hb⟩⟩
    rcases hr.2 with ⟨hv, h0⟩ | ⟨g, o, cap, cur, hv, hg, hnc, hcm, hcs, htake⟩
    · subst h0
      have ho : w.ownsRow 0 e size v 0 xs := ⟨hr.1, .inl ⟨hv, rfl⟩⟩
      obtain ⟨v', w', hrun, ho', hg, _, hat⟩ := run_append_own_at (P := P) w 0 t ty e i z size bytes ht hi hz hsize hby hzs hsz v 0 xs ho a m c news hl hnews h1 h63 hbytes (Nat.zero_le _)
      refine ⟨v', w', hrun, Row.of_own ho', ⟨hr.1, .inl ⟨hv, rfl⟩⟩, (Unch.refl _ _).grown hg (fun k _ h => h), ?_⟩
      rcases hat with hat | hat
      · exact .inl hat
      · exact .inr ⟨_, hat, Nat.le_refl _⟩
    · by_cases hroom : n + m ≤ cap
      · have hle : (n + m) * size ≤ cap * size := Nat.mul_le_mul_right _ hroom
        rw [Nat.add_mul] at hle
        have hfit : o + n * size + news.length ≤ cur.size := by rw [hl]; omega
        subst hsize
        have hrun := run_append_room_cells (P := P) (w := w) t ty e i ht hi g o n cap a m c news hl hnews h1 hroom
          (fun j hj => by rw [cell_of_row w g _ cur e (0, 0) hg]; simp; omega) (fun j _ => blk_free hg _)
        obtain ⟨cur', h3, h4, h5⟩ := setCells_blk g news (o + n * i.size) w cur hg hfit
        obtain ⟨s1, s2, s3, s4⟩ := setCells_rest g news (o + n * i.size) w
        refine ⟨_, _, by rw [hv]; exact hrun, ⟨by rw [List.length_append, hr.1, hl, Nat.add_mul], .inr ⟨g, o, cap, cur', rfl, h3, hroom, hcm, by rw [h4]; exact hcs, ?_⟩⟩, ⟨hr.1, .inr ⟨g, o, cap, cur', hv, h3, hnc, hcm, by rw [h4]; exact hcs, ?_⟩⟩,
          ⟨s1, s2, s3, by rw [s4]; exact Nat.le_refl _, fun k _ hk => setCells_other g news _ w k (fun he => hk (by rw [hv, he]; rfl))⟩, .inl (by rw [hv]; rfl)⟩
        all_goals have hcl : cur.toList.length = cur.size := Array.length_toList
        · rw [h5, List.append_assoc, List.drop_append_of_le_length (by rw [List.length_take, hcl]; omega), List.drop_take]
          rw [show o + n * i.size - o = n * i.size by omega, htake]
          rw [← List.append_assoc]
          exact List.take_left' (by rw [List.length_append, hr.1, hl, Nat.add_mul])
        · rw [h5, List.append_assoc, List.drop_append_of_le_length (by rw [List.length_take, hcl]; omega), List.drop_take]
          rw [show o + n * i.size - o = n * i.size by omega, htake, List.take_append_of_le_length (by rw [hr.1]; exact Nat.le_refl _), List.take_of_length_le (by rw [hr.1]; exact Nat.le_refl _)]
      · refine grows ⟨g, o, none⟩ cap (by omega) (fun j u hu => ?_) hv
        rw [Addr.add_lit]
        exact hr.at hv hu

/-- The same as a step of the walk. -/
theorem wpList_append_keep {ops : Array Oper} {rest : List Oper} {op : Oper} {a : Act} {Q : Exit → Act → World → Prop} (w : World) (hgd : op.guard = none) (s x : Operand) (t e : TypeId) (z : Value) (size bytes : Nat)
    (hop : op.op = .call { callee := .builtin .append, args := #[s, x], argTypes := #[t, t] }) (ht : P.underlying t = some (.slice e)) (hinfo : (P.info? e).map (fun i => (i.zero, i.size, i.bytes)) = some (some z, size, bytes)) (hzs : z.cells.size = size) (hsz : 0 < size)
    (v : Value) (n : Nat) (xs : List Value) (hs : a.eval s = v) (hr : Row w e size v n xs)
    (A : Option Addr) (m c : Nat) (news : List Value) (hx : a.eval x = .slice A m c) (hl : news.length = m * size) (hA : 0 < m → ∃ ad, A = some ad ∧ ∀ j u, news[j]? = some u → w.cell? (ad.add j) = some u) (hA0 : A = none → c = 0) (h1 : ∀ u ∈ news, u.oneCell' = true)
    (h63 : n + m ≤ maxLen) (hbytes : (n + m) * bytes ≤ 140737488355328)
    (h : ∀ v' w', Row w' e size v' (n + m) (xs ++ news) → Row w' e size v n xs → Unch (fun k => v.ownBlock = some k) w w' → (v'.ownBlock = v.ownBlock ∨ ∃ b, v'.ownBlock = some b ∧ w.heap.size ≤ b) → wpList P ops Q rest (a.put op.dst v') w') :
    wpList P ops Q (op :: rest) a w := by
  obtain ⟨i0, hi, hzz⟩ := Option.map_eq_some_iff.1 hinfo
  simp only [Prod.mk.injEq] at hzz
  obtain ⟨hz0, hz1, hz2⟩ := hzz
  obtain ⟨v1, w1, hrun, h2, h2k, h3, h4⟩ := run_append_keep (P := P) w t op.type e i0 z size bytes ht hi hz0 hz1 hz2 hzs hsz v n xs hr A m c news hl hA hA0 h1 h63 hbytes
  refine wpList_plain hgd fun K hK => ?_
  unfold Oper.wp execOp
  simp only [hop, resolve, invoke, builtin, Sem.run_bind, Sem.run_pure, Result.andThen_ok, List.map_toArray, List.map_cons, List.map_nil, hs, hx, hrun]
  exact hK _ _ (h v1 w1 h2 h2k h3 h4)
/-- One value, boxed for the call. -/
theorem wpList_append1_keep {ops : Array Oper} {rest : List Oper} {op : Oper} {a : Act} {Q : Exit → Act → World → Prop} (w : World) (hgd : op.guard = none) (s x : Operand) (t e : TypeId) (z : Value) (size bytes : Nat)
    (hop : op.op = .call { callee := .builtin .append, args := #[s, x], argTypes := #[t, t] }) (ht : P.underlying t = some (.slice e)) (hinfo : (P.info? e).map (fun i => (i.zero, i.size, i.bytes)) = some (some z, size, bytes)) (hzs : z.cells.size = size) (hsz : 0 < size)
    (v : Value) (n : Nat) (xs : List Value) (hs : a.eval s = v) (hr : Row w e size v n xs) (cs : List Value) (hcs : cs.length = size) (h1 : ∀ u ∈ cs, u.oneCell' = true)
    (hx : a.eval x = .slice (some ⟨w.heap.size, 0, none⟩) 1 1) (h63 : n + 1 ≤ maxLen) (hbytes : (n + 1) * bytes ≤ 140737488355328)
    (h : ∀ v' w', Row w' e size v' (n + 1) (xs ++ cs) → Row w' e size v n xs → Unch (fun k => v.ownBlock = some k) w w' → (v'.ownBlock = v.ownBlock ∨ ∃ b, v'.ownBlock = some b ∧ w.heap.size ≤ b) → wpList P ops Q rest (a.put op.dst v') w') :
    wpList P ops Q (op :: rest) a (w.alloc (.cells cs.toArray e)) := by
  have hu : Unch none_ w (w.alloc (.cells cs.toArray e)) := (Unch.refl _ _).alloc _
  refine wpList_append_keep _ hgd s x t e z size bytes hop ht hinfo hzs hsz v n xs hs (hr.unch hu (fun _ _ h => h)) (some ⟨w.heap.size, 0, none⟩) 1 1 cs hx (by omega)
    (fun _ => ⟨_, rfl, World.news_of_block (heap_alloc_new w _)⟩) (fun h => by cases h) h1 h63 hbytes ?_
  intro v' w' h2 h2k h3 h4
  refine h v' w' h2 h2k ?_ ?_
  · refine ⟨h3.os, h3.tape, h3.output, Nat.le_trans (by simp) h3.size, fun k hk hX => ?_⟩
    exact (h3.block k (by simp; omega) hX).trans (Below.heap_alloc w _ k hk)
  · rcases h4 with h4 | ⟨b, hb, hlt⟩
    · exact .inl h4
    · exact .inr ⟨b, hb, by simp at hlt; omega⟩
end

end Go.Proofs.Ytmffpeblcaalgaa.Pal

namespace Go.Proofs.Ytmffpeblcaalgaa.Plan
open Go Go.RowKit Go.Proofs.Ytmffpeblcaalgaa.Pal
section
variable {P : Program} {Q : Exit → Act → World → Prop}
/-- A plan over a condition T of one's own: what is read ahead is read in whatever world meets it. -/
theorem wp_planC {id : Nat} {a : Act} {w : World} {l hdl tll : List Oper} (T : World → Prop) (hd tl : List Nat) (kap : Nat) (hm : P.follows .mixedOrders = true) (hB : planB .any l.toArray hd tl kap = true)
    (h1 : pickIn l.toArray hd = hdl) (h2 : pickIn l.toArray tl = tll)
    (hQ : ∀ c a d v w, Q (.panic c) (a.put d v) w → Q (.panic c) a w) (hT : T w.drew)
    (h : ∀ S : World → Prop, Hid (∀ W, S W ↔ T W) → Nonempty (In S) → wpQuiet P l.toArray (fun w' => ∃ g : In S, w' = g.w) (fun a' => wpTail P l.toArray Q (fun w' => ∃ g : In S, w' = g.w) kap tll a' w.drew) hdl a) : (Code.region id l.toArray true).wp P Q a w :=
  wp_planS T hd tl kap hm hB h1 h2 hQ hT fun hne => h T (fun _ => Iff.rfl) hne
end
end Go.Proofs.Ytmffpeblcaalgaa.Plan
