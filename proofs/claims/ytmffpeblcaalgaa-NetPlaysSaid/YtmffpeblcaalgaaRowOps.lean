/-
  Rows that are cut, closed up and cleared where they stand (slices.Delete, slices.DeleteFunc).
-/
import Derived.Test.YtmffpeblcaalgaaBase
set_option linter.unusedVariables false
set_option linter.unusedSimpArgs false
namespace Go.Proofs.Ytmffpeblcaalgaa.Pal
open Go Go.RowKit

section
variable {w w1 : World} {e : TypeId} {size n cap g o : Nat} {xs : List Value}
theorem Row.place (h : Row w e size (.slice (some ⟨g, o, none⟩) n cap) n xs) : ∃ cur, w.heap[g]? = some (.cells cur e (0, 0)) ∧ n ≤ cap ∧ cap ≤ maxLen ∧ o + cap * size ≤ cur.size ∧ (cur.toList.drop o).take (n * size) = xs := by
  rcases h.2 with ⟨h0, _⟩ | ⟨g', o', cap', cur, h1, hh, hn, hm, hs, ht⟩
  · cases h0
  · injection h1 with h1 _ h4
    injection h1 with h1
    injection h1 with h1 h2
    subst h1; subst h2; subst h4
    exact ⟨cur, hh, hn, hm, hs, ht⟩
theorem Row.ofPlace {cur : Array Value} (hh : w.heap[g]? = some (.cells cur e (0, 0))) (hn : n ≤ cap) (hm : cap ≤ maxLen) (hs : o + cap * size ≤ cur.size) (ht : (cur.toList.drop o).take (n * size) = xs) : Row w e size (.slice (some ⟨g, o, none⟩) n cap) n xs := by
  have hle : n * size ≤ cap * size := Nat.mul_le_mul_right _ hn
  refine ⟨?_, .inr ⟨g, o, cap, cur, rfl, hh, hn, hm, hs, ht⟩⟩
  rw [← ht, List.length_take, List.length_drop, Array.length_toList]
  omega
theorem Row.take (h : Row w e size (.slice (some ⟨g, o, none⟩) n cap) n xs) (k : Nat) (hk : k ≤ n) : Row w e size (.slice (some ⟨g, o, none⟩) k cap) k (xs.take (k * size)) := by
  obtain ⟨cur, hh, hn, hm, hs, ht⟩ := h.place
  refine Row.ofPlace hh (by omega) hm hs ?_
  rw [← ht, List.take_take, Nat.min_eq_left (Nat.mul_le_mul_right _ hk)]
theorem Row.maxcap (h : Row w e size (.slice (some ⟨g, o, none⟩) n cap) n xs) : cap ≤ maxLen ∧ n ≤ cap := by
  obtain ⟨cur, _, hn, hm, _⟩ := h.place; exact ⟨hm, hn⟩
end
section
variable {P : Program}
/-- append where there is room. -/
theorem row_append_room (w : World) (t ty e : TypeId) (z : Value) (size bytes : Nat) (ht : P.underlying t = some (.slice e)) (hinfo : (P.info? e).map (fun i => (i.zero, i.size, i.bytes)) = some (some z, size, bytes))
    (g o n cap : Nat) (xs : List Value) (hr : Row w e size (.slice (some ⟨g, o, none⟩) n cap) n xs)
    (A : Option Addr) (m c : Nat) (news : List Value) (hl : news.length = m * size) (hA : 0 < m → ∃ a, A = some a ∧ ∀ j u, news[j]? = some u → w.cell? (a.add j) = some u) (h1 : ∀ u ∈ news, u.oneCell' = true) (hroom : n + m ≤ cap) :
    ∃ w', (Builtin.append_ #[t, t] ty #[.slice (some ⟨g, o, none⟩) n cap, .slice A m c]).run P w = .ok (.slice (some ⟨g, o, none⟩) (n + m) cap) w' ∧ Row w' e size (.slice (some ⟨g, o, none⟩) (n + m) cap) (n + m) (xs ++ news) ∧ Unch (fun k => k = g) w w' := by
  obtain ⟨i, hi, hzz⟩ := Option.map_eq_some_iff.1 hinfo
  simp only [Prod.mk.injEq] at hzz
  obtain ⟨hz, hsize, hby⟩ := hzz
  obtain ⟨cur, hg, hn, hm, hs, htake⟩ := hr.place
  rcases Nat.eq_zero_or_pos m with hm0 | hm0
  · subst hm0
    obtain rfl : news = [] := List.eq_nil_of_length_eq_zero (by simpa using hl)
    refine ⟨w, ?_, by simpa using hr, Unch.refl _ _⟩
    cases A <;> simp [Builtin.append_, run_underlying ht, sizeOf, typeInfo, hi, Builtin.lenOf, Builtin.firstCells, hn, storeCells, loadCells, loadCellsFrom]
  · obtain ⟨a, rfl, hnews⟩ := hA hm0
    have hle : (n + m) * size ≤ cap * size := Nat.mul_le_mul_right _ hroom
    rw [Nat.add_mul] at hle
    have hfit : o + n * size + news.length ≤ cur.size := by rw [hl]; omega
    subst hsize
    have hrun := run_append_room_cells (P := P) (w := w) t ty e i ht hi g o n cap a m c news hl hnews h1 hroom
      (fun j hj => by rw [cell_of_row w g _ cur e (0, 0) hg]; simp; omega) (fun j _ => blk_free hg _)
    obtain ⟨cur', h3, h4, h5⟩ := setCells_blk g news (o + n * i.size) w cur hg hfit
    obtain ⟨s1, s2, s3, s4⟩ := setCells_rest g news (o + n * i.size) w
    refine ⟨_, hrun, Row.ofPlace h3 hroom hm (by rw [h4]; exact hs) ?_, ⟨s1, s2, s3, by rw [s4]; exact Nat.le_refl _, fun k _ hk => setCells_other g news _ w k hk⟩⟩
    have hcl : cur.toList.length = cur.size := Array.length_toList
    rw [h5, List.append_assoc, List.drop_append_of_le_length (by rw [List.length_take, hcl]; omega), List.drop_take]
    rw [show o + n * i.size - o = n * i.size by omega, htake]
    rw [← List.append_assoc]
    exact List.take_left' (by rw [List.length_append, hr.1, hl, Nat.add_mul])
/-- append as a step of the walk, by what it comes to. -/
theorem wpList_append_run {ops : Array Oper} {rest : List Oper} {op : Oper} {a : Act} {Q : Exit → Act → World → Prop} (w : World) (hgd : op.guard = none) (s x : Operand) (t : TypeId)
    (hop : op.op = .call { callee := .builtin .append, args := #[s, x], argTypes := #[t, t] }) (v1 v2 v : Value) (hs : a.eval s = v1) (hx : a.eval x = v2) (w1 : World)
    (hrun : (Builtin.append_ #[t, t] op.type #[v1, v2]).run P w = .ok v w1) (h : wpList P ops Q rest (a.put op.dst v) w1) : wpList P ops Q (op :: rest) a w := by
  refine wpList_plain hgd fun K hK => ?_
  unfold Oper.wp execOp
  simp only [hop, resolve, invoke, builtin, Sem.run_bind, Sem.run_pure, Result.andThen_ok, List.map_toArray, List.map_cons, List.map_nil, hs, hx, hrun]
  exact hK _ _ h
/-- clear of what stands behind the first k elements. -/
theorem row_clear_past (w : World) (t ty e : TypeId) (z : Value) (size bytes : Nat) (ht : P.underlying t = some (.slice e)) (hinfo : (P.info? e).map (fun i => (i.zero, i.size, i.bytes)) = some (some z, size, bytes)) (hzs : z.cells.size = size) (hz1 : ∀ v ∈ z.cells, v.oneCell' = true)
    (g o n cap : Nat) (xs : List Value) (hr : Row w e size (.slice (some ⟨g, o, none⟩) n cap) n xs) (k m c' : Nat) (hk : k ≤ n) (hkm : k + m ≤ cap) (A : Option Addr) (hA : 0 < m → A = some ⟨g, o + k * size, none⟩) :
    ∃ w', (Builtin.clear_ #[t] ty #[.slice A m c']).run P w = .ok (.tuple #[]) w' ∧ Row w' e size (.slice (some ⟨g, o, none⟩) k cap) k (xs.take (k * size)) ∧ Unch (fun j => j = g) w w' := by
  obtain ⟨i0, hi, hzz⟩ := Option.map_eq_some_iff.1 hinfo
  simp only [Prod.mk.injEq] at hzz
  obtain ⟨hz0, hs1, hb1⟩ := hzz
  rcases Nat.eq_zero_or_pos m with hm0 | hm0
  · subst hm0
    refine ⟨w, ?_, hr.take k hk, Unch.refl _ _⟩
    cases A <;> simp [Builtin.clear_, run_underlying ht]
  · have hA' := hA hm0
    subst hA'
    obtain ⟨cur, hg, hn, hm, hs, htake⟩ := hr.place
    have hlen : (Builtin.zeroCells z.cells m).toList.length = m * size := by simp [Builtin.zeroCells, hzs]
    have hle : (k + m) * size ≤ cap * size := Nat.mul_le_mul_right _ hkm
    rw [Nat.add_mul] at hle
    have hst := run_storeCells_at (P := P) g (o + k * size) e (Builtin.zeroCells z.cells m).toList 0 cur w hg (by rw [hlen]; omega) (by
      intro v hv
      simp only [Builtin.zeroCells, Array.toList_map, List.mem_map] at hv
      obtain ⟨j, hj, rfl⟩ := hv
      have hjr : j < m * size := by simpa [hzs] using hj
      have hsp : 0 < size := by
        rcases Nat.eq_zero_or_pos size with h0 | h0
        · rw [h0] at hjr; simp at hjr
        · exact h0
      have hjs : j % z.cells.size < z.cells.size := by rw [hzs]; exact Nat.mod_lt _ hsp
      rw [getElem!_pos z.cells _ hjs]
      exact hz1 _ (Array.getElem_mem hjs))
    generalize hnew : (cur.toList.take (o + k * size + 0) ++ (Builtin.zeroCells z.cells m).toList ++ cur.toList.drop (o + k * size + 0 + (Builtin.zeroCells z.cells m).toList.length)).toArray = new at hst
    refine ⟨w.setRow g new, ?_, Row.ofPlace (setRow_heap w g cur new e (0, 0) hg) (by omega) hm ?_ ?_, (Unch.refl _ _).step (Y := fun j => j = g) ⟨rfl, rfl, rfl, by simp, fun j _ hj => setRow_other _ _ _ _ hj⟩ (fun _ _ h => h)⟩
    · cases m with
      | zero => omega
      | succ m => simp [Builtin.clear_, run_underlying ht, zeroValue, typeInfo, hi, hz0, hst]
    · rw [← hnew]; simp only [List.size_toArray, List.length_append, List.length_take, List.length_drop, hlen, Array.length_toList]; omega
    · have hcl : cur.toList.length = cur.size := Array.length_toList
      rw [← hnew, List.append_assoc]
      rw [List.drop_append_of_le_length (by rw [List.length_take, hcl]; omega), List.drop_take]
      rw [show o + k * size + 0 - o = k * size by omega]
      have hkn : k * size ≤ n * size := Nat.mul_le_mul_right _ hk
      rw [List.take_append_of_le_length (by rw [List.length_take, List.length_drop, hcl]; omega), ← htake, List.take_take, List.take_take, Nat.min_self, Nat.min_eq_left hkn]
end
end Go.Proofs.Ytmffpeblcaalgaa.Pal
