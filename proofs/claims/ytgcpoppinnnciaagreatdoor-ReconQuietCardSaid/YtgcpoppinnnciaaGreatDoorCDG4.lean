/-
  slices.Sorted over Values, Compact: what they leave.
  dag: New, Has, Len, Add.
  dag.Add: the walk.
-/
import Derived.Test.YtgcpoppinnnciaaGreatDoorCTO1
import Derived.Test.YtgcpoppinnnciaaGreatDoorCLay
/- slices.Sorted over Values, Compact: what they leave. -/
set_option linter.unusedVariables false
set_option linter.unusedSimpArgs false
namespace Go.Proofs.YtgcpoppinnnciaaGreatDoor
open Go Go.RowKit Go.Proofs.YtgcpoppinnnciaaGreatDoor.Pal Go.Proofs.YtgcpoppinnnciaaGreatDoor.Plan

theorem encStr_toB (s : ByteArray) : encStr (toB s) = .string s := by
  show Value.string ⟨(toB s).toArray⟩ = _
  rw [show (⟨(toB s).toArray⟩ : ByteArray) = ofB (toB s) from rfl, ofB_toB]
theorem sortO_ok {w : World} {v : Value} {m : Nat} {L0 : List ByteArray} (hrow : Row w 9 1 v m (sv L0)) (hm3 : m ≤ 1048576) :
    Calls Tryz.prog 66 #[v] w fun e w' => e = .returned (.tuple #[]) ∧ ∃ L : List ByteArray, L.Perm L0 ∧ L.Pairwise (fun a b => bl b a = false) ∧ Row w' 9 1 v m (sv L) ∧ Unch (fun k => v.ownBlock = some k) w w' := by
  have hlen : L0.length = m := by have := hrow.1; rw [sv_len] at this; omega
  rcases Nat.eq_zero_or_pos m with h0 | hpos
  · subst h0
    obtain ⟨B, cc, hv, _⟩ := hrow.slice
    rw [hv] at hrow ⊢
    refine (AnyM.slices_Sort_string_none (ρ := Tryz.sortO_ren) Tryz.sortO B cc w).mono ?_
    rintro e w' ⟨rfl, rfl⟩
    have : L0 = [] := List.eq_nil_of_length_eq_zero hlen
    subst this
    exact ⟨rfl, [], List.Perm.refl _, List.Pairwise.nil, hrow, Unch.refl _ _⟩
  · obtain ⟨h1, hform⟩ := hrow
    rcases hform with ⟨_, h0⟩ | ⟨blk, off, c, cur, hv, hblk, hn, hm2, hs2, htake⟩
    · omega
    subst hv
    have hrow : Row w 9 1 (.slice (some ⟨blk, off, none⟩) m c) m (sv L0) := ⟨h1, .inr ⟨blk, off, c, cur, rfl, hblk, hn, hm2, hs2, htake⟩⟩
    obtain ⟨ss, hss⟩ : ∃ ss : List (List UInt8), ss = L0.map toB := ⟨_, rfl⟩
    have hsl : ss.length = m := by rw [hss]; simp [hlen]
    have hso : ss.map ofB = L0 := by
      rw [hss, List.map_map]
      conv => rhs; rw [← List.map_id L0]
      exact List.map_congr_left fun s _ => ofB_toB s
    have hH : Sort.Holds encStr w blk off ss.toArray := by
      intro j hj
      have hj' : j < ss.length := by simpa using hj
      refine ⟨?_, blk_free hblk _⟩
      have hx : L0[j]? = some L0[j] := List.getElem?_eq_getElem (by omega)
      have e1 : (ss.toArray)[j]! = toB L0[j] := by
        rw [getElem!_pos ss.toArray j (by simpa using hj')]
        simp [hss]
      rw [e1, encStr_toB]
      exact hrow.at rfl (sv_get hx)
    have hcon := AnyM.slices_Sort_string (ρ := Tryz.sortO_ren) Tryz.sortO blk off c ss w hH (lt_of_heap hblk) (by omega)
    rw [hsl] at hcon
    refine Calls.mono hcon ?_
    rintro e w' ⟨rfl, n, os, rfl⟩
    obtain ⟨hp, hs⟩ := sort_ofB ss
    rw [hso] at hp
    obtain ⟨F, hF⟩ : ∃ F, ss.mergeSort (fun x y => decide (x ≤ y)) = F := ⟨_, rfl⟩
    rw [hF] at hp hs ⊢
    have hFl : F.length = m := by have := hp.length_eq; simp at this; omega
    refine ⟨rfl, F.map ofB, hp, hs, ?_, (put_unch' _ _ _ _ _ _ _).mono fun j hj e => by subst e; rfl⟩
    refine row_of_cells (put_heap' encStr w blk off n _ os hblk) hn hm2 (by simpa [Sort.putCells] using hs2) (by rw [sv_len, List.length_map, hFl]; omega) fun t ht => ?_
    rw [putCells_get' encStr _ _ _ (by simp [hFl]; omega) (by omega)]
    have ht' : t < F.length := by omega
    rw [getElem!_pos F.toArray t (by simpa using ht')]
    rw [sv_get (show (F.map ofB)[t]? = some (ofB F[t]) by rw [List.getElem?_map, List.getElem?_eq_getElem ht']; rfl)]
    simp [encStr, ofB]
set_option maxHeartbeats 1000000 in
theorem sortedS_ok {w : World} {A : Option Addr} {m c Bm : Nat} {xs : List ByteArray} (hrd : RdS w 1 StrR A m xs) (hm3 : m ≤ 1048576) (hm : w.cell? ⟨Bm, 0, none⟩ = some (.slice A m c)) :
    Calls Tryz.prog 38 #[.func (.func 67) #[] #[.pointer (some ⟨Bm, 0, none⟩)]] w fun e w' => ∃ v L, e = .returned v ∧ L.Perm xs ∧ L.Pairwise (fun a b => bl b a = false) ∧ SMid w w' v L.length L := by
  have hlen := hrd.len
  have HC := Lib.hid (collect_ok hrd hm3 hm)
  clear hrd hm
  go_enter Tryz.func38, Tryz.ntmps38
  go_wp2_with fail
  refine HC.out.mono ?_
  rintro e w1 ⟨v, rfl, hs⟩
  have HS := Lib.hid (sortO_ok hs.row (by omega))
  have HM := Lib.hid hs
  clear hs HC
  go_wp2_with fail
  refine HS.out.mono ?_
  rintro e w2 ⟨rfl, L, hp, hso, hr, hu⟩
  have HP := Lib.hid hp
  have HSO := Lib.hid hso
  have HR := Lib.hid hr
  have HU := Lib.hid hu
  clear hp hso hr hu
  go_wp2
  go_ret
  have hll := HP.out.length_eq
  exact ⟨v, L, rfl, HP.out, HSO.out, HM.out.hu.step HU.out (fun i hi e => by have := HM.out.own i e; omega), HM.out.own, by rw [hll]; exact HR.out⟩
theorem eql_str : EqlAt Tryz.prog (Tryz.compS_ren.t 23) Value.string (fun x y : ByteArray => decide (x = y)) := by
  have h := EqlAt.string Tryz.prog (Tryz.compS_ren.t 23)
  have e : (fun x y : ByteArray => decide (x = y)) = fun x y => x.toList == y.toList := by funext x y; exact str_beq.symm
  rw [e]
  exact h
theorem neq_str : NeqAt Tryz.prog (Tryz.compS_ren.t 23) Value.string (fun x y : ByteArray => decide (x = y)) := by
  have h := NeqAt.string Tryz.prog (Tryz.compS_ren.t 23)
  have e : (fun x y : ByteArray => decide (x = y)) = fun x y => x.toList == y.toList := by funext x y; exact str_beq.symm
  rw [e]
  exact h
set_option maxHeartbeats 1000000 in
theorem compact_ok {w : World} {v : Value} {m : Nat} {L xs : List ByteArray} (hrow : Row w 9 1 v m (sv L)) (hm3 : m ≤ 1048576) (hp : L.Perm xs) (hs : L.Pairwise fun a b => bl b a = false) :
    Calls Tryz.prog 37 #[v] w fun e w' => ∃ A k c, e = .returned (.slice A k c) ∧ k ≤ c ∧ RdS w' 1 StrR A k (sortS xs) ∧ Unch (fun k => v.ownBlock = some k) w w' := by
  have hlen : L.length = m := by have := hrow.1; rw [sv_len] at this; omega
  have hcs := compact_sortS hp hs
  rcases Nat.eq_zero_or_pos m with h0 | hpos
  · subst h0
    have hL : L = [] := List.eq_nil_of_length_eq_zero hlen
    subst hL
    have hx : xs = [] := (List.nil_perm.1 hp)
    subst hx
    obtain ⟨B, cc, hv, hcc⟩ := hrow.slice
    rw [hv] at hrow ⊢
    have HR := Lib.hid (srow_rds hrow)
    clear hrow hcs hp hs
    go_enter Tryz.func37, Tryz.ntmps37
    go_wp2
    go_ret
    exact ⟨B, 0, cc, rfl, hcc, HR.out, Unch.refl _ _⟩
  · obtain ⟨h1, hform⟩ := hrow
    rcases hform with ⟨_, h0⟩ | ⟨blk, off, c, cur, hv, hblk, hn, hm2, hs2, htake⟩
    · omega
    subst hv
    have hrow : Row w 9 1 (.slice (some ⟨blk, off, none⟩) m c) m (sv L) := ⟨h1, .inr ⟨blk, off, c, cur, rfl, hblk, hn, hm2, hs2, htake⟩⟩
    have hH : Sort.Holds Value.string w blk off L.toArray := by
      intro j hj
      have hj' : j < L.length := by simpa using hj
      refine ⟨?_, blk_free hblk _⟩
      rw [getElem!_pos L.toArray j hj]
      exact hrow.at rfl (sv_get (List.getElem?_eq_getElem hj'))
    have hcon := AnyE.slices_Compact (ρ := Tryz.compS_ren) Tryz.compS Value.string (fun x => rfl) eql_str neq_str ⟨#[]⟩ (fun w => zero_of _ _ (by kernel_rfl) w) blk off c L.toArray w hH (by simp; omega) (by simp; omega)
    rw [show L.toArray.size = L.length by simp, hcs, hlen] at hcon
    refine Calls.mono hcon ?_
    rintro e w' ⟨rfl, q, rfl⟩
    have hkl : (sortS xs).length ≤ m := by rw [← hlen, hp.length_eq]; exact sortS_len xs
    have hbw := put_heap' Value.string w blk off q ((sortS xs ++ List.replicate (m - (sortS xs).length) (⟨#[]⟩ : ByteArray)).toArray) #[] hblk
    have huw := put_unch' Value.string w blk off q ((sortS xs ++ List.replicate (m - (sortS xs).length) (⟨#[]⟩ : ByteArray)).toArray) #[]
    rw [Sort.grow_empty] at hbw huw
    refine ⟨_, _, _, rfl, by omega, ?_, huw.mono fun j hj e => by subst e; rfl⟩
    have hr2 : Row (Sort.putRow Value.string (Sort.ahead w q) blk off ((sortS xs ++ List.replicate (m - (sortS xs).length) (⟨#[]⟩ : ByteArray)).toArray)) 9 1 (.slice (some ⟨blk, off, none⟩) (sortS xs).length c) (sortS xs).length (sv (sortS xs)) :=
      row_of_cells hbw (by omega) hm2 (by simpa [Sort.putCells] using hs2) (by rw [sv_len]; omega) fun t ht => by
        rw [putCells_get' Value.string _ _ _ (by simp; omega) (by omega)]
        have ht' : t < (sortS xs).length := by omega
        rw [getElem!_pos _ t (by simp; omega)]
        rw [sv_get (List.getElem?_eq_getElem ht')]
        simp [List.getElem_append_left ht']
    exact srow_rds hr2
end Go.Proofs.YtgcpoppinnnciaaGreatDoor
/- dag: New, Has, Len, Add. -/
set_option linter.unusedVariables false
set_option linter.unusedSimpArgs false
namespace Go.Proofs.YtgcpoppinnnciaaGreatDoor
open Go Go.RowKit Go.Proofs.YtgcpoppinnnciaaGreatDoor.Pal Go.Proofs.YtgcpoppinnnciaaGreatDoor.Plan

theorem zsl (w : World) : (zeroValue 25).run Tryz.prog w = .ok (.slice none 0 0) w := zero_of _ _ (by kernel_rfl) w
theorem look_s {w : World} {b : Nat} {m : Asc} {s : ByteArray} (h : Sm w b m) (hs : s.size ≤ maxLen) {x : Value} {ok : Bool} (hx : (mget m s).getD (.slice none 0 0) = x) (hok : (mget m s).isSome = ok) : (Instr.lookup 126 (.map (some b)) (.string s) true).run Tryz.prog w = .ok (.tuple #[x, .bool ok]) w := by
  have := sm_look (P := Tryz.prog) true h Tryz.underlying126 Tryz.underlying9 (zsl w) s hs
  rw [this]
  simp [hx, hok]
theorem look_s1 {w : World} {b : Nat} {m : Asc} {s : ByteArray} (h : Sm w b m) (hs : s.size ≤ maxLen) {x : Value} (hx : (mget m s).getD (.slice none 0 0) = x) : (Instr.lookup 126 (.map (some b)) (.string s) false).run Tryz.prog w = .ok x w := by
  have := sm_look (P := Tryz.prog) false h Tryz.underlying126 Tryz.underlying9 (zsl w) s hs
  rw [this]
  simp [hx]
theorem look_i1 {w : World} {b : Nat} {m : Asc} {s : ByteArray} (h : Sm w b m) (hs : s.size ≤ maxLen) {x : Value} (hx : (mget m s).getD (.int .i64 0) = x) : (Instr.lookup 127 (.map (some b)) (.string s) false).run Tryz.prog w = .ok x w := by
  have := sm_look (P := Tryz.prog) false h Tryz.underlying127 Tryz.underlying9 (zi w) s hs
  rw [this]
  simp [hx]
def IntsM (m : Asc) : Prop := ∀ s v, mget m s = some v → ∃ z : Int, v = .int .i64 z
theorem IntsM.get {m : Asc} (h : IntsM m) (s : ByteArray) : ∃ z : Int, (mget m s).getD (.int .i64 0) = .int .i64 z := by
  cases hg : mget m s with
  | none => exact ⟨0, rfl⟩
  | some v => obtain ⟨z, hz⟩ := h s v hg; exact ⟨z, hz⟩
theorem IntsM.put {m : Asc} (h : IntsM m) (s : ByteArray) (z : Int) : IntsM (mput m s (.int .i64 z)) := fun t v hv => by
  rw [mget_mput] at hv
  split at hv
  · injection hv with hv; exact ⟨z, hv.symm⟩
  · exact h t v hv
theorem rds_cells {α : Type} {w : World} {size : Nat} {R : α → List Value → Prop} {A : Option Addr} {n : Nat} {xs : List α} (h : RdS w size R A n xs) (hs : 0 < size) {w1 : World} {X : Nat → Prop} (hu : Unch X w w1) (hX : ∀ k, X k → ∀ cs e fr, w.heap[k]? ≠ some (.cells cs e fr)) : RdS w1 size R A n xs :=
  ⟨h.len, h.max, fun hn => by
    obtain ⟨b, o, hA, hb, hc⟩ := h.get hn
    refine ⟨b, o, hA, Nat.lt_of_lt_of_le hb hu.size, fun i x hx => ?_⟩
    obtain ⟨c, h1, h2, h3⟩ := hc i x hx
    refine ⟨c, h1, h2, fun j u hj => hu.cell (h3 j u hj) fun hx' => ?_⟩
    obtain ⟨o', ho', hc'⟩ := cells_of_cell (h3 j u hj)
    cases o' <;> simp [Obj.isCells] at hc'
    exact hX _ hx' _ _ _ ho'⟩
theorem sm_no_cells {w : World} {b : Nat} {m : Asc} (h : Sm w b m) (cs : Array Value) (e : TypeId) (fr : Nat × Nat) : w.heap[b]? ≠ some (.cells cs e fr) := fun hh => sm_ne_cells h hh rfl
/-- The dag of the first k entries. -/
structure Dg (w : World) (bd bp bk : Nat) (es : List Ent) (k : Nat) (pv : Nat → Value) : Prop where
  blk : w.heap[bd]? = some (.cells #[.map (some bp), .map (some bk)] 129 (0, 0))
  par : Sm w bp (idA es allT pv k)
  kid : ∃ mk, Sm w bk mk ∧ IntsM mk
  ps : ∀ i, i < k → ∃ A m c, pv i = .slice A m c ∧ m ≤ c ∧ RdS w 1 StrR A m (parsL es i)
  hne : bp ≠ bk
section
variable {w w1 : World} {bd bp bk : Nat} {es : List Ent} {k : Nat} {pv : Nat → Value}
theorem Dg.fresh (h : Dg w bd bp bk es k pv) (hu : Unch none_ w w1) : Dg w1 bd bp bk es k pv :=
  ⟨hu.heap h.blk (fun h => h), h.par.unch hu (fun h => h), by obtain ⟨mk, a, b⟩ := h.kid; exact ⟨mk, a.unch hu (fun h => h), b⟩, fun i hi => by obtain ⟨A, m, c, h1, h2, h3⟩ := h.ps i hi; exact ⟨A, m, c, h1, h2, RdS.fresh h3 hu⟩, h.hne⟩
theorem Dg.kidput (h : Dg w bd bp bk es k pv) (hu : Unch (fun j => j = bk) w w1) (hs : ∃ mk, Sm w1 bk mk ∧ IntsM mk) : Dg w1 bd bp bk es k pv := by
  obtain ⟨mk, hk, _⟩ := h.kid
  exact ⟨hu.heap h.blk (fun e => sm_ne_cells hk h.blk e.symm), h.par.unch hu h.hne, hs, fun i hi => by
    obtain ⟨A, m, c, h1, h2, h3⟩ := h.ps i hi
    exact ⟨A, m, c, h1, h2, rds_cells h3 (by decide) hu (fun j e => by subst e; exact fun cs e fr => sm_no_cells hk cs e fr)⟩, h.hne⟩
theorem Dg.parput (h : Dg w bd bp bk es k pv) (hC : Closed es) (hk : k < es.length) {A : Option Addr} {m c : Nat} (hc : m ≤ c) (hr : RdS w 1 StrR A m (parsL es k)) (hu : Unch (fun j => j = bp) w w1) (hs : Sm w1 bp (mput (idA es allT pv k) (ent es k).id (.slice A m c))) :
    Dg w1 bd bp bk es (k + 1) (fun i => if i = k then .slice A m c else pv i) := by
  have hpar := h.par
  have hcells : ∀ j, j = bp → ∀ cs e fr, w.heap[j]? ≠ some (.cells cs e fr) := fun j e => by subst e; exact fun cs e fr => sm_no_cells hpar cs e fr
  have hcg : idA es allT (fun i => if i = k then .slice A m c else pv i) k = idA es allT pv k := by
    unfold idA
    apply List.map_congr_left
    intro i hi
    have := (List.mem_filter.1 hi).1
    rw [List.mem_range] at this
    dsimp only
    rw [if_neg (by omega)]
  have hp2 := idA_put hC allT (fun i => if i = k then Value.slice A m c else pv i) hk
  rw [← idA_succ_t (G := allT) rfl, if_pos rfl] at hp2
  refine ⟨hu.heap h.blk (fun e => sm_ne_cells hpar h.blk e.symm), by rw [← hp2, hcg]; exact hs, by obtain ⟨mk, a, b⟩ := h.kid; exact ⟨mk, a.unch hu (fun e => h.hne e.symm), b⟩, fun i hi => ?_, h.hne⟩
  by_cases e : i = k
  · subst e
    simp only [if_true]
    exact ⟨A, m, c, rfl, hc, rds_cells hr (by decide) hu hcells⟩
  · simp only [if_neg e]
    obtain ⟨A', m', c', h1, h2, h3⟩ := h.ps i (by omega)
    exact ⟨A', m', c', h1, h2, rds_cells h3 (by decide) hu hcells⟩
set_option maxHeartbeats 1000000 in
theorem new_ok (es : List Ent) (w : World) : Calls Tryz.prog 35 #[] w fun e w' => ∃ bd bp bk pv, e = .returned (.pointer (some ⟨bd, 0, none⟩)) ∧ Dg w' bd bp bk es 0 pv ∧ Unch none_ w w' ∧ w.heap.size ≤ bd ∧ w.heap.size ≤ bp ∧ w.heap.size ≤ bk := by
  have hmm := @run_makeMap Tryz.prog
  go_enter Tryz.func35, Tryz.ntmps35
  go_wp2
  go_ret
  have m1 := Sm.made w
  have m2 := Sm.made (w.alloc (.map #[] 0))
  have b3 := blk_new ((w.alloc (.map #[] 0)).alloc (.map #[] 0)) (.cells #[.map (some w.heap.size), .map (some (w.heap.size + 1))] 129)
  simp only [World.size_alloc] at m2 b3
  refine ⟨w.heap.size + 1 + 1, w.heap.size, w.heap.size + 1, fun _ => .slice none 0 0, rfl, ⟨b3, (m1.unch ((Unch.refl none_ _).alloc _) (fun h => h)).unch ((Unch.refl none_ _).alloc _) (fun h => h), ⟨[], m2.unch ((Unch.refl none_ _).alloc _) (fun h => h), fun s v h => by cases h⟩, fun i hi => by omega, by omega⟩, (((Unch.refl none_ w).alloc _).alloc _).alloc _, by omega, by omega, by omega⟩
set_option maxHeartbeats 1000000 in
theorem dhas_ok (h : Dg w bd bp bk es k pv) (s : ByteArray) (hs : s.size ≤ maxLen) : Calls Tryz.prog 54 #[.pointer (some ⟨bd, 0, none⟩), .string s] w fun e w' => e = .returned (.bool (mget (idA es allT pv k) s).isSome) ∧ w = w' := by
  obtain ⟨ok, hok⟩ : ∃ ok, (mget (idA es allT pv k) s).isSome = ok := ⟨_, rfl⟩
  obtain ⟨x, hx⟩ : ∃ x, (mget (idA es allT pv k) s).getD (.slice none 0 0) = x := ⟨_, rfl⟩
  have hl := look_s h.par hs hx hok
  have c0 := blk_cell h.blk (j := 0) rfl
  rw [hok]
  clear h hok hx
  go_enter Tryz.func54, Tryz.ntmps54
  go_wp2
  go_ret
  exact ⟨rfl, rfl⟩
set_option maxHeartbeats 1000000 in
theorem dlen_ok (h : Dg w bd bp bk es k pv) (hk : k ≤ es.length) : Calls Tryz.prog 87 #[.pointer (some ⟨bd, 0, none⟩)] w fun e w' => e = .returned (.int .i64 (k : Int)) ∧ w = w' := by
  have hl := fun ty => sm_len (P := Tryz.prog) h.par Tryz.underlying126 ty
  have hlen : (idA es allT pv k).length = k := by unfold idA; rw [List.length_map, show (List.range k).filter allT = List.range k from List.filter_eq_self.2 (fun _ _ => rfl), List.length_range]
  rw [hlen] at hl
  have c0 := blk_cell h.blk (j := 0) rfl
  clear h hlen
  go_enter Tryz.func87, Tryz.ntmps87
  go_wp2
  go_ret
  exact ⟨rfl, rfl⟩
end
end Go.Proofs.YtgcpoppinnnciaaGreatDoor
/- dag.Add: the walk. -/
set_option linter.unusedVariables false
set_option linter.unusedSimpArgs false
namespace Go.Proofs.YtgcpoppinnnciaaGreatDoor
open Go Go.RowKit Go.Proofs.YtgcpoppinnnciaaGreatDoor.Pal Go.Proofs.YtgcpoppinnnciaaGreatDoor.Plan

set_option maxRecDepth 100000 in
set_option maxHeartbeats 4000000 in
theorem dadd_ok {w : World} {bd bp bk : Nat} {es : List Ent} {k : Nat} {pv : Nat → Value} (h : Dg w bd bp bk es k pv) (hC : Closed es) (hk : k < es.length) {A : Option Addr} {m c : Nat} (hrd : RdS w 1 StrR A m (ent es k).ps) (hm : m ≤ 1048576) :
    Calls Tryz.prog 50 #[.pointer (some ⟨bd, 0, none⟩), .string (ent es k).id, .slice A m c] w fun e w' => (∃ x, e = .returned x) ∧ (∃ pv2, Dg w' bd bp bk es (k + 1) pv2) ∧ Unch (fun j => j = bp ∨ j = bk) w w' := by
  have hlo := hC.lo k hk
  have hhi := hC.hi k hk
  have h300 := hC.len
  have hsid : (ent es k).id.size ≤ maxLen := by unfold maxLen; omega
  have hsps : ∀ p ∈ (ent es k).ps, p.size ≤ maxLen := fun p hp => by
    obtain ⟨q, hq, e⟩ := hC.pars k p hk hp
    have := hC.hi q (by omega)
    rw [e] at this
    unfold maxLen; omega
  have d0 : ¬ (ent es k).id.toList = [] := fun h => by have := (size_toList _).1 h; omega
  have d0' : ((ent es k).id.toList == []) = false := by simpa using d0
  have d0'' : ((ent es k).id.toList.isEmpty) = false := by simpa using d0
  have d1 : ¬ (64 : Int) < ((ent es k).id.size : Int) := by omega
  have d2 : ¬ (300 : Int) ≤ (k : Int) := by omega
  have hhas := dhas_ok h (ent es k).id hsid
  rw [idA_get hC allT pv (Nat.le_of_lt hk) hk, if_neg (by omega)] at hhas
  have hparent : ∀ p ∈ (ent es k).ps, (mget (idA es allT pv k) p).isSome = true := fun p hp => by
    obtain ⟨q, hq, e⟩ := hC.pars k p hk hp
    rw [← e, idA_get hC allT pv (Nat.le_of_lt hk) (by omega), if_pos ⟨hq, rfl⟩]
    rfl
  have c0 := blk_cell h.blk (j := 0) rfl
  have HHAS := Lib.hid hhas
  have HLEN := Lib.hid (dlen_ok h (Nat.le_of_lt hk))
  have HDG := Lib.hid h
  have HPAR := Lib.hid hparent
  have HSPS := Lib.hid hsps
  have HRD := Lib.hid hrd
  clear h hhas hparent hsps hrd hlo hhi h300
  obtain ⟨ps, hps⟩ : ∃ ps, (ent es k).ps = ps := ⟨_, rfl⟩
  rw [hps] at HPAR HSPS HRD
  have HPS := Lib.hid hps
  obtain ⟨sid, hid⟩ : ∃ sid, (ent es k).id = sid := ⟨_, rfl⟩
  rw [hid] at d0 d0' d0'' d1 hsid HHAS ⊢
  have HID := Lib.hid hid
  clear hps hid
  go_enter Tryz.func50, Tryz.ntmps50
  go_wp2_with fail
  refine HHAS.out.mono ?_
  rintro e w1 ⟨rfl, rfl⟩
  go_wp2_with fail
  refine HLEN.out.mono ?_
  rintro e w1 ⟨rfl, rfl⟩
  go_wp2_with fail
  refine (values_ok _ _ _ _).mono ?_
  rintro e w1 ⟨rfl, rfl⟩
  have hu1 : Unch none_ w (w.alloc (.cells #[.slice A m c] 25)) := (Unch.refl none_ w).alloc _
  have b1 := blk_new w (.cells #[.slice A m c] 25)
  have hlt1 : w.heap.size < (w.alloc (.cells #[.slice A m c] 25)).heap.size := by simp
  obtain ⟨B1, hB1⟩ : ∃ B1, w.heap.size = B1 := ⟨_, rfl⟩
  obtain ⟨w1, hw1⟩ : ∃ w1, w1 = w.alloc (.cells #[.slice A m c] 25) := ⟨_, rfl⟩
  rw [← hw1] at hu1 b1 hlt1 ⊢
  rw [hB1] at b1 hlt1 ⊢
  have HS := Lib.hid (sortedS_ok (RdS.fresh HRD.out hu1) hm (blk_cell b1 (j := 0) rfl))
  have HU1 := Lib.hid hu1
  clear hw1 hu1 b1
  go_wp2_with fail
  refine HS.out.mono ?_
  rintro e w2 ⟨v, L, rfl, hp, hso, hs⟩
  have hll := hp.length_eq
  have hlx := HRD.out.len
  have HCP := Lib.hid (compact_ok hs.row (by omega) hp hso)
  have HSM := Lib.hid hs
  clear hp hso hs HS
  go_wp2_with fail
  refine HCP.out.mono ?_
  rintro e w3 ⟨A2, n, c2, rfl, hc2, hr3, hu23⟩
  have hu3 : Unch none_ w w3 := (HU1.out.trans HSM.out.hu).step hu23 (fun i hi e => by have := HSM.out.own i e; omega)
  have HU3 := Lib.hid hu3
  have HR3 := Lib.hid hr3
  have hdg3 := HDG.out.fresh hu3
  have HDG3 := Lib.hid hdg3
  have hnl := hr3.len
  have hnm : n ≤ 1048576 := by have := sortS_len ps; omega
  have c3 := blk_cell hdg3.blk (j := 0) rfl
  clear hu3 hu23 hr3 HCP hdg3 c0
  go_wp2_with fail
  go_loopg [9, 38] n (fun gk _ i38 wr => ∃ t : Nat, gk = n - t ∧ t ≤ n ∧ i38 = .int .i64 (t : Int) ∧ w3 = wr)
  case atStart => exact ⟨0, rfl, Nat.zero_le _, rfl, rfl⟩
  case round =>
    obtain ⟨t, rfl, ht, rfl, rfl⟩ := hrel
    by_cases htn : t < n
    · have zt : (t : Int) < (n : Int) := by omega
      obtain ⟨p, hp⟩ := get_some hnl htn
      obtain ⟨bb, oo, rfl, _, xp⟩ := RdS.str HR3.out hp
      have hpm := sortS_mem.1 (List.mem_of_getElem? hp)
      have hh := dhas_ok HDG3.out p (HSPS.out p hpm)
      rw [HPAR.out p hpm] at hh
      have HH := Lib.hid hh
      clear hp hpm hh
      go_wp2_with fail
      refine HH.out.mono ?_
      rintro e w4 ⟨rfl, rfl⟩
      go_wp2
      go_roundg (n - (t + 1))
      case measure => omega
      case rel => exact ⟨t + 1, rfl, by omega, by go_num, rfl⟩
    · obtain rfl : t = n := by omega
      have hparsm := HDG3.out.par
      have HPM := Lib.hid hparsm
      clear hparsm
      go_wp2_with (at_mapUpdate; refine wpList_sm_put w3 rfl (.tmp 50) (.tmp 51) (.tmp 52) 126 rfl 9 25 Tryz.underlying126 Tryz.underlying9 bp _ rfl HPM.out sid rfl hsid (.slice A2 t c2) (by rfl) ?_; intro w4 hsm4 hu4; have HSM4 := Lib.hid hsm4; have HU4 := Lib.hid hu4; clear hsm4 hu4)
      go_simp
      have hsm4 := HSM4.out
      rw [← HID.out] at hsm4
      have hr3 := HR3.out
      rw [show sortS ps = parsL es k by unfold parsL; rw [HPS.out]] at hr3
      have hdg4 := HDG3.out.parput hC hk hc2 hr3 HU4.out hsm4
      obtain ⟨pv4, hpv4⟩ : ∃ pv4, (fun i => if i = k then Value.slice A2 t c2 else pv i) = pv4 := ⟨_, rfl⟩
      rw [hpv4] at hdg4
      have hrd4 : RdS w4 1 StrR A2 t (sortS ps) := by
        refine rds_cells HR3.out (by decide) HU4.out (fun j e => by subst e; exact fun cs e fr => sm_no_cells HPM.out cs e fr)
      have HDG4 := Lib.hid hdg4
      have HRD4 := Lib.hid hrd4
      clear hsm4 hr3 hdg4 hpv4 hrd4 c3
      go_wp2_with fail
      go_loopg [11, 55] t (fun gk _ i55 wr => ∃ q : Nat, gk = t - q ∧ q ≤ t ∧ i55 = .int .i64 (q : Int) ∧ Dg wr bd bp bk es (k + 1) pv4 ∧ RdS wr 1 StrR A2 t (sortS ps) ∧ Unch (fun j => j = bk) w4 wr)
      case atStart => exact ⟨0, rfl, Nat.zero_le _, rfl, HDG4.out, HRD4.out, Unch.refl _ _⟩
      case round =>
        obtain ⟨q, rfl, hq, rfl, hdg, hrdq, huq⟩ := hrel
        obtain ⟨w5, rfl⟩ : ∃ w5, w5 = wr := ⟨_, rfl⟩
        by_cases hqt : q < t
        · have zt : (q : Int) < (t : Int) := by omega
          obtain ⟨p, hp⟩ := get_some hnl hqt
          obtain ⟨bb, oo, rfl, _, xp⟩ := RdS.str hrdq hp
          have hpm := sortS_mem.1 (List.mem_of_getElem? hp)
          have hsp := HSPS.out p hpm
          have c1 := blk_cell hdg.blk (j := 1) rfl
          obtain ⟨mk, hmk, hint⟩ := hdg.kid
          obtain ⟨z, hz⟩ := hint.get p
          have hlk := look_i1 hmk hsp hz
          have HMK := Lib.hid hmk
          have HINT := Lib.hid hint
          have HDG5 := Lib.hid hdg
          have HRD5 := Lib.hid hrdq
          have HU5 := Lib.hid huq
          clear hp hpm hmk hint hdg hrdq huq hz
          go_wp2_with (at_mapUpdate; refine wpList_sm_put w5 rfl (.tmp 62) (.tmp 63) (.tmp 65) 127 rfl 9 3 Tryz.underlying127 Tryz.underlying9 bk _ rfl HMK.out p rfl hsp _ (by rfl) ?_; intro w6 hsm6 hu6; have HSM6 := Lib.hid hsm6; have HU6 := Lib.hid hu6; clear hsm6 hu6)
          go_simp
          go_wp2
          go_roundg (t - (q + 1))
          case measure => omega
          case rel => exact ⟨q + 1, rfl, by omega, by go_num, HDG5.out.kidput HU6.out ⟨_, HSM6.out, HINT.out.put _ _⟩, rds_cells HRD5.out (by decide) HU6.out (fun j e => by subst e; exact fun cs e fr => sm_no_cells HMK.out cs e fr), HU5.out.trans HU6.out⟩
        · obtain rfl : q = t := by omega
          have HDG5 := Lib.hid hdg
          have HU5 := Lib.hid huq
          clear hdg hrdq huq
          go_wp2
          go_ret
          exact ⟨⟨_, rfl⟩, ⟨_, HDG5.out⟩, ((HU3.out.mono (fun _ _ h => h.elim)).step HU4.out (fun i hi e => .inl e)).step HU5.out (fun i hi e => .inr e)⟩
end Go.Proofs.YtgcpoppinnnciaaGreatDoor
