/-
  slices.SortFunc over keys, by Members' closure.
-/
import Derived.Test.YtgalnnmeamldhaaGreatCMG1
import Derived.Shelf.SlSortCmp.NoneTotal
/- slices.SortFunc over keys, by Members' closure. -/
set_option linter.unusedVariables false
set_option linter.unusedSimpArgs false
namespace Go.Proofs.YtgalnnmeamldhaaGreat
open Go Go.RowKit Go.Proofs.YtgalnnmeamldhaaGreat.Pal Go.Proofs.YtgalnnmeamldhaaGreat.Plan

section
variable {w : World} {l : List Ent} {r : Nat} {q : PB} {G : Nat → Bool} {k : CB} {S : Nat → Bool} {Hf : Nat → Option Bool}
theorem PCir.rankD (h : PCir w l r q G k S Hf) {key : ByteArray} (hk : key.size ≤ maxLen) {v : Nat} (hv : (Ms.mk l r S).rk key = v) (m : Nat) :
    Calls Tryz.prog 47 #[.pointer (some ⟨k.bc, 0, none⟩), .string key] (w.drewN m) fun e w'' => e = .returned (.int .i64 (v : Int)) ∧ ∃ j, w'' = w.drewN j := by
  have h' := h.fresh ((Unch.refl none_ w).drewN m)
  rw [← hv]
  exact (rank_ok h'.blk h'.mc h'.m3 h'.rk key hk).mono fun e w'' ⟨h1, h2⟩ => ⟨h1, m, h2.symm⟩
theorem compareD (w : World) (a b : Int) (m : Nat) : Calls Tryz.prog 46 #[.int .i64 a, .int .i64 b] (w.drewN m) fun e w'' => e = .returned (.int .i64 (cmpI a b)) ∧ ∃ j, w'' = w.drewN j :=
  (compareI a b).mono fun e w'' ⟨h1, h2⟩ => ⟨h1, m, h2.symm⟩
set_option maxRecDepth 100000 in
set_option maxHeartbeats 1000000 in
theorem members1_ok (h : PCir w l r q G k S Hf) {bx : Nat} (hx : w.cell? ⟨bx, 0, none⟩ = some (.pointer (some ⟨k.bc, 0, none⟩))) {s t : ByteArray} (hs : s.size ≤ maxLen) (ht : t.size ≤ maxLen) :
    Calls Tryz.prog 45 #[.string s, .string t, .pointer (some ⟨bx, 0, none⟩)] w fun e w' => e = .returned (.int .i64 (cmpI ((Ms.mk l r S).rk s) ((Ms.mk l r S).rk t))) ∧ Gr w w' := by
  obtain ⟨x, hxx⟩ : ∃ x, (Ms.mk l r S).rk s = x := ⟨_, rfl⟩
  obtain ⟨y, hyy⟩ : ∃ y, (Ms.mk l r S).rk t = y := ⟨_, rfl⟩
  rw [hxx, hyy]
  have R1 := Lib.hid (h.rankD hs hxx)
  have R2 := Lib.hid (h.rankD ht hyy)
  have CQ := Lib.hid (compareD w (x : Int) (y : Int))
  clear hxx hyy h
  go_enter Tryz.func45, Tryz.ntmps45
  go_upto_region 1 with fail
  go_quiet ((first | (go_at_call 47; first | (with_reducible exact R1.out _) | (with_reducible exact R2.out _)) | (go_at_call 46; with_reducible exact CQ.out _)))
  go_wp2
  go_ret
  exact ⟨rfl, _, #[], by rw [Sort.grow_empty]⟩
end
abbrev KeyT := { s : ByteArray // s.size ≤ maxLen }
def encK (x : KeyT) : Value := .string x.1
theorem rk_swo (s : Ms) : Sort.SWO (ltOf fun x y : KeyT => cmpI (s.rk x.1) (s.rk y.1)) where
  irrefl x := by unfold ltOf; rw [decide_eq_false]; rw [cmpI_neg]; omega
  trans x y z h1 h2 := by
    unfold ltOf at *
    rw [decide_eq_true_eq, cmpI_neg] at *
    omega
  ntrans x y z h1 h2 := by
    unfold ltOf at *
    rw [decide_eq_false_iff_not, cmpI_neg] at *
    omega
theorem put_heap' {α : Type} [Inhabited α] (enc : α → Value) (w : World) (blk off n : Nat) (F : Array α) (os : Array Obj) {cur : Array Value} {e : TypeId} {fr : Nat × Nat} (h : w.heap[blk]? = some (.cells cur e fr)) :
    (Sort.grow (Sort.putRow enc (Sort.ahead w n) blk off F) os).heap[blk]? = some (.cells (Sort.putCells enc off F cur) e fr) := by
  have hlt := lt_of_heap h
  have h1 : (Sort.putRow enc (Sort.ahead w n) blk off F).heap[blk]? = some (.cells (Sort.putCells enc off F cur) e fr) := by
    show ((Sort.ahead w n).heap.modify blk _)[blk]? = _
    rw [Array.getElem?_modify]
    have : (Sort.ahead w n).heap[blk]? = some (.cells cur e fr) := h
    rw [this]
    simp [Sort.onCells]
  rw [Sort.heap_grow_old _ _ (by simpa using hlt)]
  exact h1
theorem put_unch' {α : Type} [Inhabited α] (enc : α → Value) (w : World) (blk off n : Nat) (F : Array α) (os : Array Obj) : Unch (fun k => k = blk) w (Sort.grow (Sort.putRow enc (Sort.ahead w n) blk off F) os) := by
  refine ⟨rfl, rfl, rfl, by simp [Sort.putRow, Sort.mapBlock, Sort.ahead], fun k hk hne => ?_⟩
  rw [Sort.heap_grow_old _ _ (by simpa using hk)]
  show ((Sort.ahead w n).heap.modify blk _)[k]? = _
  rw [Array.getElem?_modify]
  have : blk ≠ k := fun e => hne e.symm
  simp [this, Sort.ahead]
theorem putCells_get' {α : Type} [Inhabited α] (enc : α → Value) (off : Nat) (F : Array α) (cur : Array Value) {t : Nat} (ht : t < F.size) (hc : off + t < cur.size) : (Sort.putCells enc off F cur)[off + t]? = some (enc F[t]!) := by
  unfold Sort.putCells
  rw [Array.getElem?_mapIdx, Array.getElem?_eq_getElem hc]
  simp [ht]
section
variable {w : World} {l : List Ent} {r : Nat} {q : PB} {G : Nat → Bool} {k : CB} {S : Nat → Bool} {Hf : Nat → Option Bool}
theorem PCir.strs (h : PCir w l r q G k S Hf) {b : Nat} {cs : Array Value} {fr : Nat × Nat} {w1 : World} (hb : w.heap[b]? = some (.cells cs 9 fr)) (hu : Unch (fun j => j = b) w w1) : PCir w1 l r q G k S Hf := h.other hb (by decide) (by decide) hu
theorem sortK_ok (h : PCir w l r q G k S Hf) {bx : Nat} (hx : w.heap[bx]? = some (.cells #[.pointer (some ⟨k.bc, 0, none⟩)] 74 (0, 0))) {v : Value} {m : Nat} {L0 : List ByteArray} (hsz : ∀ s ∈ L0, s.size ≤ maxLen) (hm3 : m ≤ 1048576)
    (hrow : Row w 9 1 v m (sv L0)) :
    Calls Tryz.prog 44 #[v, .func (.func 45) #[] #[.pointer (some ⟨bx, 0, none⟩)]] w fun e w' =>
      e = .returned (.tuple #[]) ∧ ∃ L : List ByteArray, L.Perm L0 ∧ L.Pairwise (fun a b => (Ms.mk l r S).rk a ≤ (Ms.mk l r S).rk b) ∧ Row w' 9 1 v m (sv L) ∧ Unch (fun k => v.ownBlock = some k) w w' := by
  have hlen : L0.length = m := by have := hrow.1; rw [sv_len] at this; omega
  rcases Nat.eq_zero_or_pos m with h0 | hpos
  · subst h0
    obtain ⟨B, cc, hv, _⟩ := hrow.slice
    rw [hv] at hrow ⊢
    refine (AnyF.slices_SortFunc_none (ρ := Tryz.sortS_ren) { Tryz.sortS with } B cc (.func (.func 45) #[] #[.pointer (some ⟨bx, 0, none⟩)]) w).mono ?_
    rintro e w' ⟨rfl, rfl⟩
    have : L0 = [] := List.eq_nil_of_length_eq_zero hlen
    subst this
    exact ⟨rfl, [], List.Perm.refl _, List.Pairwise.nil, hrow, Unch.refl _ _⟩
  · have : Inhabited KeyT := ⟨⟨⟨#[]⟩, by decide⟩⟩
    obtain ⟨_, hform⟩ := hrow
    rcases hform with ⟨_, h0⟩ | ⟨blk, off, c, cur, hv, hblk, hn, hm2, hs2, htake⟩
    · omega
    subst hv
    have hrow : Row w 9 1 (.slice (some ⟨blk, off, none⟩) m c) m (sv L0) := ⟨by assumption, .inr ⟨blk, off, c, cur, rfl, hblk, hn, hm2, hs2, htake⟩⟩
    have hatt : ∀ s, s ∈ L0 → s.size ≤ maxLen := hsz
    obtain ⟨d, hd⟩ : ∃ d : Array KeyT, d = (L0.pmap (fun s hs => (⟨s, hs⟩ : KeyT)) hsz).toArray := ⟨_, rfl⟩
    have hds : d.size = m := by rw [hd]; simp [hlen]
    have hmapd : d.toList.map (·.1) = L0 := by rw [hd]; simp [List.map_pmap]
    have hget0 : ∀ (a : Array KeyT) (j : Nat), j < a.size → (a.toList.map (·.1))[j]? = some (a[j]!).1 := fun a j hj => by
      rw [List.getElem?_map, Array.getElem?_toList, Array.getElem?_eq_getElem hj, getElem!_pos a j hj]
      rfl
    have hH : Sort.Holds encK w blk off d := by
      intro j hj
      refine ⟨?_, blk_free hblk _⟩
      have := hget0 d j hj
      rw [hmapd] at this
      exact hrow.at rfl (sv_get this)
    have hne : bx ≠ blk := fun e => by
      rw [← e, hx] at hblk
      injection hblk with hblk
      injection hblk with _ hblk
      exact absurd hblk (by decide)
    have hcmp : CmpLays1 Tryz.prog 45 #[.pointer (some ⟨bx, 0, none⟩)] encK (fun x y : KeyT => cmpI ((Ms.mk l r S).rk x.1) ((Ms.mk l r S).rk y.1)) blk off d.size w := fun mm os dk hs x y => by
      have hu : Unch (fun k => k = blk) w (sortWorld encK w blk off mm dk os) := put_unch' _ _ _ _ _ _ _
      have hW := h.strs hblk hu
      have hxW := blk_cell (hu.heap hx hne) (j := 0) rfl
      exact (members1_ok hW hxW x.2 y.2).mono fun e w' ⟨h1, h2⟩ => ⟨h1, h2⟩
    have hcon := Any.slices_SortFunc Tryz.sortS encK (fun x => rfl) (fun x y : KeyT => cmpI ((Ms.mk l r S).rk x.1) ((Ms.mk l r S).rk y.1)) (rk_swo _) 45 #[.pointer (some ⟨bx, 0, none⟩)] blk off c d w
      (enters_of Tryz.func45 (by kernel_rfl) rfl) hcmp hH (lt_of_heap hblk) (by rw [hds]; omega)
    rw [hds] at hcon
    refine Calls.mono hcon ?_
    rintro e w' ⟨rfl, d', n, os, hp, hs, rfl⟩
    obtain ⟨hps, _, hpp⟩ := hp
    have hds' : d'.size = m := by rw [hps, hds]
    have hpl : d'.toList.Perm d.toList := by
      have e1 : d'.extract 0 m = d' := by rw [← hds']; simp
      have e2 : d.extract 0 m = d := by rw [← hds]; simp
      rw [e1, e2] at hpp
      exact hpp
    have hLp : (d'.toList.map (·.1)).Perm L0 := by rw [← hmapd]; exact hpl.map _
    have hlen' : (d'.toList.map (·.1)).length = m := by simp [hds']
    refine ⟨rfl, d'.toList.map (·.1), hLp, ?_, ?_, (put_unch' _ _ _ _ _ _ _).mono fun j hj e => ?_⟩
    · rw [List.pairwise_iff_getElem]
      intro i j hi hj hij
      have e1 : (d'.toList.map (·.1))[i] = (d'[i]!).1 := by
        have := hget0 d' i (by omega)
        rw [List.getElem?_eq_getElem hi] at this
        exact Option.some.inj this
      have e2 : (d'.toList.map (·.1))[j] = (d'[j]!).1 := by
        have := hget0 d' j (by omega)
        rw [List.getElem?_eq_getElem hj] at this
        exact Option.some.inj this
      have hsij := hs i j (Nat.zero_le _) hij (by omega)
      unfold ltOf at hsij
      rw [decide_eq_false_iff_not, cmpI_neg] at hsij
      rw [e1, e2]
      omega
    · refine row_of_cells (put_heap' encK w blk off n _ os hblk) hn hm2 (by simpa [Sort.putCells] using hs2) (by rw [sv_len, hlen']; omega) fun t ht => ?_
      rw [putCells_get' encK _ _ _ (by rw [hds']; omega) (by omega)]
      have := hget0 d' t (by omega)
      rw [sv_get this]
      rfl
    · subst e; rfl
end
end Go.Proofs.YtgalnnmeamldhaaGreat
