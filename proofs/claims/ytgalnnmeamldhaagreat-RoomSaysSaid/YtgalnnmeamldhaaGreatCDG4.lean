/-
  slices.Sorted over Values, Compact: what they leave.
-/
import Derived.Test.YtgalnnmeamldhaaGreatCDG1
import Derived.Test.YtgalnnmeamldhaaGreatCLay2
/- slices.Sorted over Values, Compact: what they leave. -/
set_option linter.unusedVariables false
set_option linter.unusedSimpArgs false
namespace Go.Proofs.YtgalnnmeamldhaaGreat
open Go Go.RowKit Go.Proofs.YtgalnnmeamldhaaGreat.Pal Go.Proofs.YtgalnnmeamldhaaGreat.Plan

theorem encStr_toB (s : ByteArray) : encStr (toB s) = .string s := by
  show Value.string ⟨(toB s).toArray⟩ = _
  rw [show (⟨(toB s).toArray⟩ : ByteArray) = ofB (toB s) from rfl, ofB_toB]
theorem sortO_ok {w : World} {v : Value} {m : Nat} {L0 : List ByteArray} (hrow : Row w 9 1 v m (sv L0)) (hm3 : m ≤ 1048576) :
    Calls Tryz.prog 48 #[v] w fun e w' => e = .returned (.tuple #[]) ∧ ∃ L : List ByteArray, L.Perm L0 ∧ L.Pairwise (fun a b => bl b a = false) ∧ Row w' 9 1 v m (sv L) ∧ Unch (fun k => v.ownBlock = some k) w w' := by
  have hlen : L0.length = m := by have := hrow.1; rw [sv_len] at this; omega
  rcases Nat.eq_zero_or_pos m with h0 | hpos
  · subst h0
    obtain ⟨B, cc, hv, _⟩ := hrow.slice
    rw [hv] at hrow ⊢
    refine (AnyM.slices_Sort_string_none (ρ := Tryz.sortO_ren) Tryz.sortO B cc w).mono ?_
    rintro e w' ⟨rfl, rfl⟩
    have : L0 = [] := List.eq_nil_of_length_eq_zero hlen
    subst this
    exact ⟨rfl, [], List.Perm.refl _, List.Pairwise.nil, hrow, Unch.refl _ _⟩
  · obtain ⟨h1, hform⟩ := hrow
    rcases hform with ⟨_, h0⟩ | ⟨blk, off, c, cur, hv, hblk, hn, hm2, hs2, htake⟩
    · omega
    subst hv
    have hrow : Row w 9 1 (.slice (some ⟨blk, off, none⟩) m c) m (sv L0) := ⟨h1, .inr ⟨blk, off, c, cur, rfl, hblk, hn, hm2, hs2, htake⟩⟩
    obtain ⟨ss, hss⟩ : ∃ ss : List (List UInt8), ss = L0.map toB := ⟨_, rfl⟩
    have hsl : ss.length = m := by rw [hss]; simp [hlen]
    have hso : ss.map ofB = L0 := by
      rw [hss, List.map_map]
      conv => rhs; rw [← List.map_id L0]
      exact List.map_congr_left fun s _ => ofB_toB s
    have hH : Sort.Holds encStr w blk off ss.toArray := by
      intro j hj
      have hj' : j < ss.length := by simpa using hj
      refine ⟨?_, blk_free hblk _⟩
      have hx : L0[j]? = some L0[j] := List.getElem?_eq_getElem (by omega)
      have e1 : (ss.toArray)[j]! = toB L0[j] := by
        rw [getElem!_pos ss.toArray j (by simpa using hj')]
        simp [hss]
      rw [e1, encStr_toB]
      exact hrow.at rfl (sv_get hx)
    have hcon := AnyM.slices_Sort_string (ρ := Tryz.sortO_ren) Tryz.sortO blk off c ss w hH (lt_of_heap hblk) (by omega)
    rw [hsl] at hcon
    refine Calls.mono hcon ?_
    rintro e w' ⟨rfl, n, os, rfl⟩
    obtain ⟨hp, hs⟩ := sort_ofB ss
    rw [hso] at hp
    obtain ⟨F, hF⟩ : ∃ F, ss.mergeSort (fun x y => decide (x ≤ y)) = F := ⟨_, rfl⟩
    rw [hF] at hp hs ⊢
    have hFl : F.length = m := by have := hp.length_eq; simp at this; omega
    refine ⟨rfl, F.map ofB, hp, hs, ?_, (put_unch' _ _ _ _ _ _ _).mono fun j hj e => by subst e; rfl⟩
    refine row_of_cells (put_heap' encStr w blk off n _ os hblk) hn hm2 (by simpa [Sort.putCells] using hs2) (by rw [sv_len, List.length_map, hFl]; omega) fun t ht => ?_
    rw [putCells_get' encStr _ _ _ (by simp [hFl]; omega) (by omega)]
    have ht' : t < F.length := by omega
    rw [getElem!_pos F.toArray t (by simpa using ht')]
    rw [sv_get (show (F.map ofB)[t]? = some (ofB F[t]) by rw [List.getElem?_map, List.getElem?_eq_getElem ht']; rfl)]
    simp [encStr, ofB]
set_option maxHeartbeats 1000000 in
theorem sortedS_ok {w : World} {A : Option Addr} {m c Bm : Nat} {xs : List ByteArray} (hrd : RdS w 1 StrR A m xs) (hm3 : m ≤ 1048576) (hm : w.cell? ⟨Bm, 0, none⟩ = some (.slice A m c)) :
    Calls Tryz.prog 40 #[.func (.func 65) #[] #[.pointer (some ⟨Bm, 0, none⟩)]] w fun e w' => ∃ v L, e = .returned v ∧ L.Perm xs ∧ L.Pairwise (fun a b => bl b a = false) ∧ SMid w w' v L.length L := by
  have hlen := hrd.len
  have HC := Lib.hid (collect_ok hrd hm3 hm)
  clear hrd hm
  go_enter Tryz.func40, Tryz.ntmps40
  go_wp2_with fail
  refine HC.out.mono ?_
  rintro e w1 ⟨v, rfl, hs⟩
  have HS := Lib.hid (sortO_ok hs.row (by omega))
  have HM := Lib.hid hs
  clear hs HC
  go_wp2_with fail
  refine HS.out.mono ?_
  rintro e w2 ⟨rfl, L, hp, hso, hr, hu⟩
  have HP := Lib.hid hp
  have HSO := Lib.hid hso
  have HR := Lib.hid hr
  have HU := Lib.hid hu
  clear hp hso hr hu
  go_wp2
  go_ret
  have hll := HP.out.length_eq
  exact ⟨v, L, rfl, HP.out, HSO.out, HM.out.hu.step HU.out (fun i hi e => by have := HM.out.own i e; omega), HM.out.own, by rw [hll]; exact HR.out⟩
theorem eql_str : EqlAt Tryz.prog (Tryz.compS_ren.t 23) Value.string (fun x y : ByteArray => decide (x = y)) := by
  have h := EqlAt.string Tryz.prog (Tryz.compS_ren.t 23)
  have e : (fun x y : ByteArray => decide (x = y)) = fun x y => x.toList == y.toList := by funext x y; exact str_beq.symm
  rw [e]
  exact h
theorem neq_str : NeqAt Tryz.prog (Tryz.compS_ren.t 23) Value.string (fun x y : ByteArray => decide (x = y)) := by
  have h := NeqAt.string Tryz.prog (Tryz.compS_ren.t 23)
  have e : (fun x y : ByteArray => decide (x = y)) = fun x y => x.toList == y.toList := by funext x y; exact str_beq.symm
  rw [e]
  exact h
set_option maxHeartbeats 1000000 in
theorem compact_ok {w : World} {v : Value} {m : Nat} {L xs : List ByteArray} (hrow : Row w 9 1 v m (sv L)) (hm3 : m ≤ 1048576) (hp : L.Perm xs) (hs : L.Pairwise fun a b => bl b a = false) :
    Calls Tryz.prog 39 #[v] w fun e w' => ∃ A k c, e = .returned (.slice A k c) ∧ k ≤ c ∧ RdS w' 1 StrR A k (sortS xs) ∧ Unch (fun k => v.ownBlock = some k) w w' := by
  have hlen : L.length = m := by have := hrow.1; rw [sv_len] at this; omega
  have hcs := compact_sortS hp hs
  rcases Nat.eq_zero_or_pos m with h0 | hpos
  · subst h0
    have hL : L = [] := List.eq_nil_of_length_eq_zero hlen
    subst hL
    have hx : xs = [] := (List.nil_perm.1 hp)
    subst hx
    obtain ⟨B, cc, hv, hcc⟩ := hrow.slice
    rw [hv] at hrow ⊢
    have HR := Lib.hid (srow_rds hrow)
    clear hrow hcs hp hs
    go_enter Tryz.func39, Tryz.ntmps39
    go_wp2
    go_ret
    exact ⟨B, 0, cc, rfl, hcc, HR.out, Unch.refl _ _⟩
  · obtain ⟨h1, hform⟩ := hrow
    rcases hform with ⟨_, h0⟩ | ⟨blk, off, c, cur, hv, hblk, hn, hm2, hs2, htake⟩
    · omega
    subst hv
    have hrow : Row w 9 1 (.slice (some ⟨blk, off, none⟩) m c) m (sv L) := ⟨h1, .inr ⟨blk, off, c, cur, rfl, hblk, hn, hm2, hs2, htake⟩⟩
    have hH : Sort.Holds Value.string w blk off L.toArray := by
      intro j hj
      have hj' : j < L.length := by simpa using hj
      refine ⟨?_, blk_free hblk _⟩
      rw [getElem!_pos L.toArray j hj]
      exact hrow.at rfl (sv_get (List.getElem?_eq_getElem hj'))
    have hcon := AnyE.slices_Compact (ρ := Tryz.compS_ren) Tryz.compS Value.string (fun x => rfl) eql_str neq_str ⟨#[]⟩ (fun w => zero_of _ _ (by kernel_rfl) w) blk off c L.toArray w hH (by simp; omega) (by simp; omega)
    rw [show L.toArray.size = L.length by simp, hcs, hlen] at hcon
    refine Calls.mono hcon ?_
    rintro e w' ⟨rfl, q, rfl⟩
    have hkl : (sortS xs).length ≤ m := by rw [← hlen, hp.length_eq]; exact sortS_len xs
    have hbw := put_heap' Value.string w blk off q ((sortS xs ++ List.replicate (m - (sortS xs).length) (⟨#[]⟩ : ByteArray)).toArray) #[] hblk
    have huw := put_unch' Value.string w blk off q ((sortS xs ++ List.replicate (m - (sortS xs).length) (⟨#[]⟩ : ByteArray)).toArray) #[]
    rw [Sort.grow_empty] at hbw huw
    refine ⟨_, _, _, rfl, by omega, ?_, huw.mono fun j hj e => by subst e; rfl⟩
    have hr2 : Row (Sort.putRow Value.string (Sort.ahead w q) blk off ((sortS xs ++ List.replicate (m - (sortS xs).length) (⟨#[]⟩ : ByteArray)).toArray)) 9 1 (.slice (some ⟨blk, off, none⟩) (sortS xs).length c) (sortS xs).length (sv (sortS xs)) :=
      row_of_cells hbw (by omega) hm2 (by simpa [Sort.putCells] using hs2) (by rw [sv_len]; omega) fun t ht => by
        rw [putCells_get' Value.string _ _ _ (by simp; omega) (by omega)]
        have ht' : t < (sortS xs).length := by omega
        rw [getElem!_pos _ t (by simp; omega)]
        rw [sv_get (List.getElem?_eq_getElem ht')]
        simp [List.getElem_append_left ht']
    exact srow_rds hr2
end Go.Proofs.YtgalnnmeamldhaaGreat
