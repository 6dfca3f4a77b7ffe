/-
  dag: New, Has, Len, Add.
  dag.Add: the walk.
  slices.Insert of one string, over rows of one's own.
-/
import Derived.Test.YtgalnnmeamldhaaGreatCDG4
import Derived.Laws.AppendOwn
/- dag: New, Has, Len, Add. -/
set_option linter.unusedVariables false
set_option linter.unusedSimpArgs false
namespace Go.Proofs.YtgalnnmeamldhaaGreat
open Go Go.RowKit Go.Proofs.YtgalnnmeamldhaaGreat.Pal Go.Proofs.YtgalnnmeamldhaaGreat.Plan

theorem zsl (w : World) : (zeroValue 27).run Tryz.prog w = .ok (.slice none 0 0) w := zero_of _ _ (by kernel_rfl) w
theorem look_s {w : World} {b : Nat} {m : Asc} {s : ByteArray} (h : Sm w b m) (hs : s.size ≤ maxLen) {x : Value} {ok : Bool} (hx : (mget m s).getD (.slice none 0 0) = x) (hok : (mget m s).isSome = ok) : (Instr.lookup 79 (.map (some b)) (.string s) true).run Tryz.prog w = .ok (.tuple #[x, .bool ok]) w := by
  have := sm_look (P := Tryz.prog) true h Tryz.underlying79 Tryz.underlying9 (zsl w) s hs
  rw [this]
  simp [hx, hok]
theorem look_s1 {w : World} {b : Nat} {m : Asc} {s : ByteArray} (h : Sm w b m) (hs : s.size ≤ maxLen) {x : Value} (hx : (mget m s).getD (.slice none 0 0) = x) : (Instr.lookup 79 (.map (some b)) (.string s) false).run Tryz.prog w = .ok x w := by
  have := sm_look (P := Tryz.prog) false h Tryz.underlying79 Tryz.underlying9 (zsl w) s hs
  rw [this]
  simp [hx]
theorem look_i1 {w : World} {b : Nat} {m : Asc} {s : ByteArray} (h : Sm w b m) (hs : s.size ≤ maxLen) {x : Value} (hx : (mget m s).getD (.int .i64 0) = x) : (Instr.lookup 61 (.map (some b)) (.string s) false).run Tryz.prog w = .ok x w := by
  have := sm_look (P := Tryz.prog) false h Tryz.underlying61 Tryz.underlying9 (zi w) s hs
  rw [this]
  simp [hx]
def IntsM (m : Asc) : Prop := ∀ s v, mget m s = some v → ∃ z : Int, v = .int .i64 z
theorem IntsM.get {m : Asc} (h : IntsM m) (s : ByteArray) : ∃ z : Int, (mget m s).getD (.int .i64 0) = .int .i64 z := by
  cases hg : mget m s with
  | none => exact ⟨0, rfl⟩
  | some v => obtain ⟨z, hz⟩ := h s v hg; exact ⟨z, hz⟩
theorem IntsM.put {m : Asc} (h : IntsM m) (s : ByteArray) (z : Int) : IntsM (mput m s (.int .i64 z)) := fun t v hv => by
  rw [mget_mput] at hv
  split at hv
  · injection hv with hv; exact ⟨z, hv.symm⟩
  · exact h t v hv
theorem rds_cells {α : Type} {w : World} {size : Nat} {R : α → List Value → Prop} {A : Option Addr} {n : Nat} {xs : List α} (h : RdS w size R A n xs) (hs : 0 < size) {w1 : World} {X : Nat → Prop} (hu : Unch X w w1) (hX : ∀ k, X k → ∀ cs e fr, w.heap[k]? ≠ some (.cells cs e fr)) : RdS w1 size R A n xs :=
  ⟨h.len, h.max, fun hn => by
    obtain ⟨b, o, hA, hb, hc⟩ := h.get hn
    refine ⟨b, o, hA, Nat.lt_of_lt_of_le hb hu.size, fun i x hx => ?_⟩
    obtain ⟨c, h1, h2, h3⟩ := hc i x hx
    refine ⟨c, h1, h2, fun j u hj => hu.cell (h3 j u hj) fun hx' => ?_⟩
    obtain ⟨o', ho', hc'⟩ := cells_of_cell (h3 j u hj)
    cases o' <;> simp [Obj.isCells] at hc'
    exact hX _ hx' _ _ _ ho'⟩
theorem sm_no_cells {w : World} {b : Nat} {m : Asc} (h : Sm w b m) (cs : Array Value) (e : TypeId) (fr : Nat × Nat) : w.heap[b]? ≠ some (.cells cs e fr) := fun hh => sm_ne_cells h hh rfl
/-- The dag of the first k entries. -/
structure Dg (w : World) (bd bp bk : Nat) (es : List Ent) (k : Nat) (pv : Nat → Value) : Prop where
  blk : w.heap[bd]? = some (.cells #[.map (some bp), .map (some bk)] 81 (0, 0))
  par : Sm w bp (idA es allT pv k)
  kid : ∃ mk, Sm w bk mk ∧ IntsM mk
  ps : ∀ i, i < k → ∃ A m c, pv i = .slice A m c ∧ m ≤ c ∧ RdS w 1 StrR A m (parsL es i)
  hne : bp ≠ bk
section
variable {w w1 : World} {bd bp bk : Nat} {es : List Ent} {k : Nat} {pv : Nat → Value}
theorem Dg.fresh (h : Dg w bd bp bk es k pv) (hu : Unch none_ w w1) : Dg w1 bd bp bk es k pv :=
  ⟨hu.heap h.blk (fun h => h), h.par.unch hu (fun h => h), by obtain ⟨mk, a, b⟩ := h.kid; exact ⟨mk, a.unch hu (fun h => h), b⟩, fun i hi => by obtain ⟨A, m, c, h1, h2, h3⟩ := h.ps i hi; exact ⟨A, m, c, h1, h2, RdS.fresh h3 hu⟩, h.hne⟩
theorem Dg.kidput (h : Dg w bd bp bk es k pv) (hu : Unch (fun j => j = bk) w w1) (hs : ∃ mk, Sm w1 bk mk ∧ IntsM mk) : Dg w1 bd bp bk es k pv := by
  obtain ⟨mk, hk, _⟩ := h.kid
  exact ⟨hu.heap h.blk (fun e => sm_ne_cells hk h.blk e.symm), h.par.unch hu h.hne, hs, fun i hi => by
    obtain ⟨A, m, c, h1, h2, h3⟩ := h.ps i hi
    exact ⟨A, m, c, h1, h2, rds_cells h3 (by decide) hu (fun j e => by subst e; exact fun cs e fr => sm_no_cells hk cs e fr)⟩, h.hne⟩
theorem Dg.parput (h : Dg w bd bp bk es k pv) (hC : Closed es) (hk : k < es.length) {A : Option Addr} {m c : Nat} (hc : m ≤ c) (hr : RdS w 1 StrR A m (parsL es k)) (hu : Unch (fun j => j = bp) w w1) (hs : Sm w1 bp (mput (idA es allT pv k) (ent es k).id (.slice A m c))) :
    Dg w1 bd bp bk es (k + 1) (fun i => if i = k then .slice A m c else pv i) := by
  have hpar := h.par
  have hcells : ∀ j, j = bp → ∀ cs e fr, w.heap[j]? ≠ some (.cells cs e fr) := fun j e => by subst e; exact fun cs e fr => sm_no_cells hpar cs e fr
  have hcg : idA es allT (fun i => if i = k then .slice A m c else pv i) k = idA es allT pv k := by
    unfold idA
    apply List.map_congr_left
    intro i hi
    have := (List.mem_filter.1 hi).1
    rw [List.mem_range] at this
    dsimp only
    rw [if_neg (by omega)]
  have hp2 := idA_put hC allT (fun i => if i = k then Value.slice A m c else pv i) hk
  rw [← idA_succ_t (G := allT) rfl, if_pos rfl] at hp2
  refine ⟨hu.heap h.blk (fun e => sm_ne_cells hpar h.blk e.symm), by rw [← hp2, hcg]; exact hs, by obtain ⟨mk, a, b⟩ := h.kid; exact ⟨mk, a.unch hu (fun e => h.hne e.symm), b⟩, fun i hi => ?_, h.hne⟩
  by_cases e : i = k
  · subst e
    simp only [if_true]
    exact ⟨A, m, c, rfl, hc, rds_cells hr (by decide) hu hcells⟩
  · simp only [if_neg e]
    obtain ⟨A', m', c', h1, h2, h3⟩ := h.ps i (by omega)
    exact ⟨A', m', c', h1, h2, rds_cells h3 (by decide) hu hcells⟩
set_option maxHeartbeats 1000000 in
theorem new_ok (es : List Ent) (w : World) : Calls Tryz.prog 23 #[] w fun e w' => ∃ bd bp bk pv, e = .returned (.pointer (some ⟨bd, 0, none⟩)) ∧ Dg w' bd bp bk es 0 pv ∧ Unch none_ w w' ∧ w.heap.size ≤ bd ∧ w.heap.size ≤ bp ∧ w.heap.size ≤ bk := by
  have hmm := @run_makeMap Tryz.prog
  go_enter Tryz.func23, Tryz.ntmps23
  go_wp2
  go_ret
  have m1 := Sm.made w
  have m2 := Sm.made (w.alloc (.map #[] 0))
  have b3 := blk_new ((w.alloc (.map #[] 0)).alloc (.map #[] 0)) (.cells #[.map (some w.heap.size), .map (some (w.heap.size + 1))] 81)
  simp only [World.size_alloc] at m2 b3
  refine ⟨w.heap.size + 1 + 1, w.heap.size, w.heap.size + 1, fun _ => .slice none 0 0, rfl, ⟨b3, (m1.unch ((Unch.refl none_ _).alloc _) (fun h => h)).unch ((Unch.refl none_ _).alloc _) (fun h => h), ⟨[], m2.unch ((Unch.refl none_ _).alloc _) (fun h => h), fun s v h => by cases h⟩, fun i hi => by omega, by omega⟩, (((Unch.refl none_ w).alloc _).alloc _).alloc _, by omega, by omega, by omega⟩
set_option maxHeartbeats 1000000 in
theorem dhas_ok (h : Dg w bd bp bk es k pv) (s : ByteArray) (hs : s.size ≤ maxLen) : Calls Tryz.prog 37 #[.pointer (some ⟨bd, 0, none⟩), .string s] w fun e w' => e = .returned (.bool (mget (idA es allT pv k) s).isSome) ∧ w = w' := by
  obtain ⟨ok, hok⟩ : ∃ ok, (mget (idA es allT pv k) s).isSome = ok := ⟨_, rfl⟩
  obtain ⟨x, hx⟩ : ∃ x, (mget (idA es allT pv k) s).getD (.slice none 0 0) = x := ⟨_, rfl⟩
  have hl := look_s h.par hs hx hok
  have c0 := blk_cell h.blk (j := 0) rfl
  rw [hok]
  clear h hok hx
  go_enter Tryz.func37, Tryz.ntmps37
  go_wp2
  go_ret
  exact ⟨rfl, rfl⟩
set_option maxHeartbeats 1000000 in
theorem dlen_ok (h : Dg w bd bp bk es k pv) (hk : k ≤ es.length) : Calls Tryz.prog 38 #[.pointer (some ⟨bd, 0, none⟩)] w fun e w' => e = .returned (.int .i64 (k : Int)) ∧ w = w' := by
  have hl := fun ty => sm_len (P := Tryz.prog) h.par Tryz.underlying79 ty
  have hlen : (idA es allT pv k).length = k := by unfold idA; rw [List.length_map, show (List.range k).filter allT = List.range k from List.filter_eq_self.2 (fun _ _ => rfl), List.length_range]
  rw [hlen] at hl
  have c0 := blk_cell h.blk (j := 0) rfl
  clear h hlen
  go_enter Tryz.func38, Tryz.ntmps38
  go_wp2
  go_ret
  exact ⟨rfl, rfl⟩
end
end Go.Proofs.YtgalnnmeamldhaaGreat
/- dag.Add: the walk. -/
set_option linter.unusedVariables false
set_option linter.unusedSimpArgs false
namespace Go.Proofs.YtgalnnmeamldhaaGreat
open Go Go.RowKit Go.Proofs.YtgalnnmeamldhaaGreat.Pal Go.Proofs.YtgalnnmeamldhaaGreat.Plan

set_option maxRecDepth 100000 in
set_option maxHeartbeats 4000000 in
theorem dadd_ok {w : World} {bd bp bk : Nat} {es : List Ent} {k : Nat} {pv : Nat → Value} (h : Dg w bd bp bk es k pv) (hC : Closed es) (hk : k < es.length) {A : Option Addr} {m c : Nat} (hrd : RdS w 1 StrR A m (ent es k).ps) (hm : m ≤ 1048576) :
    Calls Tryz.prog 24 #[.pointer (some ⟨bd, 0, none⟩), .string (ent es k).id, .slice A m c] w fun e w' => (∃ x, e = .returned x) ∧ (∃ pv2, Dg w' bd bp bk es (k + 1) pv2) ∧ Unch (fun j => j = bp ∨ j = bk) w w' := by
  have hlo := hC.lo k hk
  have hhi := hC.hi k hk
  have h300 := hC.len
  have hsid : (ent es k).id.size ≤ maxLen := by unfold maxLen; omega
  have hsps : ∀ p ∈ (ent es k).ps, p.size ≤ maxLen := fun p hp => by
    obtain ⟨q, hq, e⟩ := hC.pars k p hk hp
    have := hC.hi q (by omega)
    rw [e] at this
    unfold maxLen; omega
  have d0 : ¬ (ent es k).id.toList = [] := fun h => by have := (size_toList _).1 h; omega
  have d0' : ((ent es k).id.toList == []) = false := by simpa using d0
  have d0'' : ((ent es k).id.toList.isEmpty) = false := by simpa using d0
  have d1 : ¬ (64 : Int) < ((ent es k).id.size : Int) := by omega
  have d2 : ¬ (300 : Int) ≤ (k : Int) := by omega
  have hhas := dhas_ok h (ent es k).id hsid
  rw [idA_get hC allT pv (Nat.le_of_lt hk) hk, if_neg (by omega)] at hhas
  have hparent : ∀ p ∈ (ent es k).ps, (mget (idA es allT pv k) p).isSome = true := fun p hp => by
    obtain ⟨q, hq, e⟩ := hC.pars k p hk hp
    rw [← e, idA_get hC allT pv (Nat.le_of_lt hk) (by omega), if_pos ⟨hq, rfl⟩]
    rfl
  have c0 := blk_cell h.blk (j := 0) rfl
  have HHAS := Lib.hid hhas
  have HLEN := Lib.hid (dlen_ok h (Nat.le_of_lt hk))
  have HDG := Lib.hid h
  have HPAR := Lib.hid hparent
  have HSPS := Lib.hid hsps
  have HRD := Lib.hid hrd
  clear h hhas hparent hsps hrd hlo hhi h300
  obtain ⟨ps, hps⟩ : ∃ ps, (ent es k).ps = ps := ⟨_, rfl⟩
  rw [hps] at HPAR HSPS HRD
  have HPS := Lib.hid hps
  obtain ⟨sid, hid⟩ : ∃ sid, (ent es k).id = sid := ⟨_, rfl⟩
  rw [hid] at d0 d0' d0'' d1 hsid HHAS ⊢
  have HID := Lib.hid hid
  clear hps hid
  go_enter Tryz.func24, Tryz.ntmps24
  go_wp2_with fail
  refine HHAS.out.mono ?_
  rintro e w1 ⟨rfl, rfl⟩
  go_wp2_with fail
  refine HLEN.out.mono ?_
  rintro e w1 ⟨rfl, rfl⟩
  go_wp2_with fail
  refine (values_ok _ _ _ _).mono ?_
  rintro e w1 ⟨rfl, rfl⟩
  have hu1 : Unch none_ w (w.alloc (.cells #[.slice A m c] 27)) := (Unch.refl none_ w).alloc _
  have b1 := blk_new w (.cells #[.slice A m c] 27)
  have hlt1 : w.heap.size < (w.alloc (.cells #[.slice A m c] 27)).heap.size := by simp
  obtain ⟨B1, hB1⟩ : ∃ B1, w.heap.size = B1 := ⟨_, rfl⟩
  obtain ⟨w1, hw1⟩ : ∃ w1, w1 = w.alloc (.cells #[.slice A m c] 27) := ⟨_, rfl⟩
  rw [← hw1] at hu1 b1 hlt1 ⊢
  rw [hB1] at b1 hlt1 ⊢
  have HS := Lib.hid (sortedS_ok (RdS.fresh HRD.out hu1) hm (blk_cell b1 (j := 0) rfl))
  have HU1 := Lib.hid hu1
  clear hw1 hu1 b1
  go_wp2_with fail
  refine HS.out.mono ?_
  rintro e w2 ⟨v, L, rfl, hp, hso, hs⟩
  have hll := hp.length_eq
  have hlx := HRD.out.len
  have HCP := Lib.hid (compact_ok hs.row (by omega) hp hso)
  have HSM := Lib.hid hs
  clear hp hso hs HS
  go_wp2_with fail
  refine HCP.out.mono ?_
  rintro e w3 ⟨A2, n, c2, rfl, hc2, hr3, hu23⟩
  have hu3 : Unch none_ w w3 := (HU1.out.trans HSM.out.hu).step hu23 (fun i hi e => by have := HSM.out.own i e; omega)
  have HU3 := Lib.hid hu3
  have HR3 := Lib.hid hr3
  have hdg3 := HDG.out.fresh hu3
  have HDG3 := Lib.hid hdg3
  have hnl := hr3.len
  have hnm : n ≤ 1048576 := by have := sortS_len ps; omega
  have c3 := blk_cell hdg3.blk (j := 0) rfl
  clear hu3 hu23 hr3 HCP hdg3 c0
  go_wp2_with fail
  go_loopg [9, 38] n (fun gk _ i38 wr => ∃ t : Nat, gk = n - t ∧ t ≤ n ∧ i38 = .int .i64 (t : Int) ∧ w3 = wr)
  case atStart => exact ⟨0, rfl, Nat.zero_le _, rfl, rfl⟩
  case round =>
    obtain ⟨t, rfl, ht, rfl, rfl⟩ := hrel
    by_cases htn : t < n
    · have zt : (t : Int) < (n : Int) := by omega
      obtain ⟨p, hp⟩ := get_some hnl htn
      obtain ⟨bb, oo, rfl, _, xp⟩ := RdS.str HR3.out hp
      have hpm := sortS_mem.1 (List.mem_of_getElem? hp)
      have hh := dhas_ok HDG3.out p (HSPS.out p hpm)
      rw [HPAR.out p hpm] at hh
      have HH := Lib.hid hh
      clear hp hpm hh
      go_wp2_with fail
      refine HH.out.mono ?_
      rintro e w4 ⟨rfl, rfl⟩
      go_wp2
      go_roundg (n - (t + 1))
      case measure => omega
      case rel => exact ⟨t + 1, rfl, by omega, by go_num, rfl⟩
    · obtain rfl : t = n := by omega
      have hparsm := HDG3.out.par
      have HPM := Lib.hid hparsm
      clear hparsm
      go_wp2_with (at_mapUpdate; refine wpList_sm_put w3 rfl (.tmp 50) (.tmp 51) (.tmp 52) 79 rfl 9 27 Tryz.underlying79 Tryz.underlying9 bp _ rfl HPM.out sid rfl hsid (.slice A2 t c2) (by rfl) ?_; intro w4 hsm4 hu4; have HSM4 := Lib.hid hsm4; have HU4 := Lib.hid hu4; clear hsm4 hu4)
      go_simp
      have hsm4 := HSM4.out
      rw [← HID.out] at hsm4
      have hr3 := HR3.out
      rw [show sortS ps = parsL es k by unfold parsL; rw [HPS.out]] at hr3
      have hdg4 := HDG3.out.parput hC hk hc2 hr3 HU4.out hsm4
      obtain ⟨pv4, hpv4⟩ : ∃ pv4, (fun i => if i = k then Value.slice A2 t c2 else pv i) = pv4 := ⟨_, rfl⟩
      rw [hpv4] at hdg4
      have hrd4 : RdS w4 1 StrR A2 t (sortS ps) := by
        refine rds_cells HR3.out (by decide) HU4.out (fun j e => by subst e; exact fun cs e fr => sm_no_cells HPM.out cs e fr)
      have HDG4 := Lib.hid hdg4
      have HRD4 := Lib.hid hrd4
      clear hsm4 hr3 hdg4 hpv4 hrd4 c3
      go_wp2_with fail
      go_loopg [11, 55] t (fun gk _ i55 wr => ∃ q : Nat, gk = t - q ∧ q ≤ t ∧ i55 = .int .i64 (q : Int) ∧ Dg wr bd bp bk es (k + 1) pv4 ∧ RdS wr 1 StrR A2 t (sortS ps) ∧ Unch (fun j => j = bk) w4 wr)
      case atStart => exact ⟨0, rfl, Nat.zero_le _, rfl, HDG4.out, HRD4.out, Unch.refl _ _⟩
      case round =>
        obtain ⟨q, rfl, hq, rfl, hdg, hrdq, huq⟩ := hrel
        obtain ⟨w5, rfl⟩ : ∃ w5, w5 = wr := ⟨_, rfl⟩
        by_cases hqt : q < t
        · have zt : (q : Int) < (t : Int) := by omega
          obtain ⟨p, hp⟩ := get_some hnl hqt
          obtain ⟨bb, oo, rfl, _, xp⟩ := RdS.str hrdq hp
          have hpm := sortS_mem.1 (List.mem_of_getElem? hp)
          have hsp := HSPS.out p hpm
          have c1 := blk_cell hdg.blk (j := 1) rfl
          obtain ⟨mk, hmk, hint⟩ := hdg.kid
          obtain ⟨z, hz⟩ := hint.get p
          have hlk := look_i1 hmk hsp hz
          have HMK := Lib.hid hmk
          have HINT := Lib.hid hint
          have HDG5 := Lib.hid hdg
          have HRD5 := Lib.hid hrdq
          have HU5 := Lib.hid huq
          clear hp hpm hmk hint hdg hrdq huq hz
          go_wp2_with (at_mapUpdate; refine wpList_sm_put w5 rfl (.tmp 62) (.tmp 63) (.tmp 65) 61 rfl 9 3 Tryz.underlying61 Tryz.underlying9 bk _ rfl HMK.out p rfl hsp _ (by rfl) ?_; intro w6 hsm6 hu6; have HSM6 := Lib.hid hsm6; have HU6 := Lib.hid hu6; clear hsm6 hu6)
          go_simp
          go_wp2
          go_roundg (t - (q + 1))
          case measure => omega
          case rel => exact ⟨q + 1, rfl, by omega, by go_num, HDG5.out.kidput HU6.out ⟨_, HSM6.out, HINT.out.put _ _⟩, rds_cells HRD5.out (by decide) HU6.out (fun j e => by subst e; exact fun cs e fr => sm_no_cells HMK.out cs e fr), HU5.out.trans HU6.out⟩
        · obtain rfl : q = t := by omega
          have HDG5 := Lib.hid hdg
          have HU5 := Lib.hid huq
          clear hdg hrdq huq
          go_wp2
          go_ret
          exact ⟨⟨_, rfl⟩, ⟨_, HDG5.out⟩, ((HU3.out.mono (fun _ _ h => h.elim)).step HU4.out (fun i hi e => .inl e)).step HU5.out (fun i hi e => .inr e)⟩
end Go.Proofs.YtgalnnmeamldhaaGreat
/- slices.Insert of one string, over rows of one's own. -/
set_option linter.unusedVariables false
set_option linter.unusedSimpArgs false
namespace Go.Proofs.YtgalnnmeamldhaaGreat
open Go Go.RowKit Go.Proofs.YtgalnnmeamldhaaGreat.Pal Go.Proofs.YtgalnnmeamldhaaGreat.Plan

theorem blk_cell_eq {w : World} {b : Nat} {cur : Array Value} {e : TypeId} {fr : Nat × Nat} (h : w.heap[b]? = some (.cells cur e fr)) (j : Nat) : w.cell? ⟨b, j, none⟩ = cur[j]? := by
  cases hc : cur[j]? with
  | some u => exact blk_cell h hc
  | none => simp [World.cell?, h, hc]
theorem unch_setCells (w : World) (g o : Nat) (r : List Value) : Unch (fun k => k = g) w (w.setCells g o r) := by
  obtain ⟨h1, h2, h3, h4⟩ := setCells_rest g r o w
  exact ⟨h1, h2, h3, by omega, fun k _ hk => setCells_other g r o w k hk⟩
theorem row_of_cell {w : World} {e : TypeId} {g o cap n : Nat} {cur : Array Value} {xs : List Value} (hh : w.heap[g]? = some (.cells cur e (0, 0))) (hn : n ≤ cap) (hm : cap ≤ maxLen) (hs : o + cap ≤ cur.size) (hl : xs.length = n) (hc : ∀ t u, xs[t]? = some u → w.cell? ⟨g, o + t, none⟩ = some u) :
    Row w e 1 (.slice (some ⟨g, o, none⟩) n cap) n xs := by
  refine row_of_cells hh hn hm (by omega) (by omega) fun t ht => ?_
  have hx := List.getElem?_eq_getElem (l := xs) (i := t) (by omega)
  rw [← blk_cell_eq hh, hc t _ hx, hx]
theorem sv_one (xs : List ByteArray) : ∀ v ∈ sv xs, v.oneCell' = true := by
  intro v hv
  obtain ⟨s, _, rfl⟩ := List.mem_map.1 hv
  rfl
theorem gapS_at2 {ys : List ByteArray} {i t : Nat} {s x : ByteArray} (hi : i ≤ ys.length) (h : (gapS ys i s)[t]? = some x) : (t < i ∧ ys[t]? = some x) ∨ (t = i ∧ x = s) ∨ (i < t ∧ ys[t - 1]? = some x) := by
  unfold gapS at h
  rcases Nat.lt_trichotomy t i with h1 | h1 | h1
  · rw [List.getElem?_append_left (by rw [List.length_take]; omega), List.getElem?_take, if_pos h1] at h
    exact .inl ⟨h1, h⟩
  · rw [List.getElem?_append_right (by rw [List.length_take]; omega), List.length_take, show t - min i ys.length = 0 by omega] at h
    exact .inr (.inl ⟨h1, by simpa using h.symm⟩)
  · rw [List.getElem?_append_right (by rw [List.length_take]; omega), List.length_take, show t - min i ys.length = (t - i - 1) + 1 by omega, List.getElem?_cons_succ, List.getElem?_drop, show i + (t - i - 1) = t - 1 by omega] at h
    exact .inr (.inr ⟨h1, h⟩)
theorem gapS_sz {ys : List ByteArray} {i : Nat} (s : ByteArray) (hi : i ≤ ys.length) : (gapS ys i s).length = ys.length + 1 := by
  unfold gapS
  simp; omega
theorem insert_ok {w : World} {v : Value} {n i vb vc : Nat} {ys : List ByteArray} {s : ByteArray} {eb : TypeId} (hr : Row w 9 1 v n (sv ys)) (hi : i ≤ n) (hn : n ≤ 1048576) (hvb : w.heap[vb]? = some (.cells #[.string s] eb (0, 0))) (hne : v.ownBlock ≠ some vb) :
    Calls Tryz.prog 50 #[v, .int .i64 (i : Int), .slice (some ⟨vb, 0, none⟩) 1 vc] w fun e w' => ∃ v', e = .returned v' ∧ Row w' 9 1 v' (n + 1) (sv (gapS ys i s)) ∧ Unch (fun k => v.ownBlock = some k) w w' ∧ (∀ b, v'.ownBlock = some b → v.ownBlock = some b ∨ w.heap.size ≤ b) := by
  have hyl : ys.length = n := by have := hr.1; rw [sv_len] at this; omega
  have hgl : (sv (gapS ys i s)).length = n + 1 := by rw [sv_len, gapS_sz s (by omega)]; omega
  have hvs : ∀ j u, [Value.string s][j]? = some u → w.cell? ⟨vb, 0 + j, none⟩ = some u := fun j u hj => by
    rw [blk_cell_eq hvb]
    cases j with
    | zero => simpa using hj
    | succ j => simp at hj
  have h1v : ∀ u ∈ [Value.string s], u.oneCell' = true := by intro u hu; rw [List.mem_singleton.1 hu]; rfl
  have hgt : ∀ t u, (sv (gapS ys i s))[t]? = some u → (t < i ∧ (sv ys)[t]? = some u) ∨ (t = i ∧ u = .string s) ∨ (i < t ∧ t ≤ n ∧ (sv ys)[t - 1]? = some u) := fun t u hu => by
    have htl : t < (sv (gapS ys i s)).length := (List.getElem?_eq_some_iff.1 hu).1
    unfold sv at hu ⊢
    rw [List.getElem?_map, Option.map_eq_some_iff] at hu
    obtain ⟨x, hx, rfl⟩ := hu
    rcases gapS_at2 (by omega) hx with ⟨h1, h2⟩ | ⟨h1, h2⟩ | ⟨h1, h2⟩
    · exact .inl ⟨h1, by rw [List.getElem?_map, h2]; rfl⟩
    · exact .inr (.inl ⟨h1, by rw [h2]⟩)
    · exact .inr (.inr ⟨h1, by omega, by rw [List.getElem?_map, h2]; rfl⟩)
  have drw : Unch none_ w w.drew := (Unch.refl none_ w).drew
  by_cases hend : i = n
  · subst hend
    have hgap : sv (gapS ys i s) = sv ys ++ [.string s] := by rw [← hyl, gapS_end, sv_app]; rfl
    obtain ⟨A, cap, hv, hnc⟩ := hr.slice
    by_cases hroom : i + 1 ≤ cap
    · rcases hr.2 with ⟨h0, _⟩ | ⟨b, off, cap', cur, h1, hb, _, hcm, hsz, htk⟩
      · rw [h0] at hv; injection hv with _ _ hv; omega
      · rw [hv] at h1
        injection h1 with hA _ hcc
        subst hA; subst hcc; subst hv
        have hsome : ∀ j, j < 1 → (w.cell? ⟨b, off + i + j, none⟩).isSome = true := fun j hj => by
          rw [blk_cell_eq hb, Array.getElem?_eq_getElem (by omega)]; rfl
        have hcon := Any2.slices_Insert_string_end_room (ρ := Tryz.insS_ren) Tryz.insS b off i cap vb 0 1 vc [.string s] w (by decide) hroom (by unfold maxLen at hcm; omega) rfl hsome (fun j hj => blk_free hb _) hvs h1v
        refine Calls.mono hcon ?_
        rintro e w' ⟨rfl, rfl⟩
        obtain ⟨cur', hb', hsz', _⟩ := setCells_blk b [.string s] (off + i) w cur hb (by simp; omega)
        refine ⟨_, rfl, ?_, (unch_setCells w b (off + i) [.string s]).mono fun j hj e => by subst e; rfl, fun b' hb' => .inl hb'⟩
        refine row_of_cell hb' hroom hcm (by omega) hgl fun t u hu => ?_
        rcases hgt t u hu with ⟨h1, h2⟩ | ⟨h1, h2⟩ | ⟨h1, h2, h3⟩
        · rw [World.cell?_setCells_out b _ _ _ _ (fun _ _ => .inl (by simp; omega))]
          exact hr.at rfl h2
        · subst h1; subst h2
          exact World.cell?_setCells_in b [.string s] (off + t) w hsome 0 Nat.zero_lt_one
        · omega
    · have hcon := Any2.slices_Insert_string_end_grow (ρ := Tryz.insS_ren) Tryz.insS A i cap vb 0 1 vc (sv ys) [.string s] w (by decide) hnc (by omega) (by omega) (by rw [sv_len]; exact hyl) rfl
        (fun h => by rcases hr.2 with ⟨h0, hh⟩ | ⟨b, off, cap', cur, h1, _⟩
                     · exact hh
                     · rw [h1] at hv; injection hv with hv; rw [← hv] at h; cases h)
        (fun a ha j u hu => by
          rcases hr.2 with ⟨h0, hh⟩ | ⟨b, off, cap', cur, h1, _⟩
          · rw [h0] at hv; injection hv with hv; rw [← hv] at ha; cases ha
          · have h1' := h1
            rw [hv] at h1'; injection h1' with hA; rw [hA] at ha
            have := Option.some.inj ha
            subst this
            have hx := hr.at h1 hu
            by_cases hj : j = 0
            · subst hj; simpa [Addr.add] using hx
            · simpa [Addr.add, hj] using hx)
        hvs h1v
      rw [hv]
      refine Calls.mono hcon ?_
      rintro e w' ⟨rfl, rfl⟩
      have hge := grownCap_ge w (i + 1) cap (Tryz.insS_ren.t 9)
      have hle := grownCap_le_maxLen w (i + 1) cap (Tryz.insS_ren.t 9) (by unfold maxLen; omega)
      generalize grownCap w (i + 1) cap (Tryz.insS_ren.t 9) = gc at *
      have hnew := blk_new w.drew (.cells ((sv ys ++ [Value.string s]).toArray ++ Builtin.zeroCells (Value.string ⟨#[]⟩).cells (gc - (i + 1))) (Tryz.insS_ren.t 9))
      rw [show w.drew.heap.size = w.heap.size from rfl] at hnew
      refine ⟨_, rfl, ?_, (drw.alloc _).mono (fun _ _ h => h.elim), fun b hb => .inr ?_⟩
      · refine row_of_cell hnew (by omega) hle ?_ hgl fun t u hu => ?_
        · rw [Array.size_append, size_zeroCells]
          simp [Value.cells, sv_len]; omega
        · rw [hgap] at hu
          rw [blk_cell_eq hnew, Nat.zero_add, Array.getElem?_append_left (by have := (List.getElem?_eq_some_iff.1 hu).1; simpa using this)]
          simpa using hu
      · have : w.heap.size = b := by simpa [Value.ownBlock] using hb
        omega
  · obtain ⟨b, off, cap, cur, hv, hb, hnc, hsz, htk⟩ := hr.form (by omega)
    subst hv
    have hcm : cap ≤ maxLen := by
      rcases hr.2 with ⟨h0, _⟩ | ⟨b', off', cap', cur', h1, _, _, hcm, _⟩
      · cases h0
      · injection h1 with _ _ h1; omega
    have hcl : (sv ys).length = n := by rw [sv_len]; exact hyl
    have hvb' : vb ≠ b := fun e => hne (by rw [e]; rfl)
    by_cases hroom : n + 1 ≤ cap
    · have hsome : ∀ j, j < n + 1 → (w.cell? ⟨b, off + j, none⟩).isSome = true := fun j hj => by
        rw [blk_cell_eq hb, Array.getElem?_eq_getElem (by omega)]; rfl
      have hcon := Any2.slices_Insert_string_shift (ρ := Tryz.insS_ren) Tryz.insS b off n cap i vb 0 1 vc (sv ys) [.string s] w (by omega) (by decide) hroom (by unfold maxLen at hcm; omega) hvb' hcl rfl (fun j u hu => hr.at rfl hu) hsome (fun j hj => blk_free hb _) hvs (sv_one ys) h1v
        eb 9 1 cur.size (by simp [World.shape?, hvb]) (by simp [World.shape?, hb]) (by omega) (blk_free hvb _) (blk_free hvb _)
      refine Calls.mono hcon ?_
      rintro e w' ⟨rfl, rfl⟩
      have hdl : ((sv ys).drop i).length = n - i := by rw [List.length_drop, hcl]
      have hbd : w.drew.heap[b]? = some (.cells cur 9 (0, 0)) := drw.heap hb (fun h => h)
      obtain ⟨cur1, hb1, hsz1, _⟩ := setCells_blk b ((sv ys).drop i) (off + (i + 1)) w.drew cur hbd (by rw [hdl]; omega)
      obtain ⟨cur2, hb2, hsz2, _⟩ := setCells_blk b [.string s] (off + i) _ cur1 hb1 (by simp; omega)
      refine ⟨_, rfl, ?_, ?_, fun b' hb' => .inl hb'⟩
      · refine row_of_cell hb2 hroom hcm (by omega) hgl fun t u hu => ?_
        have hs1 : ∀ j, j < ((sv ys).drop i).length → (w.drew.cell? ⟨b, off + (i + 1) + j, none⟩).isSome = true := fun j hj => by
          rw [blk_cell_eq hbd, Array.getElem?_eq_getElem (by omega)]; rfl
        rcases hgt t u hu with ⟨h1, h2⟩ | ⟨h1, h2⟩ | ⟨h1, h2, h3⟩
        · rw [World.cell?_setCells_out b _ _ _ _ (fun _ _ => .inl (by simp; omega)), World.cell?_setCells_out b _ _ _ _ (fun _ _ => .inl (by simp; omega)), blk_cell_eq hbd, ← blk_cell_eq hb]
          exact hr.at rfl h2
        · subst h1; subst h2
          exact World.cell?_setCells_in b [.string s] (off + t) _ (fun j hj => by rw [blk_cell_eq hb1, Array.getElem?_eq_getElem (by simp at hj; omega)]; rfl) 0 Nat.zero_lt_one
        · rw [World.cell?_setCells_out b _ _ _ _ (fun _ _ => .inr (by simp; omega))]
          have := World.cell?_setCells_in b ((sv ys).drop i) (off + (i + 1)) w.drew hs1 (t - i - 1) (by omega)
          rw [show off + (i + 1) + (t - i - 1) = off + t by omega] at this
          rw [this, List.getElem_drop]
          rw [← h3, List.getElem?_eq_getElem (by omega)]
          congr 2
          omega
      · exact ((drw.mono (fun _ _ h => h.elim)).trans (unch_setCells _ b _ _ |>.mono fun j hj e => by subst e; rfl)).trans (unch_setCells _ b _ _ |>.mono fun j hj e => by subst e; rfl)
    · have hcon := Any2.slices_Insert_string_grow (ρ := Tryz.insS_ren) Tryz.insS b off n cap i vb 0 1 vc (sv ys) [.string s] w (by omega) (by decide) hnc (by omega) (by omega) hcl rfl (fun j u hu => hr.at rfl hu) hvs (sv_one ys) h1v
      refine Calls.mono hcon ?_
      rintro e w' ⟨rfl, rfl⟩
      have hge := grownCap_ge w (n + 1) cap (Tryz.insS_ren.t 9)
      have hle := grownCap_le_maxLen w (n + 1) cap (Tryz.insS_ren.t 9) (by unfold maxLen; omega)
      generalize grownCap w (n + 1) cap (Tryz.insS_ren.t 9) = gc at *
      have hdl : ((sv ys).drop i).length = n - i := by rw [List.length_drop, hcl]
      have htl : ((sv ys).take i).length = i := by rw [List.length_take]; omega
      obtain ⟨C0, hC0⟩ : ∃ C0, ((sv ys).take i).toArray ++ Builtin.zeroCells (Value.string ⟨#[]⟩).cells (n + 1 - i) ++ Builtin.zeroCells (Value.string ⟨#[]⟩).cells (gc - (n + 1)) = C0 := ⟨_, rfl⟩
      have hCs : C0.size = gc := by
        rw [← hC0, Array.size_append, Array.size_append, size_zeroCells, size_zeroCells]
        simp [Value.cells, hcl]; omega
      have hCg : ∀ t, t < i → C0[t]? = (sv ys)[t]? := fun t ht => by
        rw [← hC0, Array.append_assoc, Array.getElem?_append_left (by simp [hcl]; omega)]
        simp [List.getElem?_take, ht]
      rw [hC0] at *
      have hnew := blk_new w (.cells C0 (Tryz.insS_ren.t 9))
      obtain ⟨W0, hW0⟩ : ∃ W0, w.alloc (.cells C0 (Tryz.insS_ren.t 9)) = W0 := ⟨_, rfl⟩
      have hu0 : Unch none_ w W0 := by rw [← hW0]; exact (Unch.refl none_ w).alloc _
      rw [hW0] at hnew ⊢
      have hu1 : Unch none_ w W0.drew := hu0.drew
      have hn1 : W0.drew.heap[w.heap.size]? = some (.cells C0 9 (0, 0)) := hnew
      obtain ⟨cur1, hb1, hsz1, _⟩ := setCells_blk w.heap.size [.string s] i W0.drew C0 hn1 (by simp; omega)
      have hb1' : (W0.drew.setCells w.heap.size i [.string s]).drew.heap[w.heap.size]? = some (.cells cur1 9 (0, 0)) := hb1
      obtain ⟨cur2, hb2, hsz2, _⟩ := setCells_blk w.heap.size ((sv ys).drop i) (i + 1) _ cur1 hb1' (by rw [hdl]; omega)
      refine ⟨_, rfl, ?_, ?_, fun b' hb' => .inr ?_⟩
      · refine row_of_cell hb2 (by omega) hle (by omega) hgl fun t u hu => ?_
        rw [Nat.zero_add]
        rcases hgt t u hu with ⟨h1, h2⟩ | ⟨h1, h2⟩ | ⟨h1, h2, h3⟩
        · rw [World.cell?_setCells_out _ _ _ _ _ (fun _ _ => .inl (by simp; omega)), blk_cell_eq hb1', ← blk_cell_eq hb1, World.cell?_setCells_out _ _ _ _ _ (fun _ _ => .inl (by simp; omega)), blk_cell_eq hn1, hCg t h1]
          exact h2
        · subst h1; subst h2
          rw [World.cell?_setCells_out _ _ _ _ _ (fun _ _ => .inl (by simp)), blk_cell_eq hb1', ← blk_cell_eq hb1]
          exact World.cell?_setCells_in _ [.string s] t _ (fun j hj => by rw [blk_cell_eq hn1, Array.getElem?_eq_getElem (by simp at hj; omega)]; rfl) 0 Nat.zero_lt_one
        · have := World.cell?_setCells_in w.heap.size ((sv ys).drop i) (i + 1) (W0.drew.setCells w.heap.size i [.string s]).drew (fun j hj => by rw [blk_cell_eq hb1', Array.getElem?_eq_getElem (by omega)]; rfl) (t - i - 1) (by omega)
          rw [show i + 1 + (t - i - 1) = t by omega] at this
          rw [this, List.getElem_drop]
          rw [← h3, List.getElem?_eq_getElem (by omega)]
          congr 2
          omega
      · have ha : Unch (fun j => j = w.heap.size) W0.drew (W0.drew.setCells w.heap.size i [.string s]).drew := (unch_setCells _ _ _ _).drew
        have hb3 := unch_setCells (W0.drew.setCells w.heap.size i [.string s]).drew w.heap.size (i + 1) ((sv ys).drop i)
        exact ((hu1.mono (fun _ _ h => h.elim)).step ha (fun j hj e => by omega)).step hb3 (fun j hj e => by omega)
      · have : w.heap.size = b' := by simpa [Value.ownBlock] using hb'
        omega
end Go.Proofs.YtgalnnmeamldhaaGreat
