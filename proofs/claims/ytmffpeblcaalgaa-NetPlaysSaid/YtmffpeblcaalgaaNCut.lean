/-
  Cut of net.go: what it cuts, and what of that is under way.
-/
import Derived.Test.YtmffpeblcaalgaaNTake
import Derived.Test.YtmffpeblcaalgaaOpen
set_option linter.unusedVariables false
set_option linter.unusedSimpArgs false
namespace Go.Proofs.Ytmffpeblcaalgaa
open Go Go.RowKit Go.Proofs.Ytmffpeblcaalgaa.Pal Go.Proofs.Ytmffpeblcaalgaa.Plan

theorem cut1_ok {w : World} {P N K : Nat} {v : Value} {nd : Value} {c : Nat → Nat → Bool} (hP : w.heap[P]? = some (.cells #[.pointer (some ⟨N, 0, none⟩)] 42 (0, 0)))
    (hN : w.heap[N]? = some (.cells #[nd, v, .map (some K)] 71 (0, 0))) (hm : Cm w K c) (x : Ltr) (h1 : x.src < 5) (h2 : x.dst < 5) :
    Calls Try.prog 32 #[x.val, .pointer (some ⟨P, 0, none⟩)] w fun e w' => e = .returned (.bool (c x.src x.dst)) ∧ Unch none_ w w' := by
  have p0 := blk_cell hP (j := 0) rfl
  have c2 := blk_cell hN (j := 2) rfl
  have hPl := lt_of_heap hP
  have hNl := lt_of_heap hN
  have hu := (Unch.refl none_ w).alloc (.cells #[.int .i64 (x.src : Int), .int .i64 (x.dst : Int), .string x.txt] 47)
  have hlk := fun n => cm_lookup ((hm.unch hu (fun h => h)).unch ((Unch.refl none_ _).drewN n) (fun h => h)) x.src x.dst (by omega) (by omega)
  simp only [kv] at hlk
  unfold Ltr.val
  go_enter Try.func32, Try.ntmps32
  go_wp2
  go_quiet (fail)
  go_wp2
  go_ret
  exact ⟨rfl, hu.drewN _⟩

/-- What the closure leans on. -/
structure Cl (w : World) (P N K : Nat) (nd v : Value) (c : Nat → Nat → Bool) : Prop where
  hP : w.heap[P]? = some (.cells #[.pointer (some ⟨N, 0, none⟩)] 42 (0, 0))
  hN : w.heap[N]? = some (.cells #[nd, v, .map (some K)] 71 (0, 0))
  hm : Cm w K c
theorem Cl.unch {w w1 : World} {P N K : Nat} {nd v : Value} {c : Nat → Nat → Bool} {X : Nat → Prop} (h : Cl w P N K nd v c) (hu : Unch X w w1) (hP : ¬ X P) (hN : ¬ X N) (hK : ¬ X K) : Cl w1 P N K nd v c :=
  ⟨hu.heap h.hP hP, hu.heap h.hN hN, h.hm.unch hu hK⟩
theorem Cl.fresh {w w1 : World} {P N K : Nat} {nd v : Value} {c : Nat → Nat → Bool} (h : Cl w P N K nd v c) (hu : Unch none_ w w1) : Cl w1 P N K nd v c := h.unch hu (fun h => h) (fun h => h) (fun h => h)
def Small (l : List Ltr) : Prop := ∀ x ∈ l, x.src < 5 ∧ x.dst < 5
def clo (P : Nat) : Value := .func (.func 32) #[] #[.pointer (some ⟨P, 0, none⟩)]
theorem index_nil (A : Option Addr) (cap P : Nat) (w : World) :
    Calls Try.prog 33 #[.slice A 0 cap, clo P] w fun e w' => e = .returned (.int .i64 (-1)) ∧ w = w' := by
  unfold clo
  go_enter Try.func33, Try.ntmps33
  go_wp2
  go_loop [8] (fun i => i = .int .i64 0) (fun _ => 0)
  case atStart => rfl
  case round =>
    subst hrel
    go_wp2
    go_ret
    exact ⟨rfl, rfl⟩
def Found (w : World) (l : List Ltr) (c : Nat → Nat → Bool) (e : Ending) (w' : World) : Prop :=
  Unch none_ w w' ∧ ((∃ i x, l[i]? = some x ∧ c x.src x.dst = true ∧ (∀ j y, j < i → l[j]? = some y → c y.src y.dst = false) ∧ e = .returned (.int .i64 (i : Nat))) ∨ ((∀ y ∈ l, c y.src y.dst = false) ∧ e = .returned (.int .i64 (-1))))
theorem Row.ltr {w : World} {g o n cap : Nat} {l : List Ltr} (h : Row w 47 3 (.slice (some ⟨g, o, none⟩) n cap) n (lcells l)) {i : Nat} {x : Ltr} (hx : l[i]? = some x) :
    w.cell? ⟨g, o + i * 3, none⟩ = some (.int .i64 (x.src : Int)) ∧ w.cell? ⟨g, o + i * 3 + 1, none⟩ = some (.int .i64 (x.dst : Int)) ∧ w.cell? ⟨g, o + i * 3 + 2, none⟩ = some (.string x.txt) := by
  have hc := fun j u hu => h.at rfl (lcells_get l i x j u hx hu)
  refine ⟨hc 0 _ rfl, ?_, ?_⟩
  · have := hc 1 _ rfl; rwa [← Nat.add_assoc] at this
  · have := hc 2 _ rfl; rwa [← Nat.add_assoc] at this
theorem Row.llen {w : World} {v : Value} {n : Nat} {l : List Ltr} (h : Row w 47 3 v n (lcells l)) : l.length = n := by have h1 := h.1; rw [lcells_len] at h1; omega
set_option maxHeartbeats 1000000 in
theorem index_ok {w : World} {P N K : Nat} {nd v : Value} {c : Nat → Nat → Bool} {g o n cap : Nat} {l : List Ltr} (hC : Cl w P N K nd v c) (h : Row w 47 3 (.slice (some ⟨g, o, none⟩) n cap) n (lcells l)) (hn : n ≤ 256) (hs : Small l) :
    Calls Try.prog 33 #[.slice (some ⟨g, o, none⟩) n cap, clo P] w (Found w l c) := by
  have hlen := Row.llen h
  have HS := Lib.hid hs
  have HC := Lib.hid hC
  have HR := Lib.hid h
  clear hs hC h
  unfold clo
  go_enter Try.func33, Try.ntmps33
  go_wp2
  go_loopg [8] n (fun gk i wr => ∃ k : Nat, k ≤ n ∧ gk = n - k ∧ i = .int .i64 (k : Int) ∧ Unch none_ w wr ∧ ∀ j y, j < k → l[j]? = some y → c y.src y.dst = false)
  case atStart => exact ⟨0, Nat.zero_le _, rfl, rfl, Unch.refl _ _, fun j y h => by omega⟩
  case round =>
    obtain ⟨k, hk, rfl, rfl, hu, hall⟩ := hrel
    by_cases hkn : k < n
    · obtain ⟨x, hx⟩ := get_some hlen hkn
      have hrow := HR.out.unch hu (fun _ _ h => h)
      obtain ⟨d0, d1, d2⟩ := Row.ltr hrow hx
      have z0 : (0 : Int) ≤ (k : Int) := by omega
      have z1 : (k : Int) < (n : Int) := by omega
      have hC1 := HC.out.fresh hu
      obtain ⟨s1, s2⟩ := HS.out x (List.mem_of_getElem? hx)
      have HX := Lib.hid hx
      have HA := Lib.hid hall
      clear hx hall hrow
      go_wp2_with fail
      refine (cut1_ok hC1.hP hC1.hN hC1.hm x s1 s2).mono ?_
      rintro e w1 ⟨rfl, hu1⟩
      cases hcx : c x.src x.dst
      · go_wp2
        go_roundg (n - (k + 1))
        case measure => omega
        case rel =>
          refine ⟨k + 1, by omega, rfl, by go_num, hu.trans hu1, fun j y hj hy => ?_⟩
          by_cases hjk : j = k
          · subst hjk
            have hx := HX.out
            rw [hy] at hx
            obtain rfl := Option.some.inj hx
            exact hcx
          · exact HA.out j y (by omega) hy
      · go_wp2
        go_ret
        exact ⟨hu.trans hu1, .inl ⟨k, x, HX.out, hcx, HA.out, rfl⟩⟩
    · obtain rfl : n = k := by omega
      have HA := Lib.hid hall
      clear hall
      go_wp2
      go_ret
      refine ⟨hu, .inr ⟨fun y hy => ?_, rfl⟩⟩
      obtain ⟨j, hj⟩ := List.getElem?_of_mem hy
      exact HA.out j y (by rw [← hlen]; exact (List.getElem?_eq_some_iff.1 hj).1) hj

/-! ### slices.DeleteFunc -/
theorem deletef_nil (A : Option Addr) (cap P : Nat) (w : World) :
    Calls Try.prog 31 #[.slice A 0 cap, clo P] w fun e w' => e = .returned (.slice A 0 cap) ∧ w = w' := by
  unfold clo
  go_enter Try.func31, Try.ntmps31
  go_wp2_with fail
  refine (index_nil A cap P w).mono ?_
  rintro e w1 ⟨rfl, rfl⟩
  go_wp2
  go_ret
  exact ⟨rfl, rfl⟩
def keep (c : Nat → Nat → Bool) (l : List Ltr) : List Ltr := l.filter fun x => !c x.src x.dst
def Kept (w : World) (g o cap : Nat) (l' : List Ltr) (e : Ending) (w' : World) : Prop :=
  e = .returned (.slice (some ⟨g, o, none⟩) l'.length cap) ∧ Row w' 47 3 (.slice (some ⟨g, o, none⟩) l'.length cap) l'.length (lcells l') ∧ Unch (fun k => k = g) w w'
theorem lcells_set : ∀ (l : List Ltr) (i : Nat) (x : Ltr), lcells (l.set i x) = (((lcells l).set (i * 3) (.int .i64 (x.src : Int))).set (i * 3 + 1) (.int .i64 (x.dst : Int))).set (i * 3 + 2) (.string x.txt)
  | [], i, x => by simp [lcells]
  | y :: l, 0, x => by simp [lcells, Ltr.cells]
  | y :: l, i + 1, x => by
    show y.cells ++ lcells (l.set i x) = (((y.cells ++ lcells l).set ((i + 1) * 3) _).set ((i + 1) * 3 + 1) _).set ((i + 1) * 3 + 2) _
    have h3 : y.cells.length = 3 := rfl
    rw [lcells_set l i x, List.set_append_right _ _ (by omega), List.set_append_right _ _ (by omega), List.set_append_right _ _ (by omega), h3]
    rw [show (i + 1) * 3 - 3 = i * 3 by omega, show (i + 1) * 3 + 1 - 3 = i * 3 + 1 by omega, show (i + 1) * 3 + 2 - 3 = i * 3 + 2 by omega]
/-- A letter is laid at place i. -/
theorem Row.lay {w : World} {g o n cap : Nat} {l : List Ltr} (h : Row w 47 3 (.slice (some ⟨g, o, none⟩) n cap) n (lcells l)) {i : Nat} (hi : i < n) (x : Ltr) :
    Row (((w.setCell ⟨g, o + i * 3, none⟩ (.int .i64 (x.src : Int))).setCell ⟨g, o + i * 3 + 1, none⟩ (.int .i64 (x.dst : Int))).setCell ⟨g, o + i * 3 + 2, none⟩ (.string x.txt)) 47 3 (.slice (some ⟨g, o, none⟩) n cap) n (lcells (l.set i x)) := by
  obtain ⟨cur, hh, hn, hm, hs, ht⟩ := h.place
  have h2 := blk_set (blk_set (blk_set hh (o + i * 3) (.int .i64 (x.src : Int))) (o + i * 3 + 1) (.int .i64 (x.dst : Int))) (o + i * 3 + 2) (.string x.txt)
  refine Row.ofPlace h2 hn hm (by simpa using hs) ?_
  simp only [Array.toList_setIfInBounds]
  rw [List.drop_set, if_neg (by omega), List.drop_set, if_neg (by omega), List.drop_set, if_neg (by omega), List.take_set, List.take_set, List.take_set, ht, lcells_set]
  rw [show o + i * 3 - o = i * 3 by omega, show o + i * 3 + 1 - o = i * 3 + 1 by omega, show o + i * 3 + 2 - o = i * 3 + 2 by omega]
theorem keep_take (c : Nat → Nat → Bool) (l : List Ltr) (k : Nat) (x : Ltr) (hx : l[k]? = some x) : keep c (l.take (k + 1)) = keep c (l.take k) ++ (if c x.src x.dst then [] else [x]) := by
  have hk : k < l.length := (List.getElem?_eq_some_iff.1 hx).1
  rw [List.take_succ_eq_append_getElem hk, show l[k] = x from (List.getElem?_eq_some_iff.1 hx).2]
  unfold keep
  rw [List.filter_append]
  congr 1
  cases hh : c x.src x.dst <;> simp [List.filter, hh]
theorem keep_le (c : Nat → Nat → Bool) (l : List Ltr) (k : Nat) : (keep c (l.take k)).length ≤ k := by
  have := List.length_filter_le (fun x : Ltr => !c x.src x.dst) (l.take k)
  unfold keep
  rw [List.length_take] at this
  omega
/-- What stands there behind k rounds. -/
def mid (c : Nat → Nat → Bool) (l : List Ltr) (k : Nat) : List Ltr := keep c (l.take k) ++ l.drop (keep c (l.take k)).length
theorem mid_get (c : Nat → Nat → Bool) (l : List Ltr) (k : Nat) (x : Ltr) (hx : l[k]? = some x) : (mid c l k)[k]? = some x := by
  have h := keep_le c l k
  unfold mid
  rw [List.getElem?_append_right h, List.getElem?_drop, ← hx]
  congr 1; omega
theorem mid_cut (c : Nat → Nat → Bool) (l : List Ltr) (k : Nat) (x : Ltr) (hx : l[k]? = some x) (hc : c x.src x.dst = true) : keep c (l.take (k + 1)) = keep c (l.take k) ∧ mid c l (k + 1) = mid c l k := by
  have h := keep_take c l k x hx
  rw [hc] at h
  simp only [if_true, List.append_nil] at h
  exact ⟨h, by unfold mid; rw [h]⟩
theorem mid_keep (c : Nat → Nat → Bool) (l : List Ltr) (k : Nat) (x : Ltr) (hx : l[k]? = some x) (hc : c x.src x.dst = false) : (keep c (l.take (k + 1))).length = (keep c (l.take k)).length + 1 ∧ mid c l (k + 1) = (mid c l k).set (keep c (l.take k)).length x := by
  have h := keep_take c l k x hx
  rw [hc] at h
  simp only [Bool.false_eq_true, if_false] at h
  have hl := keep_le c l k
  have hk : k < l.length := (List.getElem?_eq_some_iff.1 hx).1
  refine ⟨by rw [h]; simp, ?_⟩
  unfold mid
  rw [h, List.set_append_right _ _ (Nat.le_refl _), Nat.sub_self, List.length_append, List.length_singleton, List.append_assoc]
  congr 1
  rw [List.drop_eq_getElem_cons (by omega : (keep c (l.take k)).length < l.length)]
  rfl
theorem mid_first (c : Nat → Nat → Bool) (l : List Ltr) (i : Nat) (x : Ltr) (hx : l[i]? = some x) (hc : c x.src x.dst = true) (hbe : ∀ j y, j < i → l[j]? = some y → c y.src y.dst = false) : keep c (l.take (i + 1)) = l.take i ∧ mid c l (i + 1) = l := by
  have hi : i < l.length := (List.getElem?_eq_some_iff.1 hx).1
  have h0 : keep c (l.take i) = l.take i := List.filter_eq_self.2 fun y hy => by
    obtain ⟨j, hj⟩ := List.getElem?_of_mem hy
    rw [List.getElem?_take] at hj
    split at hj
    · rename_i hlt; simp [hbe j y hlt hj]
    · cases hj
  have h := mid_cut c l i x hx hc
  rw [h0] at h
  refine ⟨h.1, ?_⟩
  rw [h.2]
  unfold mid
  rw [h0, List.length_take, Nat.min_eq_left (by omega), List.take_append_drop]
set_option maxRecDepth 100000 in
set_option maxHeartbeats 1000000 in
theorem deletef_ok {w : World} {P N K : Nat} {nd v : Value} {c : Nat → Nat → Bool} {g o n cap : Nat} {l : List Ltr} (hC : Cl w P N K nd v c) (h : Row w 47 3 (.slice (some ⟨g, o, none⟩) n cap) n (lcells l)) (hn : n ≤ 256) (hs : Small l) (hg : g ≠ P ∧ g ≠ N ∧ g ≠ K) :
    Calls Try.prog 31 #[.slice (some ⟨g, o, none⟩) n cap, clo P] w (Kept w g o cap (keep c l)) := by
  have hlen := Row.llen h
  unfold clo
  go_enter Try.func31, Try.ntmps31
  go_wp2_with fail
  refine (index_ok hC h hn hs).mono ?_
  rintro e w1 ⟨hu, hf | ⟨hall, rfl⟩⟩
  · obtain ⟨i, x, hx, hcx, hbe, rfl⟩ := hf
    have hin : i < n := by have := (List.getElem?_eq_some_iff.1 hx).1; omega
    have z0 : (i : Int) < 256 := by omega
    have z1 : ((i : Int) == -1) = false := by simp
    obtain ⟨m1, m2⟩ := mid_first c l i x hx hcx hbe
    have HS := Lib.hid hs
    have HC := Lib.hid hC
    have hR0 := h.unch hu (fun _ _ h => h)
    have HU := Lib.hid (hu.mono (Y := fun k => k = g) (fun _ _ h => h.elim))
    have HR := Lib.hid hR0
    have hgw : g < w.heap.size := by obtain ⟨cur, hc⟩ := h.blk (k := g) rfl; exact lt_of_heap hc
    clear hbe hR0 h hu hC hs
    go_wp2
    go_loopg [5, 6] (n - (i + 1)) (fun gk vi vj wr => ∃ k p : Nat, k ≤ n ∧ gk = n - k ∧ vj = .int .i64 (k : Int) ∧ vi = .int .i64 (p : Int) ∧ p < k ∧ (keep c (l.take k)).length = p ∧ Row wr 47 3 (.slice (some ⟨g, o, none⟩) n cap) n (lcells (mid c l k)) ∧ Unch (fun k => k = g) w wr)
    case atStart => exact ⟨i + 1, i, by omega, rfl, by go_num, rfl, by omega, by rw [m1, List.length_take]; omega, by rw [m2]; exact HR.out, HU.out⟩
    case round =>
      obtain ⟨k, p, hk, rfl, rfl, rfl, hpk, hp, hrow, huw⟩ := hrel
      have hmidl := Row.llen hrow
      by_cases hkn : k < n
      · obtain ⟨y, hy⟩ := get_some hlen hkn
        obtain ⟨d0, d1, d2⟩ := Row.ltr hrow (mid_get c l k y hy)
        have z2 : (0 : Int) ≤ (k : Int) := by omega
        have z3 : (k : Int) < (n : Int) := by omega
        have z4 : (n : Int) ≤ 256 := by omega
        have z5 : (0 : Int) ≤ (p : Int) := by omega
        have z6 : (p : Int) < (n : Int) := by omega
        obtain ⟨s1, s2⟩ := HS.out y (List.mem_of_getElem? hy)
        have hgr : g < wr.heap.size := Nat.lt_of_lt_of_le hgw huw.size
        have HY := Lib.hid hy
        have HP := Lib.hid hp
        clear hy hp
        go_wp2_with fail
        have hua := (Unch.refl none_ wr).alloc (.cells #[.int .i64 (y.src : Int), .int .i64 (y.dst : Int), .string y.txt] 47)
        have hC1 := (HC.out.unch huw (fun e => hg.1 e.symm) (fun e => hg.2.1 e.symm) (fun e => hg.2.2 e.symm)).fresh hua
        refine (cut1_ok hC1.hP hC1.hN hC1.hm y s1 s2).mono ?_
        rintro e w3 ⟨rfl, hu3⟩
        have hY := hu3.heap (blk_new wr _) (fun h => h)
        have y0 := blk_cell hY (j := 0) rfl
        have y1 := blk_cell hY (j := 1) rfl
        have y2 := blk_cell hY (j := 2) rfl
        have hu4 := hua.trans hu3
        have hrow3 := hrow.unch hu4 (fun _ _ h => h)
        obtain ⟨q, hq⟩ := get_some hmidl (show p < n by omega)
        obtain ⟨e0, e1, e2⟩ := Row.ltr hrow3 hq
        have f0 := hrow3.free rfl (o + p * 3)
        have f1 := hrow3.free rfl (o + p * 3 + 1)
        have f2 := hrow3.free rfl (o + p * 3 + 2)
        have hgy : g ≠ wr.heap.size := by omega
        have hu5 : Unch (fun k => k = g) w w3 := huw.step hu4 (fun _ _ h => h.elim)
        have HR3 := Lib.hid hrow3
        have HU5 := Lib.hid hu5
        clear hrow3 hrow huw hu5 hu4 hua hq hY
        cases hcy : c y.src y.dst
        · obtain ⟨k1, k2⟩ := mid_keep c l k y HY.out hcy
          rw [HP.out] at k1 k2
          have hlay := Row.lay HR3.out (i := p) (by omega) y
          rw [← k2] at hlay
          have HL := Lib.hid hlay
          have hu6 := ((HU5.out.setCell (p := ⟨g, o + p * 3, none⟩) (.int .i64 (y.src : Int)) (fun _ => rfl)).setCell (p := ⟨g, o + p * 3 + 1, none⟩) (.int .i64 (y.dst : Int)) (fun _ => rfl)).setCell (p := ⟨g, o + p * 3 + 2, none⟩) (.string y.txt) (fun _ => rfl)
          have HU6 := Lib.hid hu6
          clear hlay hu6 k2
          go_wp2
          go_roundg (n - (k + 1))
          case measure => omega
          case rel => exact ⟨k + 1, p + 1, by omega, rfl, by go_num, by go_num, by omega, k1, HL.out, HU6.out⟩
        · obtain ⟨k1, k2⟩ := mid_cut c l k y HY.out hcy
          go_wp2
          go_roundg (n - (k + 1))
          case measure => omega
          case rel => exact ⟨k + 1, p, by omega, rfl, by go_num, rfl, by omega, by rw [k1]; exact HP.out, by rw [k2]; exact HR3.out, HU5.out⟩
      · obtain rfl : n = k := by omega
        have hall : keep c (l.take n) = keep c l := by rw [List.take_of_length_le (by omega)]
        rw [hall] at hp
        obtain ⟨w4, hrun, hr4, hu4⟩ := row_clear_past (P := Try.prog) wr 53 0 47 zltr 3 32 Try.underlying53 info_ltr rfl (by intro v hv; simp [zltr, Value.cells] at hv; rcases hv with rfl | rfl | rfl <;> rfl) g o n cap _ hrow p (n - p) (cap - p) (by omega) (by have := hrow.maxcap; omega) (some ⟨g, o + p * 3, none⟩) (fun h => rfl)
        have htake : (lcells (mid c l n)).take (p * 3) = lcells (keep c l) := by
          rw [← lcells_take]
          unfold mid
          rw [hall, hp, List.take_left' hp]
        rw [htake] at hr4
        have z2 : (0 : Int) ≤ (p : Int) := by omega
        have z3 : (p : Int) ≤ (n : Int) := by omega
        have z4 : (n : Int) ≤ (cap : Int) := by have := hrow.maxcap; omega
        have z5 : (p : Int) ≤ (cap : Int) := by omega
        have z6 : (cap = p) = False := by simp; omega
        have HP := Lib.hid hp
        clear hp hrow htake hall
        go_wp2
        go_ret
        unfold Kept
        rw [HP.out]
        exact ⟨rfl, hr4, huw.trans hu4⟩
  · have hk : keep c l = l := List.filter_eq_self.2 fun x hx => by simp [hall x hx]
    go_wp2
    go_ret
    unfold Kept
    rw [hk, hlen]
    exact ⟨rfl, h.unch hu (fun _ _ h => h), hu.mono (fun _ _ h => h.elim)⟩
end Go.Proofs.Ytmffpeblcaalgaa
