/-
  key: New, the leaves.
  key: the tree, what others know.
  key: signing.
-/
import Derived.Test.YtgcpoppinnnciaaGreatDoorCKY1
import Derived.Test.YtgcpoppinnnciaaGreatDoorCMK1
import Derived.Test.YtgcpoppinnnciaaGreatDoorCPlanQ
/- key: New, the leaves. -/
set_option linter.unusedVariables false
set_option linter.unusedSimpArgs false
set_option maxRecDepth 100000
namespace Go.Proofs.YtgcpoppinnnciaaGreatDoor
open Go Go.RowKit Go.Proofs.YtgcpoppinnnciaaGreatDoor.Pal Go.Proofs.YtgcpoppinnnciaaGreatDoor.Plan

/-- A key as it lies. -/
def kcells (seed : ByteArray) (h u : Nat) (dn lk : Int) (lv : Value) : Array Value := #[.string seed, .int .i64 (h : Int), .int .i32 (u : Int), .int .u32 dn, .int .i32 lk, .int .u32 0, lv]
def leavesF (K : Nat → Int) (seed : ByteArray) (n : Nat) : List ByteArray := (List.range n).map (wpubF K seed)
theorem leavesF_len (K : Nat → Int) (seed : ByteArray) (n : Nat) : (leavesF K seed n).length = n := by simp [leavesF]
theorem leavesF_succ (K : Nat → Int) (seed : ByteArray) (n : Nat) : leavesF K seed (n + 1) = leavesF K seed n ++ [wpubF K seed n] := by simp [leavesF, List.range_succ]
theorem leavesF_32 {K : Nat → Int} {seed : ByteArray} {n : Nat} : ∀ p ∈ leavesF K seed n, p.size = 32 := fun p hp => by
  simp only [leavesF, List.mem_map] at hp
  obtain ⟨k, _, rfl⟩ := hp
  exact tagF_size K 3 _
structure KeyAt (K : Nat → Int) (Z : Nat → Prop) (w : World) (b : Nat) (seed : ByteArray) (h u : Nat) : Prop where
  is : ∃ dn lv, w.heap[b]? = some (.cells (kcells seed h u dn 0 lv) 104 (0, 0)) ∧ (dn = 0 ∧ lv = .slice none 0 0 ∨ dn = 1 ∧ Row w 9 1 lv (2 ^ h) (sv (leavesF K seed (2 ^ h))) ∧ ∀ g, lv.ownBlock = some g → ¬ Z g)
theorem KeyAt.lt {K : Nat → Int} {Z : Nat → Prop} {w : World} {b : Nat} {seed : ByteArray} {h u : Nat} (H : KeyAt K Z w b seed h u) : b < w.heap.size := by
  obtain ⟨dn, lv, hb, _⟩ := H.is
  exact lt_of_heap hb
theorem KeyAt.unch {K : Nat → Int} {Z : Nat → Prop} {w w' : World} {b : Nat} {seed : ByteArray} {h u : Nat} (H : KeyAt K Z w b seed h u) (hu : Unch none_ w w') : KeyAt K Z w' b seed h u := by
  obtain ⟨dn, lv, hb, hc⟩ := H.is
  exact ⟨dn, lv, hu.heap hb (fun h => h), hc.imp (fun h => h) (fun ⟨h1, h2, h3⟩ => ⟨h1, h2.unch hu (fun _ _ h => h), h3⟩)⟩
/-- .. where another key is written. -/
theorem KeyAt.other {K : Nat → Int} {Z : Nat → Prop} {w w' : World} {b b2 : Nat} {seed : ByteArray} {h u : Nat} {cs : Array Value} (H : KeyAt K Z w b seed h u) (hb2 : w.heap[b2]? = some (.cells cs 104 (0, 0))) (hne : b ≠ b2) (hu : Unch (fun k => k = b2) w w') : KeyAt K Z w' b seed h u := by
  obtain ⟨dn, lv, hb, hc⟩ := H.is
  refine ⟨dn, lv, hu.heap hb hne, hc.imp (fun h => h) (fun ⟨h1, h2, h3⟩ => ⟨h1, h2.unch hu (fun g hg he => ?_), h3⟩)⟩
  subst he
  rcases h2.2 with ⟨hv, _⟩ | ⟨g2, o, cap, cur, hv, hh, _⟩
  · rw [hv] at hg; cases hg
  · rw [hv] at hg
    simp [Value.ownBlock] at hg
    subst hg
    rw [hh] at hb2
    simp at hb2
theorem knew_ok (K : Nat → Int) (Z : Nat → Prop) (seed : ByteArray) (h : Nat) (hh : h ≤ 4) (w : World) :
    Calls Tryz.prog 13 #[.string seed, .int .i64 (h : Int), .int .i64 0] w fun e w' => ∃ b, e = .returned (.pointer (some ⟨b, 0, none⟩)) ∧ w.heap.size ≤ b ∧ KeyAt K Z w' b seed h 0 ∧ Unch none_ w w' := by
  have y0 : (0 : Int) ≤ (h : Int) := by omega
  have y1 : (h : Int) ≤ 4 := by omega
  have hp : 1 ≤ 2 ^ h := Nat.one_le_two_pow
  have h16 : 2 ^ h ≤ 16 := Nat.pow_le_pow_right (n := 2) (by decide) hh
  have hc : ((2 ^ h : Nat) : Int) = (2 : Int) ^ h := by push_cast; rfl
  obtain ⟨P, hP⟩ : ∃ P : Int, (2 : Int) ^ h = P := ⟨_, rfl⟩
  have p0 : 1 ≤ P := by omega
  have p1 : P ≤ 16 := by omega
  clear hc
  have hbk : (w.alloc (.cells (kcells seed h 0 0 0 (.slice none 0 0)) 104)).heap[w.heap.size]? = _ := blk_new w _
  have hu : Unch none_ w (w.alloc (.cells (kcells seed h 0 0 0 (.slice none 0 0)) 104)) := (Unch.refl _ _).alloc _
  go_enter Tryz.func13, Tryz.ntmps13
  go_wp2_with (go_at_call 41; refine (i32Store_ok w.heap.size 2 _ 0 _ (blk_cell hbk (j := 2) rfl) (blk_free hbk 2)).mono ?_; rintro _ w1 ⟨rfl, rfl⟩)
  go_ret
  exact ⟨w.heap.size, rfl, Nat.le_refl _, ⟨0, .slice none 0 0, blk_new w (.cells (kcells seed h 0 0 0 (.slice none 0 0)) 104), .inl ⟨rfl, rfl⟩⟩, (Unch.refl _ _).alloc _⟩
set_option maxHeartbeats 1000000 in
theorem plant_ok (K : Nat → Int) (b : Nat) (seed : ByteArray) (hs : seed.size ≤ 1000000) (h u : Nat) (hh : h ≤ 4) (lk : Int) (w : World) (hK : Kys K w) (hk0 : b ≠ 0) (hb : w.heap[b]? = some (.cells (kcells seed h u 0 lk (.slice none 0 0)) 104 (0, 0))) :
    Calls Tryz.prog 72 #[.pointer (some ⟨b, 0, none⟩)] w fun e w' => e = .returned (.tuple #[]) ∧ ∃ lv, w'.heap[b]? = some (.cells (kcells seed h u 0 lk lv) 104 (0, 0)) ∧ Row w' 9 1 lv (2 ^ h) (sv (leavesF K seed (2 ^ h))) ∧ Unch (fun k => k = b) w w' ∧ ∀ g, lv.ownBlock = some g → w.heap.size ≤ g := by
  have h16 : 2 ^ h ≤ 16 := Nat.pow_le_pow_right (n := 2) (by decide) hh
  have hlt := lt_of_heap hb
  obtain ⟨n, hn⟩ : ∃ n : Nat, 2 ^ h = n := ⟨_, rfl⟩
  have hP : (2 : Int) ^ h = (n : Int) := by rw [← hn]; push_cast; rfl
  rw [hn] at h16 ⊢
  clear hn
  have n0 : (0 : Int) ≤ (n : Int) := by omega
  have n1 : (n : Int) ≤ 16 := by omega
  have y0 : (0 : Int) ≤ (h : Int) := by omega
  have y1 : (h : Int) ≤ 4 := by omega
  have c1 := blk_cell hb (j := 1) (v := .int .i64 (h : Int)) rfl
  have HB := Lib.hid hb
  clear hb
  go_enter Tryz.func72, Tryz.ntmps72
  go_wp2_with fail
  clear c1
  go_loopg [2, 3, 4, 10] n (fun gk _ _ _ i wr => ∃ (k : Nat) (lv : Value), gk = n - k ∧ k ≤ n ∧ i = .int .i64 (k : Int) ∧ wr.heap[b]? = some (.cells (kcells seed h u 0 lk lv) 104 (0, 0)) ∧ Row wr 9 1 lv k (sv (leavesF K seed k)) ∧ (∀ g, lv.ownBlock = some g → w.heap.size ≤ g) ∧ Unch (fun k => k = b) w wr)
  case atStart => exact ⟨0, _, rfl, by omega, rfl, HB.out, Row.nil _ _ _, fun g hg => (by cases hg), Unch.refl _ _⟩
  case round =>
    obtain ⟨k, lv, rfl, hk, rfl, hb, hrow, hown, hu⟩ := hrel
    obtain ⟨w2, rfl⟩ : ∃ w2, w2 = wr := ⟨_, rfl⟩
    obtain ⟨A, c, rfl, hc⟩ := hrow.slice
    have HB2 := Lib.hid hb
    have HROW := Lib.hid hrow
    have HOWN := Lib.hid hown
    have HU := Lib.hid hu
    by_cases hkn : k < n
    · have z0 : (0 : Int) ≤ (k : Int) := by omega
      have z1 : (k : Int) < (n : Int) := by omega
      have c0 := blk_cell hb (j := 0) (v := .string seed) rfl
      have hwp := fun W (hu2 : Unch none_ w2 W) => wpub_ok K seed hs k (by omega) W ((hK.unch hu (fun h => hk0 h.symm)).unch hu2 (fun h => h))
      have hsc := leavesF_succ K seed k
      generalize wpubF K seed k = y at *
      generalize hvl : leavesF K seed k = vl at *
      have HSC := Lib.hid hsc
      have HVL := Lib.hid hvl
      clear hsc hvl hb hrow hown hu
      have hc6 : ∀ W, Unch none_ w2 W → W.cell? ⟨b, 6, none⟩ = some (.slice A k c) := fun W hu => blk_cell (hu.heap HB2.out (fun h => h)) (j := 6) rfl
      have hrow3 : ∀ W, Unch none_ w2 W → Row W 9 1 (.slice A k c) k (sv vl) := fun W hu => HROW.out.unch hu (fun _ _ h => h)
      have hb6 : ∀ W W', Unch none_ w2 W → Unch (fun g => (Value.slice A k c).ownBlock = some g) W W' → W'.heap[b]? = some (.cells (kcells seed h u 0 lk (.slice A k c)) 104 (0, 0)) := fun W W' hu hu' => hu'.heap (hu.heap HB2.out (fun h => h)) (fun he => by have := HOWN.out _ he; omega)
      go_wp2_with (first
        | (go_at_call 106; refine (hwp _ (Unch.refl _ _)).mono ?_; rintro _ w3 ⟨rfl, hu3⟩; have c6 := hc6 w3 hu3)
        | (at_builtin; refine wpList_append1 w3 rfl (.tmp 26) (.tmp 28) 25 9 _ 1 16 rfl Tryz.underlying25 info_str rfl (by omega) (.slice A k c) k (sv vl) (by rfl) (hrow3 w3 hu3) [.string y] rfl (by intro u hu; simp at hu; subst hu; rfl) (by rfl) (by simp only [maxLen]; omega) (by omega) ?_; intro v6 w6 hr6 hu6 hat6; obtain ⟨A6, cc6, rfl, hcc6⟩ := hr6.slice; have hb7 := hb6 w3 w6 hu3 hu6; have x6 : w6.cell? ⟨b, 6, none⟩ = some (.slice A k c) := blk_cell hb7 (j := 6) rfl; have q6 := blk_free hb7 6; have HB7 := Lib.hid hb7; have HR6 := Lib.hid hr6; have HU6 := Lib.hid hu6; have HAT := Lib.hid hat6; clear hr6 hu6 hat6 hb7))
      go_roundg (n - (k + 1))
      case measure => omega
      case rel =>
        have hne : b ≠ w.heap.size := by omega
        have hown6 : ∀ g, (Value.slice A6 (k + 1) cc6).ownBlock = some g → w.heap.size ≤ g := fun g hg => by
          rcases HAT.out with h1 | ⟨b', h1, h2⟩
          · exact HOWN.out g (h1 ▸ hg)
          · rw [h1] at hg; injection hg with hg; subst hg; exact Nat.le_trans HU.out.size (Nat.le_trans hu3.size h2)
        refine ⟨k + 1, .slice A6 (k + 1) cc6, rfl, by omega, by go_num, blk_set HB7.out 6 _, ?_, hown6, ?_⟩
        · rw [HSC.out, sv_app]
          exact HR6.out.unch (X := fun k => k = b) ((Unch.refl _ _).setCell _ (fun _ => rfl)) (fun g hg he => by have := hown6 g hg; omega)
        · exact ((HU.out.trans (hu3.mono (fun _ _ h => h.elim))).step HU6.out (fun g hg he => by have := HOWN.out g he; omega)).setCell _ (fun _ => rfl)
    · obtain rfl : k = n := by omega
      go_wp2_with fail
      refine bodyPost_end (results_none rfl _ _ _) rfl ⟨rfl, _, HB2.out, HROW.out, HU.out, HOWN.out⟩
end Go.Proofs.YtgcpoppinnnciaaGreatDoor
/- key: the tree, what others know. -/
set_option linter.unusedVariables false
set_option linter.unusedSimpArgs false
set_option maxRecDepth 100000
namespace Go.Proofs.YtgcpoppinnnciaaGreatDoor
open Go Go.RowKit Go.Proofs.YtgcpoppinnnciaaGreatDoor.Pal Go.Proofs.YtgcpoppinnnciaaGreatDoor.Plan

theorem row_other {w w' : World} {b : Nat} {e t : TypeId} {size n : Nat} {v : Value} {xs : List Value} {cs : Array Value} {fr : Nat × Nat} (h : Row w e size v n xs) (hb : w.heap[b]? = some (.cells cs t fr)) (hte : t ≠ e) (hu : Unch (fun k => k = b) w w') : Row w' e size v n xs :=
  h.unch hu (fun g hg he => by
    subst he
    rcases h.2 with ⟨hv, _⟩ | ⟨g2, o, cap, cur, hv, hh, _⟩
    · rw [hv] at hg; cases hg
    · rw [hv] at hg
      simp only [Value.ownBlock, Option.some.injEq] at hg
      subst hg
      rw [hh] at hb
      injection hb with hb
      injection hb with _ hb
      exact hte hb.symm)
set_option maxHeartbeats 1000000 in
theorem tree_ok (K : Nat → Int) (Z : Nat → Prop) (b : Nat) (seed : ByteArray) (hs : seed.size ≤ 1000000) (h u : Nat) (hh : h ≤ 4) (w : World) (hK : Kys K w) (hk0 : b ≠ 0) (hZ : ∀ g, Z g → g < w.heap.size) (H : KeyAt K Z w b seed h u) :
    Calls Tryz.prog 43 #[.pointer (some ⟨b, 0, none⟩)] w fun e w' => ∃ A c, e = .returned (.slice A (2 ^ h) c) ∧ KeyAt K Z w' b seed h u ∧ Row w' 9 1 (.slice A (2 ^ h) c) (2 ^ h) (sv (leavesF K seed (2 ^ h))) ∧ Unch (fun k => k = b) w w' := by
  obtain ⟨dn, lv, hb, hc⟩ := H.is
  have hte : (104 : TypeId) ≠ 9 := by decide
  have eg : ∀ args w, (callFunc 72 args).run Tryz.prog w = .ok (.enter 72 args) w := enters_of Tryz.func72 (by kernel_rfl) rfl
  rcases hc with ⟨rfl, rfl⟩ | ⟨rfl, hrow, _⟩
  · have c3 : w.cell? ⟨b, 3, none⟩ = some (.int .u32 0) := blk_cell hb (j := 3) rfl
    have c4 : w.cell? ⟨b, 3 + 1, none⟩ = some (.int .i32 0) := blk_cell hb (j := 4) rfl
    have hb1 : (w.setCell ⟨b, 4, none⟩ (.int .i32 1)).heap[b]? = some (.cells (kcells seed h u 0 1 (.slice none 0 0)) 104 (0, 0)) := blk_set hb 4 _
    have hu1 : Unch (fun k => k = b) w (w.setCell ⟨b, 4, none⟩ (.int .i32 1)) := (Unch.refl _ _).setCell _ (fun _ => rfl)
    have hf := plant_ok K b seed hs h u hh 1 _ (hK.unch hu1 (fun h => hk0 h.symm)) hk0 hb1
    have hdo := do_ok b 3 72 #[.pointer (some ⟨b, 0, none⟩)] #[] eg (fun W => ∃ lv, W.heap[b]? = some (.cells (kcells seed h u 0 1 lv) 104 (0, 0)) ∧ Row W 9 1 lv (2 ^ h) (sv (leavesF K seed (2 ^ h))) ∧ Unch (fun k => k = b) w W ∧ ∀ g, lv.ownBlock = some g → w.heap.size ≤ g)
      ⟨fun W ⟨lv, h1, _⟩ => blk_cell h1 (j := 3) rfl, fun W ⟨lv, h1, _⟩ => blk_cell h1 (j := 4) rfl, fun W ⟨lv, h1, _⟩ j => blk_free h1 j⟩ w c3 c4 (fun j => blk_free hb j) (hf.mono fun e W ⟨he, lv, h1, h2, h3, h4⟩ => ⟨he, lv, h1, h2, hu1.trans h3, fun g hg => Nat.le_trans hu1.size (h4 g hg)⟩)
    have HDO := Lib.hid hdo
    have HZ := Lib.hid hZ
    clear hdo hf hb1 hu1 c3 c4 H hb
    have hend : ∀ W' W lv, W' = (W.drew.setCell ⟨b, 3, none⟩ (.int .u32 1)).setCell ⟨b, 3 + 1, none⟩ (.int .i32 0) → W.heap[b]? = some (.cells (kcells seed h u 0 1 lv) 104 (0, 0)) → Row W 9 1 lv (2 ^ h) (sv (leavesF K seed (2 ^ h))) → Unch (fun k => k = b) w W →
        W'.heap[b]? = some (.cells (kcells seed h u 1 0 lv) 104 (0, 0)) ∧ Row W' 9 1 lv (2 ^ h) (sv (leavesF K seed (2 ^ h))) ∧ Unch (fun k => k = b) w W' := fun W' W lv he h1 h2 h3 => by
      have hd : W.drew.heap[b]? = some (.cells (kcells seed h u 0 1 lv) 104 (0, 0)) := h1
      have h4 : Unch (fun k => k = b) W W' := by rw [he]; exact (((Unch.refl (fun k => k = b) W).drew).setCell (p := ⟨b, 3, none⟩) _ (fun _ => rfl)).setCell (p := ⟨b, 3 + 1, none⟩) _ (fun _ => rfl)
      refine ⟨?_, row_other h2 h1 hte h4, h3.trans h4⟩
      rw [he]
      exact blk_set (blk_set hd 3 (.int .u32 1)) 4 (.int .i32 0)
    go_enter Tryz.func43, Tryz.ntmps43
    go_wp2_with (go_at_call 71; refine HDO.out.mono ?_; rintro _ w1 ⟨rfl, W, ⟨lv, h1, h2, h3, h4⟩, hw1⟩; have H4 := Lib.hid h4; clear h4; obtain ⟨g1, g2, g3⟩ := hend _ _ _ hw1 h1 h2 h3; have G1 := Lib.hid g1; have G2 := Lib.hid g2; have G3 := Lib.hid g3; obtain ⟨A, c, rfl, hcc⟩ := g2.slice; have c6 : w1.cell? ⟨b, 6, none⟩ = some (.slice A (2 ^ h) c) := blk_cell g1 (j := 6) rfl; clear hw1 h1 h2 h3 g1 g2 g3)
    go_ret
    exact ⟨A, c, rfl, ⟨1, _, G1.out, .inr ⟨rfl, G2.out, fun g hg hz => by have h1 := HZ.out g hz; have h2 := H4.out g hg; omega⟩⟩, G2.out, G3.out⟩
  · obtain ⟨A, c, rfl, hcc⟩ := hrow.slice
    have c3 : w.cell? ⟨b, 3, none⟩ = some (.int .u32 1) := blk_cell hb (j := 3) rfl
    have c6 : w.cell? ⟨b, 6, none⟩ = some (.slice A (2 ^ h) c) := blk_cell hb (j := 6) rfl
    have HR := Lib.hid hrow
    clear hrow hb
    go_enter Tryz.func43, Tryz.ntmps43
    go_wp2_with (go_at_call 71; refine (do_done b 3 _ _ c3).mono ?_; rintro _ w1 ⟨rfl, rfl⟩)
    go_ret
    exact ⟨A, c, rfl, H, HR.out, Unch.refl _ _⟩
/-- The public of a height and a root. -/
def namedF (K : Nat → Int) (h : Nat) (root : ByteArray) : ByteArray := tagF K 5 [byteT h, root]
theorem named_ok (K : Nat → Int) (h : Nat) (hh : h ≤ 4) (root : ByteArray) (hr : root.size ≤ 1000000) (w : World) (hK : Kys K w) :
    Calls Tryz.prog 44 #[.int .i64 (h : Int), .string root] w fun e w' => e = .returned (.string (namedF K h root)) ∧ Unch none_ w w' := by
  have hob := octByte_ok h (by omega)
  rw [show (⟨(numB 1 h).toArray⟩ : ByteArray) = byteT h from rfl] at hob
  have hbs := byteT_size h
  have htg := fun (W : World) (hu : Unch none_ w W) => tag2_ok K 5 (by omega) (byteT h) root (by omega) (by omega) W (hK.unch hu (fun h => h)) _ rfl
  rw [show tagF K 5 [byteT h, root] = namedF K h root from rfl] at htg
  generalize namedF K h root = res at *
  generalize byteT h = tb at *
  go_enter Tryz.func44, Tryz.ntmps44
  go_wp2_with (first
    | (go_at_call 73; refine (hob _).mono ?_; rintro _ w1 ⟨rfl, hu1⟩)
    | (go_at_call 47; refine (htg _ hu1).mono ?_; rintro _ w2 ⟨rfl, hu2⟩))
  go_ret
  exact ⟨rfl, hu1.trans hu2⟩
/-- What others know of a key. -/
def pubF (K : Nat → Int) (seed : ByteArray) (h : Nat) : ByteArray := namedF K h (rootF K h (leavesF K seed (2 ^ h)))
theorem pubF_size (K : Nat → Int) (seed : ByteArray) (h : Nat) : (pubF K seed h).size = 32 := tagF_size K 5 _
theorem mrootR_ok (K : Nat → Int) (h : Nat) (hh : h ≤ 4) (A : Option Addr) (c : Nat) (l : List ByteArray) (w : World) (hK : Kys K w) (hr : Row w 9 1 (.slice A (2 ^ h) c) (2 ^ h) (sv l)) (hp : ∀ p ∈ l, p.size = 32) :
    Calls Tryz.prog 42 #[.slice A (2 ^ h) c] w fun e w' => e = .returned (.tuple #[.string (rootF K h l), .bool true]) ∧ Unch none_ w w' := by
  have hp2 : 0 < 2 ^ h := Nat.two_pow_pos h
  rcases hr.2 with ⟨_, h0⟩ | ⟨g, o, cap, cur, hv, hh2, hn, hcm, _⟩
  · omega
  injection hv with h1 h2 h3
  subst h1; subst h3
  exact mroot_ok K h hh g o c l w hK hn hcm (srow_rds hr) hp
set_option maxHeartbeats 1000000 in
theorem public_ok (K : Nat → Int) (Z : Nat → Prop) (b : Nat) (seed : ByteArray) (hs : seed.size ≤ 1000000) (h u : Nat) (hh : h ≤ 4) (w : World) (hK : Kys K w) (hk0 : b ≠ 0) (hZ : ∀ g, Z g → g < w.heap.size) (H : KeyAt K Z w b seed h u) :
    Calls Tryz.prog 15 #[.pointer (some ⟨b, 0, none⟩)] w fun e w' => e = .returned (.string (pubF K seed h)) ∧ KeyAt K Z w' b seed h u ∧ Unch (fun k => k = b) w w' := by
  have htr := tree_ok K Z b seed hs h u hh w hK hk0 hZ H
  have hl := leavesF_len K seed (2 ^ h)
  have hp2 : 0 < 2 ^ h := Nat.two_pow_pos h
  have hrt := fun (W : World) (A : Option Addr) (c : Nat) (hu : Unch (fun k => k = b) w W) (hr : Row W 9 1 (.slice A (2 ^ h) c) (2 ^ h) (sv (leavesF K seed (2 ^ h)))) => mrootR_ok K h hh A c (leavesF K seed (2 ^ h)) W (hK.unch hu (fun h => hk0 h.symm)) hr leavesF_32
  have hr32 := rootF_32 K h (leavesF K seed (2 ^ h)) hl leavesF_32
  have hnm := fun (W : World) (hu : Unch (fun k => k = b) w W) => named_ok K h hh (rootF K h (leavesF K seed (2 ^ h))) (by omega) W (hK.unch hu (fun h => hk0 h.symm))
  rw [show namedF K h (rootF K h (leavesF K seed (2 ^ h))) = pubF K seed h from rfl] at hnm
  generalize pubF K seed h = res at *
  generalize rootF K h (leavesF K seed (2 ^ h)) = rt at *
  have hc1 : ∀ W, KeyAt K Z W b seed h u → W.cell? ⟨b, 1, none⟩ = some (.int .i64 (h : Int)) := fun W HW => by
    obtain ⟨dn, lv, hb, _⟩ := HW.is
    exact blk_cell hb (j := 1) rfl
  generalize sv (leavesF K seed (2 ^ h)) = vs at *
  generalize 2 ^ h = n at *
  go_enter Tryz.func15, Tryz.ntmps15
  go_wp2_with (first
    | (go_at_call 43; refine htr.mono ?_; rintro _ w1 ⟨A, c, rfl, H1, hr1, hu1⟩)
    | (go_at_call 42; refine (hrt _ A c hu1 hr1).mono ?_; rintro _ w2 ⟨rfl, hu2⟩; have c1 := hc1 w2 (H1.unch hu2); have hu12 := hu1.trans (hu2.mono (Y := fun k => k = b) (fun _ _ h => h.elim)))
    | (go_at_call 44; refine (hnm _ hu12).mono ?_; rintro _ w3 ⟨rfl, hu3⟩))
  go_ret
  exact ⟨rfl, (H1.unch hu2).unch hu3, hu12.trans (hu3.mono (fun _ _ h => h.elim))⟩
end Go.Proofs.YtgcpoppinnnciaaGreatDoor
/- key: signing. -/
set_option linter.unusedVariables false
set_option linter.unusedSimpArgs false
set_option maxRecDepth 100000
namespace Go.Proofs.YtgcpoppinnnciaaGreatDoor
open Go Go.RowKit Go.Proofs.YtgcpoppinnnciaaGreatDoor.Pal Go.Proofs.YtgcpoppinnnciaaGreatDoor.Plan

def joinB (l : List ByteArray) : ByteArray := ⟨(Lib.join (l.map (·.data.toList)) []).toArray⟩
theorem join_flat : ∀ l : List (List UInt8), Lib.join l [] = l.flatten
  | [] => rfl
  | x :: r => by
    rw [Lib.join_cons]
    simp [Lib.joinTail]
theorem joinL_len {l : List ByteArray} {m : Nat} (h : ∀ p ∈ l, p.size = m) : (Lib.join (l.map (·.data.toList)) []).length = l.length * m := by
  rw [join_flat]
  induction l with
  | nil => simp
  | cons p r ih =>
    rw [List.map_cons, List.flatten_cons, List.length_append, ih (fun q hq => h q (List.mem_cons_of_mem _ hq)), ← Lib.size_eq, h p (List.mem_cons_self ..), List.length_cons, Nat.add_mul]
    omega
theorem joinB_size {l : List ByteArray} {m : Nat} (h : ∀ p ∈ l, p.size = m) : (joinB l).size = l.length * m := by
  show (Lib.join (l.map (·.data.toList)) []).toArray.size = _
  rw [List.size_toArray, joinL_len h]
theorem joinRow_ok (A : Option Addr) (n c : Nat) (l : List ByteArray) (w : World) (hr : Row w 9 1 (.slice A n c) n (sv l)) (h : ∀ p ∈ l, p.size = 32) (hn : n ≤ 1000) :
    Calls Tryz.prog 113 #[.slice A n c, .string ⟨#[]⟩] w fun e w' => e = .returned (.string (joinB l)) ∧ Unch none_ w w' := by
  have hl : l.length = n := (srow_rds hr).len
  rcases Nat.eq_zero_or_pos n with h0 | h0
  · subst h0
    have : l = [] := List.eq_nil_of_length_eq_zero hl
    subst this
    exact (join_none_ok A c w).mono fun e w' ⟨he, hw⟩ => ⟨he, hw ▸ Unch.refl _ _⟩
  · obtain ⟨g, o, cap, cur, hv, hh, hnc, _⟩ := hr.form h0
    injection hv with h1 h2 h3
    subst h1; subst h3
    have := join_ok g o c l w (fun j x hx => hr.at rfl (sv_get hx)) (lt_of_heap hh) (by omega) (by omega) (by rw [joinL_len h]; omega)
    rw [hl] at this
    exact this
/-- A message's signature. -/
def ksigF (K : Nat → Int) (seed : ByteArray) (h u : Nat) (msg : ByteArray) : ByteArray := shortT u ++ joinB (wsignF K seed u (tagF K 6 [msg])) ++ joinB (pathF K (leavesF K seed (2 ^ h)) u h)
theorem pathR_ok (K : Nat → Int) (h : Nat) (hh : h ≤ 4) (A : Option Addr) (c : Nat) (l : List ByteArray) (i : Nat) (hi : i < 2 ^ h) (w : World) (hK : Kys K w) (hr : Row w 9 1 (.slice A (2 ^ h) c) (2 ^ h) (sv l)) (hp : ∀ p ∈ l, p.size = 32) :
    Calls Tryz.prog 112 #[.slice A (2 ^ h) c, .int .i64 (i : Int)] w fun e w' => ∃ v, e = .returned (.tuple #[v, .bool true]) ∧ SMid w w' v h (pathF K l i h) := by
  have hp2 : 0 < 2 ^ h := Nat.two_pow_pos h
  rcases hr.2 with ⟨_, h0⟩ | ⟨g, o, cap, cur, hv, hh2, hn, hcm, _⟩
  · omega
  injection hv with h1 h2 h3
  subst h1; subst h3
  exact path_ok K h hh g o c l i hi w hK hn hcm (srow_rds hr) hp
theorem kspent_ok (K : Nat → Int) (Z : Nat → Prop) (b : Nat) (seed : ByteArray) (h u : Nat) (hh : h ≤ 4) (hu : 2 ^ h ≤ u) (hu2 : u ≤ 100) (msg : ByteArray) (w : World) (H : KeyAt K Z w b seed h u) :
    Calls Tryz.prog 75 #[.pointer (some ⟨b, 0, none⟩), .string msg] w fun e w' => e = .returned (.tuple #[.string ⟨#[]⟩, .int .i64 5]) ∧ w = w' := by
  obtain ⟨dn, lv, hb, _⟩ := H.is
  have c1 : w.cell? ⟨b, 1, none⟩ = some (.int .i64 (h : Int)) := blk_cell hb (j := 1) rfl
  have c2 : w.cell? ⟨b, 2, none⟩ = some (.int .i32 (u : Int)) := blk_cell hb (j := 2) rfl
  have h16 : 2 ^ h ≤ 16 := Nat.pow_le_pow_right (n := 2) (by decide) hh
  obtain ⟨n, hn⟩ : ∃ n : Nat, 2 ^ h = n := ⟨_, rfl⟩
  have hP : (2 : Int) ^ h = (n : Int) := by rw [← hn]; push_cast; rfl
  rw [hn] at h16 hu
  clear hn hb H
  have n0 : (0 : Int) ≤ (n : Int) := by omega
  have n1 : (n : Int) ≤ 16 := by omega
  have y0 : (0 : Int) ≤ (h : Int) := by omega
  have y1 : (h : Int) ≤ 4 := by omega
  have u0 : (0 : Int) ≤ (u : Int) := by omega
  have u1 : (n : Int) ≤ (u : Int) := by omega
  have u2 : (u : Int) ≤ 100 := by omega
  have hld := fun W (h : w = W) => i32Load_ok b 2 (u : Int) W (by rw [← h]; exact c2)
  have d1 : decide ((u : Int) < (n : Int)) = false := decide_eq_false (by omega)
  go_enter Tryz.func75, Tryz.ntmps75
  go_wp2_with (go_at_call 108; refine (hld _ rfl).mono ?_; rintro _ w1 ⟨rfl, rfl⟩)
  go_loopg [6] 0 (fun gk v wr => v = .int .i32 (u : Int) ∧ w1 = wr)
  case atStart => exact ⟨rfl, rfl⟩
  case round =>
    obtain ⟨rfl, rfl⟩ := hrel
    go_wp2_with fail
    refine bodyPost_ret (results_tmp2 rfl _ _ _) rfl ⟨rfl, rfl⟩
set_option maxHeartbeats 1000000 in
theorem ksign_ok (K : Nat → Int) (Z : Nat → Prop) (b : Nat) (seed : ByteArray) (hs : seed.size ≤ 1000000) (h u : Nat) (hh : h ≤ 4) (hu : u < 2 ^ h) (msg : ByteArray) (hm : msg.size ≤ 1000000000) (w : World) (hK : Kys K w) (hk0 : b ≠ 0) (hZ : ∀ g, Z g → g < w.heap.size) (H : KeyAt K Z w b seed h u) :
    Calls Tryz.prog 75 #[.pointer (some ⟨b, 0, none⟩), .string msg] w fun e w' => e = .returned (.tuple #[.string (ksigF K seed h u msg), .int .i64 0]) ∧ KeyAt K Z w' b seed h (u + 1) ∧ Unch (fun k => k = b) w w' := by
  obtain ⟨dn, lv, hb, hc⟩ := H.is
  have hte : (104 : TypeId) ≠ 9 := by decide
  have c1 : w.cell? ⟨b, 1, none⟩ = some (.int .i64 (h : Int)) := blk_cell hb (j := 1) rfl
  have c2 : w.cell? ⟨b, 2, none⟩ = some (.int .i32 (u : Int)) := blk_cell hb (j := 2) rfl
  have h16 : 2 ^ h ≤ 16 := Nat.pow_le_pow_right (n := 2) (by decide) hh
  have hu1 : Unch (fun k => k = b) w (w.setCell ⟨b, 2, none⟩ (.int .i32 ((u + 1 : Nat) : Int))) := (Unch.refl (fun k => k = b) w).setCell (p := ⟨b, 2, none⟩) _ (fun _ => rfl)
  have hb1 : (w.setCell ⟨b, 2, none⟩ (.int .i32 ((u + 1 : Nat) : Int))).heap[b]? = some (.cells (kcells seed h (u + 1) dn 0 lv) 104 (0, 0)) := blk_set hb 2 _
  have H1 : KeyAt K Z (w.setCell ⟨b, 2, none⟩ (.int .i32 ((u + 1 : Nat) : Int))) b seed h (u + 1) := ⟨dn, lv, hb1, hc.imp (fun h => h) (fun ⟨e1, e2, e3⟩ => ⟨e1, row_other e2 hb hte hu1, e3⟩)⟩
  have hld := fun W (h : w = W) => i32Load_ok b 2 (u : Int) W (by rw [← h]; exact c2)
  have hcas := i32Cas_ok b 2 (u : Int) ((u + 1 : Nat) : Int) w c2 (blk_free hb 2)
  rw [show (((u + 1 : Nat) : Int)) = (u : Int) + 1 by omega] at hcas hu1 H1
  have HCAS := Lib.hid hcas
  generalize hw1 : w.setCell ⟨b, 2, none⟩ (.int .i32 ((u : Int) + 1)) = w1 at *
  have hK1 := hK.unch hu1 (fun h => hk0 h.symm)
  have HH1 := Lib.hid H1
  have HU1 := Lib.hid hu1
  have hl := leavesF_len K seed (2 ^ h)
  have hos := octShort_ok u (by omega)
  rw [show (⟨(numB 2 u).toArray⟩ : ByteArray) = shortT u from rfl] at hos
  have hss := shortT_size u
  have htg := fun (W : World) (hu : Unch none_ w1 W) => tag1_ok K 6 (by omega) msg (by omega) W (hK1.unch hu (fun h => h)) _ rfl
  have hts := tagF_size K 6 [msg]
  have hws := fun (W : World) (hu : Unch none_ w1 W) => wsign_ok K seed hs u (by omega) (tagF K 6 [msg]) hts W (hK1.unch hu (fun h => h))
  have htr := fun (W : World) (hu : Unch none_ w1 W) => tree_ok K Z b seed hs h (u + 1) hh W (hK1.unch hu (fun h => h)) hk0 (fun g hg => Nat.lt_of_lt_of_le (hZ g hg) (Nat.le_trans hu1.size hu.size)) (H1.unch hu)
  have hpa := fun (A : Option Addr) (c : Nat) (W : World) (hK : Kys K W) (hr : Row W 9 1 (.slice A (2 ^ h) c) (2 ^ h) (sv (leavesF K seed (2 ^ h)))) => pathR_ok K h hh A c (leavesF K seed (2 ^ h)) u hu W hK hr leavesF_32
  have hw32 : ∀ p ∈ wsignF K seed u (tagF K 6 [msg]), p.size = 32 := valuesF_32
  have hp32 := pathF_32 (K := K) (l := leavesF K seed (2 ^ h)) hh hu hl leavesF_32
  have hj1 := joinB_size hw32
  have hj2 := joinB_size hp32
  rw [show (wsignF K seed u (tagF K 6 [msg])).length = 67 from valuesF_len ..] at hj1
  rw [pathF_len] at hj2
  have hres : ksigF K seed h u msg = shortT u ++ joinB (wsignF K seed u (tagF K 6 [msg])) ++ joinB (pathF K (leavesF K seed (2 ^ h)) u h) := rfl
  have hjw := fun (A : Option Addr) (c : Nat) (W : World) (hr : Row W 9 1 (.slice A 67 c) 67 (sv (wsignF K seed u (tagF K 6 [msg])))) => joinRow_ok A 67 c _ W hr hw32 (by omega)
  have hjp := fun (A : Option Addr) (c : Nat) (W : World) (hr : Row W 9 1 (.slice A h c) h (sv (pathF K (leavesF K seed (2 ^ h)) u h))) => joinRow_ok A h c _ W hr hp32 (by omega)
  have HRES := Lib.hid hres
  clear hres hw32 hp32 hl hts
  generalize tagF K 6 [msg] = dg at *
  generalize wsignF K seed u dg = wl at *
  generalize pathF K (leavesF K seed (2 ^ h)) u h = pl at *
  generalize ksigF K seed h u msg = res at *
  generalize joinB wl = jw at *
  generalize joinB pl = jp at *
  generalize leavesF K seed (2 ^ h) = ll at *
  generalize shortT u = tu at *
  have hP : (2 : Int) ^ h = ((2 ^ h : Nat) : Int) := by push_cast; rfl
  generalize hN : 2 ^ h = n at *
  have HN := Lib.hid hN
  clear hN hb hc H
  have n0 : (0 : Int) ≤ (n : Int) := by omega
  have n1 : (n : Int) ≤ 16 := by omega
  have y0 : (0 : Int) ≤ (h : Int) := by omega
  have y1 : (h : Int) ≤ 4 := by omega
  have v0 : (0 : Int) ≤ (u : Int) := by omega
  have v1 : (u : Int) < (n : Int) := by omega
  have d1 : decide ((u : Int) < (n : Int)) = true := decide_eq_true (by omega)
  have d2 : decide ((n : Int) ≤ (u : Int)) = false := decide_eq_false (by omega)
  go_enter Tryz.func75, Tryz.ntmps75
  go_wp2_with (go_at_call 108; refine (hld _ rfl).mono ?_; rintro _ w2 ⟨rfl, rfl⟩)
  have HW1 := Lib.hid hw1
  have c1w : w1.cell? ⟨b, 1, none⟩ = some (.int .i64 (h : Int)) := by
    obtain ⟨dn, lv, hb, _⟩ := H1.is
    exact blk_cell hb (j := 1) rfl
  clear hw1 hu1 hcas hb1 H1 hld
  go_loopg [6] 0 (fun gk v wr => v = .int .i32 (u : Int) ∧ w2 = wr)
  case atStart => exact ⟨rfl, rfl⟩
  case round =>
    obtain ⟨rfl, rfl⟩ := hrel
    go_wp2_with (first
      | (go_at_call 109; refine HCAS.out.mono ?_; rintro _ w3 ⟨rfl, hw3⟩; rw [hw3]; clear hw3)
      | (go_at_call 110; refine (hos _).mono ?_; rintro _ w4 ⟨rfl, hu4⟩))
    have cs : ∀ W, Unch none_ w1 W → W.cell? ⟨b, 0, none⟩ = some (.string seed) := fun W hu => by
      obtain ⟨dn, lv, hb, _⟩ := (HH1.out.unch hu).is
      exact blk_cell hb (j := 0) rfl
    refine wp_planS2 (fun W => Unch none_ w4 W) [0, 1, 2, 3, 4, 5, 6] [7, 8, 9] [10, 11, 12, 13, 14] 2 (by kernel_rfl) (by kernel_rfl) rfl rfl rfl (fun c a d v w h => by cases d <;> exact h) ((Unch.refl _ _).drew) ?_
    intro S HS _
    have f0 : ∀ G2 : In S, G2.w.cell? ⟨b, 0, none⟩ = some (.string seed) := fun G2 => cs _ (hu4.trans ((HS.out _).1 G2.h))
    simp only [pickIn, List.getElem?_toArray, List.getElem?_cons_succ, List.getElem?_cons_zero]
    repeat (go_big_quiet_step (fail))
    refine wpQuiet_nil ?_
    clear f0
    have hd4 : Unch none_ w4 w4.drew := (Unch.refl _ _).drew
    generalize w4.drew = w5 at *
    have htg5 := htg w5 (hu4.trans hd4)
    have hda : Unch none_ w4 (w5.alloc (.cells #[.string msg] 9)) := hd4.alloc _
    refine tail_step ?_
    go_wp2_with fail
    refine tail_midS ((HS.out _).2 hda) (tail_step ?_)
    go_wp2_with (go_at_call 47; refine htg5.mono ?_; rintro _ w6 ⟨rfl, hu6⟩)
    refine tail_midS ((HS.out _).2 (hd4.trans hu6)) (tail_all ?_)
    have hu46 := hu4.trans (hd4.trans hu6)
    go_wp2_with (go_at_call 111; refine (hws _ hu46).mono ?_; rintro _ w7 ⟨v7, rfl, hm7⟩; obtain ⟨A7, cc7, rfl, hcc7⟩ := hm7.row.slice)
    intro S2 HS2 _
    repeat (go_big_quiet_step (fail))
    refine wpQuiet_nil ?_
    have hu17 := hu46.trans hm7.hu
    have hr7 : ∀ W W', Unch (fun k => k = b) w7 W → Unch none_ W W' → Row W' 9 1 (.slice A7 67 cc7) 67 (sv wl) := fun W W' h1 h2 => by
      obtain ⟨dn, lv, hb, _⟩ := (HH1.out.unch hu17).is
      exact (row_other hm7.row hb hte h1).unch h2 (fun _ _ h => h)
    have hk8 : ∀ W, Unch (fun k => k = b) w7 W → Kys K W := fun W h1 => (hK1.unch hu17 (fun h => h)).unch h1 (fun h => hk0 h.symm)
    have b1 : ¬ 9223372036854775807 < tu.size + jw.size := by omega
    have b2 : ¬ 9223372036854775807 < (tu ++ jw).size + jp.size := by rw [ByteArray.size_append]; omega
    have b3 : ¬ 9223372036854775807 < tu.size + jw.size + jp.size := by omega
    have HM7 := Lib.hid hm7
    clear hm7 cs
    go_wp2_with (first
      | (go_at_call 43; refine (htr _ hu17).mono ?_; rintro _ w8 ⟨A8, cc8, rfl, H8, hr8, hu8⟩)
      | (go_at_call 112; refine (hpa A8 cc8 _ (hk8 _ hu8) hr8).mono ?_; rintro _ w9 ⟨v9, rfl, hm9⟩; obtain ⟨A9, cc9, rfl, hcc9⟩ := hm9.row.slice)
      | (go_at_call 113; (with_reducible refine (hjw A7 cc7 _ (hr7 _ _ hu8 hm9.hu)).mono ?_); rintro _ w10 ⟨rfl, hu10⟩)
      | (go_at_call 113; (with_reducible refine (hjp A9 cc9 _ (hm9.row.unch hu10 (fun _ _ h => h))).mono ?_); rintro _ w11 ⟨rfl, hu11⟩))
    have hX : ∀ W W', Unch none_ W W' → Unch (fun k => k = b) W W' := fun W W' h => h.mono (fun _ _ h => h.elim)
    refine bodyPost_ret (results_tmp2 rfl _ _ _) rfl ⟨by rw [HRES.out]; rfl, ((H8.unch hm9.hu).unch hu10).unch hu11, ?_⟩
    exact HU1.out.trans ((hX _ _ hu17).trans (hu8.trans (hX _ _ (hm9.hu.trans (hu10.trans hu11)))))
end Go.Proofs.YtgcpoppinnnciaaGreatDoor
