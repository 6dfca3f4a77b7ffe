/-
  sha: a block taken in.
-/
import Derived.Test.YtgcpoppinnnciaaGreatDoorCPlanQ
import Derived.Test.YtgcpoppinnnciaaGreatDoorCBase
import Derived.Deep.Cut
import Derived.Laws.Strings
/- sha: a block taken in. -/
set_option linter.unusedVariables false
set_option linter.unusedSimpArgs false
namespace Go.Proofs.YtgcpoppinnnciaaGreatDoor
open Go Go.RowKit Go.Proofs.YtgcpoppinnnciaaGreatDoor.Pal Go.Proofs.YtgcpoppinnnciaaGreatDoor.Plan

/-- A row of words. -/
def wcells (l : List Int) : Array Value := (l.map fun z => Value.int .u32 z).toArray
theorem wcells_at {l : List Int} {j : Nat} {z : Int} (h : l[j]? = some z) : (wcells l)[j]? = some (.int .u32 z) := by simp [wcells, h]
theorem wcells_set (l : List Int) (j : Nat) (z : Int) : (wcells l).setIfInBounds j (.int .u32 z) = wcells (l.set j z) := by
  apply Array.toList_inj.1
  simp [wcells, List.map_set]
def byteAt (p : ByteArray) (j : Nat) : Nat := if h : j < p.size then (p[j]'h).toNat else 0
theorem str_index (p : ByteArray) {j : Nat} {i : Int} (hi : i = (j : Int)) (hj : j < p.size) (W : World) : (Instr.index 9 (.string p) (.int .i64 i)).run Tryz.prog W = .ok (.int .u8 (byteAt p j : Int)) W := by
  subst hi
  rw [run_index_string W 9 p .i64 _ Tryz.underlying9, dif_pos ⟨by omega, by omega⟩]
  unfold byteAt
  rw [dif_pos hj]
  rfl
theorem inS_call {P : Program} {f : FuncId} {args : Array Value} {v : Value} {S : World → Prop} (h : ∀ W, Calls P f args W fun e w' => e = .returned v ∧ W = w') (G : In S) : Calls P f args G.w fun e w'' => e = .returned v ∧ ∃ g' : In S, w'' = g'.w := (h G.w).mono fun e w'' ⟨he, hw⟩ => ⟨he, G, hw.symm⟩
theorem uw_call {P : Program} {f : FuncId} {args : Array Value} {v : Value} {w : World} (h : ∀ W, Calls P f args W fun e w' => e = .returned v ∧ W = w') (G : UW w) : Calls P f args G.w' fun e w'' => e = .returned v ∧ ∃ g' : UW w, w'' = g'.w' := (h G.w').mono fun e w'' ⟨he, hw⟩ => ⟨he, G, hw.symm⟩
/-- The first words: the block's own. -/
def w0F (p : ByteArray) (k : Nat) : Int :=
  bits BinOp.or IntKind.u32 (bits BinOp.or IntKind.u32 (bits BinOp.or IntKind.u32 (↑(byteAt p (4 * k)) % 4294967296 * 16777216 % 4294967296) (↑(byteAt p (4 * k + 1)) % 4294967296 * 65536 % 4294967296))
    (↑(byteAt p (4 * k + 2)) % 4294967296 * 256 % 4294967296)) (↑(byteAt p (4 * k + 3)) % 4294967296)
def schA (p : ByteArray) : Nat → List Int
  | 0 => List.replicate 64 0
  | k + 1 => (schA p k).set k (w0F p k)
theorem schA_len (p : ByteArray) : ∀ k, (schA p k).length = 64
  | 0 => List.length_replicate
  | k + 1 => by rw [schA, List.length_set]; exact schA_len p k
/-- .. and what is worked out of them. -/
def w1F (a0 a1 a9 a14 : Int) : Int :=
  (a0 + a9 + bits BinOp.xor IntKind.u32 (bits BinOp.xor IntKind.u32 (rotR 7 a1) (rotR 18 a1)) (a1 / 8) + bits BinOp.xor IntKind.u32 (bits BinOp.xor IntKind.u32 (rotR 17 a14) (rotR 19 a14)) (a14 / 1024)) % 4294967296
def schB (p : ByteArray) : Nat → List Int
  | 0 => schA p 16
  | m + 1 => (schB p m).set (m + 16) (w1F ((schB p m).getD m 0) ((schB p m).getD (m + 1) 0) ((schB p m).getD (m + 9) 0) ((schB p m).getD (m + 14) 0))
theorem schB_len (p : ByteArray) : ∀ k, (schB p k).length = 64
  | 0 => schA_len p 16
  | k + 1 => by rw [schB, List.length_set]; exact schB_len p k
theorem get_some_getD {l : List Int} {n i : Nat} (hl : l.length = n) (hi : i < n) : l[i]? = some (l.getD i 0) := by
  subst hl
  rw [List.getD_eq_getElem?_getD, List.getElem?_eq_getElem hi]
  rfl
/-- A round. -/
def rndX (e f g k kc wc : Int) : Int :=
  (k + bits BinOp.xor IntKind.u32 (bits BinOp.xor IntKind.u32 (rotR 6 e) (rotR 11 e)) (rotR 25 e) + bits BinOp.xor IntKind.u32 (bits BinOp.and IntKind.u32 e f) (bits BinOp.and IntKind.u32 (bits BinOp.xor IntKind.u32 (if IntKind.u32.signed = true then -1 else IntKind.u32.max) e) g) + kc + wc) % 4294967296
def rndY (a b c : Int) : Int :=
  (bits BinOp.xor IntKind.u32 (bits BinOp.xor IntKind.u32 (rotR 2 a) (rotR 13 a)) (rotR 22 a) + bits BinOp.xor IntKind.u32 (bits BinOp.xor IntKind.u32 (bits BinOp.and IntKind.u32 a b) (bits BinOp.and IntKind.u32 a c)) (bits BinOp.and IntKind.u32 b c)) % 4294967296
def shaStepF (kc wc : Int) : List Int → List Int
  | [a, b, c, d, e, f, g, k] => [(rndX e f g k kc wc + rndY a b c) % 4294967296, a, b, c, (d + rndX e f g k kc wc) % 4294967296, e, f, g]
  | l => l
def rounds (K : Nat → Int) (wl : List Int) (hs : List Int) : Nat → List Int
  | 0 => hs
  | n + 1 => shaStepF (K n) (wl.getD n 0) (rounds K wl hs n)
def addF (hs rs : List Int) : Nat → List Int
  | 0 => hs
  | k + 1 => (addF hs rs k).set k ((hs.getD k 0 + rs.getD k 0) % 4294967296)
/-- A block taken in. -/
def blkF (K : Nat → Int) (p : ByteArray) (hs : List Int) : List Int := addF hs (rounds K (schB p 48) hs 64) 8
theorem addF_len (hs rs : List Int) : ∀ k, (addF hs rs k).length = hs.length
  | 0 => rfl
  | k + 1 => by rw [addF, List.length_set]; exact addF_len hs rs k
theorem addF_at (hs rs : List Int) {j : Nat} : ∀ k, k ≤ j → (addF hs rs k).getD j 0 = hs.getD j 0
  | 0, _ => rfl
  | k + 1, h => by
    rw [addF, List.getD_eq_getElem?_getD, List.getElem?_set_ne (by omega), ← List.getD_eq_getElem?_getD]
    exact addF_at hs rs k (by omega)
theorem agg_index {rs : List Int} (hl : rs.length = 8) {k : Nat} (hk : k < 8) (W : World) : (Instr.index 177 (.agg (wcells rs)) (.int .i64 (k : Int))).run Tryz.prog W = .ok (.int .u32 (rs.getD k 0)) W := by
  have hn : (0 : Int) ≤ (k : Int) ∧ (k : Int) < ((8 : Nat) : Int) := by omega
  have hz := wcells_at (get_some_getD hl hk)
  simp [Instr.index, run_underlying Tryz.underlying177, asIntOf, hn, go_sem]
  rw [if_pos hk, hz]
  rfl
abbrev RotC (a r : Int) (v : Int) : Prop := Hid (∀ W : World, Calls Tryz.prog 156 #[.int .u32 a, .int .i64 r] W fun e w' => e = .returned (.int .u32 v) ∧ W = w')
set_option maxRecDepth 100000 in
set_option maxHeartbeats 1000000 in
theorem block_ok (g : Nat) (hs : List Int) (p : ByteArray) (w : World) (hh : hs.length = 8) (hp : p.size = 64) (hg : w.heap[g]? = some (.cells (wcells hs) 178 (0, 0))) (K : Nat → Int) (hK : ∀ j, j < 64 → w.cell? ⟨0, j, none⟩ = some (.int .u32 (K j))) :
    Calls Tryz.prog 117 #[.pointer (some ⟨g, 0, none⟩), .string p] w fun e w' => e = .returned (.tuple #[]) ∧ Unch (fun k => k = g) w w' ∧ w'.heap[g]? = some (.cells (wcells (blkF K p hs)) 178 (0, 0)) := by
  go_enter Tryz.func117, Tryz.ntmps117
  go_wp2_with fail
  have hb := blk_new w (.cells (wcells (List.replicate 64 0)) 214)
  have hu : Unch none_ w (w.alloc (.cells (wcells (List.replicate 64 0)) 214)) := (Unch.refl none_ w).alloc _
  change Code.wp _ _ _ _ (w.alloc (.cells (wcells (List.replicate 64 0)) 214))
  generalize hgw : w.heap.size = gw at *
  generalize w.alloc (.cells (wcells (List.replicate 64 0)) 214) = w1 at *
  go_loopg [5, 22] 16 (fun gk _ i wr => ∃ (k : Nat), gk = 16 - k ∧ k ≤ 16 ∧ i = .int .i64 (k : Int) ∧ wr.heap[gw]? = some (.cells (wcells (schA p k)) 214 (0, 0)) ∧ Unch none_ w wr)
  case atStart => exact ⟨0, rfl, by omega, rfl, hb, hu⟩
  case round =>
    obtain ⟨k, rfl, hk, rfl, hb2, hu2⟩ := hrel
    obtain ⟨w2, rfl⟩ : ∃ w2, w2 = wr := ⟨_, rfl⟩
    by_cases hk16 : k < 16
    · have z0 : (0 : Int) ≤ (k : Int) := by omega
      have z1 : (k : Int) < 16 := by omega
      have z2 : (k : Int) < 64 := by omega
      have i0 := fun W => str_index p (j := 4 * k) (i := 4 * (k : Int)) (by omega) (by omega) W
      have i1 := fun W => str_index p (j := 4 * k + 1) (i := 4 * (k : Int) + 1) (by omega) (by omega) W
      have i2 := fun W => str_index p (j := 4 * k + 2) (i := 4 * (k : Int) + 2) (by omega) (by omega) W
      have i3 := fun W => str_index p (j := 4 * k + 3) (i := 4 * (k : Int) + 3) (by omega) (by omega) W
      obtain ⟨z, hz⟩ := get_some (n := 64) (schA_len p k) (i := k) (by omega)
      have x0 := blk_cell hb2 (wcells_at hz)
      have q0 := blk_free hb2 k
      have HB2 := Lib.hid hb2
      have HU2 := Lib.hid hu2
      clear hb2 hu2
      go_wp2_with fail
      refine wp_planC (fun W => Unch none_ w2 W) [0, 1, 2, 3, 4, 5, 6, 7, 8, 9, 10, 11, 12, 13, 14, 15, 16, 17, 18, 19, 20, 21, 22, 23, 24, 25, 26, 27, 28, 29, 30] [31] 0 (by kernel_rfl) (by kernel_rfl) rfl rfl (fun c a d v w h => by cases d <;> exact h) ((Unch.refl _ _).drew) ?_
      intro S HS _
      simp only [pickIn, List.getElem?_toArray, List.getElem?_cons_succ, List.getElem?_cons_zero]
      repeat (go_big_quiet_step (fail))
      refine wpQuiet_nil ?_
      have hdr : Unch none_ w2 w2.drew := (Unch.refl none_ w2).drew
      have x0d := hdr.cell x0 (fun h => h)
      have q0d := hdr.frozen (a := ⟨gw, k, none⟩) (lt_of_heap HB2.out) q0 (fun h => h)
      have hbd := hdr.heap HB2.out (fun h => h)
      have hud := HU2.out.drew
      have HBD := Lib.hid hbd
      have HUD := Lib.hid hud
      have hgwl : w.heap.size ≤ gw := by omega
      clear x0 q0 hdr hbd hud i0 i1 i2 i3
      refine tail_all ?_
      generalize w2.drew = w3 at *
      go_wp2_with fail
      go_roundg (16 - (k + 1))
      case measure => omega
      case rel =>
        have hnx : ∀ Z : Int, (w3.setCell ⟨gw, k, none⟩ (.int .u32 Z)).heap[gw]? = some (.cells (wcells ((schA p k).set k Z)) 214 (0, 0)) := fun Z => by rw [← wcells_set]; exact blk_set HBD.out k _
        exact ⟨k + 1, rfl, by omega, by go_num, hnx _, HUD.out.setCell _ (fun h => by simp at h; omega)⟩
    · obtain rfl : k = 16 := by omega
      go_wp2_with fail
      go_loopg [6, 7, 8] 48 (fun gk i _ _ wr => ∃ (m : Nat), gk = 48 - m ∧ m ≤ 48 ∧ i = .int .i64 ((m : Int) + 16) ∧ wr.heap[gw]? = some (.cells (wcells (schB p m)) 214 (0, 0)) ∧ Unch none_ w wr)
      case atStart => exact ⟨0, rfl, by omega, rfl, hb2, hu2⟩
      case round =>
        clear hb2 hu2
        obtain ⟨m, rfl, hm1, rfl, hb2, hu2⟩ := hrel
        obtain ⟨w2, rfl⟩ : ∃ w2, w2 = wr := ⟨_, rfl⟩
        by_cases hk64 : m < 48
        · have z0 : (0 : Int) ≤ (m : Int) := by omega
          have z1 : (m : Int) + 16 < 64 := by omega
          have HL := schB_len p m
          have ha0 := get_some_getD HL (i := m) (by omega)
          have ha1 := get_some_getD HL (i := m + 1) (by omega)
          have ha9 := get_some_getD HL (i := m + 9) (by omega)
          have ha14 := get_some_getD HL (i := m + 14) (by omega)
          have ha16 := get_some_getD HL (i := m + 16) (by omega)
          have hZ : ∀ Z : Int, Z = w1F ((schB p m).getD m 0) ((schB p m).getD (m + 1) 0) ((schB p m).getD (m + 9) 0) ((schB p m).getD (m + 14) 0) → (schB p m).set (m + 16) Z = schB p (m + 1) := fun Z h => by rw [h]; rfl
          have HZ := Lib.hid hZ
          clear hZ
          generalize (schB p m).getD m 0 = a0 at *
          generalize (schB p m).getD (m + 1) 0 = a1 at *
          generalize (schB p m).getD (m + 9) 0 = a9 at *
          generalize (schB p m).getD (m + 14) 0 = a14 at *
          generalize (schB p m).getD (m + 16) 0 = a16 at *
          have x0 := cellU (blk_cell hb2 (wcells_at ha0))
          have x1 := cellU (blk_cell hb2 (wcells_at ha1))
          have x9 := cellU (blk_cell hb2 (wcells_at ha9))
          have x14 := cellU (blk_cell hb2 (wcells_at ha14))
          have HB2 := Lib.hid hb2
          have HU2 := Lib.hid hu2
          clear hb2 hu2
          go_wp2_with fail
          refine wp_region_quiet_u (by kernel_rfl) (by kernel_rfl) (fun _ => ?_)
          repeat (go_big_quiet_step (fail))
          refine wpQuiet_nil ?_
          intro wq hw'
          obtain ⟨⟨wqq, huq⟩, hw''⟩ := hw'
          subst hw''
          have hb3 := huq.heap HB2.out (fun h => h)
          have y0 := blk_cell hb3 (wcells_at ha0)
          have y9 := blk_cell hb3 (wcells_at ha9)
          have y16 := blk_cell hb3 (wcells_at ha16)
          have q16 := blk_free hb3 (m + 16)
          have HB3 := Lib.hid hb3
          have HU3 := Lib.hid (HU2.out.trans huq)
          clear hb3 x0 x1 x9 x14 huq
          have R1 : RotC a1 (-7) _ := Lib.hid (rot7_ok a1)
          have R2 : RotC a1 (-18) _ := Lib.hid (rot18_ok a1)
          have R3 : RotC a14 (-17) _ := Lib.hid (rot17_ok a14)
          have R4 : RotC a14 (-19) _ := Lib.hid (rot19_ok a14)
          go_wp2_with fail
          refine wp_planQ (fun W => Unch none_ wq W) [0, 1, 2, 3, 4, 5, 6, 7, 8, 9, 10, 11, 12, 13, 14, 15, 16, 17, 18, 19, 20, 21, 22, 23, 24, 25, 26, 27, 28] [29] (by kernel_rfl) (by kernel_rfl) rfl rfl ((Unch.refl _ _).drew) ?_
          intro S HS _
          have f0 : ∀ G2 : In S, G2.w.cell? ⟨gw, m, none⟩ = some (.int .u32 a0) := fun G2 => ((HS.out _).1 G2.h).cell y0 (fun h => h)
          have f9 : ∀ G2 : In S, G2.w.cell? ⟨gw, m + 9, none⟩ = some (.int .u32 a9) := fun G2 => ((HS.out _).1 G2.h).cell y9 (fun h => h)
          simp only [pickIn, List.getElem?_toArray, List.getElem?_cons_succ, List.getElem?_cons_zero]
          repeat (go_big_quiet_step (first | (with_reducible exact inS_call R1.out _) | (with_reducible exact inS_call R2.out _) | (with_reducible exact inS_call R3.out _) | (with_reducible exact inS_call R4.out _)))
          refine wpQuiet_nil ?_
          intro W hW
          obtain ⟨⟨W, hW⟩, rfl⟩ := hW
          replace hW := (HS.out _).1 hW
          have hbw := hW.heap HB3.out (fun h => h)
          have x16 := hW.cell y16 (fun h => h)
          have q16w := hW.frozen (a := ⟨gw, m + 16, none⟩) (lt_of_heap HB3.out) q16 (fun h => h)
          have HBW := Lib.hid hbw
          have HUW := Lib.hid (HU3.out.trans hW)
          have hgwl : w.heap.size ≤ gw := by omega
          clear hbw hW y16 q16
          go_wp2_with fail
          go_roundg (48 - (m + 1))
          case measure => omega
          case rel =>
            have hnx : ∀ Z : Int, (W.setCell ⟨gw, m + 16, none⟩ (.int .u32 Z)).heap[gw]? = some (.cells (wcells ((schB p m).set (m + 16) Z)) 214 (0, 0)) := fun Z => by rw [← wcells_set]; exact blk_set HBW.out _ _
            have hnx' := hnx (w1F a0 a1 a9 a14)
            rw [HZ.out _ rfl] at hnx'
            exact ⟨m + 1, rfl, by omega, by go_num, hnx', HUW.out.setCell _ (fun h => by simp at h; omega)⟩
        · obtain rfl : m = 48 := by omega
          have hL := schB_len p 48
          generalize hwl : schB p 48 = wl at *
          have HWL := Lib.hid hwl
          clear hwl
          obtain ⟨b0, b1, b2, b3, b4, b5, b6, b7, hbs⟩ : ∃ a b c d e f g h, hs = [a, b, c, d, e, f, g, h] := by
            match hs, hh with
            | [a, b, c, d, e, f, g, h], _ => exact ⟨a, b, c, d, e, f, g, h, rfl⟩
          have hg2 := hu2.heap hg (fun h => h)
          have c0 := cellU (blk_cell hg2 (wcells_at (j := 0) (z := b0) (by rw [hbs]; rfl)))
          have c1 := cellU (blk_cell hg2 (wcells_at (j := 1) (z := b1) (by rw [hbs]; rfl)))
          have c2 := cellU (blk_cell hg2 (wcells_at (j := 2) (z := b2) (by rw [hbs]; rfl)))
          have c3 := cellU (blk_cell hg2 (wcells_at (j := 3) (z := b3) (by rw [hbs]; rfl)))
          have c4 := cellU (blk_cell hg2 (wcells_at (j := 4) (z := b4) (by rw [hbs]; rfl)))
          have c5 := cellU (blk_cell hg2 (wcells_at (j := 5) (z := b5) (by rw [hbs]; rfl)))
          have c6 := cellU (blk_cell hg2 (wcells_at (j := 6) (z := b6) (by rw [hbs]; rfl)))
          have c7 := cellU (blk_cell hg2 (wcells_at (j := 7) (z := b7) (by rw [hbs]; rfl)))
          have HB2 := Lib.hid hb2
          have HU2 := Lib.hid hu2
          have HG := Lib.hid hg
          have HK := Lib.hid hK
          have HBS := Lib.hid hbs
          clear hb2 hu2 hg2 hg hK hbs hu hb hk hk16 hk64 hm1
          go_wp2_with fail
          refine wp_region_quiet_u (by kernel_rfl) (by kernel_rfl) (fun _ => ?_)
          repeat (go_big_quiet_step (fail))
          refine wpQuiet_nil ?_
          intro wq hw'
          obtain ⟨⟨wqq, huq⟩, hw''⟩ := hw'
          subst hw''
          have hb3 := huq.heap HB2.out (fun h => h)
          have hu3 := HU2.out.trans huq
          have HU3 := Lib.hid hu3
          have HB3 := Lib.hid hb3
          clear c0 c1 c2 c3 c4 c5 c6 c7 huq hb3 hu3 HB2 HU2
          go_wp2_with fail
          go_loopg [9, 10, 11, 12, 13, 14, 15, 16, 17, 18, 19, 130] 64 (fun gk sa sb sc sd se sf sg sk _ _ _ i wr => ∃ (n : Nat) (a b c d e f g k : Int), gk = 64 - n ∧ n ≤ 64 ∧ i = .int .i64 (n : Int) ∧ sa = .int .u32 a ∧ sb = .int .u32 b ∧ sc = .int .u32 c ∧ sd = .int .u32 d ∧ se = .int .u32 e ∧ sf = .int .u32 f ∧ sg = .int .u32 g ∧ sk = .int .u32 k ∧ rounds K wl hs n = [a, b, c, d, e, f, g, k] ∧ Unch none_ wq wr)
          case atStart => exact ⟨0, b0, b1, b2, b3, b4, b5, b6, b7, rfl, by omega, rfl, rfl, rfl, rfl, rfl, rfl, rfl, rfl, rfl, HBS.out, Unch.refl _ _⟩
          case round =>
            obtain ⟨n, a, b, c, d, e, f, g', k, rfl, hn, rfl, rfl, rfl, rfl, rfl, rfl, rfl, rfl, rfl, hr, hu4⟩ := hrel
            obtain ⟨w4, rfl⟩ : ∃ w4, w4 = wr := ⟨_, rfl⟩
            have HR := Lib.hid hr
            by_cases hn64 : n < 64
            · have z0 : (0 : Int) ≤ (n : Int) := by omega
              have z1 : (n : Int) < 64 := by omega
              have x0 := cellU ((HU3.out.trans hu4).cell (HK.out n hn64) (fun h => h))
              have x1 := cellU (blk_cell (hu4.heap HB3.out (fun h => h)) (wcells_at (get_some_getD hL hn64)))
              obtain ⟨kc, hkc⟩ : ∃ z, K n = z := ⟨_, rfl⟩
              obtain ⟨wc, hwc⟩ : ∃ z, wl.getD n 0 = z := ⟨_, rfl⟩
              rw [hkc] at x0
              rw [hwc] at x1
              have HKC := Lib.hid hkc
              have HWC := Lib.hid hwc
              clear hkc hwc
              have R1 : RotC e (-6) _ := Lib.hid (rot6_ok e)
              have R2 : RotC e (-11) _ := Lib.hid (rot11_ok e)
              have R3 : RotC e (-25) _ := Lib.hid (rot25_ok e)
              have R4 : RotC a (-2) _ := Lib.hid (rot2_ok a)
              have R5 : RotC a (-13) _ := Lib.hid (rot13_ok a)
              have R6 : RotC a (-22) _ := Lib.hid (rot22_ok a)
              have HU4 := Lib.hid hu4
              clear hu4 hr
              go_wp2_with fail
              refine wp_region_quiet_u (by kernel_rfl) (by kernel_rfl) (fun _ => ?_)
              repeat (go_big_quiet_step ((with_reducible first | exact uw_call R1.out _ | exact uw_call R2.out _ | exact uw_call R3.out _)))
              refine wpQuiet_nil ?_
              intro wq hw'
              obtain ⟨⟨wqq, huq⟩, hw''⟩ := hw'
              subst hw''
              have HQ := Lib.hid huq
              clear x0 x1 huq
              go_simp
              rw [show (k + bits BinOp.xor IntKind.u32 (bits BinOp.xor IntKind.u32 (rotR 6 e) (rotR 11 e)) (rotR 25 e) + bits BinOp.xor IntKind.u32 (bits BinOp.and IntKind.u32 e f) (bits BinOp.and IntKind.u32 (bits BinOp.xor IntKind.u32 (if IntKind.u32.signed = true then -1 else IntKind.u32.max) e) g') + kc + wc) % 4294967296 = rndX e f g' k kc wc from rfl]
              generalize hX : rndX e f g' k kc wc = X at *
              have HX := Lib.hid hX
              clear hX
              repeat (first | go_values | go_skip | go_guarded | go_step | go_upon)
              refine (R4.out _).mono ?_
              rintro _ _ ⟨rfl, rfl⟩
              go_simp
              repeat (first | go_values | go_skip | go_guarded | go_step | go_upon)
              refine (R5.out _).mono ?_
              rintro _ _ ⟨rfl, rfl⟩
              go_simp
              repeat (first | go_values | go_skip | go_guarded | go_step | go_upon)
              refine (R6.out _).mono ?_
              rintro _ _ ⟨rfl, rfl⟩
              go_simp
              repeat (first | go_values | go_skip | go_guarded | go_step | go_upon)
              go_roundg (64 - (n + 1))
              case measure => omega
              case rel =>
                have hr' : rounds K wl hs (n + 1) = [(X + rndY a b c) % 4294967296, a, b, c, (d + X) % 4294967296, e, f, g'] := by
                  rw [rounds, HR.out, HKC.out, HWC.out, ← HX.out]
                  rfl
                exact ⟨n + 1, _, _, _, _, _, _, _, _, rfl, by omega, by go_num, rfl, rfl, rfl, rfl, rfl, rfl, rfl, rfl, hr', HU4.out.trans HQ.out⟩
            · obtain rfl : n = 64 := by omega
              have HU4 := Lib.hid hu4
              clear hu4 hr
              generalize hrs : ([a, b, c, d, e, f, g', k] : List Int) = rs at HR
              have hrl : rs.length = 8 := by rw [← hrs]; rfl
              have hbd : #[Value.int .u32 a, .int .u32 b, .int .u32 c, .int .u32 d, .int .u32 e, .int .u32 f, .int .u32 g', .int .u32 k] = wcells rs := by rw [← hrs]; rfl
              have HRS := Lib.hid hrs
              clear hrs
              repeat (first | go_values | go_skip | go_guarded | go_step | go_upon)
              have hg4 := HU4.out.heap (HU3.out.heap HG.out (fun h => h)) (fun h => h)
              have hu5 : Unch (fun k => k = g) w w4 := (HU3.out.trans HU4.out).mono (fun _ _ h => h.elim)
              go_loopg [20, 21, 202] 8 (fun gk _ _ i wr => ∃ (k : Nat), gk = 8 - k ∧ k ≤ 8 ∧ i = .int .i64 (k : Int) ∧ wr.heap[g]? = some (.cells (wcells (addF hs rs k)) 178 (0, 0)) ∧ Unch (fun k => k = g) w wr)
              case atStart => exact ⟨0, rfl, by omega, rfl, hg4, hu5⟩
              case round =>
                clear hg4 hu5
                obtain ⟨k2, rfl, hk, rfl, hb2, hu2⟩ := hrel
                obtain ⟨w5, rfl⟩ : ∃ w5, w5 = wr := ⟨_, rfl⟩
                have HB2 := Lib.hid hb2
                have HU2 := Lib.hid hu2
                by_cases hk8 : k2 < 8
                · have z0 : (0 : Int) ≤ (k2 : Int) := by omega
                  have z1 : (k2 : Int) < 8 := by omega
                  have ai := agg_index hrl hk8
                  have hlen : (addF hs rs k2).length = 8 := by rw [addF_len]; exact hh
                  have hat := get_some_getD hlen hk8
                  rw [addF_at hs rs k2 (Nat.le_refl _)] at hat
                  have x0 := blk_cell hb2 (wcells_at hat)
                  have q0 := blk_free hb2 k2
                  have HZ : Hid (∀ Z : Int, Z = (hs.getD k2 0 + rs.getD k2 0) % 4294967296 → (addF hs rs k2).set k2 Z = addF hs rs (k2 + 1)) := fun Z h => by rw [h]; rfl
                  generalize hs.getD k2 0 = hv at *
                  generalize rs.getD k2 0 = rv at *
                  clear hb2 hu2 hat
                  go_wp2_with fail
                  refine wp_planQ (fun W => Unch none_ w5 W) [0, 1, 2, 3, 4, 5, 6, 7, 8] [9] (by kernel_rfl) (by kernel_rfl) rfl rfl ((Unch.refl _ _).drew) ?_
                  intro S HS _
                  have f0 : ∀ G2 : In S, G2.w.cell? ⟨g, k2, none⟩ = some (.int .u32 hv) := fun G2 => ((HS.out _).1 G2.h).cell x0 (fun h => h)
                  simp only [pickIn, List.getElem?_toArray, List.getElem?_cons_succ, List.getElem?_cons_zero]
                  repeat (go_big_quiet_step (fail))
                  refine wpQuiet_nil ?_
                  intro W hW
                  obtain ⟨⟨W, hW⟩, rfl⟩ := hW
                  replace hW := (HS.out _).1 hW
                  have hbw := hW.heap HB2.out (fun h => h)
                  have xw := hW.cell x0 (fun h => h)
                  have qw := hW.frozen (a := ⟨g, k2, none⟩) (lt_of_heap HB2.out) q0 (fun h => h)
                  have HBW := Lib.hid hbw
                  have HUW := Lib.hid (HU2.out.trans (hW.mono (fun _ _ h => h.elim)))
                  clear hbw hW x0 q0 f0 ai hbd
                  go_wp2_with fail
                  go_roundg (8 - (k2 + 1))
                  case measure => omega
                  case rel =>
                    have hnx : ∀ Z : Int, (W.setCell ⟨g, k2, none⟩ (.int .u32 Z)).heap[g]? = some (.cells (wcells ((addF hs rs k2).set k2 Z)) 178 (0, 0)) := fun Z => by rw [← wcells_set]; exact blk_set HBW.out _ _
                    have hnx' := hnx ((hv + rv) % 4294967296)
                    rw [HZ.out _ rfl] at hnx'
                    exact ⟨k2 + 1, rfl, by omega, by go_num, hnx', HUW.out.setCell _ (fun _ => rfl)⟩
                · obtain rfl : k2 = 8 := by omega
                  go_wp2_with fail
                  refine bodyPost_end (results_none rfl _ _ _) rfl ⟨rfl, hu2, ?_⟩
                  rw [blkF, HWL.out, HR.out]
                  exact hb2
end Go.Proofs.YtgcpoppinnnciaaGreatDoor
