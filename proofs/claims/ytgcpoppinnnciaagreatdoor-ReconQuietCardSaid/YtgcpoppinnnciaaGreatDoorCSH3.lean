/-
  sha: the digest of bytes.
  strings.Builder and strings.Join, out of the shelf, in plain words.
  sha: a tag and texts as bytes; their digest.
-/
import Derived.Test.YtgcpoppinnnciaaGreatDoorCSH2
import Derived.Lib.BufferWrite
import Derived.Laws.BytesArg
import Derived.Test.YtgcpoppinnnciaaGreatDoorCLay
import Derived.Test.YtgcpoppinnnciaaGreatDoorCPlanQ
import Derived.Test.YtgcpoppinnnciaaGreatDoorCMRd
/- sha: the digest of bytes. -/
set_option linter.unusedVariables false
set_option linter.unusedSimpArgs false
namespace Go.Proofs.YtgcpoppinnnciaaGreatDoor
open Go Go.RowKit Go.Proofs.YtgcpoppinnnciaaGreatDoor.Pal Go.Proofs.YtgcpoppinnnciaaGreatDoor.Plan

def beginL : List Int := [1779033703, 3144134277, 1013904242, 2773480762, 1359893119, 2600822924, 528734635, 1541459225]
/-- All whole blocks taken in: the state, and what is left. -/
def sumLoop (K : Nat → Int) : Nat → ByteArray → List Int → List Int × ByteArray
  | 0, x, st => (st, x)
  | n + 1, x, st => if 64 ≤ x.size then sumLoop K n (x.extract 64 x.size) (blkF K (x.extract 0 64) st) else (st, x)
theorem sumLoop_end (K : Nat → Int) {x : ByteArray} (h : x.size < 64) (st : List Int) : ∀ n, sumLoop K n x st = (st, x)
  | 0 => rfl
  | n + 1 => by rw [sumLoop, if_neg (by omega)]
/-- The tables of a digest lie there. -/
def Kys (K : Nat → Int) (w : World) : Prop := ∀ j, j < 64 → w.cell? ⟨0, j, none⟩ = some (.int .u32 (K j))
theorem Kys.unch {K : Nat → Int} {X : Nat → Prop} {w w' : World} (h : Kys K w) (hu : Unch X w w') (hX : ¬ X 0) : Kys K w' := fun j hj => hu.cell (h j hj) hX
theorem Kys.pos {K : Nat → Int} {w : World} (h : Kys K w) : 0 < w.heap.size := World.block_lt_of_cell? _ _ (h 0 (by omega))
theorem str_full {x : ByteArray} (h : 0 < x.size) : x.toList.isEmpty = false := by
  rw [ByteArray.toList_eq]
  have h1 := Lib.size_eq x
  cases hl : x.data.toList with
  | nil => rw [hl, List.length_nil] at h1; omega
  | cons a l => rfl
theorem str_none {x : ByteArray} (h : x.size = 0) : x.toList.isEmpty = true := by
  rw [ByteArray.toList_eq]
  have h1 := Lib.size_eq x
  cases hl : x.data.toList with
  | nil => rfl
  | cons a l => rw [hl, List.length_cons] at h1; omega
/-- A row of bytes. -/
def ucells (l : List Int) : Array Value := (l.map fun z => Value.int .u8 z).toArray
theorem ucells_at {l : List Int} {j : Nat} {z : Int} (h : l[j]? = some z) : (ucells l)[j]? = some (.int .u8 z) := by simp [ucells, h]
theorem ucells_set (l : List Int) (j : Nat) (z : Int) : (ucells l).setIfInBounds j (.int .u8 z) = ucells (l.set j z) := by
  apply Array.toList_inj.1
  simp [ucells, List.map_set]
/-- The last blocks: the rest, a one, zeros, the length. -/
def lastA (x : ByteArray) : List Int := x.data.toList.map (fun b => (b.toNat : Int)) ++ List.replicate (128 - x.size) 0
theorem lastA_len {x : ByteArray} (h : x.size < 64) : (lastA x).length = 128 := by
  have := Lib.size_eq x
  simp [lastA]
  omega
def szF (x : ByteArray) : Nat := if 56 ≤ x.size then 128 else 64
def lastZ (n : Nat) (k : Nat) : Int := (n : Int) * 8 / 2 ^ (8 * k) % 256
def lastC (n : Nat) (x : ByteArray) : Nat → List Int
  | 0 => (lastA x).set x.size 128
  | k + 1 => (lastC n x k).set (szF x - 1 - k) (lastZ n k)
theorem lastC_len {n : Nat} {x : ByteArray} (h : x.size < 64) : ∀ k, (lastC n x k).length = 128
  | 0 => by rw [lastC, List.length_set]; exact lastA_len h
  | k + 1 => by rw [lastC, List.length_set]; exact lastC_len h k
def lastT (n : Nat) (x : ByteArray) : ByteArray := strOfNums ((lastC n x 8).take (szF x))
theorem lastT_size {n : Nat} {x : ByteArray} (h : x.size < 64) : (lastT n x).size = szF x := by
  have h1 := lastC_len (n := n) h 8
  have h2 : szF x ≤ 128 := by unfold szF; split <;> omega
  have h3 : ∀ l : List Int, (strOfNums l).size = l.length := fun l => by simp [strOfNums, ByteArray.size]
  rw [lastT, h3, List.length_take]
  omega
/-- The digest's bytes. -/
def outZ (h : Int) (k : Nat) : Int := h / 2 ^ (24 - 8 * (k % 4)) % 256
def outC (h : List Int) : Nat → List Int
  | 0 => List.replicate 32 0
  | k + 1 => (outC h k).set k (outZ (h.getD (k / 4) 0) k)
theorem outC_len (h : List Int) : ∀ k, (outC h k).length = 32
  | 0 => List.length_replicate
  | k + 1 => by rw [outC, List.length_set]; exact outC_len h k
def outT (h : List Int) : ByteArray := strOfNums (outC h 32)
/-- The digest of bytes. -/
def sumF (K : Nat → Int) (s : ByteArray) : ByteArray :=
  outT (sumLoop K 2 (lastT s.size (sumLoop K s.size s beginL).2) (sumLoop K s.size s beginL).1).1
theorem sumF_size (K : Nat → Int) (s : ByteArray) : (sumF K s).size = 32 := by
  have h3 : ∀ l : List Int, (strOfNums l).size = l.length := fun l => by simp [strOfNums, ByteArray.size]
  rw [sumF, outT, h3, outC_len]
theorem copy_last (w : World) (x : ByteArray) (h : x.size < 64) :
    (Builtin.copy_ #[39, 9] 3 #[.slice (some ⟨w.heap.size, 0, none⟩) 128 128, .string x]).run Tryz.prog (w.alloc (.cells (ucells (List.replicate 128 0)) 181)) =
      .ok (goInt x.size) ((w.alloc (.cells (ucells (List.replicate 128 0)) 181)).setRow w.heap.size (ucells (lastA x))) := by
  rw [Lib.run_copy_row_string _ 39 9 3 5 w.heap.size 0 128 128 x (ucells (List.replicate 128 0)) 181 Tryz.underlying39 (by kernel_rfl) (blk_new w _) (by omega) (by simp [ucells]; omega)]
  have := Lib.size_eq x
  have e : List.drop (0 + x.size) (ucells (List.replicate 128 0)).toList = List.replicate (128 - x.size) (.int .u8 0) := by
    unfold ucells
    rw [List.map_replicate, Nat.zero_add]
    exact List.drop_replicate ..
  rw [e]
  congr 2
  simp [ucells, lastA, Lib.byteCells]
set_option maxRecDepth 100000 in
set_option maxHeartbeats 1000000 in
theorem sum_ok (K : Nat → Int) (s : ByteArray) (w : World) (hs : s.size ≤ 281474976710656) (hK : Kys K w) :
    Calls Tryz.prog 79 #[.string s] w fun e w' => e = .returned (.string (sumF K s)) ∧ Unch none_ w w' := by
  obtain ⟨res, hres⟩ : ∃ r, sumF K s = r := ⟨_, rfl⟩
  rw [hres]
  have HRES := Lib.hid hres
  clear hres
  go_enter Tryz.func79, Tryz.ntmps79
  go_wp2_with (go_at_call 116; refine (begin_ok _).mono ?_; rintro _ w1 ⟨rfl, hu1⟩)
  have hb0 := blk_new w1 (.cells (wcells beginL) 178)
  change Code.wp _ _ _ _ (w1.alloc (.cells (wcells beginL) 178))
  have hu2 : Unch none_ w (w1.alloc (.cells (wcells beginL) 178)) := hu1.trans ((Unch.refl none_ _).alloc _)
  have hgt : w.heap.size ≤ w1.heap.size := hu1.size
  have hpos := hK.pos
  have hwl : w.heap.size < (w1.alloc (.cells (wcells beginL) 178)).heap.size := by simp; omega
  generalize w1.heap.size = g at *
  generalize w1.alloc (.cells (wcells beginL) 178) = w2 at *
  have hloop : ∃ R, sumLoop K s.size s beginL = R := ⟨_, rfl⟩
  obtain ⟨R, hR⟩ := hloop
  have HR0 := Lib.hid hR
  go_loopg [0] s.size (fun gk sx wr => ∃ (x : ByteArray) (st : List Int) (fuel : Nat), gk = x.size ∧ sx = .string x ∧ st.length = 8 ∧ sumLoop K fuel x st = R ∧ x.size ≤ 64 * fuel ∧ x.size ≤ s.size ∧ wr.heap[g]? = some (.cells (wcells st) 178 (0, 0)) ∧ Unch none_ w wr)
  case atStart => exact ⟨s, beginL, s.size, rfl, rfl, rfl, hR, by omega, by omega, hb0, hu2⟩
  case round =>
    clear hb0 hu2 hR
    obtain ⟨x, st, fuel, rfl, rfl, hst, hR, hf, hxs, hb2, hu2⟩ := hrel
    obtain ⟨w3, rfl⟩ : ∃ w3, w3 = wr := ⟨_, rfl⟩
    by_cases hx : 64 ≤ x.size
    · have z0 : (64 : Int) ≤ (x.size : Int) := by omega
      obtain ⟨fuel, rfl⟩ : ∃ f, fuel = f + 1 := ⟨fuel - 1, by omega⟩
      rw [sumLoop, if_pos hx] at hR
      have HR := Lib.hid hR
      clear hR
      have HF := Lib.hid hf
      have HXS := Lib.hid hxs
      clear hf hxs
      have hsz1 : (x.extract 0 64).size = 64 := by rw [ByteArray.size_extract]; omega
      have hsz2 : (x.extract 64 x.size).size = x.size - 64 := by rw [ByteArray.size_extract]; omega
      go_wp2_with (go_at_call 117; refine (block_ok g st (x.extract 0 64) w3 hst hsz1 hb2 K (fun j hj => hu2.cell (hK j hj) (fun h => h))).mono ?_; rintro _ w4 ⟨rfl, hu4, hb4⟩)
      go_roundg (x.size - 64)
      case measure => have := HF.out; omega
      case rel => exact ⟨x.extract 64 x.size, blkF K (x.extract 0 64) st, fuel, hsz2.symm, rfl, by rw [blkF, addF_len]; exact hst, HR.out, by rw [hsz2]; have := HF.out; omega, by rw [hsz2]; have := HXS.out; omega, hb4, hu2.step hu4 (fun i hi e => by subst e; omega)⟩
    · have z0 : (x.size : Int) < 64 := by omega
      rw [sumLoop_end K (by omega)] at hR
      have HR := Lib.hid hR
      clear hR hf hxs
      have hcp := copy_last w3 x (by omega)
      rw [show ucells (List.replicate 128 0) = Tryz.zeroCells181 from rfl] at hcp
      have hb3 : (w3.alloc (.cells (ucells (List.replicate 128 0)) 181)).heap[w3.heap.size]? = _ := blk_new w3 _
      obtain ⟨w4, hw4⟩ : ∃ W, W = (w3.alloc (.cells (ucells (List.replicate 128 0)) 181)).setRow w3.heap.size (ucells (lastA x)) := ⟨_, rfl⟩
      have hu4 : Unch none_ w3 w4 := by rw [hw4]; exact ((Unch.refl none_ w3).alloc _).setRow _ _ (fun h => absurd h (Nat.lt_irrefl _))
      have hb4 : w4.heap[w3.heap.size]? = some (.cells (ucells (lastA x)) 181 (0, 0)) := by rw [hw4]; exact setRow_heap _ _ _ _ _ _ hb3
      rw [show ucells (List.replicate 128 0) = Tryz.zeroCells181 from rfl] at hw4
      rw [← hw4] at hcp
      have hgl : g < w3.heap.size := lt_of_heap hb2
      clear hw4 hb3
      obtain ⟨gl, hgle⟩ : ∃ gl, w3.heap.size = gl := ⟨_, rfl⟩
      rw [hgle] at hb4 hgl
      have HGL := Lib.hid hgle
      clear hgle
      go_upto_if 27 with fail
      rw [HGL.out]
      clear hcp
      go_cut [6] from 16 (fun v6 wx => v6 = .int .i64 (szF x : Int) ∧ w4 = wx)
      case first =>
        by_cases h56 : 56 ≤ x.size
        · have z1 : (56 : Int) ≤ (x.size : Int) := by omega
          go_wp2_with fail
          go_meet
          case rel => exact ⟨by simp [szF, h56], rfl⟩
        · have z1 : (x.size : Int) < 56 := by omega
          go_wp2_with fail
          go_meet
          case rel => exact ⟨by simp [szF, h56], rfl⟩
      case rest =>
        obtain ⟨rfl, rfl⟩ := hcut
        have hlt : x.size < 64 := by omega
        have hL0 := lastA_len hlt
        have hS : szF x = 64 ∧ x.size < 56 ∨ szF x = 128 ∧ 56 ≤ x.size := by unfold szF; split <;> omega
        have z1 : (x.size : Int) < 128 := by omega
        have z2 : (0 : Int) ≤ (x.size : Int) := by omega
        have hat := get_some_getD hL0 (i := x.size) (by omega)
        have x0 := blk_cell hb4 (ucells_at hat)
        have q0 := blk_free hb4 x.size
        have hb5 : (w4.setCell ⟨gl, x.size, none⟩ (.int .u8 128)).heap[gl]? = some (.cells (ucells (lastC s.size x 0)) 181 (0, 0)) := by rw [lastC, ← ucells_set]; exact blk_set hb4 _ _
        have hu5 : Unch none_ w3 (w4.setCell ⟨gl, x.size, none⟩ (.int .u8 128)) := hu4.setCell _ (fun h => by have := HGL.out; simp at h; omega)
        have HU5 := Lib.hid hu5
        have HB5 := Lib.hid hb5
        clear hu5 hb5 hu4 hb4 hat hL0
        go_wp2_with fail
        generalize w4.setCell ⟨gl, x.size, none⟩ (.int .u8 128) = w5 at *
        clear x0 q0
        obtain ⟨S, hSS⟩ : ∃ S, szF x = S := ⟨_, rfl⟩
        rw [hSS] at hS
        have HSS := Lib.hid hSS
        rw [hSS]
        clear hSS
        go_loopg [7, 31] 8 (fun gk _ i wr => ∃ (k : Nat), gk = 8 - k ∧ k ≤ 8 ∧ i = .int .i64 (k : Int) ∧ wr.heap[gl]? = some (.cells (ucells (lastC s.size x k)) 181 (0, 0)) ∧ Unch none_ w3 wr)
        case atStart => exact ⟨0, rfl, by omega, rfl, HB5.out, HU5.out⟩
        case round =>
          obtain ⟨k, rfl, hk, rfl, hb6, hu6⟩ := hrel
          obtain ⟨w6, rfl⟩ : ∃ w6, w6 = wr := ⟨_, rfl⟩
          by_cases hk8 : k < 8
          · have y0 : (0 : Int) ≤ (k : Int) := by omega
            have y1 : (k : Int) < 8 := by omega
            obtain ⟨j, hj⟩ : ∃ j, j = S - 1 - k := ⟨_, rfl⟩
            have hji : (S : Int) - 1 - (k : Int) = (j : Int) := by omega
            have hj0 : (0 : Int) ≤ (j : Int) := by omega
            have hj1 : (j : Int) < 128 := by omega
            have hat := get_some_getD (lastC_len (n := s.size) hlt k) (i := j) (by omega)
            generalize (lastC s.size x k).getD j 0 = zz at hat
            have x0 := blk_cell hb6 (ucells_at hat)
            have q0 := blk_free hb6 j
            have HB6 := Lib.hid hb6
            have HU6 := Lib.hid hu6
            clear hb6 hu6 hat
            have HJ := Lib.hid hj
            clear hj
            go_wp2_with fail
            go_roundg (8 - (k + 1))
            case measure => omega
            case rel =>
              have hnx : ∀ Z : Int, (w6.setCell ⟨gl, j, none⟩ (.int .u8 Z)).heap[gl]? = some (.cells (ucells ((lastC s.size x k).set j Z)) 181 (0, 0)) := fun Z => by rw [← ucells_set]; exact blk_set HB6.out _ _
              have hnx' := hnx (lastZ s.size k)
              rw [show (lastC s.size x k).set j (lastZ s.size k) = lastC s.size x (k + 1) by rw [lastC, HJ.out, HSS.out]] at hnx'
              exact ⟨k + 1, rfl, by omega, by go_num, hnx', HU6.out.setCell _ (fun h => by have := HGL.out; simp at h; omega)⟩
          · obtain rfl : k = 8 := by omega
            have s0 : (0 : Int) ≤ (S : Int) := by omega
            have s1 : (S : Int) ≤ 128 := by omega
            have hlC := lastC_len (n := s.size) hlt 8
            have hcv := run_convert_bytes_arg (P := Tryz.prog) w6 39 5 Tryz.underlying39 Tryz.underlying5 gl 0 S 128 ((lastC s.size x 8).take S) (by rw [List.length_take]; omega) (fun i hi => by
              have h1 := get_some_getD hlC (i := i) (by omega)
              rw [Nat.zero_add, blk_cell hb6 (ucells_at h1)]
              congr 2
              rw [List.getD_eq_getElem?_getD, List.getD_eq_getElem?_getD, List.getElem?_take, if_pos hi]) 9 Tryz.underlying9
            have hT : strOfNums ((lastC s.size x 8).take S) = lastT s.size x := by rw [lastT, HSS.out]
            rw [hT] at hcv
            have hTs := lastT_size (n := s.size) hlt
            rw [HSS.out] at hTs
            have HT := Lib.hid hT
            have hbg := hu6.heap hb2 (fun h => h)
            have HB6 := Lib.hid hb6
            have HU6 := Lib.hid (hu2.trans hu6)
            clear hb6 hu6 hT hlC
            obtain ⟨T, hTT⟩ : ∃ T, lastT s.size x = T := ⟨_, rfl⟩
            rw [hTT] at hcv hTs
            have HTT := Lib.hid hTT
            clear hTT
            go_wp2_with fail
            have hloop2 : ∃ R2, sumLoop K 2 T st = R2 := ⟨_, rfl⟩
            obtain ⟨R2, hR2⟩ := hloop2
            have HSum : Hid (outT R2.1 = sumF K s) := by
              have h1 := HR0.out
              have h2 := HR.out
              have h3 := HTT.out
              show outT R2.1 = _
              rw [sumF, h1, ← h2, h3, hR2]
            have hgw : w.heap.size ≤ g := hgt
            go_loopg [8] S (fun gk sx wr => ∃ (x : ByteArray) (st : List Int) (fuel : Nat), gk = x.size ∧ sx = .string x ∧ st.length = 8 ∧ sumLoop K fuel x st = R2 ∧ x.size = 64 * fuel ∧ wr.heap[g]? = some (.cells (wcells st) 178 (0, 0)) ∧ Unch none_ w wr)
            case atStart => 
              rcases hS with ⟨h1, h2⟩ | ⟨h1, h2⟩
              · refine ⟨T, st, 1, hTs.symm, rfl, hst, ?_, by omega, hbg, HU6.out⟩
                rw [← hR2]
                simp only [sumLoop]
                rw [if_pos (by omega), if_pos (by omega), if_neg]
                rw [ByteArray.size_extract]; omega
              · exact ⟨T, st, 2, hTs.symm, rfl, hst, hR2, by omega, hbg, HU6.out⟩
            case round =>
              clear hbg hcv hR2
              obtain ⟨x2, st2, fuel2, rfl, rfl, hst2, hR, hf, hb2, hu2⟩ := hrel
              obtain ⟨w7, rfl⟩ : ∃ w7, w7 = wr := ⟨_, rfl⟩
              by_cases hx2 : 0 < x2.size
              · obtain ⟨fuel2, rfl⟩ : ∃ f, fuel2 = f + 1 := ⟨fuel2 - 1, by omega⟩
                rw [sumLoop, if_pos (by omega)] at hR
                have HR2 := Lib.hid hR
                clear hR
                have z0 : (64 : Int) ≤ (x2.size : Int) := by omega
                have HF := Lib.hid hf
                clear hf
                have hsz1 : (x2.extract 0 64).size = 64 := by rw [ByteArray.size_extract]; omega
                have hsz2 : (x2.extract 64 x2.size).size = x2.size - 64 := by rw [ByteArray.size_extract]; omega
                have d1 := str_full hx2
                go_wp2_with (go_at_call 117; refine (block_ok g st2 (x2.extract 0 64) w7 hst2 hsz1 hb2 K (fun j hj => hu2.cell (hK j hj) (fun h => h))).mono ?_; rintro _ w8 ⟨rfl, hu8, hb8⟩)
                go_roundg (x2.size - 64)
                case measure => omega
                case rel => exact ⟨x2.extract 64 x2.size, blkF K (x2.extract 0 64) st2, fuel2, hsz2.symm, rfl, by rw [blkF, addF_len]; exact hst2, HR2.out, by rw [hsz2]; have := HF.out; omega, hb8, hu2.step hu8 (fun i hi e => by subst e; omega)⟩
              · have d1 := str_none (x := x2) (by omega)
                rw [sumLoop_end K (by omega)] at hR
                have HR2 := Lib.hid hR
                clear hR
                have hb9 : (w7.alloc (.cells (ucells (List.replicate 32 0)) 182)).heap[w7.heap.size]? = _ := blk_new w7 _
                have hu9 : Unch none_ w (w7.alloc (.cells (ucells (List.replicate 32 0)) 182)) := hu2.trans ((Unch.refl none_ _).alloc _)
                have hgb : (w7.alloc (.cells (ucells (List.replicate 32 0)) 182)).heap[g]? = some (.cells (wcells st2) 178 (0, 0)) := ((Unch.refl none_ w7).alloc _).heap hb2 (fun h => h)
                go_wp2_with fail
                change Code.wp _ _ _ _ (w7.alloc (.cells (ucells (List.replicate 32 0)) 182))
                have hgo : w.heap.size ≤ w7.heap.size := hu2.size
                have hgg : g < w7.heap.size := lt_of_heap hb2
                generalize w7.heap.size = go at *
                generalize w7.alloc (.cells (ucells (List.replicate 32 0)) 182) = w8 at *
                clear hb2 hu2 hgw
                go_loopg [10, 55] 32 (fun gk _ i wr => ∃ (k : Nat), gk = 32 - k ∧ k ≤ 32 ∧ i = .int .i64 (k : Int) ∧ wr.heap[go]? = some (.cells (ucells (outC st2 k)) 182 (0, 0)) ∧ wr.heap[g]? = some (.cells (wcells st2) 178 (0, 0)) ∧ Unch none_ w wr)
                case atStart => exact ⟨0, rfl, by omega, rfl, hb9, hgb, hu9⟩
                case round =>
                  clear hb9 hgb hu9
                  obtain ⟨k, rfl, hk, rfl, hbo, hbg, hu⟩ := hrel
                  obtain ⟨w9, rfl⟩ : ∃ w9, w9 = wr := ⟨_, rfl⟩
                  have HBO := Lib.hid hbo
                  have HBG := Lib.hid hbg
                  have HU := Lib.hid hu
                  by_cases hk32 : k < 32
                  · have y0 : (0 : Int) ≤ (k : Int) := by omega
                    have y1 : (k : Int) < 32 := by omega
                    have hat := get_some_getD (outC_len st2 k) (i := k) (by omega)
                    have x0 := blk_cell hbo (ucells_at hat)
                    have q0 := blk_free hbo k
                    have x1 := blk_cell hbg (wcells_at (get_some_getD hst2 (i := k / 4) (by omega)))
                    generalize (outC st2 k).getD k 0 = zz at x0
                    clear hat hbo hbg hu
                    go_wp2_with fail
                    go_roundg (32 - (k + 1))
                    case measure => omega
                    case rel =>
                      have hnx : ∀ Z : Int, (w9.setCell ⟨go, k, none⟩ (.int .u8 Z)).heap[go]? = some (.cells (ucells ((outC st2 k).set k Z)) 182 (0, 0)) := fun Z => by rw [← ucells_set]; exact blk_set HBO.out _ _
                      have hnx' := hnx (outZ (st2.getD (k / 4) 0) k)
                      have hot : ∀ Z : Value, (w9.setCell ⟨go, k, none⟩ Z).heap[g]? = some (.cells (wcells st2) 178 (0, 0)) := fun Z => by rw [Below.heap_setCell _ _ _ _ (by simp; omega)]; exact HBG.out
                      exact ⟨k + 1, rfl, by omega, by go_num, hnx', hot _, HU.out.setCell _ (fun h => by simp at h; omega)⟩
                  · obtain rfl : k = 32 := by omega
                    have hcv := run_convert_bytes_arg (P := Tryz.prog) w9 39 5 Tryz.underlying39 Tryz.underlying5 go 0 32 32 (outC st2 32) (outC_len st2 32) (fun i hi => by
                      rw [Nat.zero_add]
                      exact blk_cell hbo (ucells_at (get_some_getD (outC_len st2 32) hi))) 9 Tryz.underlying9
                    have hR : strOfNums (outC st2 32) = res := by rw [← HRES.out, ← HSum.out, ← HR2.out]; rfl
                    rw [hR] at hcv
                    have HRR := Lib.hid hR
                    clear hR hbo hbg
                    go_wp2_with fail
                    go_ret
                    exact ⟨rfl, hu⟩
end Go.Proofs.YtgcpoppinnnciaaGreatDoor
/- strings.Builder and strings.Join, out of the shelf, in plain words. -/
set_option linter.unusedVariables false
set_option linter.unusedSimpArgs false
namespace Go.Proofs.YtgcpoppinnnciaaGreatDoor
open Go Go.RowKit Go.Shelf Go.Proofs Go.Proofs.YtgcpoppinnnciaaGreatDoor.Pal

theorem bxWB : Builder.Extra Tryz.prog Tryz.bWB_ren where
  sizeBuilder := by kernel_rfl
  liesBuilder := by kernel_rfl
  t5 := Tryz.underlying5
  a5 := Tryz.isAgg5
  z5 := Tryz.sizeOf5
  v5 := Tryz.zeroValue5
  infoByte := by kernel_rfl
  cellsByte := by kernel_rfl
  sizeByte := by kernel_rfl
  neB5 := by decide
theorem bxJ : Builder.Extra Tryz.prog Tryz.sJoin_ren where
  sizeBuilder := by kernel_rfl
  liesBuilder := by kernel_rfl
  t5 := Tryz.underlying5
  a5 := Tryz.isAgg5
  z5 := Tryz.sizeOf5
  v5 := Tryz.zeroValue5
  infoByte := by kernel_rfl
  cellsByte := by kernel_rfl
  sizeByte := by kernel_rfl
  neB5 := by decide
theorem bxS : Builder.Extra Tryz.prog Tryz.bStr_ren where
  sizeBuilder := by kernel_rfl
  liesBuilder := by kernel_rfl
  t5 := Tryz.underlying5
  a5 := Tryz.isAgg5
  z5 := Tryz.sizeOf5
  v5 := Tryz.zeroValue5
  infoByte := by kernel_rfl
  cellsByte := by kernel_rfl
  sizeByte := by kernel_rfl
  neB5 := by decide
theorem bxG : Builder.Extra Tryz.prog Tryz.bGrow_ren where
  sizeBuilder := by kernel_rfl
  liesBuilder := by kernel_rfl
  t5 := Tryz.underlying5
  a5 := Tryz.isAgg5
  z5 := Tryz.sizeOf5
  v5 := Tryz.zeroValue5
  infoByte := by kernel_rfl
  cellsByte := by kernel_rfl
  sizeByte := by kernel_rfl
  neB5 := by decide

/-- A builder of the call's own, in block b, with these bytes; w0: the world when the call began. -/
structure Bd (w0 : World) (b : Nat) (l : List UInt8) (w : World) : Prop where
  is : Lib.IsBuilder 159 5 w0.heap.size b (Lib.byteCells l) w
  below : Below w0.heap.size w0 w
theorem bd_lt {T e : TypeId} {B b : Nat} {bs : List Value} {w : World} (h : Lib.IsBuilder T e B b bs w) : b < w.heap.size := h.elim (·.lt) (·.lt)
theorem bd_at {T e : TypeId} {B b : Nat} {p : Value} {bs : List Value} {W W' : World} (h : Lib.BuilderAt T e B b p bs W) (hb : Below W.heap.size W W') : Lib.BuilderAt T e B b p bs W' := by
  have hlt := h.lt
  obtain ⟨hB, v, hv, hown, hne⟩ := h
  exact ⟨hB, v, (hb.block b hlt).trans hv, hown.kept (row := none) ⟨hb.os, hb.tape, hb.output, hb.size, fun k hk _ => hb.block k hk⟩ (Classical.em _), hne⟩
theorem Bd.unch {w0 w w' : World} {b : Nat} {l : List UInt8} (h : Bd w0 b l w) (hu : Unch none_ w w') : Bd w0 b l w' :=
  ⟨h.is.elim (fun x => .inl (bd_at x (hu.below (fun _ _ h => h)))) (fun x => .inr (bd_at x (hu.below (fun _ _ h => h)))), h.below.trans ((hu.below (fun _ _ h => h)).mono h.below.size)⟩
theorem Bd.u {w0 w : World} {b : Nat} {l : List UInt8} (h : Bd w0 b l w) : Unch none_ w0 w := Unch.ofBelow h.below
theorem Bd.fresh (w0 : World) : Bd w0 w0.heap.size [] (w0.alloc (.cells #[.pointer none, .slice none 0 0] 159)) :=
  ⟨Lib.fresh_isBuilder _ _ w0, (Below.refl _ _).alloc (Nat.le_refl _) _⟩
theorem bc_app (l m : List UInt8) : Lib.byteCells l ++ Lib.byteCells m = Lib.byteCells (l ++ m) := by simp [Lib.byteCells]
theorem bGrow_ok (w0 : World) (n : Nat) (hn : n ≤ 281474976710656) (b : Nat) (hb : b = w0.heap.size) :
    Calls Tryz.prog 118 #[.pointer (some ⟨b, 0, none⟩), .int .i64 n] (w0.alloc (.cells #[.pointer none, .slice none 0 0] 159)) fun e w' => e = .returned (.tuple #[]) ∧ Bd w0 b [] w' := by
  subst hb
  refine (Any.Builder_Grow_fresh Tryz.bGrow bxG w0.heap.size w0.heap.size n _ (Nat.le_refl _) (heap_alloc_new w0 _) (by simp) hn).mono ?_
  rintro e w' ⟨rfl, h1, h2⟩
  exact ⟨rfl, .inr h1, ((Below.refl _ _).alloc (Nat.le_refl _) _).trans h2⟩
theorem bByte_ok (w0 w : World) (b : Nat) (l : List UInt8) (c : UInt8) (h : Bd w0 b l w) (hn : l.length + 1 ≤ 140737488355328) :
    Calls Tryz.prog 96 #[.pointer (some ⟨b, 0, none⟩), .int .u8 (c.toNat : Int)] w fun e w' => e = .returned .nilIface ∧ Bd w0 b (l ++ [c]) w' := by
  refine (Any.Builder_WriteByte Tryz.bWB bxWB w0.heap.size b (Lib.byteCells l) (c.toNat : Int) w h.is (by rw [Lib.byteCells_length]; exact hn) h.below.size).mono ?_
  rintro e w' ⟨rfl, h1, h2⟩
  refine ⟨rfl, .inr ?_, h.below.trans h2⟩
  rw [← bc_app]
  exact h1
theorem bStr_ok (w0 w : World) (b : Nat) (l : List UInt8) (s : ByteArray) (h : Bd w0 b l w) (hn : l.length + s.size ≤ 140737488355328) :
    Calls Tryz.prog 98 #[.pointer (some ⟨b, 0, none⟩), .string s] w fun e w' => e = .returned (.tuple #[.int .i64 s.size, .nilIface]) ∧ Bd w0 b (l ++ s.data.toList) w' := by
  refine (Any.Builder_WriteString Tryz.bWS bxJ w0.heap.size b (Lib.byteCells l) s w h.is (by rw [Lib.byteCells_length]; exact hn) h.below.size).mono ?_
  rintro e w' ⟨rfl, h1, h2⟩
  refine ⟨rfl, .inr ?_, h.below.trans h2⟩
  rw [← bc_app]
  exact h1
theorem bOut_ok (w0 w : World) (b : Nat) (l : List UInt8) (h : Bd w0 b l w) :
    Calls Tryz.prog 100 #[.pointer (some ⟨b, 0, none⟩)] w fun e w' => e = .returned (.string ⟨l.toArray⟩) ∧ Unch none_ w0 w' := by
  refine (Any.Builder_String_any Tryz.bStr bxS w0.heap.size b l w h.is h.below.size).mono ?_
  rintro e w' ⟨rfl, h2⟩
  exact ⟨rfl, Unch.ofBelow (h.below.trans h2)⟩
theorem join_ok (bk o c : Nat) (xs : List ByteArray) (w : World) (hcells : ∀ (j : Nat) x, xs[j]? = some x → w.cell? ⟨bk, o + j, none⟩ = some (.string x)) (hbk : bk < w.heap.size) (hN : xs.length ≤ 140737488355328) (hcap : xs.length ≤ c)
    (hlen : (Lib.join (xs.map (·.data.toList)) []).length ≤ 140737488355328) :
    Calls Tryz.prog 113 #[.slice (some ⟨bk, o, none⟩) xs.length c, .string ⟨#[]⟩] w fun e w' => e = .returned (.string ⟨(Lib.join (xs.map (·.data.toList)) []).toArray⟩) ∧ Unch none_ w w' :=
  (Any.strings_Join Tryz.sJoin bxJ bk o c xs ⟨#[]⟩ w hcells hbk hN hcap hlen).mono fun e w' ⟨he, hb⟩ => ⟨he, Unch.ofBelow hb⟩
theorem join_none_ok (a : Option Addr) (c : Nat) (w : World) :
    Calls Tryz.prog 113 #[.slice a 0 c, .string ⟨#[]⟩] w fun e w' => e = .returned (.string ⟨#[]⟩) ∧ w = w' :=
  (Any.strings_Join_none Tryz.sJoin bxJ a c ⟨#[]⟩ w).mono fun e w' ⟨he, hb⟩ => ⟨he, hb.symm⟩
end Go.Proofs.YtgcpoppinnnciaaGreatDoor
/- sha: a tag and texts as bytes; their digest. -/
set_option linter.unusedVariables false
set_option linter.unusedSimpArgs false
namespace Go.Proofs.YtgcpoppinnnciaaGreatDoor
open Go Go.RowKit Go.Proofs.YtgcpoppinnnciaaGreatDoor.Pal Go.Proofs.YtgcpoppinnnciaaGreatDoor.Plan

/-- A tag and texts, as bytes. -/
def partL (p : ByteArray) : List UInt8 := numB 4 p.size ++ p.data.toList
def inputL (tag : Nat) (ps : List ByteArray) : List UInt8 := UInt8.ofNat tag :: ps.flatMap partL
def inputF (tag : Nat) (ps : List ByteArray) : ByteArray := ⟨(inputL tag ps).toArray⟩
theorem partL_len (p : ByteArray) : (partL p).length = 4 + p.size := by
  rw [partL, List.length_append, numB_len, ← Lib.size_eq]
theorem inputL_take {tag : Nat} {ps : List ByteArray} {k : Nat} {p : ByteArray} (h : ps[k]? = some p) : inputL tag (ps.take (k + 1)) = inputL tag (ps.take k) ++ partL p := by
  unfold inputL
  rw [List.take_add_one, h]
  simp
theorem flat_take_le (ps : List ByteArray) (k : Nat) : ((ps.take k).flatMap partL).length ≤ (ps.flatMap partL).length := by
  have h : ps.flatMap partL = (ps.take k).flatMap partL ++ (ps.drop k).flatMap partL := by rw [← List.flatMap_append, List.take_append_drop]
  rw [h, List.length_append]
  omega
theorem inputL_le (tag : Nat) (ps : List ByteArray) (k : Nat) : (inputL tag (ps.take k)).length ≤ (inputL tag ps).length := by
  have := flat_take_le ps k
  simp only [inputL, List.length_cons]
  omega
theorem inputL_count (tag : Nat) : ∀ ps : List ByteArray, ps.length * 4 ≤ (inputL tag ps).length := by
  intro ps
  have h : ∀ ps : List ByteArray, ps.length * 4 ≤ (ps.flatMap partL).length := fun ps => by
    induction ps with
    | nil => simp
    | cons p r ih =>
      rw [List.flatMap_cons, List.length_append, partL_len, List.length_cons]
      omega
  have := h ps
  simp only [inputL, List.length_cons]
  omega
set_option maxRecDepth 100000 in
set_option maxHeartbeats 1000000 in
theorem input_ok (tag : Nat) (ht : tag < 256) (A : Option Addr) (n c : Nat) (ps : List ByteArray) (w : World) (hr : RdS w 1 StrR A n ps) (hn : ps.length = n) (hp : ∀ p ∈ ps, p.size < 4294967296) (hlen : (inputL tag ps).length ≤ 140737488355328) :
    Calls Tryz.prog 80 #[.int .i64 (tag : Int), .slice A n c] w fun e w' => e = .returned (.string (inputF tag ps)) ∧ Unch none_ w w' := by
  obtain ⟨res, hres⟩ : ∃ r, inputF tag ps = r := ⟨_, rfl⟩
  rw [hres]
  have HRES := Lib.hid hres
  clear hres
  have z0 : (0 : Int) ≤ (tag : Int) := by omega
  have z1 : (tag : Int) < 256 := by omega
  have hc : (UInt8.ofNat tag).toNat = tag := by rw [UInt8.toNat_ofNat']; omega
  have hti : (tag : Int) = ((UInt8.ofNat tag).toNat : Int) := by rw [hc]
  have hL0 : [] ++ [UInt8.ofNat tag] = inputL tag (ps.take 0) := by simp [inputL]
  rw [hti]
  have HL0 := Lib.hid hL0
  have hcb := UInt8.toNat_lt (UInt8.ofNat tag)
  clear hti hL0 hc z0 z1
  generalize UInt8.ofNat tag = cb at *
  have z0 : (0 : Int) ≤ (cb.toNat : Int) := by omega
  have z1 : (cb.toNat : Int) < 256 := by omega
  have hn63 : n ≤ 140737488355328 := by have := inputL_count tag ps; omega
  go_enter Tryz.func80, Tryz.ntmps80
  go_wp2_with (first
    | (go_at_call 118; refine (bGrow_ok w 64 (by omega) _ rfl).mono ?_; rintro _ w1 ⟨rfl, hd1⟩)
    | (go_at_call 96; refine (bByte_ok w _ _ [] cb hd1 (by simp)).mono ?_; rintro _ w2 ⟨rfl, hd2⟩))
  rw [HL0.out] at hd2
  generalize hbw : w.heap.size = b at *
  go_loopg [7, 8, 9, 16] n (fun gk _ _ _ i wr => ∃ (k : Nat), gk = n - k ∧ k ≤ n ∧ i = .int .i64 (k : Int) ∧ Bd w b (inputL tag (ps.take k)) wr)
  case atStart => exact ⟨0, rfl, by omega, rfl, hd2⟩
  case round =>
    clear hd2 hd1
    obtain ⟨k, rfl, hk, rfl, hd⟩ := hrel
    obtain ⟨w3, rfl⟩ : ∃ w3, w3 = wr := ⟨_, rfl⟩
    by_cases hkn : k < n
    · have y0 : (0 : Int) ≤ (k : Int) := by omega
      have y1 : (k : Int) < (n : Int) := by omega
      obtain ⟨p, hpk⟩ := get_some hn hkn
      obtain ⟨bb, o, rfl, _, x0⟩ := RdS.str (RdS.fresh hr hd.u) hpk
      have hps := hp p (List.mem_of_getElem? hpk)
      have hst := inputL_take (tag := tag) hpk
      have hle := inputL_le tag ps (k + 1)
      rw [hst, List.length_append, partL_len] at hle
      have HST := Lib.hid hst
      clear hst
      generalize hL : inputL tag (ps.take k) = L at *
      have HL := Lib.hid hL
      clear hL
      have hn4 : (⟨(numB 4 p.size).toArray⟩ : ByteArray).size = 4 := by show (numB 4 p.size).toArray.size = 4; rw [List.size_toArray, numB_len]
      have b1 : L.length + (⟨(numB 4 p.size).toArray⟩ : ByteArray).size ≤ 140737488355328 := by rw [hn4]; omega
      have b2 : (L ++ (⟨(numB 4 p.size).toArray⟩ : ByteArray).data.toList).length + p.size ≤ 140737488355328 := by rw [List.length_append, ← Lib.size_eq, hn4]; omega
      clear hn4
      have hol := octLong_ok p.size hps
      have e : L ++ (⟨(numB 4 p.size).toArray⟩ : ByteArray).data.toList ++ p.data.toList = L ++ partL p := by simp [partL]
      generalize (⟨(numB 4 p.size).toArray⟩ : ByteArray) = s1 at *
      have HE := Lib.hid e
      clear e
      have hd1 : ∀ W, Unch none_ w3 W → Bd w b L W := fun W hu => hd.unch hu
      go_wp2_with (first
        | (go_at_call 119; refine (hol _).mono ?_; rintro _ w4 ⟨rfl, hu4⟩)
        | (go_at_call 98; (with_reducible refine (bStr_ok w _ b L s1 (hd1 _ hu4) b1).mono ?_); rintro _ w5 ⟨rfl, hd5⟩)
        | (go_at_call 98; (with_reducible refine (bStr_ok w _ b _ p hd5 b2).mono ?_); rintro _ w6 ⟨rfl, hd6⟩))
      go_roundg (n - (k + 1))
      case measure => omega
      case rel =>
        refine ⟨k + 1, rfl, by omega, by go_num, ?_⟩
        rw [HST.out]
        rw [← HE.out]
        exact hd6
    · obtain rfl : k = n := by omega
      rw [List.take_of_length_le (by omega)] at hd
      have hR : (⟨(inputL tag ps).toArray⟩ : ByteArray) = res := HRES.out
      go_wp2_with (go_at_call 100; refine (bOut_ok w _ b _ hd).mono ?_; rintro _ w4 ⟨rfl, hu4⟩)
      go_ret
      exact ⟨rfl, hu4⟩
/-- The digest of a tag and texts. -/
def tagF (K : Nat → Int) (tag : Nat) (ps : List ByteArray) : ByteArray := sumF K (inputF tag ps)
theorem tagF_size (K : Nat → Int) (tag : Nat) (ps : List ByteArray) : (tagF K tag ps).size = 32 := sumF_size K _
theorem inputF_size (tag : Nat) (ps : List ByteArray) : (inputF tag ps).size = (inputL tag ps).length := by
  show (inputL tag ps).toArray.size = _
  rw [List.size_toArray]
theorem tag_ok (K : Nat → Int) (tag : Nat) (ht : tag < 256) (A : Option Addr) (n c : Nat) (ps : List ByteArray) (w : World) (hK : Kys K w) (hr : RdS w 1 StrR A n ps) (hn : ps.length = n) (hp : ∀ p ∈ ps, p.size < 4294967296) (hlen : (inputL tag ps).length ≤ 140737488355328) :
    Calls Tryz.prog 47 #[.int .i64 (tag : Int), .slice A n c] w fun e w' => e = .returned (.string (tagF K tag ps)) ∧ Unch none_ w w' := by
  obtain ⟨res, hres⟩ : ∃ r, tagF K tag ps = r := ⟨_, rfl⟩
  rw [hres]
  have HRES := Lib.hid hres
  clear hres
  have hsz := inputF_size tag ps
  go_enter Tryz.func47, Tryz.ntmps47
  go_wp2_with (first
    | (go_at_call 80; refine (input_ok tag ht A n c ps _ hr hn hp hlen).mono ?_; rintro _ w1 ⟨rfl, hu1⟩)
    | (go_at_call 79; refine (sum_ok K _ _ (by omega) (hK.unch hu1 (fun h => h))).mono ?_; rintro _ w2 ⟨rfl, hu2⟩))
  go_ret
  refine ⟨?_, hu1.trans hu2⟩
  rw [← HRES.out]
  rfl
end Go.Proofs.YtgcpoppinnnciaaGreatDoor
