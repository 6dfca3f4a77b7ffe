/-
  recon: Answer, of a set that is empty; wait.New.
  palaverlaw18: awake.
-/
import Derived.Test.YtblpbbcckfocoaaGreatDoorCRC4
import Derived.Laws.BytesArg
/- recon: Answer, of a set that is empty; wait.New. -/
set_option linter.unusedVariables false
set_option linter.unusedSimpArgs false
set_option maxRecDepth 100000
namespace Go.Proofs.YtblpbbcckfocoaaGreatDoor
open Go Go.RowKit Go.Proofs.YtblpbbcckfocoaaGreatDoor.Pal Go.Proofs.YtblpbbcckfocoaaGreatDoor.Plan

theorem fids0_ok (A : Option Addr) (c : Nat) (w : World) : Calls Tryz.prog 65 #[.slice A 0 c] w fun e w' => e = .returned (.bool true) ∧ Unch none_ w w' := by
  go_enter Tryz.func65, Tryz.ntmps65
  go_wp2_with fail
  go_loopg [7] 0 (fun gk i wr => i = .int .i64 0 ∧ wr = w)
  case atStart => exact ⟨rfl, rfl⟩
  case round =>
    obtain ⟨rfl, rfl⟩ := hrel
    go_wp2_with fail
    go_ret
    exact ⟨rfl, Unch.refl _ _⟩
theorem index0_ok (A : Option Addr) (c : Nat) (f : Value) (w : World) : Calls Tryz.prog 60 #[.slice A 0 c, f] w fun e w' => e = .returned (.int .i64 (-1)) ∧ Unch none_ w w' := by
  go_enter Tryz.func60, Tryz.ntmps60
  go_wp2_with fail
  go_loopg [8] 0 (fun gk i wr => i = .int .i64 0 ∧ wr = w)
  case atStart => exact ⟨rfl, rfl⟩
  case round =>
    obtain ⟨rfl, rfl⟩ := hrel
    go_wp2_with fail
    go_ret
    exact ⟨rfl, Unch.refl _ _⟩
theorem cont0_ok (A : Option Addr) (c : Nat) (f : Value) (w : World) : Calls Tryz.prog 40 #[.slice A 0 c, f] w fun e w' => e = .returned (.bool false) ∧ Unch none_ w w' := by
  go_enter Tryz.func40, Tryz.ntmps40
  go_wp2_with (go_at_call 60; refine (index0_ok A c f _).mono ?_; rintro _ w2 ⟨rfl, hu2⟩)
  go_ret
  exact ⟨rfl, hu2⟩
theorem equal0_ok (A B : Option Addr) (c d : Nat) (w : World) : Calls Tryz.prog 46 #[.slice A 0 c, .slice B 0 d] w fun e w' => e = .returned (.bool true) ∧ Unch none_ w w' := by
  go_enter Tryz.func46, Tryz.ntmps46
  go_wp2_with fail
  go_loopg [5, 13] 0 (fun gk _ i wr => i = .int .i64 0 ∧ wr = w)
  case atStart => exact ⟨rfl, rfl⟩
  case round =>
    obtain ⟨rfl, rfl⟩ := hrel
    go_wp2_with fail
    go_ret
    exact ⟨rfl, Unch.refl _ _⟩
theorem fright0_ok (A : Option Addr) (c : Nat) (w : World) : Calls Tryz.prog 39 #[.agg #[.int .i64 1, .int .i64 0, .slice A 0 c, .string ⟨#[]⟩, .slice none 0 0]] w fun e w' => e = .returned (.bool true) ∧ Unch none_ w w' := by
  go_enter Tryz.func39, Tryz.ntmps39
  go_wp2_with (go_at_call 65; refine (fids0_ok A c _).mono ?_; rintro _ w2 ⟨rfl, hu2⟩)
  go_ret
  exact ⟨rfl, ((Unch.refl none_ w).alloc _).trans hu2⟩
theorem wnew_ok (w : World) : Calls Tryz.prog 17 #[.int .i64 3] w fun e w' => ∃ g, e = .returned (.pointer (some ⟨g, 0, none⟩)) ∧ Unch none_ w w' := by
  go_enter Tryz.func17, Tryz.ntmps17
  go_wp2_with fail
  go_ret
  exact ⟨w.heap.size, rfl, (Unch.refl none_ w).alloc _⟩
set_option maxHeartbeats 1000000 in
theorem answer0_ok {w : World} {b : Nat} (h : HeadsP b [] w) (wv : Value) (A : Option Addr) (c : Nat) :
    Calls Tryz.prog 16 #[.pointer (some ⟨b, 0, none⟩), wv, .agg #[.int .i64 1, .int .i64 0, .slice A 0 c, .string ⟨#[]⟩, .slice none 0 0]] w fun e w' => e = .returned (.slice none 0 0) ∧ Unch none_ w w' := by
  have b1 := ((Unch.refl none_ _).alloc (.cells #[.int .i64 1, .int .i64 0, .slice A 0 c, .string ⟨#[]⟩, .slice none 0 0] 36)).heap (blk_new w (.cells #[.pointer (some ⟨b, 0, none⟩)] 28)) (fun h => h)
  have b2 := blk_new (w.alloc (.cells #[.pointer (some ⟨b, 0, none⟩)] 28)) (.cells #[.int .i64 1, .int .i64 0, .slice A 0 c, .string ⟨#[]⟩, .slice none 0 0] 36)
  simp only [World.size_alloc] at b1 b2
  have hu := ((Unch.refl none_ w).alloc (.cells #[.pointer (some ⟨b, 0, none⟩)] 28)).alloc (.cells #[.int .i64 1, .int .i64 0, .slice A 0 c, .string ⟨#[]⟩, .slice none 0 0] 36)
  have B1 := Lib.hid b1
  have B2 := Lib.hid b2
  have HU := Lib.hid hu
  have HH := Lib.hid h
  clear b1 b2 hu h
  go_enter Tryz.func16, Tryz.ntmps16
  go_wp2_with fail
  refine (fright0_ok A c _).mono ?_
  rintro _ w2 ⟨rfl, hu2⟩
  have hu02 := HU.out.trans hu2
  have B12 := Lib.hid (hu2.heap B1.out (fun h => h))
  have B22 := Lib.hid (hu2.heap B2.out (fun h => h))
  have HU2 := Lib.hid hu02
  clear hu2 hu02 HU B1 B2
  have x0 := blk_cell B22.out (j := 0) (v := .int .i64 1) rfl
  have x2 := blk_cell B22.out (j := 2) (v := .slice A 0 c) rfl
  go_wp2_with fail
  refine (cont0_ok A c _ _).mono ?_
  rintro _ w3 ⟨rfl, hu3⟩
  have B13 := Lib.hid (hu3.heap B12.out (fun h => h))
  have B23 := Lib.hid (hu3.heap B22.out (fun h => h))
  have HU3 := Lib.hid (HU2.out.trans hu3)
  clear hu3 x0 x2 B12 B22 HU2
  go_wp2_with fail
  refine wp_planC (fun W => Unch none_ w3 W) [0, 2, 3] [1, 4, 5] 1 (by kernel_rfl) (by kernel_rfl) rfl rfl (fun c a d v w h => by cases d <;> exact h) ((Unch.refl _ _).drew) ?_
  intro S HS _
  have f0 : ∀ G2 : In S, G2.w.cell? ⟨w.heap.size, 0, none⟩ = some (.pointer (some ⟨b, 0, none⟩)) := fun G2 => ((HS.out _).1 G2.h).cell (blk_cell B13.out (j := 0) rfl) (fun h => h)
  have f2 : ∀ G2 : In S, G2.w.cell? ⟨w.heap.size + 1, 2, none⟩ = some (.slice A 0 c) := fun G2 => ((HS.out _).1 G2.h).cell (blk_cell B23.out (j := 2) rfl) (fun h => h)
  simp only [pickIn, List.getElem?_toArray, List.getElem?_cons_succ, List.getElem?_cons_zero]
  repeat (go_big_quiet_step (fail))
  refine wpQuiet_nil ?_
  clear f0 f2
  refine tail_step ?_
  go_wp2_with fail
  refine (HH.out _ (HU3.out.trans ((Unch.refl none_ w3).drew))).mono ?_
  rintro _ w4 ⟨v4, rfl, hs4⟩
  obtain ⟨A4, c4, rfl, _⟩ := hs4.row.slice
  have hu34 : Unch none_ w3 w4 := ((Unch.refl none_ w3).drew).trans hs4.hu
  have x0 := hu34.cell (blk_cell B23.out (j := 0) (v := .int .i64 1) rfl) (fun h => h)
  have HU4 := Lib.hid (HU3.out.trans hu34)
  go_wp2_with fail
  refine tail_midS ((HS.out _).2 hu34) (tail_all ?_)
  clear hs4 hu34
  go_wp2_with (go_at_call 46; refine (equal0_ok A4 A c4 c _).mono ?_; rintro _ w5 ⟨rfl, hu5⟩)
  go_ret
  exact ⟨rfl, HU4.out.trans hu5⟩
end Go.Proofs.YtblpbbcckfocoaaGreatDoor
/- palaverlaw18: awake. -/
set_option linter.unusedVariables false
set_option linter.unusedSimpArgs false
set_option maxRecDepth 100000
namespace Go.Proofs.YtblpbbcckfocoaaGreatDoor
open Go Go.RowKit Go.Proofs.YtblpbbcckfocoaaGreatDoor.Pal Go.Proofs.YtblpbbcckfocoaaGreatDoor.Plan

def z32 : ByteArray := strOfNums (List.replicate 32 0)
theorem z32_size : z32.size = 32 := by
  unfold z32 strOfNums
  rfl
def made32 : Array Value := madeCells #[.int .u8 0] 32
theorem made32_eq : made32 = Array.replicate 32 (.int .u8 0) := madeCells_one _ _
theorem made32_at (i : Nat) (hi : i < 32) : made32[i]? = some (.int .u8 0) := by
  rw [made32_eq, Array.getElem?_replicate, if_pos hi]
theorem field_kind (v0 v1 v2 v3 v4 : Value) (W : World) : (Instr.field 36 (.agg #[v0, v1, v2, v3, v4]) 0).run Tryz.prog W = .ok v0 W := by
  simp [Instr.field, run_underlying Tryz.underlying36, asAgg, part, Tryz.isAgg3, go_sem]
theorem conv32 (w : World) : (convert 41 9 (.slice (some ⟨w.heap.size, 0, none⟩) 32 32)).run Tryz.prog (w.alloc (.cells made32 5)) = .ok (.string z32) (w.alloc (.cells made32 5)) :=
  run_convert_bytes_arg (P := Tryz.prog) (w.alloc (.cells made32 5)) 41 5 Tryz.underlying41 Tryz.underlying5 w.heap.size 0 32 32 (List.replicate 32 0) rfl
    (fun i hi => by
      have h1 := made32_at i hi
      have := blk_cell (blk_new w (.cells made32 5)) (j := i) h1
      rw [Nat.zero_add, this, List.getD_eq_getElem?_getD, List.getElem?_replicate, if_pos hi]
      rfl) 9 Tryz.underlying9
theorem ask_awake : askF [z32, ⟨#[120]⟩] = [⟨3, 0, [z32], ⟨#[]⟩, []⟩] := by
  have h : askL [z32, ⟨#[120]⟩] = [z32] := by
    unfold askL
    rw [← sortS_filter (fun s => decide (s.size = 32))]
    have hf : ([z32, ⟨#[120]⟩] : List ByteArray).filter (fun s => decide (s.size = 32)) = [z32] := by
      rw [List.filter_cons_of_pos (by rw [z32_size]; rfl), List.filter_cons_of_neg (by decide)]
      rfl
    rw [hf]
    rfl
  unfold askF
  rw [h]
  rfl
theorem row_two {w : World} {g : Nat} {s t : ByteArray} (h : w.heap[g]? = some (.cells #[.string s, .string t] 9 (0, 0))) : Row w 9 1 (.slice (some ⟨g, 0, none⟩) 2 2) 2 (sv [s, t]) :=
  ⟨rfl, .inr ⟨g, 0, 2, _, rfl, h, Nat.le_refl _, by decide, by simp, by simp [sv]⟩⟩
theorem row_single {w : World} {g : Nat} {s : ByteArray} (h : w.heap[g]? = some (.cells #[.string s] 9 (0, 0))) : Row w 9 1 (.slice (some ⟨g, 0, none⟩) 1 1) 1 (sv [s]) :=
  ⟨rfl, .inr ⟨g, 0, 1, _, rfl, h, Nat.le_refl _, by decide, by simp, by simp [sv]⟩⟩
set_option maxHeartbeats 1000000 in
theorem awake18_ok (w : World) : Calls Tryz.prog 4 #[] w fun e w' => e = .returned (.bool true) ∧ Unch none_ w w' := by
  have hmk : ∀ W, (Instr.makeSlice 41 (.int .i64 32) (.int .i64 32)).run Tryz.prog W = .ok (.slice (some ⟨W.heap.size, 0, none⟩) 32 32) (W.alloc (.cells made32 5)) := fun W => run_make_u8 32 (by decide) W
  have hcv := fun W => conv32 W
  have hzs := z32_size
  have haw := ask_awake
  generalize z32 = z at *
  have HZ := Lib.hid hzs
  have HAW := Lib.hid haw
  clear hzs haw
  go_enter Tryz.func4, Tryz.ntmps4
  go_wp2_with fail
  have hu0 : Unch none_ w (w.alloc (.cells made32 5)) := (Unch.refl none_ w).alloc _
  have HN := Lib.hid (vnew_ok z HZ.out (w.alloc (.cells made32 5)))
  generalize w.alloc (.cells made32 5) = w0 at *
  with_reducible refine HN.out.mono ?_
  rintro _ w1 ⟨b, p, rfl, hv, hu1⟩
  obtain ⟨L, hL, hH⟩ := vheads_ok hv
  obtain rfl : L = [] := List.eq_nil_of_length_eq_zero (by simpa using hL)
  have HH := Lib.hid (show HeadsP b [] w1 from hH)
  have HU1 := Lib.hid (hu0.trans hu1)
  clear hu0 hu1 hv hL hH HN
  have hua : Unch none_ w1 ((w1.alloc (.cells made32 5)).alloc (.cells #[.string z, .string ⟨#[120]⟩] 9)) := ((Unch.refl none_ w1).alloc _).alloc _
  have hb := blk_new (w1.alloc (.cells made32 5)) (.cells #[.string z, .string ⟨#[120]⟩] 9)
  have hask := ask_ok (c := 2) (srow_rds (row_two hb)) (by omega)
  have HASK := Lib.hid hask
  have HUA := Lib.hid (HU1.out.trans hua)
  have HUB := Lib.hid hua
  clear hua hb hask
  simp only [World.size_alloc] at HASK
  go_wp2_with fail
  with_reducible refine HASK.out.mono ?_
  rintro _ w2 ⟨v, fs, rfl, hf, hfp⟩
  rw [HAW.out] at hfp
  obtain ⟨f, rfl, hfp'⟩ : ∃ f, fs = [f] ∧ f.p = ⟨3, 0, [z], ⟨#[]⟩, []⟩ := by
    cases fs with
    | nil => cases hfp
    | cons f t =>
      cases t with
      | nil =>
        refine ⟨f, rfl, ?_⟩
        simp only [List.map_cons, List.map_nil, List.cons.injEq, and_true] at hfp
        exact hfp
      | cons _ _ => simp at hfp
  obtain ⟨g, o, c1, A1, d1, B1, e1, rfl, hiv, hd1, htv, hri, hrt, y0, y1, y2, y3, y4⟩ := hf.at1
  have hids : f.ids = [z] := congrArg FrP.ids hfp'
  have hknd : f.kind = 3 := congrArg FrP.kind hfp'
  rw [hids] at hri y2
  rw [hknd] at y0
  rw [show ([z] : List ByteArray).length = 1 from rfl] at hri y2
  have Y0 := Lib.hid y0
  have Y2 := Lib.hid y2
  have HRI := Lib.hid hri
  have HU2 := Lib.hid (HUA.out.trans hf.u)
  have HH2 := Lib.hid (show ∀ W, Unch none_ w2 W → HeadsP b [] W from fun W hu W' hu' => HH.out W' (((HUB.out.trans hf.u).trans hu).trans hu'))
  clear hf hfp hfp' hids hknd hri hrt hd1 htv hiv y0 y1 y2 y3 y4 HASK HUA HUB HH
  go_wp2_with fail
  refine (greet_ok (HH2.out w2 (Unch.refl _ _)) (by decide)).mono ?_
  rintro _ w3 ⟨A3, c3, rfl, hs3⟩
  have hfk := fun W => field_kind (.int .i64 1) (.int .i64 0) (.slice A3 0 c3) (.string ⟨#[]⟩) (.slice none 0 0) W
  have HU3 := Lib.hid hs3.hu
  clear hs3
  go_wp2_with fail
  refine (wnew_ok w3).mono ?_
  rintro _ w4 ⟨gw, rfl, hu4⟩
  have HU4 := Lib.hid (HU3.out.trans hu4)
  clear hu4 HU3
  go_wp2_with fail
  refine (greet_ok (HH2.out w4 HU4.out) (by decide)).mono ?_
  rintro _ w5 ⟨A5, c5, rfl, hs5⟩
  have HU5 := Lib.hid (HU4.out.trans hs5.hu)
  clear hs5 HU4
  go_wp2_with fail
  refine (answer0_ok (HH2.out w5 HU5.out) _ A5 c5).mono ?_
  rintro _ w6 ⟨rfl, hu6⟩
  have HU6 := Lib.hid (HU5.out.trans hu6)
  clear hu6 HU5 HH2
  have y0 := HU6.out.cell Y0.out (fun h => h)
  have y2 := HU6.out.cell Y2.out (fun h => h)
  have hua : Unch none_ w6 (w6.alloc (.cells #[.string z] 9)) := (Unch.refl none_ w6).alloc _
  have HSM := Lib.hid (refsame_ok (c := d1) (d := 1) (RdS.fresh HRI.out (HU6.out.trans hua)) (srow_rds (row_single (blk_new w6 (.cells #[.string z] 9)))))
  rw [show decide ([z] = [z]) = true from decide_eq_true rfl] at HSM
  have HUA := Lib.hid hua
  clear hua
  go_wp2_with fail
  with_reducible refine HSM.out.mono ?_
  rintro _ w7 ⟨rfl, hu7⟩
  go_wp2_with fail
  go_ret
  exact ⟨rfl, HU2.out.trans ((HU6.out.trans HUA.out).trans hu7)⟩
end Go.Proofs.YtblpbbcckfocoaaGreatDoor
