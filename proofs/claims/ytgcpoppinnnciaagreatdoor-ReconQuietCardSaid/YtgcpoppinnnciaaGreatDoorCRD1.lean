/-
  recon: Answer, of a set that is empty; wait.New.
  palaverlaw18: awake.
  The heads of a set, told; what is answered a greeting that says no more than is there.
  recon: Answer, to a greeting that names the heads that are there.
-/
import Derived.Test.YtgcpoppinnnciaaGreatDoorCRC4
import Derived.Laws.BytesArg
/- recon: Answer, of a set that is empty; wait.New. -/
set_option linter.unusedVariables false
set_option linter.unusedSimpArgs false
set_option maxRecDepth 100000
namespace Go.Proofs.YtgcpoppinnnciaaGreatDoor
open Go Go.RowKit Go.Proofs.YtgcpoppinnnciaaGreatDoor.Pal Go.Proofs.YtgcpoppinnnciaaGreatDoor.Plan

theorem fids0_ok (A : Option Addr) (c : Nat) (w : World) : Calls Tryz.prog 51 #[.slice A 0 c] w fun e w' => e = .returned (.bool true) ∧ Unch none_ w w' := by
  go_enter Tryz.func51, Tryz.ntmps51
  go_wp2_with fail
  go_loopg [7] 0 (fun gk i wr => i = .int .i64 0 ∧ wr = w)
  case atStart => exact ⟨rfl, rfl⟩
  case round =>
    obtain ⟨rfl, rfl⟩ := hrel
    go_wp2_with fail
    go_ret
    exact ⟨rfl, Unch.refl _ _⟩
theorem index0_ok (A : Option Addr) (c : Nat) (f : Value) (w : World) : Calls Tryz.prog 53 #[.slice A 0 c, f] w fun e w' => e = .returned (.int .i64 (-1)) ∧ Unch none_ w w' := by
  go_enter Tryz.func53, Tryz.ntmps53
  go_wp2_with fail
  go_loopg [8] 0 (fun gk i wr => i = .int .i64 0 ∧ wr = w)
  case atStart => exact ⟨rfl, rfl⟩
  case round =>
    obtain ⟨rfl, rfl⟩ := hrel
    go_wp2_with fail
    go_ret
    exact ⟨rfl, Unch.refl _ _⟩
theorem cont0_ok (A : Option Addr) (c : Nat) (f : Value) (w : World) : Calls Tryz.prog 21 #[.slice A 0 c, f] w fun e w' => e = .returned (.bool false) ∧ Unch none_ w w' := by
  go_enter Tryz.func21, Tryz.ntmps21
  go_wp2_with (go_at_call 53; refine (index0_ok A c f _).mono ?_; rintro _ w2 ⟨rfl, hu2⟩)
  go_ret
  exact ⟨rfl, hu2⟩
theorem equal0_ok (A B : Option Addr) (c d : Nat) (w : World) : Calls Tryz.prog 29 #[.slice A 0 c, .slice B 0 d] w fun e w' => e = .returned (.bool true) ∧ Unch none_ w w' := by
  go_enter Tryz.func29, Tryz.ntmps29
  go_wp2_with fail
  go_loopg [5, 13] 0 (fun gk _ i wr => i = .int .i64 0 ∧ wr = w)
  case atStart => exact ⟨rfl, rfl⟩
  case round =>
    obtain ⟨rfl, rfl⟩ := hrel
    go_wp2_with fail
    go_ret
    exact ⟨rfl, Unch.refl _ _⟩
theorem fright0_ok (A : Option Addr) (c : Nat) (w : World) : Calls Tryz.prog 20 #[.agg #[.int .i64 1, .int .i64 0, .slice A 0 c, .string ⟨#[]⟩, .slice none 0 0]] w fun e w' => e = .returned (.bool true) ∧ Unch none_ w w' := by
  go_enter Tryz.func20, Tryz.ntmps20
  go_wp2_with (go_at_call 51; refine (fids0_ok A c _).mono ?_; rintro _ w2 ⟨rfl, hu2⟩)
  go_ret
  exact ⟨rfl, ((Unch.refl none_ w).alloc _).trans hu2⟩
theorem wnew_ok (w : World) : Calls Tryz.prog 8 #[.int .i64 3] w fun e w' => ∃ g, e = .returned (.pointer (some ⟨g, 0, none⟩)) ∧ Unch none_ w w' := by
  go_enter Tryz.func8, Tryz.ntmps8
  go_wp2_with fail
  go_ret
  exact ⟨w.heap.size, rfl, (Unch.refl none_ w).alloc _⟩
set_option maxHeartbeats 1000000 in
theorem answer0_ok {w : World} {b : Nat} (h : HeadsP b [] w) (wv : Value) (A : Option Addr) (c : Nat) :
    Calls Tryz.prog 7 #[.pointer (some ⟨b, 0, none⟩), wv, .agg #[.int .i64 1, .int .i64 0, .slice A 0 c, .string ⟨#[]⟩, .slice none 0 0]] w fun e w' => e = .returned (.slice none 0 0) ∧ Unch none_ w w' := by
  have b1 := ((Unch.refl none_ _).alloc (.cells #[.int .i64 1, .int .i64 0, .slice A 0 c, .string ⟨#[]⟩, .slice none 0 0] 35)).heap (blk_new w (.cells #[.pointer (some ⟨b, 0, none⟩)] 28)) (fun h => h)
  have b2 := blk_new (w.alloc (.cells #[.pointer (some ⟨b, 0, none⟩)] 28)) (.cells #[.int .i64 1, .int .i64 0, .slice A 0 c, .string ⟨#[]⟩, .slice none 0 0] 35)
  simp only [World.size_alloc] at b1 b2
  have hu := ((Unch.refl none_ w).alloc (.cells #[.pointer (some ⟨b, 0, none⟩)] 28)).alloc (.cells #[.int .i64 1, .int .i64 0, .slice A 0 c, .string ⟨#[]⟩, .slice none 0 0] 35)
  have B1 := Lib.hid b1
  have B2 := Lib.hid b2
  have HU := Lib.hid hu
  have HH := Lib.hid h
  clear b1 b2 hu h
  go_enter Tryz.func7, Tryz.ntmps7
  go_wp2_with fail
  refine (fright0_ok A c _).mono ?_
  rintro _ w2 ⟨rfl, hu2⟩
  have hu02 := HU.out.trans hu2
  have B12 := Lib.hid (hu2.heap B1.out (fun h => h))
  have B22 := Lib.hid (hu2.heap B2.out (fun h => h))
  have HU2 := Lib.hid hu02
  clear hu2 hu02 HU B1 B2
  have x0 := blk_cell B22.out (j := 0) (v := .int .i64 1) rfl
  have x2 := blk_cell B22.out (j := 2) (v := .slice A 0 c) rfl
  go_wp2_with fail
  refine (cont0_ok A c _ _).mono ?_
  rintro _ w3 ⟨rfl, hu3⟩
  have B13 := Lib.hid (hu3.heap B12.out (fun h => h))
  have B23 := Lib.hid (hu3.heap B22.out (fun h => h))
  have HU3 := Lib.hid (HU2.out.trans hu3)
  clear hu3 x0 x2 B12 B22 HU2
  go_wp2_with fail
  refine wp_planC (fun W => Unch none_ w3 W) [0, 2, 3] [1, 4, 5] 1 (by kernel_rfl) (by kernel_rfl) rfl rfl (fun c a d v w h => by cases d <;> exact h) ((Unch.refl _ _).drew) ?_
  intro S HS _
  have f0 : ∀ G2 : In S, G2.w.cell? ⟨w.heap.size, 0, none⟩ = some (.pointer (some ⟨b, 0, none⟩)) := fun G2 => ((HS.out _).1 G2.h).cell (blk_cell B13.out (j := 0) rfl) (fun h => h)
  have f2 : ∀ G2 : In S, G2.w.cell? ⟨w.heap.size + 1, 2, none⟩ = some (.slice A 0 c) := fun G2 => ((HS.out _).1 G2.h).cell (blk_cell B23.out (j := 2) rfl) (fun h => h)
  simp only [pickIn, List.getElem?_toArray, List.getElem?_cons_succ, List.getElem?_cons_zero]
  repeat (go_big_quiet_step (fail))
  refine wpQuiet_nil ?_
  clear f0 f2
  refine tail_step ?_
  go_wp2_with fail
  refine (HH.out _ (HU3.out.trans ((Unch.refl none_ w3).drew))).mono ?_
  rintro _ w4 ⟨v4, rfl, hs4⟩
  obtain ⟨A4, c4, rfl, _⟩ := hs4.row.slice
  have hu34 : Unch none_ w3 w4 := ((Unch.refl none_ w3).drew).trans hs4.hu
  have x0 := hu34.cell (blk_cell B23.out (j := 0) (v := .int .i64 1) rfl) (fun h => h)
  have HU4 := Lib.hid (HU3.out.trans hu34)
  go_wp2_with fail
  refine tail_midS ((HS.out _).2 hu34) (tail_all ?_)
  clear hs4 hu34
  go_wp2_with (go_at_call 29; refine (equal0_ok A4 A c4 c _).mono ?_; rintro _ w5 ⟨rfl, hu5⟩)
  go_ret
  exact ⟨rfl, HU4.out.trans hu5⟩
end Go.Proofs.YtgcpoppinnnciaaGreatDoor
/- palaverlaw18: awake. -/
set_option linter.unusedVariables false
set_option linter.unusedSimpArgs false
set_option maxRecDepth 100000
namespace Go.Proofs.YtgcpoppinnnciaaGreatDoor
open Go Go.RowKit Go.Proofs.YtgcpoppinnnciaaGreatDoor.Pal Go.Proofs.YtgcpoppinnnciaaGreatDoor.Plan

def z32 : ByteArray := strOfNums (List.replicate 32 0)
theorem z32_size : z32.size = 32 := by
  unfold z32 strOfNums
  rfl
def made32 : Array Value := madeCells #[.int .u8 0] 32
theorem made32_eq : made32 = Array.replicate 32 (.int .u8 0) := madeCells_one _ _
theorem made32_at (i : Nat) (hi : i < 32) : made32[i]? = some (.int .u8 0) := by
  rw [made32_eq, Array.getElem?_replicate, if_pos hi]
theorem field_kind (v0 v1 v2 v3 v4 : Value) (W : World) : (Instr.field 35 (.agg #[v0, v1, v2, v3, v4]) 0).run Tryz.prog W = .ok v0 W := by
  simp [Instr.field, run_underlying Tryz.underlying35, asAgg, part, Tryz.isAgg3, go_sem]
theorem conv32 (w : World) : (convert 39 9 (.slice (some ⟨w.heap.size, 0, none⟩) 32 32)).run Tryz.prog (w.alloc (.cells made32 5)) = .ok (.string z32) (w.alloc (.cells made32 5)) :=
  run_convert_bytes_arg (P := Tryz.prog) (w.alloc (.cells made32 5)) 39 5 Tryz.underlying39 Tryz.underlying5 w.heap.size 0 32 32 (List.replicate 32 0) rfl
    (fun i hi => by
      have h1 := made32_at i hi
      have := blk_cell (blk_new w (.cells made32 5)) (j := i) h1
      rw [Nat.zero_add, this, List.getD_eq_getElem?_getD, List.getElem?_replicate, if_pos hi]
      rfl) 9 Tryz.underlying9
theorem ask_awake : askF [z32, ⟨#[120]⟩] = [⟨3, 0, [z32], ⟨#[]⟩, []⟩] := by
  have h : askL [z32, ⟨#[120]⟩] = [z32] := by
    unfold askL
    rw [← sortS_filter (fun s => decide (s.size = 32))]
    have hf : ([z32, ⟨#[120]⟩] : List ByteArray).filter (fun s => decide (s.size = 32)) = [z32] := by
      rw [List.filter_cons_of_pos (by rw [z32_size]; rfl), List.filter_cons_of_neg (by decide)]
      rfl
    rw [hf]
    rfl
  unfold askF
  rw [h]
  rfl
theorem row_two {w : World} {g : Nat} {s t : ByteArray} (h : w.heap[g]? = some (.cells #[.string s, .string t] 9 (0, 0))) : Row w 9 1 (.slice (some ⟨g, 0, none⟩) 2 2) 2 (sv [s, t]) :=
  ⟨rfl, .inr ⟨g, 0, 2, _, rfl, h, Nat.le_refl _, by decide, by simp, by simp [sv]⟩⟩
theorem row_single {w : World} {g : Nat} {s : ByteArray} (h : w.heap[g]? = some (.cells #[.string s] 9 (0, 0))) : Row w 9 1 (.slice (some ⟨g, 0, none⟩) 1 1) 1 (sv [s]) :=
  ⟨rfl, .inr ⟨g, 0, 1, _, rfl, h, Nat.le_refl _, by decide, by simp, by simp [sv]⟩⟩
set_option maxHeartbeats 1000000 in
theorem awake18_ok (w : World) : Calls Tryz.prog 4 #[] w fun e w' => e = .returned (.bool true) ∧ Unch none_ w w' := by
  have hmk : ∀ W, (Instr.makeSlice 39 (.int .i64 32) (.int .i64 32)).run Tryz.prog W = .ok (.slice (some ⟨W.heap.size, 0, none⟩) 32 32) (W.alloc (.cells made32 5)) := fun W => run_make_u8 32 (by decide) W
  have hcv := fun W => conv32 W
  have hzs := z32_size
  have haw := ask_awake
  generalize z32 = z at *
  have HZ := Lib.hid hzs
  have HAW := Lib.hid haw
  clear hzs haw
  go_enter Tryz.func4, Tryz.ntmps4
  go_wp2_with fail
  have hu0 : Unch none_ w (w.alloc (.cells made32 5)) := (Unch.refl none_ w).alloc _
  have HN := Lib.hid (vnew_ok z HZ.out (w.alloc (.cells made32 5)))
  generalize w.alloc (.cells made32 5) = w0 at *
  with_reducible refine HN.out.mono ?_
  rintro _ w1 ⟨b, p, rfl, hv, hu1⟩
  obtain ⟨L, hL, hH⟩ := vheads_ok hv
  obtain rfl : L = [] := List.eq_nil_of_length_eq_zero (by simpa using hL)
  have HH := Lib.hid (show HeadsP b [] w1 from hH)
  have HU1 := Lib.hid (hu0.trans hu1)
  clear hu0 hu1 hv hL hH HN
  have hua : Unch none_ w1 ((w1.alloc (.cells made32 5)).alloc (.cells #[.string z, .string ⟨#[120]⟩] 9)) := ((Unch.refl none_ w1).alloc _).alloc _
  have hb := blk_new (w1.alloc (.cells made32 5)) (.cells #[.string z, .string ⟨#[120]⟩] 9)
  have hask := ask_ok (c := 2) (srow_rds (row_two hb)) (by omega)
  have HASK := Lib.hid hask
  have HUA := Lib.hid (HU1.out.trans hua)
  have HUB := Lib.hid hua
  clear hua hb hask
  simp only [World.size_alloc] at HASK
  go_wp2_with fail
  with_reducible refine HASK.out.mono ?_
  rintro _ w2 ⟨v, fs, rfl, hf, hfp⟩
  rw [HAW.out] at hfp
  obtain ⟨f, rfl, hfp'⟩ : ∃ f, fs = [f] ∧ f.p = ⟨3, 0, [z], ⟨#[]⟩, []⟩ := by
    cases fs with
    | nil => cases hfp
    | cons f t =>
      cases t with
      | nil =>
        refine ⟨f, rfl, ?_⟩
        simp only [List.map_cons, List.map_nil, List.cons.injEq, and_true] at hfp
        exact hfp
      | cons _ _ => simp at hfp
  obtain ⟨g, o, c1, A1, d1, B1, e1, rfl, hiv, hd1, htv, hri, hrt, y0, y1, y2, y3, y4⟩ := hf.at1
  have hids : f.ids = [z] := congrArg FrP.ids hfp'
  have hknd : f.kind = 3 := congrArg FrP.kind hfp'
  rw [hids] at hri y2
  rw [hknd] at y0
  rw [show ([z] : List ByteArray).length = 1 from rfl] at hri y2
  have Y0 := Lib.hid y0
  have Y2 := Lib.hid y2
  have HRI := Lib.hid hri
  have HU2 := Lib.hid (HUA.out.trans hf.u)
  have HH2 := Lib.hid (show ∀ W, Unch none_ w2 W → HeadsP b [] W from fun W hu W' hu' => HH.out W' (((HUB.out.trans hf.u).trans hu).trans hu'))
  clear hf hfp hfp' hids hknd hri hrt hd1 htv hiv y0 y1 y2 y3 y4 HASK HUA HUB HH
  go_wp2_with fail
  refine (greet_ok (HH2.out w2 (Unch.refl _ _)) (by decide)).mono ?_
  rintro _ w3 ⟨A3, c3, rfl, hs3⟩
  have hfk := fun W => field_kind (.int .i64 1) (.int .i64 0) (.slice A3 0 c3) (.string ⟨#[]⟩) (.slice none 0 0) W
  have HU3 := Lib.hid hs3.hu
  clear hs3
  go_wp2_with fail
  refine (wnew_ok w3).mono ?_
  rintro _ w4 ⟨gw, rfl, hu4⟩
  have HU4 := Lib.hid (HU3.out.trans hu4)
  clear hu4 HU3
  go_wp2_with fail
  refine (greet_ok (HH2.out w4 HU4.out) (by decide)).mono ?_
  rintro _ w5 ⟨A5, c5, rfl, hs5⟩
  have HU5 := Lib.hid (HU4.out.trans hs5.hu)
  clear hs5 HU4
  go_wp2_with fail
  refine (answer0_ok (HH2.out w5 HU5.out) _ A5 c5).mono ?_
  rintro _ w6 ⟨rfl, hu6⟩
  have HU6 := Lib.hid (HU5.out.trans hu6)
  clear hu6 HU5 HH2
  have y0 := HU6.out.cell Y0.out (fun h => h)
  have y2 := HU6.out.cell Y2.out (fun h => h)
  have hua : Unch none_ w6 (w6.alloc (.cells #[.string z] 9)) := (Unch.refl none_ w6).alloc _
  have HSM := Lib.hid (refsame_ok (c := d1) (d := 1) (RdS.fresh HRI.out (HU6.out.trans hua)) (srow_rds (row_single (blk_new w6 (.cells #[.string z] 9)))))
  rw [show decide ([z] = [z]) = true from decide_eq_true rfl] at HSM
  have HUA := Lib.hid hua
  clear hua
  go_wp2_with fail
  with_reducible refine HSM.out.mono ?_
  rintro _ w7 ⟨rfl, hu7⟩
  go_wp2_with fail
  go_ret
  exact ⟨rfl, HU2.out.trans ((HU6.out.trans HUA.out).trans hu7)⟩
end Go.Proofs.YtgcpoppinnnciaaGreatDoor
/- The heads of a set, told; what is answered a greeting that says no more than is there. -/
set_option linter.unusedVariables false
set_option linter.unusedSimpArgs false
set_option maxRecDepth 100000
namespace Go.Proofs.YtgcpoppinnnciaaGreatDoor
open Go Go.RowKit Go.Proofs.YtgcpoppinnnciaaGreatDoor.Pal Go.Proofs.YtgcpoppinnnciaaGreatDoor.Plan

/-- The heads of entries. -/
def headsF (es : List Ent) : List ByteArray := sortS ((es.map (·.id)).filter fun s => decide (kidN es s = 0))
theorem kidN_sts (es : List Ent) : kidN (sts es) = kidN es := by
  funext s
  unfold kidN parsL
  simp only [sts_len, ent_sts]
  rfl
theorem headsF_sts (es : List Ent) : headsF (sts es) = headsF es := by
  unfold headsF
  rw [kidN_sts]
  unfold sts
  rw [List.map_map]
  rfl
theorem ids_range (es : List Ent) : (List.range es.length).map (fun i => (ent es i).id) = es.map (·.id) := by
  apply List.ext_getElem?
  intro i
  rw [List.getElem?_map, List.getElem?_map]
  by_cases hi : i < es.length
  · rw [List.getElem?_range hi, ent_get hi]
    rfl
  · rw [List.getElem?_eq_none (by rw [List.length_range]; omega), List.getElem?_eq_none (by omega)]
    rfl
theorem hdF_heads {es : List Ent} {mk : Asc} (h : KidV mk (kidN es)) (pv : Nat → Value) : hdF (idA es allT pv es.length) mk = headsF es := by
  unfold hdF hdP headsF
  rw [idA_keys, show (List.range es.length).filter allT = List.range es.length from List.filter_eq_self.2 (fun _ _ => rfl), ids_range]
  congr 1
  apply List.filter_congr
  intro s _
  unfold kz
  rw [h s]
  simp
theorem headsF_mem {es : List Ent} {s : ByteArray} (h : s ∈ headsF es) : ∃ e ∈ es, e.id = s := by
  unfold headsF at h
  have := (List.mem_filter.1 (sortS_mem.1 h)).1
  obtain ⟨e, he, hs⟩ := List.mem_map.1 this
  exact ⟨e, he, hs⟩
theorem headsF_len (es : List Ent) : (headsF es).length ≤ es.length := by
  unfold headsF
  refine Nat.le_trans (sortS_len _) (Nat.le_trans (List.length_filter_le _ _) ?_)
  rw [List.length_map]
  exact Nat.le_refl _
section
variable {n0 : Nat} {w w1 : World} {b : Nat} {room : ByteArray} {es : List Ent} {bs : Asc} {p : Plc}
theorem vheads2_ok (h : VS n0 w b room es bs p) : HeadsP b (headsF es) w := fun W hu => by
  obtain ⟨mk, hmk, hkv⟩ := h.kd
  have hlen : (idA es allT p.pv es.length).length ≤ 1000000 := by
    unfold idA
    rw [List.length_map, show (List.range es.length).filter allT = List.range es.length from List.filter_eq_self.2 (fun _ _ => rfl), List.length_range]
    have := h.cl.len
    omega
  have h1 := h.fresh hu
  have hd := dheads_ok h1.dg.blk h1.dg.par (hmk.unch hu (fun h => h)) hkv.ints hlen
  rw [hdF_heads hkv] at hd
  have c1 := blk_cell h1.blk (j := 1) rfl
  simp only [List.getElem_toArray, List.getElem_cons_succ, List.getElem_cons_zero] at c1
  have HD := Lib.hid hd
  clear h h1 hd hlen hmk hkv
  go_enter Tryz.func26, Tryz.ntmps26
  go_wp2_with (go_at_call 58; refine HD.out.mono ?_; rintro _ w2 ⟨v, rfl, hs⟩; obtain ⟨A2, c2, rfl, hc2⟩ := hs.row.slice)
  go_ret
  exact ⟨_, rfl, hs⟩
theorem vshas_ok (h : VS n0 w b room es bs p) (s : ByteArray) (hs : s.size ≤ maxLen) : Calls Tryz.prog 23 #[.pointer (some ⟨b, 0, none⟩), .string s] w fun e w' => e = .returned (.bool (inE es s)) ∧ w = w' := by
  have c1 := blk_cell h.blk (j := 1) rfl
  simp only [List.getElem_toArray, List.getElem_cons_succ, List.getElem_cons_zero] at c1
  have HD := Lib.hid (vhas_ok h s hs)
  clear h
  go_enter Tryz.func23, Tryz.ntmps23
  go_wp2_with (go_at_call 54; refine HD.out.mono ?_; rintro _ w2 ⟨rfl, rfl⟩)
  go_ret
  exact ⟨rfl, rfl⟩
end
/-- Of ids that rise, each of 32 bytes, and not too many: they are right. -/
structure IdsR (L : List ByteArray) : Prop where
  s : L.Pairwise fun a b => bl a b = true
  z : ∀ x ∈ L, x.size = 32
  n : L.length ≤ 64
theorem headsF_right {es : List Ent} (h32 : ∀ e ∈ es, e.id.size = 32) (h : es.length ≤ 64) : IdsR (headsF es) :=
  ⟨sortS_sorted _, fun x hx => by
    obtain ⟨e, he, rfl⟩ := headsF_mem hx
    exact h32 e he, Nat.le_trans (headsF_len es) h⟩
set_option maxHeartbeats 1000000 in
theorem fids_ok {w : World} {A : Option Addr} {n c : Nat} {L : List ByteArray} (h : RdS w 1 StrR A n L) (hr : IdsR L) : Calls Tryz.prog 51 #[.slice A n c] w fun e w' => e = .returned (.bool true) ∧ Unch none_ w w' := by
  have hn64 : n ≤ 64 := by rw [← h.len]; exact hr.n
  have HR := Lib.hid hr
  have HL := Lib.hid h.len
  go_enter Tryz.func51, Tryz.ntmps51
  go_wp2_with fail
  go_loopg [7] n (fun gk i wr => ∃ k : Nat, gk = n - k ∧ k ≤ n ∧ i = .int .i64 (k : Int) ∧ wr = w)
  case atStart => exact ⟨0, rfl, Nat.zero_le _, rfl, rfl⟩
  case round =>
    obtain ⟨k, rfl, hk, rfl, rfl⟩ := hrel
    have z0 : (0 : Int) ≤ (k : Int) := by omega
    by_cases hkn : k < n
    · have z1 : (k : Int) < (n : Int) := by omega
      obtain ⟨x, hx⟩ := get_some HL.out hkn
      obtain ⟨b, o, rfl, hb, x0⟩ := RdS.str h hx
      have hx32 := HR.out.z x (List.mem_of_getElem? hx)
      have z2 : ((x.size : Int) != 32) = false := by rw [hx32]; rfl
      by_cases hk0 : k = 0
      · subst hk0
        have x0 : wr.cell? ⟨b, o, none⟩ = some (.string x) := x0
        clear hx
        go_wp2_with fail
        go_roundg (n - 1)
        case measure => omega
        case rel => exact ⟨1, rfl, by omega, rfl, rfl⟩
      · have z3 : (0 : Int) < (k : Int) := by omega
        obtain ⟨t, ht⟩ : ∃ t, k - 1 = t := ⟨_, rfl⟩
        have z4 : (k : Int) - 1 = (t : Int) := by omega
        have z5 : (0 : Int) ≤ (t : Int) := by omega
        have z6 : (t : Int) < (n : Int) := by omega
        obtain ⟨y, hy⟩ := get_some HL.out (show t < n by omega)
        obtain ⟨b', o', hA, hb', y0⟩ := RdS.str h hy
        injection hA with hA
        injection hA with h1 h2
        subst h1
        subst h2
        have hlt : bl y x = true := by
          have hk1 := (List.getElem?_eq_some_iff.1 hy)
          have hk2 := (List.getElem?_eq_some_iff.1 hx)
          have := List.pairwise_iff_getElem.1 HR.out.s t k hk1.1 hk2.1 (by omega)
          rw [hk1.2, hk2.2] at this
          exact this
        unfold bl at hlt
        clear hx hy ht
        go_wp2_with fail
        go_roundg (n - (k + 1))
        case measure => omega
        case rel => exact ⟨k + 1, rfl, by omega, by go_num, rfl⟩
    · obtain rfl : k = n := by omega
      have z9 : (k : Int) ≤ 64 := by omega
      go_wp2_with fail
      go_ret
      exact ⟨rfl, Unch.refl _ _⟩
set_option maxHeartbeats 1000000 in
theorem frightH_ok {w : World} {A : Option Addr} {n c : Nat} {L : List ByteArray} (h : RdS w 1 StrR A n L) (hr : IdsR L) : Calls Tryz.prog 20 #[.agg #[.int .i64 1, .int .i64 0, .slice A n c, .string ⟨#[]⟩, .slice none 0 0]] w fun e w' => e = .returned (.bool true) ∧ Unch none_ w w' := by
  have HI := Lib.hid (fids_ok (c := c) (RdS.fresh h ((Unch.refl none_ w).alloc (.cells #[.int .i64 1, .int .i64 0, .slice A n c, .string ⟨#[]⟩, .slice none 0 0] 35))) hr)
  go_enter Tryz.func20, Tryz.ntmps20
  go_wp2_with (go_at_call 51; with_reducible refine HI.out.mono ?_; rintro _ w2 ⟨rfl, hu2⟩)
  go_ret
  exact ⟨rfl, ((Unch.refl none_ w).alloc _).trans hu2⟩
set_option maxHeartbeats 1000000 in
theorem indexNone_ok {w : World} {A : Option Addr} {n c : Nat} {xs : List ByteArray} (h : RdS w 1 StrR A n xs) {g : Nat} {lb : Array Value} (eg : ∀ args w, (callFunc g args).run Tryz.prog w = .ok (.enter g args) w) (hp : ∀ W, Unch none_ w W → ∀ s ∈ xs, Calls Tryz.prog g (#[.string s] ++ lb) W fun e W' => e = .returned (.bool false) ∧ Unch none_ W W') :
    Calls Tryz.prog 53 #[.slice A n c, .func (.func g) #[] lb] w fun e w' => e = .returned (.int .i64 (-1)) ∧ Unch none_ w w' := by
  have hn := h.max
  unfold maxLen at hn
  have HL := Lib.hid h.len
  have HP := Lib.hid hp
  clear hp
  go_enter Tryz.func53, Tryz.ntmps53
  go_wp2_with fail
  go_loopg [5, 8] n (fun gk _ i wr => ∃ k : Nat, gk = n - k ∧ k ≤ n ∧ i = .int .i64 (k : Int) ∧ Unch none_ w wr)
  case atStart => exact ⟨0, rfl, Nat.zero_le _, rfl, Unch.refl _ _⟩
  case round =>
    obtain ⟨k, rfl, hk, rfl, hu⟩ := hrel
    obtain ⟨w2, rfl⟩ : ∃ w2, w2 = wr := ⟨_, rfl⟩
    have z0 : (0 : Int) ≤ (k : Int) := by omega
    by_cases hkn : k < n
    · have z1 : (k : Int) < (n : Int) := by omega
      obtain ⟨x, hx⟩ := get_some HL.out hkn
      obtain ⟨b, o, rfl, hb, x0⟩ := RdS.str (RdS.fresh h hu) hx
      have HX := Lib.hid (HP.out w2 hu x (List.mem_of_getElem? hx))
      have HU := Lib.hid hu
      clear hx hu
      go_wp2_with fail
      with_reducible refine HX.out.mono ?_
      rintro _ w3 ⟨rfl, hu3⟩
      have HU3 := Lib.hid (HU.out.trans hu3)
      clear hu3
      go_wp2_with fail
      go_roundg (n - (k + 1))
      case measure => omega
      case rel => exact ⟨k + 1, rfl, by omega, by go_num, HU3.out⟩
    · obtain rfl : k = n := by omega
      go_wp2_with fail
      go_ret
      exact ⟨rfl, hu⟩
theorem contNone_ok {w : World} {A : Option Addr} {n c : Nat} {xs : List ByteArray} (h : RdS w 1 StrR A n xs) {g : Nat} {lb : Array Value} (eg : ∀ args w, (callFunc g args).run Tryz.prog w = .ok (.enter g args) w) (hp : ∀ W, Unch none_ w W → ∀ s ∈ xs, Calls Tryz.prog g (#[.string s] ++ lb) W fun e W' => e = .returned (.bool false) ∧ Unch none_ W W') :
    Calls Tryz.prog 21 #[.slice A n c, .func (.func g) #[] lb] w fun e w' => e = .returned (.bool false) ∧ Unch none_ w w' := by
  have HI := Lib.hid (indexNone_ok (c := c) h eg hp)
  clear h hp eg
  go_enter Tryz.func21, Tryz.ntmps21
  go_wp2_with (go_at_call 53; with_reducible refine HI.out.mono ?_; rintro _ w2 ⟨rfl, hu2⟩)
  go_ret
  exact ⟨rfl, hu2⟩
set_option maxHeartbeats 1000000 in
theorem equal_ok {w : World} {A B : Option Addr} {n c d : Nat} {xs : List ByteArray} (h : RdS w 1 StrR A n xs) (k : RdS w 1 StrR B n xs) :
    Calls Tryz.prog 29 #[.slice A n c, .slice B n d] w fun e w' => e = .returned (.bool true) ∧ Unch none_ w w' := by
  have hn := h.max
  unfold maxLen at hn
  have HL := Lib.hid h.len
  go_enter Tryz.func29, Tryz.ntmps29
  go_wp2_with fail
  go_loopg [5, 13] n (fun gk _ i wr => ∃ k : Nat, gk = n - k ∧ k ≤ n ∧ i = .int .i64 (k : Int) ∧ Unch none_ w wr)
  case atStart => exact ⟨0, rfl, Nat.zero_le _, rfl, Unch.refl _ _⟩
  case round =>
    obtain ⟨q, rfl, hq, rfl, hu⟩ := hrel
    obtain ⟨w2, rfl⟩ : ∃ w2, w2 = wr := ⟨_, rfl⟩
    have z0 : (0 : Int) ≤ (q : Int) := by omega
    by_cases hqn : q < n
    · have z1 : (q : Int) < (n : Int) := by omega
      obtain ⟨x, hx⟩ := get_some HL.out hqn
      obtain ⟨b, o, rfl, hb, x0⟩ := RdS.str (RdS.fresh h hu) hx
      obtain ⟨b', o', rfl, hb', y0⟩ := RdS.str (RdS.fresh k hu) hx
      have x0 := cellU x0
      have y0 := cellU y0
      clear hx
      go_wp2_with fail
      refine wp_region_quiet_u (by kernel_rfl) (by kernel_rfl) (fun _ => ?_)
      repeat (go_big_quiet_step (fail))
      refine wpQuiet_nil ?_
      intro wq hw'
      obtain ⟨⟨wqq, huq⟩, hw''⟩ := hw'
      subst hw''
      go_wp2_with fail
      go_roundg (n - (q + 1))
      case measure => omega
      case rel => exact ⟨q + 1, rfl, by omega, by go_num, hu.trans huq⟩
    · obtain rfl : q = n := by omega
      go_wp2_with fail
      go_ret
      exact ⟨rfl, hu⟩
end Go.Proofs.YtgcpoppinnnciaaGreatDoor
/- recon: Answer, to a greeting that names the heads that are there. -/
set_option linter.unusedVariables false
set_option linter.unusedSimpArgs false
set_option maxRecDepth 100000
namespace Go.Proofs.YtgcpoppinnnciaaGreatDoor
open Go Go.RowKit Go.Proofs.YtgcpoppinnnciaaGreatDoor.Pal Go.Proofs.YtgcpoppinnnciaaGreatDoor.Plan

theorem inE_of_mem {es : List Ent} {e : Ent} (h : e ∈ es) : inE es e.id = true := by
  unfold inE findN
  rw [List.findIdx?_isSome]
  exact List.any_eq_true.2 ⟨e, h, decide_eq_true rfl⟩
theorem has1_ok {W : World} {b g : Nat} {es : List Ent} {s : ByteArray} (hb : W.cell? ⟨g, 0, none⟩ = some (.pointer (some ⟨b, 0, none⟩))) (hh : Calls Tryz.prog 23 #[.pointer (some ⟨b, 0, none⟩), .string s] W fun e w' => e = .returned (.bool (inE es s)) ∧ W = w') (hin : inE es s = true) :
    Calls Tryz.prog 22 #[.string s, .pointer (some ⟨g, 0, none⟩)] W fun e W' => e = .returned (.bool false) ∧ Unch none_ W W' := by
  rw [hin] at hh
  have HH := Lib.hid hh
  clear hh
  go_enter Tryz.func22, Tryz.ntmps22
  go_wp2_with (go_at_call 23; with_reducible refine HH.out.mono ?_; rintro _ w2 ⟨rfl, rfl⟩)
  go_ret
  exact ⟨rfl, Unch.refl _ _⟩
set_option maxHeartbeats 2000000 in
theorem answerQ_ok {n0 : Nat} {w : World} {b : Nat} {room : ByteArray} {es : List Ent} {bs : Asc} {p : Plc} (hv : VS n0 w b room es bs p) (h32 : ∀ e ∈ es, e.id.size = 32) (h64 : es.length ≤ 64) (wv : Value) {A : Option Addr} {n c : Nat} (hrd : RdS w 1 StrR A n (headsF es)) :
    Calls Tryz.prog 7 #[.pointer (some ⟨b, 0, none⟩), wv, .agg #[.int .i64 1, .int .i64 0, .slice A n c, .string ⟨#[]⟩, .slice none 0 0]] w fun e w' => e = .returned (.slice none 0 0) ∧ Unch none_ w w' := by
  have hH := vheads2_ok hv
  have hR := headsF_right h32 h64
  have hin : ∀ s ∈ headsF es, inE es s = true ∧ s.size ≤ maxLen := fun s hs => by
    obtain ⟨e, he, rfl⟩ := headsF_mem hs
    exact ⟨inE_of_mem he, by rw [h32 e he]; decide⟩
  have hhas : ∀ W, Unch none_ w W → ∀ s ∈ headsF es, Calls Tryz.prog 23 #[.pointer (some ⟨b, 0, none⟩), .string s] W fun e w' => e = .returned (.bool (inE es s)) ∧ W = w' := fun W hu s hs => vshas_ok (hv.fresh hu) s (hin s hs).2
  generalize headsF es = L at *
  have e1 : ∀ args w, (callFunc 22 args).run Tryz.prog w = .ok (.enter 22 args) w := enters_of Tryz.func22 (by kernel_rfl) rfl
  have b1 := ((Unch.refl none_ _).alloc (.cells #[.int .i64 1, .int .i64 0, .slice A n c, .string ⟨#[]⟩, .slice none 0 0] 35)).heap (blk_new w (.cells #[.pointer (some ⟨b, 0, none⟩)] 28)) (fun h => h)
  have b2 := blk_new (w.alloc (.cells #[.pointer (some ⟨b, 0, none⟩)] 28)) (.cells #[.int .i64 1, .int .i64 0, .slice A n c, .string ⟨#[]⟩, .slice none 0 0] 35)
  simp only [World.size_alloc] at b1 b2
  have hu := ((Unch.refl none_ w).alloc (.cells #[.pointer (some ⟨b, 0, none⟩)] 28)).alloc (.cells #[.int .i64 1, .int .i64 0, .slice A n c, .string ⟨#[]⟩, .slice none 0 0] 35)
  have HRI := Lib.hid (frightH_ok (c := c) (RdS.fresh hrd hu) hR)
  have B1 := Lib.hid b1
  have B2 := Lib.hid b2
  have HU := Lib.hid hu
  have HH := Lib.hid hH
  have HIN := Lib.hid hin
  have HHAS := Lib.hid hhas
  have HRD := Lib.hid hrd
  have E1 := Lib.hid e1
  clear b1 b2 hu hv h32 h64 hH hR hin hhas hrd e1
  go_enter Tryz.func7, Tryz.ntmps7
  go_wp2_with fail
  with_reducible refine HRI.out.mono ?_
  rintro _ w2 ⟨rfl, hu2⟩
  have hu02 := HU.out.trans hu2
  have B12 := Lib.hid (hu2.heap B1.out (fun h => h))
  have B22 := Lib.hid (hu2.heap B2.out (fun h => h))
  have HU2 := Lib.hid hu02
  clear hu2 hu02 HU B1 B2 HRI
  have x0 := blk_cell B22.out (j := 0) (v := .int .i64 1) rfl
  have x2 := blk_cell B22.out (j := 2) (v := .slice A n c) rfl
  have HCO := Lib.hid (contNone_ok (c := c) (lb := #[.pointer (some ⟨w.heap.size, 0, none⟩)]) (RdS.fresh HRD.out HU2.out) E1.out (fun W hu s hs => has1_ok (blk_cell (hu.heap B12.out (fun h => h)) (j := 0) rfl) (HHAS.out W (HU2.out.trans hu) s hs) (HIN.out s hs).1))
  go_wp2_with fail
  with_reducible refine HCO.out.mono ?_
  rintro _ w3 ⟨rfl, hu3⟩
  have B13 := Lib.hid (hu3.heap B12.out (fun h => h))
  have B23 := Lib.hid (hu3.heap B22.out (fun h => h))
  have HU3 := Lib.hid (HU2.out.trans hu3)
  clear hu3 x0 x2 B12 B22 HU2 HCO
  go_wp2_with fail
  refine wp_planC (fun W => Unch none_ w3 W) [0, 2, 3] [1, 4, 5] 1 (by kernel_rfl) (by kernel_rfl) rfl rfl (fun c a d v w h => by cases d <;> exact h) ((Unch.refl _ _).drew) ?_
  intro S HS _
  have f0 : ∀ G2 : In S, G2.w.cell? ⟨w.heap.size, 0, none⟩ = some (.pointer (some ⟨b, 0, none⟩)) := fun G2 => ((HS.out _).1 G2.h).cell (blk_cell B13.out (j := 0) rfl) (fun h => h)
  have f2 : ∀ G2 : In S, G2.w.cell? ⟨w.heap.size + 1, 2, none⟩ = some (.slice A n c) := fun G2 => ((HS.out _).1 G2.h).cell (blk_cell B23.out (j := 2) rfl) (fun h => h)
  simp only [pickIn, List.getElem?_toArray, List.getElem?_cons_succ, List.getElem?_cons_zero]
  repeat (go_big_quiet_step (fail))
  refine wpQuiet_nil ?_
  clear f0 f2
  refine tail_step ?_
  go_wp2_with fail
  refine (HH.out _ (HU3.out.trans ((Unch.refl none_ w3).drew))).mono ?_
  rintro _ w4 ⟨v4, rfl, hs4⟩
  have hL : L.length = n := HRD.out.len
  rw [hL] at hs4
  obtain ⟨A4, c4, rfl, _⟩ := hs4.row.slice
  have hu34 : Unch none_ w3 w4 := ((Unch.refl none_ w3).drew).trans hs4.hu
  have x0 := hu34.cell (blk_cell B23.out (j := 0) (v := .int .i64 1) rfl) (fun h => h)
  have HU4 := Lib.hid (HU3.out.trans hu34)
  have HEQ := Lib.hid (equal_ok (c := c4) (d := c) (srow_rds hs4.row) (RdS.fresh HRD.out HU4.out))
  go_wp2_with fail
  refine tail_midS ((HS.out _).2 hu34) (tail_all ?_)
  clear hs4 hu34
  go_wp2_with (go_at_call 29; with_reducible refine HEQ.out.mono ?_; rintro _ w5 ⟨rfl, hu5⟩)
  go_ret
  exact ⟨rfl, HU4.out.trans hu5⟩
end Go.Proofs.YtgcpoppinnnciaaGreatDoor
