/-
  palaverlaw17.Made: the walk.
-/
import Derived.Test.YtgcpoppinnnciaaGreatDoorCLW1
import Derived.Test.YtgcpoppinnnciaaGreatDoorCBase
import Derived.Laws.BytesArg
/- palaverlaw17.Made: the walk. -/
set_option linter.unusedVariables false
set_option linter.unusedSimpArgs false
set_option maxRecDepth 100000
namespace Go.Proofs.YtgcpoppinnnciaaGreatDoor
open Go Go.RowKit Go.Proofs.YtgcpoppinnnciaaGreatDoor.Pal Go.Proofs.YtgcpoppinnnciaaGreatDoor.Plan

def byteS (v : Int) : ByteArray := ⟨#[UInt8.ofNat v.toNat]⟩
theorem convB (w : World) (g : Nat) (v : Int) (h0 : 0 ≤ v) (h1 : v < 256) (h : w.heap[g]? = some (.cells #[.int .u8 v] 5 (0, 0))) : (convert 39 9 (.slice (some ⟨g, 0, none⟩) 1 1)).run Tryz.prog w = .ok (.string (byteS v)) w := by
  have hv : (((UInt8.ofNat v.toNat).toNat : Nat) : Int) = v := by
    rw [UInt8.toNat_ofNat']
    omega
  refine run_convert_bytes_back (P := Tryz.prog) w 39 9 5 ⟨g, 0, none⟩ 1 [UInt8.ofNat v.toNat] Tryz.underlying39 Tryz.underlying5 Tryz.underlying9 (fun j hj => ?_)
  obtain rfl : j = 0 := by simpa using hj
  rw [List.getElem_cons_zero, hv]
  exact blk_cell h rfl
theorem convV (w : World) (g : Nat) (v : Int) (h : w.heap[g]? = some (.cells #[.int .u8 v] 5 (0, 0))) : (convert 39 9 (.slice (some ⟨g, 0, none⟩) 1 1)).run Tryz.prog w = .ok (.string (strOfNums [v])) w :=
  run_convert_bytes_arg (P := Tryz.prog) w 39 5 Tryz.underlying39 Tryz.underlying5 g 0 1 1 [v] rfl
    (fun i hi => by
      obtain rfl : i = 0 := by omega
      exact blk_cell h rfl) 9 Tryz.underlying9
theorem strOne (v : Int) : (strOfNums [v]).size = 1 := by
  unfold strOfNums
  rfl
/-- Of a signer's making: what has come up. -/
structure M6 (K : Nat → Int) (w2 : World) (S k : Nat) (bv : Int) (D : Nat → Bool) (x : Nat → Value) (W : World) : Prop where
  u : Unch none_ w2 W
  d4 : D 4 = true → ∃ g, x 25 = .slice (some ⟨g, 0, none⟩) 1 1 ∧ W.heap[g]? = some (.cells #[.int .u8 bv] 5 (0, 0))
  d5 : D 5 = true → D 4 = true ∧ x 26 = .string (byteS bv)
  d8 : D 8 = true → ∃ j : Nat, j ≤ 3 ∧ x 29 = .int .i64 (j : Int)
  d9 : D 9 = true → (D 5 = true ∧ D 8 = true) ∧ ∃ (b ht : Nat), x 30 = .pointer (some ⟨b, 0, none⟩) ∧ w2.heap.size ≤ b ∧ KeyAt K (fun _ => False) W b (byteS bv) ht 0 ∧ ht ≤ 3
  d10 : D 10 = true → x 31 = .pointer (some ⟨S, k, none⟩)
section
variable {K : Nat → Int} {w2 W W' : World} {S k : Nat} {bv : Int} {D : Nat → Bool} {x : Nat → Value}
theorem M6.l4 (h : M6 K w2 S k bv D x W) : M6 K w2 S k bv (fun j => decide (j = 4) || D j) (upd x 25 (.slice (some ⟨W.heap.size, 0, none⟩) 1 1)) (W.alloc (.cells #[.int .u8 bv] 5)) :=
  ⟨h.u.alloc _, fun _ => ⟨W.heap.size, by simp [upd], blk_new W _⟩, fun hd => ⟨by simp [(h.d5 (by simpa using hd)).1], by simpa [upd] using (h.d5 (by simpa using hd)).2⟩, fun hd => by simpa [upd] using h.d8 (by simpa using hd), fun hd => by
    obtain ⟨⟨k5, k8⟩, b, ht, h1, h2, h3, h4⟩ := h.d9 (by simpa using hd)
    exact ⟨⟨by simp [k5], by simp [k8]⟩, b, ht, by simpa [upd] using h1, h2, h3.unch ((Unch.refl _ _).alloc _), h4⟩, fun hd => by simpa [upd] using h.d10 (by simpa using hd)⟩
theorem M6.l5 (h : M6 K w2 S k bv D x W) (k4 : D 4 = true) : M6 K w2 S k bv (fun j => decide (j = 5) || D j) (upd x 26 (.string (byteS bv))) W :=
  ⟨h.u, fun hd => by simpa [upd] using h.d4 (by simpa using hd), fun _ => ⟨by simp [k4], by simp [upd]⟩, fun hd => by simpa [upd] using h.d8 (by simpa using hd), fun hd => ⟨⟨by simp [(h.d9 (by simpa using hd)).1.1], by simp [(h.d9 (by simpa using hd)).1.2]⟩, by simpa [upd] using (h.d9 (by simpa using hd)).2⟩, fun hd => by simpa [upd] using h.d10 (by simpa using hd)⟩
theorem M6.l8 (h : M6 K w2 S k bv D x W) {j : Nat} (hj : j ≤ 3) : M6 K w2 S k bv (fun j => decide (j = 8) || D j) (upd x 29 (.int .i64 (j : Int))) W :=
  ⟨h.u, fun hd => by simpa [upd] using h.d4 (by simpa using hd), fun hd => ⟨by simp [(h.d5 (by simpa using hd)).1], by simpa [upd] using (h.d5 (by simpa using hd)).2⟩, fun _ => ⟨j, hj, by simp [upd]⟩, fun hd => ⟨⟨by simp [(h.d9 (by simpa using hd)).1.1], by simp [(h.d9 (by simpa using hd)).1.2]⟩, by simpa [upd] using (h.d9 (by simpa using hd)).2⟩, fun hd => by simpa [upd] using h.d10 (by simpa using hd)⟩
theorem M6.l9 (h : M6 K w2 S k bv D x W) (k5 : D 5 = true) (k8 : D 8 = true) {b ht : Nat} (hb : W.heap.size ≤ b) (H : KeyAt K (fun _ => False) W' b (byteS bv) ht 0) (hh : ht ≤ 3) (hu : Unch none_ W W') : M6 K w2 S k bv (fun j => decide (j = 9) || D j) (upd x 30 (.pointer (some ⟨b, 0, none⟩))) W' :=
  ⟨h.u.trans hu, fun hd => by
    obtain ⟨g, h1, h2⟩ := h.d4 (by simpa using hd)
    exact ⟨g, by simpa [upd] using h1, hu.heap h2 (fun h => h)⟩, fun hd => ⟨by simp [(h.d5 (by simpa using hd)).1], by simpa [upd] using (h.d5 (by simpa using hd)).2⟩, fun hd => by simpa [upd] using h.d8 (by simpa using hd), fun _ => ⟨⟨by simp [k5], by simp [k8]⟩, b, ht, by simp [upd], Nat.le_trans h.u.size hb, H, hh⟩, fun hd => by simpa [upd] using h.d10 (by simpa using hd)⟩
theorem M6.l10 (h : M6 K w2 S k bv D x W) : M6 K w2 S k bv (fun j => decide (j = 10) || D j) (upd x 31 (.pointer (some ⟨S, k, none⟩))) W :=
  ⟨h.u, fun hd => by simpa [upd] using h.d4 (by simpa using hd), fun hd => ⟨by simp [(h.d5 (by simpa using hd)).1], by simpa [upd] using (h.d5 (by simpa using hd)).2⟩, fun hd => by simpa [upd] using h.d8 (by simpa using hd), fun hd => ⟨⟨by simp [(h.d9 (by simpa using hd)).1.1], by simp [(h.d9 (by simpa using hd)).1.2]⟩, by simpa [upd] using (h.d9 (by simpa using hd)).2⟩, fun _ => by simp [upd]⟩
end
/-- Its end. -/
def M6F (K : Nat → Int) (w2 : World) (S k : Nat) (bv : Int) (W : World) : Prop := ∃ (W1 : World) (b ht : Nat), Unch none_ w2 W1 ∧ w2.heap.size ≤ b ∧ KeyAt K (fun _ => False) W1 b (byteS bv) ht 0 ∧ ht ≤ 3 ∧ W = W1.setCell ⟨S, k, none⟩ (.pointer (some ⟨b, 0, none⟩))
def M6I (K : Nat → Int) (w2 : World) (S k : Nat) (bv : Int) (D : Nat → Bool) (x : Nat → Value) (W : World) : Prop := (D 11 = false ∧ M6 K w2 S k bv D x W) ∨ ((∀ i ∈ [4, 5, 8, 9, 10, 11], D i = true) ∧ M6F K w2 S k bv W)
def MadeP (K : Nat → Int) (w : World) (x : Ending) (w' : World) : Prop :=
  ∃ vo out room, x = .returned (.tuple #[vo, .string room]) ∧ Unch none_ w w' ∧ Row w' 9 1 vo out.length (sv out) ∧ out.length ≤ 13 ∧ room.size = 32 ∧ ∀ s ∈ out, s.size ≤ 1100000
theorem row_one {w : World} {g : Nat} {s : ByteArray} (h : w.heap[g]? = some (.cells #[.string s] 9 (0, 0))) : Row w 9 1 (.slice (some ⟨g, 0, none⟩) 1 1) 1 (sv [s]) :=
  ⟨rfl, .inr ⟨g, 0, 1, _, rfl, h, Nat.le_refl _, by decide, by simp, by simp [sv]⟩⟩
/-- A round's Say and event, as they lie. -/
structure MdE (w2 wx : World) (bX bE : Nat) (sc : Array Value) (kd : Int) (pv : Value) (bd : ByteArray) : Prop where
  u : Unch none_ w2 wx
  x : wx.heap[bX]? = some (.cells sc 54 (0, 0))
  e : wx.heap[bE]? = some (.cells #[.int .i64 kd, .string ⟨#[]⟩, pv, .string bd, .string ⟨#[]⟩] 50 (0, 0))
  lx : w2.heap.size ≤ bX
  le : w2.heap.size ≤ bE
  ne : bX ≠ bE
  sz : bd.size ≤ 1000
section
variable {w2 W W' : World} {bX bE : Nat} {sc : Array Value} {kd : Int} {pv : Value} {bd : ByteArray}
theorem MdE.fresh (h : MdE w2 W bX bE sc kd pv bd) (hu : Unch none_ W W') : MdE w2 W' bX bE sc kd pv bd :=
  ⟨h.u.trans hu, hu.heap h.x (fun h => h), hu.heap h.e (fun h => h), h.lx, h.le, h.ne, h.sz⟩
theorem MdE.un (h : MdE w2 W bX bE sc kd pv bd) (j : Nat) (v : Value) : Unch none_ w2 (W.setCell ⟨bE, j, none⟩ v) := h.u.step ((Unch.refl (fun k => k = bE) W).setCell _ (fun _ => rfl)) (fun i hi e => by have := h.le; omega)
theorem MdE.xs (h : MdE w2 W bX bE sc kd pv bd) (j : Nat) (v : Value) : (W.setCell ⟨bE, j, none⟩ v).heap[bX]? = some (.cells sc 54 (0, 0)) := ((Unch.refl (fun k => k = bE) W).setCell (p := ⟨bE, j, none⟩) v (fun _ => rfl)).heap h.x h.ne
theorem MdE.kind (h : MdE w2 W bX bE sc kd pv bd) (k : Int) : MdE w2 (W.setCell ⟨bE, 0, none⟩ (.int .i64 k)) bX bE sc k pv bd := ⟨h.un _ _, h.xs _ _, blk_set h.e 0 _, h.lx, h.le, h.ne, h.sz⟩
theorem MdE.par (h : MdE w2 W bX bE sc kd pv bd) (v : Value) : MdE w2 (W.setCell ⟨bE, 2, none⟩ v) bX bE sc kd v bd := ⟨h.un _ _, h.xs _ _, blk_set h.e 2 _, h.lx, h.le, h.ne, h.sz⟩
theorem MdE.body (h : MdE w2 W bX bE sc kd pv bd) {q : ByteArray} (hq : q.size ≤ 1000) : MdE w2 (W.setCell ⟨bE, 3, none⟩ (.string q)) bX bE sc kd pv q := ⟨h.un _ _, h.xs _ _, blk_set h.e 3 _, h.lx, h.le, h.ne, hq⟩
end
def G0 : Gh := ⟨[.pointer none, .pointer none, .pointer none], [⟨#[]⟩, ⟨#[]⟩, ⟨#[]⟩], fun _ => 0, fun _ => 0, fun _ => 0, fun _ => ⟨#[]⟩⟩
set_option maxHeartbeats 8000000 in
theorem made_ok (K : Nat → Int) {w : World} {A : Option Addr} {n c : Nat} {l : List Sy} (h : Sys w A n l) (hK : Kys K w) :
    Calls Tryz.prog 5 #[.slice A n c] w fun x w' => MadeP K w x w' := by
  obtain ⟨fin, hfin⟩ : ∃ F, MadeP K w = F := ⟨_, rfl⟩
  rw [hfin]
  have FIN := Lib.hid hfin
  have HH := Lib.hid h
  have HK := Lib.hid hK
  have hn := h.rd.max
  unfold maxLen at hn
  clear hfin h hK
  go_enter Tryz.func5, Tryz.ntmps5
  go_wp2_with fail
  have hsg : Sg K (fun _ => False) w ((w.alloc (.cells #[.pointer none, .pointer none, .pointer none] 43)).alloc (.cells #[.string ⟨#[]⟩, .string ⟨#[]⟩, .string ⟨#[]⟩] 44)) w.heap.size (w.heap.size + 1) 0 0 G0 := by
    have hua := (Unch.refl none_ w).alloc (.cells #[.pointer none, .pointer none, .pointer none] 43)
    have b2 := blk_new (w.alloc (.cells #[.pointer none, .pointer none, .pointer none] 43)) (.cells #[.string ⟨#[]⟩, .string ⟨#[]⟩, .string ⟨#[]⟩] 44)
    simp only [World.size_alloc] at b2
    exact ⟨hua.alloc _, Nat.le_refl _, by omega, rfl, ((Unch.refl none_ _).alloc _).heap (blk_new w _) (fun h => h), rfl, b2, (by decide), fun i hi => by omega, fun i hi => by omega, fun i hi => by omega, fun i hi => by omega, fun i j hi => by omega⟩
  have HSG := Lib.hid hsg
  clear hsg
  go_loopg [6] 3 (fun gk i wr => ∃ (k : Nat) (G : Gh), gk = 3 - k ∧ k ≤ 3 ∧ i = .int .i64 (k : Int) ∧ Sg K (fun _ => False) w wr w.heap.size (w.heap.size + 1) k 0 G)
  case atStart => exact ⟨0, G0, rfl, by omega, rfl, HSG.out⟩
  case round =>
    obtain ⟨k, G, rfl, hk, rfl, hsg⟩ := hrel
    obtain ⟨w2, rfl⟩ : ∃ w2, w2 = wr := ⟨_, rfl⟩
    have HS2 := Lib.hid hsg
    clear hsg HSG
    by_cases hk3 : k < 3
    · have z0 : (0 : Int) ≤ (k : Int) := by omega
      have z1 : (k : Int) < 3 := by omega
      go_wp2_with fail
      have hht : ∀ W, Unch none_ w2 W → Calls Tryz.prog 14 #[.slice A n c, .int .i64 (k : Int)] W fun e w' => (∃ j : Nat, j ≤ 3 ∧ e = .returned (.int .i64 (j : Int))) ∧ W = w' := fun W hu => (height_ok (c := c) (HH.out.fresh (HS2.out.u.trans hu)) k).mono fun e w' ⟨h1, h2⟩ => ⟨h1, h2.symm ▸ rfl⟩
      have HHT := Lib.hid hht
      clear hht
      refine wp_planI (fun W => Unch (fun g => g = w.heap.size) w2 W) [0, 1, 2, 3, 6, 7] [4, 5, 8, 9, 10, 11] (by kernel_rfl) (by kernel_rfl) rfl (fun c a d v w h => by cases d <;> exact h) ((Unch.refl _ _).drew) ?_
      intro S HS _
      simp only [pickIn, List.getElem?_toArray, List.getElem?_cons_succ, List.getElem?_cons_zero]
      repeat (go_big_quiet_step (fail))
      refine wpQuiet_nil ?_
      refine free_slots2 [25, 26, 29, 30, 31] (M6I K w2 w.heap.size k (112 + (k : Int))) (fun x => .inl ⟨rfl, (Unch.refl _ _).drew, by simp, by simp, by simp, by simp, by simp⟩) ?_ ?_
      · intro D x w6 hI i hi o ho hun hdep
        obtain ⟨hd11, hpre⟩ : D 11 = false ∧ M6 K w2 w.heap.size k (112 + (k : Int)) D x w6 := by
          rcases hI with h | ⟨hall, _⟩
          · exact h
          · rw [hall i hi] at hun; cases hun
        simp only [List.mem_cons, List.not_mem_nil, or_false] at hi
        have hCw : ∀ w', Unch (fun g => g = w.heap.size) w2 w' → ∃ g : In S, w' = g.w := fun w' hu => ⟨⟨w', (HS.out _).2 hu⟩, rfl⟩
        have hX : ∀ w', Unch none_ w2 w' → Unch (fun g => g = w.heap.size) w2 w' := fun w' h => h.mono (fun _ _ h => h.elim)
        have HCw := Lib.hid hCw
        have HX := Lib.hid hX
        have HPRE := Lib.hid hpre
        have HDEP := Lib.hid hdep
        have HD11 := Lib.hid hd11
        have HUN := Lib.hid hun
        clear hCw hpre hdep hd11 hun hI hX
        rcases hi with rfl | rfl | rfl | rfl | rfl | rfl
        · simp only [List.getElem?_toArray, List.getElem?_cons_succ, List.getElem?_cons_zero, Option.some.injEq] at ho
          subst ho
          simp only [putsF, List.foldl]
          have hs := Lib.hid HPRE.out.l4
          go_wp2_with fail
          exact ⟨HCw.out _ (HX.out _ hs.out.u), upd x 25 (.slice (some ⟨w6.heap.size, 0, none⟩) 1 1), rfl, .inl ⟨by simpa using HD11.out, hs.out⟩⟩
        · simp only [List.getElem?_toArray, List.getElem?_cons_succ, List.getElem?_cons_zero, Option.some.injEq] at ho
          subst ho
          simp only [putsF, List.foldl]
          have k4 := HDEP.out ⟨4, .data⟩ (by simp) rfl (by simp)
          obtain ⟨g, e25, hg⟩ := HPRE.out.d4 k4
          have hs := Lib.hid (HPRE.out.l5 k4)
          have hcv := convB w6 g _ (by omega) (by omega) hg
          have E25 := Lib.hid e25
          clear k4 hg
          rw [e25]
          clear e25
          go_wp2_with fail
          refine ⟨HCw.out _ (HX.out _ hs.out.u), upd (upd x 25 (.slice (some ⟨g, 0, none⟩) 1 1)) 26 (.string (byteS (112 + (k : Int)))), rfl, .inl ⟨by simpa using HD11.out, ?_⟩⟩
          rw [upd_same E25.out]
          exact hs.out
        · simp only [List.getElem?_toArray, List.getElem?_cons_succ, List.getElem?_cons_zero, Option.some.injEq] at ho
          subst ho
          simp only [putsF, List.foldl]
          go_wp2_with fail
          refine (HHT.out w6 HPRE.out.u).mono ?_
          rintro e w7 ⟨⟨j, hj, rfl⟩, rfl⟩
          have hs := Lib.hid (HPRE.out.l8 hj)
          go_wp2_with fail
          exact ⟨HCw.out _ (HX.out _ hs.out.u), upd x 29 (.int .i64 (j : Int)), rfl, .inl ⟨by simpa using HD11.out, hs.out⟩⟩
        · simp only [List.getElem?_toArray, List.getElem?_cons_succ, List.getElem?_cons_zero, Option.some.injEq] at ho
          subst ho
          simp only [putsF, List.foldl]
          have k5 := HDEP.out ⟨5, .data⟩ (by simp) rfl (by simp)
          have k8 := HDEP.out ⟨8, .data⟩ (by simp) rfl (by simp)
          have E26 := Lib.hid (HPRE.out.d5 k5).2
          obtain ⟨j, hj, e29⟩ := HPRE.out.d8 k8
          have E29 := Lib.hid e29
          clear e29
          rw [E26.out, E29.out]
          go_wp2_with fail
          refine (knew_ok K (fun _ => False) (byteS (112 + (k : Int))) j (by omega) w6).mono ?_
          rintro e w7 ⟨b, rfl, hb, H7, hu7⟩
          have hs := Lib.hid (HPRE.out.l9 k5 k8 hb H7 hj hu7)
          clear hb H7 hu7 k5 k8
          go_wp2_with fail
          refine ⟨HCw.out _ (HX.out _ hs.out.u), upd (upd (upd x 26 (.string (byteS (112 + (k : Int))))) 29 (.int .i64 (j : Int))) 30 (.pointer (some ⟨b, 0, none⟩)), rfl, .inl ⟨by simpa using HD11.out, ?_⟩⟩
          rw [upd_same E26.out, upd_same E29.out]
          exact hs.out
        · simp only [List.getElem?_toArray, List.getElem?_cons_succ, List.getElem?_cons_zero, Option.some.injEq] at ho
          subst ho
          simp only [putsF, List.foldl]
          have hs := Lib.hid HPRE.out.l10
          go_wp2_with fail
          exact ⟨HCw.out _ (HX.out _ hs.out.u), upd x 31 (.pointer (some ⟨w.heap.size, k, none⟩)), rfl, .inl ⟨by simpa using HD11.out, hs.out⟩⟩
        · simp only [List.getElem?_toArray, List.getElem?_cons_succ, List.getElem?_cons_zero, Option.some.injEq] at ho
          subst ho
          simp only [putsF, List.foldl]
          have k9 := HDEP.out ⟨9, .data⟩ (by simp) rfl (by simp)
          have k10 := HDEP.out ⟨10, .data⟩ (by simp) rfl (by simp)
          obtain ⟨⟨k5, k8⟩, b, ht, e30, hb, H6, hh⟩ := HPRE.out.d9 k9
          have k4 := (HPRE.out.d5 k5).1
          have E30 := Lib.hid e30
          have E31 := Lib.hid (HPRE.out.d10 k10)
          have KK : Hid (∀ i ∈ [4, 5, 8, 9, 10, 11], (decide (i = 11) || D i) = true) := fun i hi => by
            simp only [List.mem_cons, List.not_mem_nil, or_false] at hi
            rcases hi with rfl | rfl | rfl | rfl | rfl | rfl
            · rw [k4]; rfl
            · rw [k5]; rfl
            · rw [k8]; rfl
            · rw [show D 9 = true from k9]; rfl
            · rw [show D 10 = true from k10]; rfl
            · rfl
          have sc6 := HPRE.out.u.heap HS2.out.sc (fun h => h)
          obtain ⟨v0, hv0⟩ := get_some HS2.out.cl hk3
          have y0 := blk_cell sc6 (j := k) (v := v0) (by rw [List.getElem?_toArray]; exact hv0)
          have yf := blk_free sc6 k
          have HF := Lib.hid (show M6F K w2 w.heap.size k (112 + (k : Int)) _ from ⟨w6, b, ht, HPRE.out.u, hb, H6, hh, rfl⟩)
          have HW := Lib.hid ((HX.out _ HPRE.out.u).setCell (p := ⟨w.heap.size, k, none⟩) (.pointer (some ⟨b, 0, none⟩)) (fun _ => rfl))
          clear e30 k4 k5 k8 k9 k10 sc6 hv0 hb H6 hh
          rw [E30.out, E31.out]
          go_wp2_with fail
          refine ⟨HCw.out _ HW.out, upd (upd x 30 (.pointer (some ⟨b, 0, none⟩))) 31 (.pointer (some ⟨w.heap.size, k, none⟩)), rfl, .inr ⟨KK.out, HF.out⟩⟩
      · intro D x w6 hI hall
        rcases hI with ⟨hd11, _⟩ | ⟨_, W1, b, ht, hu1, hb, H1, hh, rfl⟩
        · rw [hall 11 (by simp)] at hd11; cases hd11
        have hs3 := HS2.out.put hk3 hu1 hb H1 (show 1 ≤ 1000 by omega) hh
        simp only [putsF, List.foldl]
        generalize x 25 = x25
        generalize x 26 = x26
        generalize x 29 = x29
        generalize x 30 = x30
        generalize x 31 = x31
        generalize hG1 : G.put k b ht (byteS (112 + (k : Int))) = G1 at hs3
        generalize W1.setCell ⟨w.heap.size, k, none⟩ (.pointer (some ⟨b, 0, none⟩)) = w3 at hs3 ⊢
        have HS3 := Lib.hid hs3
        clear hs3 hG1 hu1 hb H1 hh HHT HS2 hall
        have c3 := blk_cell HS3.out.sc (j := k) (v := .pointer (some ⟨G1.bk k, 0, none⟩)) (by rw [List.getElem?_toArray]; exact HS3.out.ptr k (by omega))
        have hlo := HS3.out.lo k (by omega)
        have hpos := HK.out.pos
        obtain ⟨hz1, hz2, hz3⟩ := HS3.out.sz k (by omega)
        have hpub := public_ok K (fun _ => False) (G1.bk k) (G1.sd k) (by omega) (G1.ht k) (G1.us k) (by omega) w3 (HK.out.unch HS3.out.u (fun h => h)) (by omega) (fun g hg => hg.elim) (HS3.out.key k (by omega))
        have hps := pubF_size K (G1.sd k) (G1.ht k)
        have HPUB := Lib.hid hpub
        clear hpub
        generalize pubF K (G1.sd k) (G1.ht k) = pub at *
        go_wp2_with fail
        with_reducible refine HPUB.out.mono ?_
        rintro _ w4 ⟨rfl, H4, hu4⟩
        have hs4 := HS3.out.touch (show k < k + 1 by omega) hu4 H4 hz3 (Nat.le_refl _)
        generalize hG2 : ({ G1 with us := _ } : Gh) = G2 at hs4
        have HS4 := Lib.hid (hs4.setP (j := k) (q := pub) (by omega))
        obtain ⟨q0, hq0⟩ := get_some hs4.ql hk3
        have p4 := blk_cell hs4.pc (j := k) (v := .string q0) (by rw [List.getElem?_toArray]; exact sv_get hq0)
        have pf := blk_free hs4.pc k
        clear hs4 hu4 H4 hG2 HS3 HPUB hq0 c3
        go_wp2_with fail
        go_roundg (3 - (k + 1))
        case measure => omega
        case rel => exact ⟨k + 1, _, rfl, by omega, by go_num, HS4.out⟩
    · obtain rfl : k = 3 := by omega
      have c0 := blk_cell HS2.out.sc (j := 0) (v := .pointer (some ⟨G.bk 0, 0, none⟩)) (by rw [List.getElem?_toArray]; exact HS2.out.ptr 0 (by omega))
      have hlo := HS2.out.lo 0 (by omega)
      have hpos := HK.out.pos
      obtain ⟨hz1, hz2, hz3⟩ := HS2.out.sz 0 (by omega)
      have hsi := fun W (hu : Unch none_ w2 W) => signed_ok K (fun _ => False) ⟨1, ⟨#[]⟩, [], ⟨#[114, 111, 111, 109]⟩, ⟨#[]⟩⟩ none 0 (G.bk 0) (G.sd 0) (by omega) (G.ht 0) (G.us 0) (by omega) (by omega) W ((HK.out.unch HS2.out.u (fun h => h)).unch hu (fun h => h)) (by omega) (fun g hg => hg.elim) ((HS2.out.key 0 (by omega)).unch hu) (Row.nil _ _ _) (Nat.zero_le _)
      simp only [evV, List.length_nil] at hsi
      have HSI := Lib.hid hsi
      clear hsi
      go_wp2_with fail
      with_reducible refine (HSI.out _ (Unch.refl _ _)).mono ?_
      rintro x w3 ⟨root, u', rfl, hroot, H3, hu', hu3⟩
      have hs3 := HS2.out.touch (show 0 < 3 by omega) hu3 H3 (U' := 1) (by omega) (by omega)
      generalize hG2 : ({ G with us := _ } : Gh) = G2 at hs3
      have HS3 := Lib.hid hs3
      clear HS2 hu3 H3 hG2 hs3 c0 hlo hz1 hz2 hz3 hu' HSI
      have HID := Lib.hid (fun W (hu : Unch none_ w3 W) => id_ok K root (by omega) W ((HK.out.unch HS3.out.u (fun h => h)).unch hu (fun h => h)))
      have hi32 := idF_size K root
      generalize idF K root = rid at *
      go_wp2_with fail
      have hua3 := (Unch.refl none_ w3).alloc (.cells #[.string root] 9)
      have hb3 := blk_new w3 (.cells #[.string root] 9)
      have h34 := HID.out _ hua3
      generalize w3.alloc (.cells #[.string root] 9) = w3a at *
      have HUA3 := Lib.hid hua3
      have HB3 := Lib.hid hb3
      have H34 := Lib.hid h34
      clear hua3 hb3 h34 HID
      with_reducible refine H34.out.mono ?_
      rintro _ w4 ⟨rfl, hu4⟩
      have hb4 := hu4.heap HB3.out (fun h => h)
      have hu34 := HUA3.out.trans hu4
      have hua4 := (Unch.refl none_ w4).alloc (.cells #[.string rid] 9)
      have hsz3 := (lt_of_heap HB3.out)
      have hmd : MdI K w (w4.alloc (.cells #[.string rid] 9)) w.heap.size (w.heap.size + 1) 1 G2 (.slice (some ⟨w3.heap.size, 0, none⟩) 1 1) (.slice (some ⟨w4.heap.size, 0, none⟩) 1 1) [root] [rid] := by
        have e1 : ∀ (a b : Nat), (Value.slice (some ⟨a, 0, none⟩) 1 1).ownBlock = some b → a = b := fun a b h => by simpa [Value.ownBlock] using h
        have hw34 := hu34.size
        have hl := lt_of_heap hb4
        refine ⟨(HS3.out.grow (fun g hg => ?_)).fresh (hu34.trans hua4), row_one (hua4.heap hb4 (fun h => h)), row_one (blk_new w4 _), fun g hg => ?_, fun g hg => ?_, fun g h1 h2 => ?_, fun s hs => ?_, fun s hs => ?_⟩
        · rcases hg with hg | hg
          · have := e1 _ _ hg; exact .inr (by omega)
          · have := e1 _ _ hg; exact .inr (by omega)
        · have := e1 _ _ hg; have := HS3.out.u.size; omega
        · have := e1 _ _ hg; have := HS3.out.u.size; omega
        · have := e1 _ _ h1; have := e1 _ _ h2; omega
        · rw [List.mem_singleton] at hs; subst hs; exact hroot
        · rw [List.mem_singleton] at hs; subst hs; exact hi32
      have HMD := Lib.hid hmd
      clear hmd hu4 hb4 hu34 hua4 hsz3 HS3 HUA3 HB3 H34
      go_wp2_with fail
      obtain ⟨N, hN⟩ : ∃ N, min n 12 = N := ⟨_, rfl⟩
      go_loopg [8, 9, 10] N (fun gk v8 v9 i wr => ∃ (k : Nat) (G : Gh) (out ids : List ByteArray), gk = N - k ∧ k ≤ N ∧ i = .int .i64 (k : Int) ∧ MdI K w wr w.heap.size (w.heap.size + 1) (k + 1) G v8 v9 out ids ∧ out.length ≤ k + 1 ∧ ids.length ≤ k + 1 ∧ 0 < ids.length)
      case atStart => exact ⟨0, G2, [root], [rid], rfl, by omega, rfl, HMD.out, Nat.le_refl _, Nat.le_refl _, Nat.one_pos⟩
      case round =>
        obtain ⟨k, G, out, ids, rfl, hk, rfl, hmd, hol, hil, hi0⟩ := hrel
        obtain ⟨w2, rfl⟩ : ∃ w2, w2 = wr := ⟨_, rfl⟩
        obtain ⟨Ao, co, rfl, hco⟩ := hmd.ro.slice
        obtain ⟨Ai, ci, rfl, hci⟩ := hmd.ri.slice
        have HM := Lib.hid hmd
        clear hmd HMD
        by_cases hkN : k < N
        · have z0 : (0 : Int) ≤ (k : Int) := by omega
          have z1 : (k : Int) < (n : Int) := by omega
          have z2 : (k : Int) < 12 := by omega
          obtain ⟨x, hx⟩ := get_some HH.out.len (show k < n by omega)
          obtain ⟨⟨B, d, hbv, hmd', hrb⟩, ok1, ok2, ok3, ok4⟩ := (HH.out.fresh HM.out.sg.u).ok x (List.mem_of_getElem? hx)
          obtain ⟨b, o, rfl, hb, y0, y1, y2, y3, y4⟩ := (HH.out.fresh HM.out.sg.u).at hx
          rw [hbv] at y3
          obtain ⟨m, hm⟩ : ∃ m, x.behind.length = m := ⟨_, rfl⟩
          rw [hm] at y3 hrb hmd'
          have HRB := Lib.hid hrb
          have HMB := Lib.hid hm
          clear hx hb hbv hrb hm
          have hb2 := blk_new (w2.alloc (.cells #[.int .i64 x.kind, .int .i64 x.who, .int .i64 x.whom, .slice B m d, .int .i64 x.spoil] 54)) (.cells #[.int .u8 (97 + (k : Int))] 5)
          simp only [World.size_alloc] at hb2
          have hcv := convB _ _ (97 + (k : Int)) (by omega) (by omega) hb2
          clear hb2
          go_upto_region 16 with fail
          have he5 : MdE w2 (((w2.alloc (.cells #[.int .i64 x.kind, .int .i64 x.who, .int .i64 x.whom, .slice B m d, .int .i64 x.spoil] 54)).alloc (.cells #[.int .u8 (97 + (k : Int))] 5)).alloc (.cells #[.int .i64 2, .string ⟨#[]⟩, .slice none 0 0, .string (byteS (97 + (k : Int))), .string ⟨#[]⟩] 50)) w2.heap.size (w2.heap.size + 1 + 1) #[.int .i64 x.kind, .int .i64 x.who, .int .i64 x.whom, .slice B m d, .int .i64 x.spoil] 2 (.slice none 0 0) (byteS (97 + (k : Int))) := by
            have b1 := blk_new w2 (.cells #[.int .i64 x.kind, .int .i64 x.who, .int .i64 x.whom, .slice B m d, .int .i64 x.spoil] 54)
            have b3 := blk_new ((w2.alloc (.cells #[.int .i64 x.kind, .int .i64 x.who, .int .i64 x.whom, .slice B m d, .int .i64 x.spoil] 54)).alloc (.cells #[.int .u8 (97 + (k : Int))] 5)) (.cells #[.int .i64 2, .string ⟨#[]⟩, .slice none 0 0, .string (byteS (97 + (k : Int))), .string ⟨#[]⟩] 50)
            simp only [World.size_alloc] at b3
            exact ⟨(((Unch.refl none_ w2).alloc _).alloc _).alloc _, blk_alloc (blk_alloc b1 _) _, b3, Nat.le_refl _, by omega, by omega, show 1 ≤ 1000 by omega⟩
          have HE5 := Lib.hid he5
          clear he5 hcv y0 y1 y2 y3 y4
          generalize byteS (97 + (k : Int)) = bd0 at *
          generalize ((w2.alloc _).alloc _).alloc _ = w5 at HE5 ⊢
          obtain ⟨bE, hbE⟩ : ∃ b, w2.heap.size + 1 + 1 = b := ⟨_, rfl⟩
          rw [hbE] at HE5 ⊢
          obtain ⟨bX, hbX⟩ : ∃ b, w2.heap.size = b := ⟨_, rfl⟩
          rw [hbX] at HE5 ⊢
          clear hbE hbX
          have t0 := blk_cell HE5.out.x (j := 0) rfl
          have t2 := blk_cell HE5.out.x (j := 2) rfl
          have p0 := blk_cell HE5.out.e (j := 0) rfl
          have p3 := blk_cell HE5.out.e (j := 3) rfl
          have pf := blk_free HE5.out.e
          obtain ⟨qw, hqw3, hqw1', _⟩ := mod_ix x.whom 3 (by omega) (by omega)
          have hqw1 : wrap64 ((IntKind.u64.wrap x.whom).tmod 3) = (qw : Int) := hqw1'
          clear hqw1'
          have hpe : w.heap.size + 1 < bE := Nat.lt_of_lt_of_le (lt_of_heap HM.out.sg.pc) HE5.out.le
          have hpn : w.heap.size + 1 ≠ bE := Nat.ne_of_lt hpe
          have hqw0 : (0 : Int) ≤ (qw : Int) := by omega
          have hqw2 : (qw : Int) < 3 := by omega
          obtain ⟨pq, hpq⟩ := get_some HM.out.sg.ql hqw3
          have hpqs := HM.out.sg.qz pq (List.mem_of_getElem? hpq)
          have pp := HE5.out.u.cell (blk_cell HM.out.sg.pc (j := qw) (v := .string pq) (by rw [List.getElem?_toArray]; exact sv_get hpq)) (fun h => h)
          clear hpq
          go_upto_block 4 with fail
          generalize wrap64 ((IntKind.u64.wrap x.kind).tmod 4) = z
          go_cut [71] from 72 to 96 (fun v71 wx => ∃ kd bd, MdE w2 wx bX bE #[.int .i64 x.kind, .int .i64 x.who, .int .i64 x.whom, .slice B m d, .int .i64 x.spoil] kd (.slice none 0 0) bd)
          case first =>
            by_cases z1 : z = 1
            · subst z1
              go_wp2
              go_meet
              exact ⟨_, _, HE5.out.kind _⟩
            · have d1 : (z == 1) = false := by simpa using z1
              by_cases z2 : z = 2
              · subst z2
                go_wp2
                go_meet
                exact ⟨_, _, (HE5.out.kind _).body hpqs⟩
              · have d2 : (z == 2) = false := by simpa using z2
                by_cases z3 : z = 3
                · subst z3
                  go_wp2
                  go_meet
                  exact ⟨_, _, (HE5.out.kind _).body hpqs⟩
                · have d3 : (z == 3) = false := by simpa using z3
                  go_wp2
                  go_meet
                  exact ⟨_, _, HE5.out⟩
          case rest =>
            obtain ⟨kd, bd, he6⟩ := hcut
            obtain ⟨w6, rfl⟩ : ∃ w6, w6 = wc := ⟨_, rfl⟩
            clear t0 t2 p0 p3 pf hqw1 hqw0 hqw2 hqw3 pp hpqs HE5
            have HE6 := Lib.hid he6
            clear he6
            obtain ⟨q, hq⟩ : ∃ q, ids.length = q := ⟨_, rfl⟩
            have hri6 := HM.out.ri.unch HE6.out.u (fun _ _ h => h)
            rw [hq] at hri6 hil hi0 hci HM ⊢
            obtain ⟨gi, oi, cpi, curi, hvi, _⟩ := hri6.form hi0
            injection hvi with hvi1 _ hvi3
            subst hvi1
            subst hvi3
            have HRI := Lib.hid hri6
            have HQ := Lib.hid hq
            clear hri6 hq
            have q0 : (0 : Int) < (q : Int) := by omega
            have q1 : (q : Int) ≤ 13 := by omega
            have q2 : ((q : Int) == 0) = false := by rw [beq_eq_false_iff_ne]; omega
            go_upto_block 5 with fail
            go_cut [13, 14] from 97 to 128 (fun v13 v14 wx => ∃ ps, SMid w6 wx v13 ps.length ps ∧ ps.length ≤ 3)
            case first =>
              -- DEVloop3
              go_wp2_with fail
              go_loopg [13, 14] 3 (fun gk v13 i wr => ∃ (j : Nat) (ps : List ByteArray), gk = 3 - j ∧ j ≤ 3 ∧ i = .int .i64 (j : Int) ∧ SMid w6 wr v13 ps.length ps ∧ ps.length ≤ j)
              case atStart => exact ⟨0, [], rfl, by omega, rfl, ⟨Unch.refl _ _, (fun b hb => by cases hb), Row.nil _ _ _⟩, Nat.le_refl _⟩
              case round =>
                obtain ⟨j, ps, rfl, hj, rfl, hsm, hpl⟩ := hrel
                obtain ⟨w7, rfl⟩ : ∃ w7, w7 = wr := ⟨_, rfl⟩
                obtain ⟨Ap, cp, rfl, hcp⟩ := hsm.row.slice
                have HSM := Lib.hid hsm
                clear hsm
                have t3 := (HE6.out.fresh HSM.out.hu).x
                have t3 := blk_cell t3 (j := 3) (v := .slice B m d) rfl
                have j0 : (0 : Int) ≤ (j : Int) := by omega
                by_cases hjm : j < m ∧ j < 3
                · have j1 : (j : Int) < (m : Int) := by omega
                  have j2 : (j : Int) < 3 := by omega
                  obtain ⟨bi, hbi⟩ := get_some HRB.out.len hjm.1
                  obtain ⟨hbok, bB, oB, rfl, hbB, xbi⟩ := RdS.int (RdS.fresh (RdS.fresh HRB.out HE6.out.u) HSM.out.hu) hbi
                  obtain ⟨r, hr3, hr1, _⟩ := mod_ix bi q hi0 (by omega)
                  have r0 : (0 : Int) ≤ (r : Int) := by omega
                  have r1 : (r : Int) < (q : Int) := by omega
                  obtain ⟨t, ht⟩ : ∃ t : Nat, q - 1 - r = t := ⟨_, rfl⟩
                  have htq : t < q := by omega
                  have t1 : (q : Int) - 1 - (r : Int) = (t : Int) := by omega
                  have t2 : (0 : Int) ≤ (t : Int) := by omega
                  have t4 : (t : Int) < (q : Int) := by omega
                  obtain ⟨s, hs⟩ := get_some HQ.out htq
                  have xs := HSM.out.hu.cell (HRI.out.at rfl (sv_get hs)) (fun h => h)
                  clear hbi hbok hbB hs ht
                  go_wp2_with (at_builtin; refine wpList_append1 w7 rfl (.tmp 108) (.tmp 127) 25 9 _ 1 16 rfl Tryz.underlying25 info_str rfl (by omega) (.slice Ap ps.length cp) ps.length (sv ps) (by rfl) HSM.out.row [.string s] rfl (by intro u hu; simp at hu; subst hu; rfl) (by rfl) (by simp only [maxLen]; omega) (by omega) ?_; intro v8 w8 hr8 hu8 hat8; have hs8 := HSM.out.app1 hr8 hu8 hat8; have HS8 := Lib.hid hs8; clear hr8 hu8 hat8 hs8)
                  go_roundg (3 - (j + 1))
                  case measure => omega
                  case rel => exact ⟨j + 1, ps ++ [s], rfl, by omega, by go_num, by rw [List.length_append]; exact HS8.out, by rw [List.length_append, List.length_singleton]; omega⟩
                · rcases (show m ≤ j ∨ (j < m ∧ j = 3) by omega) with hjx | ⟨hjx, hj3⟩
                  · have j1 : ¬ (j : Int) < (m : Int) := by omega
                    go_wp2_with fail
                    go_meet
                    exact ⟨ps, HSM.out, by omega⟩
                  · have j1 : (j : Int) < (m : Int) := by omega
                    have j2 : ¬ (j : Int) < 3 := by omega
                    clear hj3
                    go_wp2_with fail
                    go_meet
                    exact ⟨ps, HSM.out, by omega⟩
              -- ENDloop3
            case rest =>
              obtain ⟨ps, hsm, hpl⟩ := hcut
              obtain ⟨w7, rfl⟩ : ∃ w7, w7 = wc := ⟨_, rfl⟩
              obtain ⟨Ap, cp, rfl, hcp⟩ := hsm.row.slice
              have HSM := Lib.hid hsm
              clear hsm
              go_upto_if 131 with fail
              go_cut [13] from 129 to 138 (fun v13 wx => ∃ ps, SMid w6 wx v13 ps.length ps ∧ ps.length ≤ 3)
              case first =>
                by_cases hp0 : ps.length = 0
                · have p0 : ((ps.length : Int) == 0) = true := by rw [beq_iff_eq]; omega
                  obtain ⟨t, ht⟩ : ∃ t : Nat, q - 1 = t := ⟨_, rfl⟩
                  have htq : t < q := by omega
                  have t1 : (q : Int) - 1 = (t : Int) := by omega
                  have t2 : (0 : Int) ≤ (t : Int) := by omega
                  have t4 : (t : Int) < (q : Int) := by omega
                  obtain ⟨s, hs⟩ := get_some HQ.out htq
                  have xs := HSM.out.hu.cell (HRI.out.at rfl (sv_get hs)) (fun h => h)
                  clear hs ht hp0
                  go_wp2_with fail
                  go_meet
                  exact ⟨[s], ⟨HSM.out.hu.alloc _, (fun b hb => by
                    have e : w7.heap.size = b := by simpa [Value.ownBlock] using hb
                    have := HSM.out.hu.size
                    omega), row_one (blk_new w7 _)⟩, show 1 ≤ 3 by omega⟩
                · have p0 : ((ps.length : Int) == 0) = false := by rw [beq_eq_false_iff_ne]; omega
                  go_wp2_with fail
                  go_meet
                  exact ⟨ps, HSM.out, hpl⟩
              case rest =>
                clear HSM hpl hcp
                obtain ⟨ps, hsm, hpl⟩ := hcut
                obtain ⟨w8, rfl⟩ : ∃ w8, w8 = wc := ⟨_, rfl⟩
                obtain ⟨Ap, cp, rfl, hcp⟩ := hsm.row.slice
                have HE8 := Lib.hid (HE6.out.fresh hsm.hu)
                have HSO := Lib.hid (sorted_ok (c := cp) (srow_rds hsm.row) (by omega))
                have hul := sortS_len ps
                generalize sortS ps = so at *
                obtain ⟨u, hu⟩ : ∃ u, so.length = u := ⟨_, rfl⟩
                rw [hu] at HSO hul
                have HU := Lib.hid hu
                clear hsm hcp hu HE6
                go_wp2_with fail
                with_reducible refine HSO.out.mono ?_
                rintro _ w9 ⟨v9, rfl, hs9⟩
                obtain ⟨A9, c9, rfl, hc9⟩ := hs9.row.slice
                have he9 := HE8.out.fresh hs9.hu
                have p2 := blk_cell he9.e (j := 2) (v := .slice none 0 0) rfl
                have pf := blk_free he9.e 2
                have HEA := Lib.hid (he9.par (.slice A9 u c9))
                have HRA := Lib.hid (row_other hs9.row he9.e (by decide) ((Unch.refl (fun k => k = bE) w9).setCell (p := ⟨bE, 2, none⟩) (.slice A9 u c9) (fun _ => rfl)))
                clear hs9 he9 HE8 HSO
                go_upto_region 33 with fail
                generalize w9.setCell ⟨bE, 2, none⟩ (.slice A9 u c9) = wa at HEA HRA ⊢
                clear p2 pf
                obtain ⟨qi, hqi3, hqi1', _⟩ := mod_ix x.who 3 (by omega) (by omega)
                have hqi1 : wrap64 ((IntKind.u64.wrap x.who).tmod 3) = (qi : Int) := hqi1'
                have hqi0 : (0 : Int) ≤ (qi : Int) := by omega
                have hqi2 : (qi : Int) < 3 := by omega
                clear hqi1'
                have HMA := Lib.hid (HM.out.fresh HEA.out.u)
                have x1 := blk_cell HEA.out.x (j := 1) (v := .int .i64 x.who) rfl
                have sq := blk_cell HMA.out.sg.sc (j := qi) (v := .pointer (some ⟨G.bk qi, 0, none⟩)) (by rw [List.getElem?_toArray]; exact HMA.out.sg.ptr qi hqi3)
                obtain ⟨hz1, hz2, hz3⟩ := HMA.out.sg.sz qi hqi3
                have hlo := HMA.out.sg.lo qi hqi3
                have hsi := signed_ok K (fun g => (Value.slice Ao out.length co).ownBlock = some g ∨ (Value.slice (some ⟨gi, oi, none⟩) q ci).ownBlock = some g) ⟨kd, ⟨#[]⟩, so, bd, ⟨#[]⟩⟩ A9 c9 (G.bk qi) (G.sd qi) (by omega) (G.ht qi) (G.us qi) (by omega) (by omega) wa.drew ((HK.out.unch HMA.out.sg.u (fun h => h)).unch ((Unch.refl none_ wa).drew) (fun h => h)) (by omega) (HMA.out.fresh ((Unch.refl none_ wa).drew)).zlt ((HMA.out.sg.key qi hqi3).unch ((Unch.refl none_ wa).drew)) (by simp only []; rw [HU.out]; exact HRA.out.unch ((Unch.refl none_ wa).drew) (fun _ _ h => h)) (by simp only []; rw [HU.out]; omega)
                simp only [evV] at hsi
                rw [HU.out] at hsi
                have HSI := Lib.hid hsi
                clear hsi HRA
                refine wp_planC (fun W => Unch none_ wa W) [0, 1, 2, 3, 4, 5, 6, 7] [8, 9] 0 (by kernel_rfl) (by kernel_rfl) rfl rfl (fun c a d v w h => by cases d <;> exact h) ((Unch.refl _ _).drew) ?_
                intro S HS _
                have f0 : ∀ G2 : In S, G2.w.cell? ⟨bE, 0, none⟩ = some (.int .i64 kd) := fun G2 => ((HS.out _).1 G2.h).cell (blk_cell HEA.out.e (j := 0) rfl) (fun h => h)
                have f1 : ∀ G2 : In S, G2.w.cell? ⟨bE, 1, none⟩ = some (.string ⟨#[]⟩) := fun G2 => ((HS.out _).1 G2.h).cell (blk_cell HEA.out.e (j := 1) rfl) (fun h => h)
                have f2 : ∀ G2 : In S, G2.w.cell? ⟨bE, 2, none⟩ = some (.slice A9 u c9) := fun G2 => ((HS.out _).1 G2.h).cell (blk_cell HEA.out.e (j := 2) rfl) (fun h => h)
                have f3 : ∀ G2 : In S, G2.w.cell? ⟨bE, 3, none⟩ = some (.string bd) := fun G2 => ((HS.out _).1 G2.h).cell (blk_cell HEA.out.e (j := 3) rfl) (fun h => h)
                have f4 : ∀ G2 : In S, G2.w.cell? ⟨bE, 4, none⟩ = some (.string ⟨#[]⟩) := fun G2 => ((HS.out _).1 G2.h).cell (blk_cell HEA.out.e (j := 4) rfl) (fun h => h)
                have f5 : ∀ G2 : In S, G2.w.cell? ⟨bX, 1, none⟩ = some (.int .i64 x.who) := fun G2 => ((HS.out _).1 G2.h).cell x1 (fun h => h)
                have f6 : ∀ G2 : In S, G2.w.cell? ⟨w.heap.size, qi, none⟩ = some (.pointer (some ⟨G.bk qi, 0, none⟩)) := fun G2 => ((HS.out _).1 G2.h).cell sq (fun h => h)
                simp only [pickIn, List.getElem?_toArray, List.getElem?_cons_succ, List.getElem?_cons_zero]
                repeat (go_big_quiet_step (fail))
                refine wpQuiet_nil ?_
                clear f0 f1 f2 f3 f4 f5 f6 x1 sq
                refine tail_all ?_
                go_wp2_with fail
                with_reducible refine HSI.out.mono ?_
                rintro _ wb ⟨s, u', rfl, hss, Hb, hu', hub⟩
                have hdr : Unch none_ wa wa.drew := (Unch.refl none_ wa).drew
                have hmb := (HMA.out.fresh hdr).touch hqi3 hub Hb (U' := k + 1 + 1) (by omega) (by omega)
                have hxb := hub.heap (hdr.heap HEA.out.x (fun h => h)) (fun e => (HMA.out.sg.key qi hqi3).bne HEA.out.x (by decide) e.symm)
                generalize hG2 : ({ G with us := _ } : Gh) = G2 at hmb
                have HMB := Lib.hid hmb
                have HXB := Lib.hid hxb
                clear hmb hxb hG2 hub Hb hu' hz1 hz2 hz3 hlo HSI HMA HEA hdr
                have x4 := blk_cell HXB.out (j := 4) (v := .int .i64 x.spoil) rfl
                have hs0 : (0 : Int) ≤ (s.size : Int) := by omega
                have hs1 : (s.size : Int) ≤ 1100000 := by omega
                go_upto_region 34 with fail
                go_cut [158] from 151 to 158 (fun v wx => v = .bool (decide (x.spoil ≠ 0) && decide (0 < s.size)) ∧ wb = wx)
                case first =>
                  by_cases hsp : x.spoil = 0
                  · have d0 : (x.spoil != 0) = false := by rw [hsp]; rfl
                    go_wp2_with fail
                    go_meet
                    exact ⟨by simp [hsp], rfl⟩
                  · have d0 : (x.spoil != 0) = true := by rw [bne_iff_ne]; exact hsp
                    by_cases hps : 0 < s.size
                    · have d1 : (0 : Int) < (s.size : Int) := by omega
                      go_wp2_with fail
                      go_meet
                      exact ⟨by simp [hsp, hps], rfl⟩
                    · have d1 : ¬ (0 : Int) < (s.size : Int) := by omega
                      go_wp2_with fail
                      go_meet
                      exact ⟨by simp [hps], rfl⟩
                case rest =>
                  obtain ⟨rfl, hwc⟩ := hcut
                  subst hwc
                  go_upto_if 158 with fail
                  generalize hc : (decide (x.spoil ≠ 0) && decide (0 < s.size)) = cb at *
                  have HC := Lib.hid hc
                  clear hc
                  go_cut [15, 16] from 151 to 181 (fun v15 v16 wx => ∃ s' : ByteArray, v15 = .string s' ∧ s'.size ≤ 1100000 ∧ Unch none_ wb wx)
                  case first =>
                    cases cb with
                    | false =>
                      go_wp2_with fail
                      go_meet
                      exact ⟨s, rfl, hss, Unch.refl _ _⟩
                    | true =>
                      have hps : 0 < s.size := by
                        have := HC.out
                        rw [Bool.and_eq_true] at this
                        exact of_decide_eq_true this.2
                      obtain ⟨kx, hkx, hk1, _⟩ := mod_ix x.spoil s.size hps (by omega)
                      have k0 : (0 : Int) ≤ (kx : Int) := by omega
                      have k1 : (kx : Int) < (s.size : Int) := by omega
                      have s0 : (0 : Int) < (s.size : Int) := by omega
                      have s2 : ((s.size : Int) == 0) = false := by rw [beq_eq_false_iff_ne]; omega
                      go_upto_region 36 with fail
                      have i5 := fun W => str_index s (j := kx) (i := (kx : Int)) rfl hkx W
                      refine wp_planC (fun _ => True) [0, 1, 2, 3, 4, 5, 6, 10, 11, 12, 13] [7, 8, 9, 14, 15] 3 (by kernel_rfl) (by kernel_rfl) rfl rfl (fun c a d v w h => by cases d <;> exact h) (trivial) ?_
                      intro S HS _
                      simp only [pickIn, List.getElem?_toArray, List.getElem?_cons_succ, List.getElem?_cons_zero]
                      repeat (go_big_quiet_step (fail))
                      refine wpQuiet_nil ?_
                      generalize bits BinOp.xor IntKind.u8 ((byteAt s kx : Nat) : Int) 1 = V
                      refine tail_step ?_
                      go_wp2_with fail
                      have hwq : Unch none_ wb (wb.alloc (.cells #[.int .u8 V] 5)).drew := ((Unch.refl none_ wb).alloc _).drew
                      have hq : (wb.alloc (.cells #[.int .u8 V] 5)).drew.heap[wb.heap.size]? = some (.cells #[.int .u8 V] 5 (0, 0)) := blk_new wb (.cells #[.int .u8 V] 5)
                      have hcv := convV _ _ V hq
                      have ho1 := strOne V
                      generalize strOfNums [V] = O at hcv ho1
                      generalize (wb.alloc (.cells #[.int .u8 V] 5)).drew = wq at hwq hcv ⊢
                      clear hq
                      refine tail_midS ((HS.out _).2 trivial) (tail_step ?_)
                      go_wp2_with fail
                      refine tail_midS ((HS.out _).2 trivial) (tail_step ?_)
                      have e1 : (s.extract 0 kx).size = kx := by rw [ByteArray.size_extract]; omega
                      have e2 : (s.extract (kx + 1) s.size).size = s.size - (kx + 1) := by rw [ByteArray.size_extract]; omega
                      have b1 : ¬ 9223372036854775807 < (s.extract 0 kx).size + O.size := by omega
                      have b2 : ¬ 9223372036854775807 < (s.extract 0 kx ++ O).size + (s.extract (kx + 1) s.size).size := by rw [ByteArray.size_append]; omega
                      have b3 : ¬ 9223372036854775807 < (s.extract 0 kx).size + O.size + (s.extract (kx + 1) s.size).size := by omega
                      go_wp2_with fail
                      refine tail_midS ((HS.out _).2 trivial) (tail_all ?_)
                      go_wp2_with fail
                      go_meet
                      exact ⟨_, rfl, by simp only [ByteArray.size_append, e1, e2]; omega, hwq⟩
                  case rest =>
                    obtain ⟨s', rfl, hss', huc⟩ := hcut
                    have HMC := Lib.hid (HMB.out.fresh huc)
                    clear HMB huc HXB HC x4
                    by_cases hse : s'.size = 0
                    · obtain rfl : s' = ⟨#[]⟩ := ByteArray.ext (Array.eq_empty_of_size_eq_zero hse)
                      go_wp2_with fail
                      go_roundg (N - (k + 1))
                      case measure => omega
                      case rel => exact ⟨k + 1, G2, out, ids, rfl, by omega, by go_num, HMC.out, by omega, by rw [HQ.out]; omega, by rw [HQ.out]; exact hi0⟩
                    · have d1 := str_full (x := s') (by omega)
                      have hi32' := idF_size K s'
                      have HIK := Lib.hid (fun W (hK : Kys K W) => id_ok K s' (by omega) W hK)
                      generalize idF K s' = sid at *
                      have HQ2 := Lib.hid HQ.out.symm
                      have hri := HMC.out.ri
                      rw [HQ.out] at hri
                      have HRI2 := Lib.hid hri
                      clear hri
                      go_wp2_with (first
                        | (at_builtin; refine wpList_append1 wc rfl (.tmp 184) (.tmp 186) 25 9 _ 1 16 rfl Tryz.underlying25 info_str rfl (by omega) (.slice Ao out.length co) out.length (sv out) (by rfl) HMC.out.ro [.string s'] rfl (by intro u hu; simp at hu; subst hu; rfl) (by rfl) (by simp only [maxLen]; omega) (by omega) ?_
                           intro vd wd hrd hud hatd
                           have hmd := HMC.out.appO hss' hrd hud hatd
                           obtain ⟨Ad, cd, hvd, _⟩ := hrd.slice
                           subst hvd
                           have HMD := Lib.hid hmd
                           have hrid := hmd.ri
                           rw [HQ.out] at hrid
                           have HRID := Lib.hid hrid
                           clear hrd hud hatd hmd hrid)
                        | (go_at_call 17; with_reducible refine (HIK.out wd (HK.out.unch HMD.out.sg.u (fun h => h))).mono ?_; rintro _ we ⟨rfl, hue⟩)
                        | (at_builtin; refine wpList_append1 we rfl (.tmp 188) (.tmp 191) 25 9 _ 1 16 rfl Tryz.underlying25 info_str rfl (by omega) (.slice (some ⟨gi, oi, none⟩) q ci) q (sv ids) (by rfl) (HRID.out.unch hue (fun _ _ h => h)) [.string sid] rfl (by intro u hu; simp at hu; subst hu; rfl) (by rfl) (by simp only [maxLen]; omega) (by omega) ?_
                           intro vf wf hrf huf hatf
                           have hmf := (HMD.out.fresh hue).appI hi32' (by rw [HQ.out]; exact hrf) huf hatf
                           obtain ⟨Af, cf, hvf, _⟩ := hrf.slice
                           subst hvf
                           have HMF := Lib.hid hmf
                           clear hrf huf hatf hmf))
                      go_roundg (N - (k + 1))
                      case measure => omega
                      case rel => exact ⟨k + 1, G2, out ++ [s'], ids ++ [sid], rfl, by omega, by go_num, HMF.out, by rw [List.length_append, List.length_singleton]; omega, by rw [List.length_append, HQ.out, List.length_singleton]; omega, by rw [List.length_append, HQ.out]; omega⟩
        · have hi8 := HM.out.ro
          obtain ⟨gi, oi, cpi, curi, hvi, _⟩ := HM.out.ri.form hi0
          injection hvi with hvi1 _ hvi3
          subst hvi1
          subst hvi3
          obtain ⟨s, hs⟩ := get_some rfl hi0
          have xs : w2.cell? ⟨gi, oi, none⟩ = some (.string s) := HM.out.ri.at (j := 0) rfl (sv_get hs)
          have XS := Lib.hid xs
          have hs32 := HM.out.zi s (List.mem_of_getElem? hs)
          have i0 : (0 : Int) < (ids.length : Int) := by omega
          have hend : ∀ W, Unch none_ w2 W → fin (.returned (.tuple #[.slice Ao out.length co, .string s])) W := fun W hu => by
            rw [← FIN.out]
            exact ⟨_, out, s, rfl, HM.out.sg.u.trans hu, hi8.unch hu (fun _ _ h => h), by omega, hs32, HM.out.zo⟩
          have HEND := Lib.hid hend
          clear hs hi8 hend
          have xs := cellU xs
          rcases (show k = n ∨ (k < n ∧ k = 12) by omega) with hkn | ⟨hkn, hk12⟩
          · have z1 : ¬ (k : Int) < (n : Int) := by omega
            go_upto_region 40 with fail
            refine wp_region_quiet_u (by kernel_rfl) (by kernel_rfl) (fun _ => ?_)
            repeat (go_big_quiet_step (fail))
            refine wpQuiet_nil ?_
            intro wq hw'
            obtain ⟨⟨wqq, huq⟩, hw''⟩ := hw'
            subst hw''
            go_wp2_with fail
            exact HEND.out _ huq
          · have z1 : (k : Int) < (n : Int) := by omega
            have z2 : ¬ (k : Int) < 12 := by omega
            clear hk12
            go_upto_region 40 with fail
            refine wp_region_quiet_u (by kernel_rfl) (by kernel_rfl) (fun _ => ?_)
            repeat (go_big_quiet_step (fail))
            refine wpQuiet_nil ?_
            intro wq hw'
            obtain ⟨⟨wqq, huq⟩, hw''⟩ := hw'
            subst hw''
            go_wp2_with fail
            exact HEND.out _ huq
end Go.Proofs.YtgcpoppinnnciaaGreatDoor
