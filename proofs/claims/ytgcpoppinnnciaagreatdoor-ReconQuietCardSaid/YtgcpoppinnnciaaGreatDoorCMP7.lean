/-
  member.member; the closures of of and among.
-/
import Derived.Test.YtgcpoppinnnciaaGreatDoorCMP3
import Derived.Sort.Grow
/- member.member; the closures of of and among. -/
set_option linter.unusedVariables false
set_option linter.unusedSimpArgs false
namespace Go.Proofs.YtgcpoppinnnciaaGreatDoor
open Go Go.RowKit Go.Proofs.YtgcpoppinnnciaaGreatDoor.Pal Go.Proofs.YtgcpoppinnnciaaGreatDoor.Plan

section
variable {w w1 : World} {l : List Ent} {r : Nat} {q : PB} {G : Nat → Bool} {k : CB} {S : Nat → Bool} {Hf : Nat → Option Bool}
def memB (l : List Ent) (Hf : Nat → Option Bool) (L : List Nat) (key : ByteArray) : Bool := (List.range L.length).any fun t => inB l Hf L key (L.getD t 0)
set_option maxRecDepth 100000 in
set_option maxHeartbeats 1000000 in
theorem member_ok (h : PCir w l r q G k S Hf) {L : List Nat} (hL : ∀ j ∈ L, j < l.length) (hrd : RdS w 5 EntR k.A k.m (L.map (ent l))) (key : ByteArray) :
    Calls Tryz.prog 204 #[.pointer (some ⟨k.bc, 0, none⟩), .string key] w fun e w' => e = .returned (.bool (memB l Hf L key)) ∧ Unch none_ w w' := by
  have hmL : L.length = k.m := by have := hrd.len; simpa using this
  have hu1 : Unch none_ w ((w.alloc (Obj.cells #[.pointer (some ⟨k.bc, 0, none⟩)] 254)).alloc (Obj.cells #[.string key] 9)) := ((Unch.refl none_ w).alloc _).alloc _
  have bx := blk_cell (blk_alloc (blk_new w (Obj.cells #[.pointer (some ⟨k.bc, 0, none⟩)] 254)) (Obj.cells #[.string key] 9)) (j := 0) rfl
  have bk := blk_cell (blk_new (w.alloc (Obj.cells #[.pointer (some ⟨k.bc, 0, none⟩)] 254)) (Obj.cells #[.string key] 9)) (j := 0) rfl
  simp only [World.size_alloc] at bk
  have hcont := containsFunc_ok (c := k.c) (RdS.fresh hrd hu1) (g := 211) (lb := #[.pointer (some ⟨w.heap.size + 1, 0, none⟩), .pointer (some ⟨w.heap.size, 0, none⟩)]) (enters_of Tryz.func211 (by kernel_rfl) rfl) (p := fun t => inB l Hf L key (L.getD t 0)) (fun W hW t ht => by
    have ht' : t < L.length := by simpa using ht
    rw [ent_map ht']
    exact member1_ok ((h.fresh hu1).fresh hW) hL (RdS.fresh hrd (hu1.trans hW)) (hW.cell bx (fun h => h)) (hW.cell bk (fun h => h)) (hL _ (getD_mem ht')))
  rw [← hmL] at hcont
  obtain ⟨res, hres⟩ : ∃ res, memB l Hf L key = res := ⟨_, rfl⟩
  rw [hres]
  unfold memB at hres
  rw [hres] at hcont
  have c1 := circ1 (h.fresh hu1).blk
  have HC := Lib.hid hcont
  rw [hmL] at HC
  clear hcont hres bk hmL
  go_enter Tryz.func204, Tryz.ntmps204
  go_wp2_with fail
  refine HC.out.mono ?_
  rintro e w' ⟨rfl, hu⟩
  go_wp2
  go_ret
  exact ⟨rfl, hu1.trans hu⟩
end
/-! ### of's closure -/
def isRoot (room : ByteArray) (e : Ent) : Bool := decide (e.id = room) && decide (e.kind = 1)
set_option maxRecDepth 100000 in
theorem of1_ok {w : World} {rb : Nat} {room : ByteArray} (hx : w.cell? ⟨rb, 0, none⟩ = some (.string room)) (e : Ent) :
    Calls Tryz.prog 193 #[e.val, .pointer (some ⟨rb, 0, none⟩)] w fun e' w' => e' = .returned (.bool (isRoot room e)) ∧ Unch none_ w w' := by
  have hu1 : Unch none_ w (w.alloc (Obj.cells e.cells.toArray 114)) := (Unch.refl none_ w).alloc _
  have bA := blk_new w (Obj.cells e.cells.toArray 114)
  have hx1 := hu1.cell hx (fun h => h)
  obtain ⟨res, hres⟩ : ∃ res, isRoot room e = res := ⟨_, rfl⟩
  rw [hres]
  have HR := Lib.hid hres
  clear hres
  unfold Ent.cells at *
  have x0 := blk_cell bA (j := 0) rfl
  have x1 := blk_cell bA (j := 1) rfl
  unfold Ent.val
  clear bA
  by_cases c1 : e.id = room
  · by_cases c2 : e.kind = 1
    · have HF : Hid (isRoot room e = true) := by unfold isRoot; rw [decide_eq_true c1, decide_eq_true c2]; rfl
      subst c1
      have d1 : (e.kind == 1) = true := by simpa using c2
      clear c2
      go_enter Tryz.func193, Tryz.ntmps193
      go_wp2
      go_ret
      exact ⟨by rw [← HR.out, HF.out]; rfl, hu1⟩
    · have HF : Hid (isRoot room e = false) := by unfold isRoot; rw [decide_eq_false c2, Bool.and_false]; rfl
      have d1 : (e.kind == 1) = false := by simpa using c2
      subst c1
      clear c2
      go_enter Tryz.func193, Tryz.ntmps193
      go_wp2
      go_ret
      exact ⟨by rw [← HR.out, HF.out]; rfl, hu1⟩
  · have HF : Hid (isRoot room e = false) := by unfold isRoot; rw [decide_eq_false c1, Bool.false_and]; rfl
    have d1 := str_ne c1
    clear c1
    go_enter Tryz.func193, Tryz.ntmps193
    go_wp2
    go_ret
    exact ⟨by rw [← HR.out, HF.out]; rfl, hu1⟩
/-! ### A world that has grown -/
def Gr (w w' : World) : Prop := ∃ n os, w' = Sort.grow (w.drewN n) os
theorem Gr.refl (w : World) : Gr w w := ⟨0, #[], by simp [Sort.grow, World.drewN]⟩
theorem Gr.drew {w w' : World} (h : Gr w w') : Gr w w'.drew := by
  obtain ⟨n, os, rfl⟩ := h
  exact ⟨n + 1, os, rfl⟩
theorem Gr.alloc {w w' : World} (h : Gr w w') (o : Obj) : Gr w (w'.alloc o) := by
  obtain ⟨n, os, rfl⟩ := h
  exact ⟨n, os ++ #[o], by rw [Sort.alloc_eq_grow, Sort.grow_grow]⟩
/-! ### among's closure -/
def cmpE (l : List Ent) (i j : Nat) : Int := if cmpI (cnt l i) (cnt l j) = 0 then cmpS (ent l i).id (ent l j).id else cmpI (cnt l i) (cnt l j)
section
variable {w w1 : World} {l : List Ent} {r : Nat} {q : PB} {G : Nat → Bool}
set_option maxRecDepth 100000 in
set_option maxHeartbeats 1000000 in
theorem among1_ok (h : PSet w l r q G) {bx : Nat} (hx : w.cell? ⟨bx, 0, none⟩ = some (.pointer (some ⟨q.bs, 0, none⟩))) {i j : Nat} (hi : i < l.length) (hj : j < l.length) :
    Calls Tryz.prog 206 #[(ent l i).val, (ent l j).val, .pointer (some ⟨bx, 0, none⟩)] w fun e w' => e = .returned (.int .i64 (cmpE l i j)) ∧ Gr w w' := by
  have hu1 : Unch none_ w ((w.alloc (Obj.cells (ent l i).cells.toArray 114)).alloc (Obj.cells (ent l j).cells.toArray 114)) := ((Unch.refl none_ w).alloc _).alloc _
  have hg1 : Gr w ((w.alloc (Obj.cells (ent l i).cells.toArray 114)).alloc (Obj.cells (ent l j).cells.toArray 114)) := ((Gr.refl w).alloc _).alloc _
  have bA := blk_alloc (blk_new w (Obj.cells (ent l i).cells.toArray 114)) (Obj.cells (ent l j).cells.toArray 114)
  have bB := blk_new (w.alloc (Obj.cells (ent l i).cells.toArray 114)) (Obj.cells (ent l j).cells.toArray 114)
  have hx1 := hu1.cell hx (fun h => h)
  have h1 := h.fresh hu1
  obtain ⟨x, hxx⟩ : ∃ x, cmpI (cnt l i) (cnt l j) = x := ⟨_, rfl⟩
  obtain ⟨y, hyy⟩ : ∃ y, cmpS (ent l i).id (ent l j).id = y := ⟨_, rfl⟩
  unfold cmpE
  rw [hxx, hyy]
  obtain ⟨z, hz⟩ : ∃ z, (if x = 0 then y else x) = z := ⟨_, rfl⟩
  rw [hz]
  have HZ := Lib.hid hz
  clear hz
  have HX := Lib.hid hxx
  have HY := Lib.hid hyy
  unfold Ent.cells at *
  clear hxx hyy h hx
  unfold Ent.val
  go_enter Tryz.func206, Tryz.ntmps206
  go_upto_region 1 with fail
  simp only [World.size_alloc] at bB
  generalize w.heap.size = g at *
  generalize (w.alloc _).alloc _ = w2 at *
  refine wp_planC (fun W => Unch none_ w2 W) [0, 1, 2, 3, 4, 5, 6, 7, 8, 9, 10, 11, 12, 13, 14, 15, 17, 18, 19, 20] [16, 21, 22, 23, 24] 1 (by kernel_rfl) (by kernel_rfl) rfl rfl (fun c a d v w h => by cases d <;> exact h) ((Unch.refl _ _).drew) ?_
  intro S HS _
  have f0 : ∀ G2 : In S, G2.w.cell? ⟨bx, 0, none⟩ = some (.pointer (some ⟨q.bs, 0, none⟩)) := fun G2 => ((HS.out _).1 G2.h).cell hx1 (fun h => h)
  have f1 : ∀ G2 : In S, G2.w.cell? ⟨q.bs, 6, none⟩ = some (.map (some q.bpast)) := fun G2 => (h1.fresh ((HS.out _).1 G2.h)).c6
  have f2 : ∀ G2 : In S, G2.w.cell? ⟨g, 0, none⟩ = some (.string (ent l i).id) := fun G2 => ((HS.out _).1 G2.h).cell (blk_cell bA (j := 0) rfl) (fun h => h)
  have f3 : ∀ G2 : In S, G2.w.cell? ⟨g + 1, 0, none⟩ = some (.string (ent l j).id) := fun G2 => ((HS.out _).1 G2.h).cell (blk_cell bB (j := 0) rfl) (fun h => h)
  have f4 : ∀ G2 : In S, (Instr.lookup 241 (.map (some q.bpast)) (.string (ent l i).id) false).run Tryz.prog G2.w = .ok (.map (some (q.pb i))) G2.w := fun G2 => (h1.fresh ((HS.out _).1 G2.h)).lookPast hi
  have f5 : ∀ G2 : In S, (Instr.lookup 241 (.map (some q.bpast)) (.string (ent l j).id) false).run Tryz.prog G2.w = .ok (.map (some (q.pb j))) G2.w := fun G2 => (h1.fresh ((HS.out _).1 G2.h)).lookPast hj
  have f6 : ∀ G2 : In S, (Builtin.len_ #[148] 3 #[.map (some (q.pb i))]).run Tryz.prog G2.w = .ok (.int .i64 (cnt l i : Int)) G2.w := fun G2 => (h1.fresh ((HS.out _).1 G2.h)).lenRow hi _
  have f7 : ∀ G2 : In S, (Builtin.len_ #[148] 3 #[.map (some (q.pb j))]).run Tryz.prog G2.w = .ok (.int .i64 (cnt l j : Int)) G2.w := fun G2 => (h1.fresh ((HS.out _).1 G2.h)).lenRow hj _
  simp only [pickIn, List.getElem?_toArray, List.getElem?_cons_succ, List.getElem?_cons_zero]
  repeat (go_big_quiet_step (fail))
  refine wpQuiet_nil ?_
  clear f0 f1 f2 f3 f4 f5 f6 f7
  have hq1 := compareI (w := w2.drew) (cnt l i : Int) (cnt l j : Int)
  rw [HX.out] at hq1
  have HQ1 := Lib.hid hq1
  have hq2 := compareS (w := w2.drew) (ent l i).id (ent l j).id
  rw [HY.out] at hq2
  have HQ2 := Lib.hid hq2
  clear hq1 hq2
  refine tail_step ?_
  go_wp2_with fail
  refine HQ1.out.mono ?_
  rintro e w' ⟨rfl, rfl⟩
  go_wp2_with fail
  refine tail_midS ((HS.out _).2 (Unch.refl _ _).drew) (tail_all ?_)
  go_wp2_with fail
  refine HQ2.out.mono ?_
  rintro e w' ⟨rfl, rfl⟩
  have hor := or2 (c := 2) x y (blk_new w2.drew (Obj.cells #[.int .i64 x, .int .i64 y] 3))
  rw [HZ.out] at hor
  have HOR := Lib.hid hor
  clear hor
  go_wp2_with fail
  refine HOR.out.mono ?_
  rintro e w' ⟨rfl, rfl⟩
  go_wp2
  go_ret
  exact ⟨rfl, (hg1.alloc _).drew⟩
end
end Go.Proofs.YtgcpoppinnnciaaGreatDoor
