/-
  What a room looks like, told by room.Look and by the document's Look: one word for both.
  palaverlaw16: few.
  palaverlaw16, awake: the document's example answers.
-/
import Derived.Test.YtgalnnmeamldhaaGreatCRL3
import Derived.Test.YtgalnnmeamldhaaGreatCRL1
import Derived.Test.YtgalnnmeamldhaaGreatCKM2
import Derived.Test.YtgalnnmeamldhaaGreatCMRd
/- What a room looks like, told by room.Look and by the document's Look: one word for both. -/
set_option linter.unusedVariables false
set_option linter.unusedSimpArgs false
namespace Go.Proofs.YtgalnnmeamldhaaGreat
open Go Go.RowKit Go.Proofs.YtgalnnmeamldhaaGreat.Pal Go.Proofs.YtgalnnmeamldhaaGreat.Plan

/-- What a closed list of entries looks like. -/
def IsView (l : List Ent) (r : Nat) (nm tp : ByteArray) (L : List ByteArray) (ps : List (ByteArray × ByteArray)) : Prop :=
  nm = (ent l r).body ∧ MemL (goodS l r) L ∧ ∃ ys, OrdP l ys ∧ LeastP l ys ∧ ys.length = l.length ∧ viewV l (goodS l r).holding ys = (tp, ps)
theorem IsView.uniq {l : List Ent} (hC : Closed l) {r : Nat} {nm nm' tp tp' : ByteArray} {L L' : List ByteArray} {ps ps' : List (ByteArray × ByteArray)} (h : IsView l r nm tp L ps) (h' : IsView l r nm' tp' L' ps') : nm' = nm ∧ tp' = tp ∧ L' = L ∧ ps' = ps := by
  obtain ⟨a, b, ys, o1, o2, o3, o4⟩ := h
  obtain ⟨a', b', ys', o1', o2', o3', o4'⟩ := h'
  obtain rfl := order_uniq hC o1 o2 o1' o2' (by rw [o3, o3'])
  rw [o4] at o4'
  injection o4' with e1 e2
  exact ⟨by rw [a, a'], e1.symm, b'.uniq b, e2.symm⟩
/-- A look: its value lies in w'. -/
structure LooksA (l : List Ent) (r : Nat) (w : World) (nm tp : ByteArray) (L : List ByteArray) (ps : List (ByteArray × ByteArray)) (v : Value) (w' : World) : Prop where
  is : IsView l r nm tp L ps
  lies : ViewL w' nm tp L ps v
  hu : Unch none_ w w'
def LooksP (l : List Ent) (r : Nat) (w : World) (v : Value) (w' : World) : Prop := ∃ nm tp L ps, LooksA l r w nm tp L ps v w'
theorem lookP {w : World} {A : Option Addr} {n c : Nat} {l : List Ent} (h : Ents w A n l) (hc : n ≤ c) (hb : closedB l = true) {r : Nat} (hr : rootN rootB l = some r) (hps : ∀ e ∈ l, e.ps.length ≤ 1048576) :
    Calls Tryz.prog 11 #[.string rootB, .slice A n c] w fun e w' => ∃ v, e = .returned v ∧ LooksP l r w v w' :=
  (look_ok h hc rootB (by decide) hb hr hps).mono fun e w' ⟨ys, tp, ps, vm, vp, L, he, ho, hv, hm, hw⟩ => ⟨_, he, _, _, _, _, ⟨rfl, hm, ys, ho.1, ho.2.1, ho.2.2, hv⟩, hw.lies, hw.hu⟩
theorem rlookP {w : World} {A : Option Addr} {n c : Nat} {l : List Ent} (h : Ents w A n l) (hc : n ≤ c) (hb : closedB l = true) {r : Nat} (hr : rootN rootB l = some r) :
    Calls Tryz.prog 12 #[.string rootB, .slice A n c] w fun e w' => ∃ v, e = .returned v ∧ LooksP l r w v w' :=
  (rlook_ok h hc rootB hb hr).mono fun e w' ⟨ys, tp, ps, vm, vp, L, he, ho, hv, hm, hw⟩ => ⟨_, he, _, _, _, _, ⟨rfl, hm, ys, ho.1, ho.2.1, ho.2.2, hv⟩, hw.lies, hw.hu⟩
end Go.Proofs.YtgalnnmeamldhaaGreat
/- palaverlaw16: few. -/
set_option linter.unusedVariables false
set_option linter.unusedSimpArgs false
namespace Go.Proofs.YtgalnnmeamldhaaGreat
open Go Go.RowKit Go.Proofs.YtgalnnmeamldhaaGreat.Pal

theorem few16_ok {w : World} {A : Option Addr} {n c : Nat} (hn : n ≤ maxLen) :
    Calls Tryz.prog 9 #[.slice A n c] w fun e w' => e = .returned (.bool (decide (n ≤ 24))) ∧ w = w' := by
  unfold maxLen at hn
  go_enter Tryz.func9, Tryz.ntmps9
  go_wp2
  go_ret
  refine ⟨?_, rfl⟩
  congr 2
  by_cases h : n ≤ 24
  · rw [decide_eq_true h, decide_eq_true (by omega)]; rfl
  · rw [decide_eq_false h, decide_eq_false (by omega)]; rfl
end Go.Proofs.YtgalnnmeamldhaaGreat
/- palaverlaw16, awake: the document's example answers. -/
set_option linter.unusedVariables false
set_option linter.unusedSimpArgs false
namespace Go.Proofs.YtgalnnmeamldhaaGreat
open Go Go.RowKit Go.Proofs.YtgalnnmeamldhaaGreat.Pal Go.Proofs.YtgalnnmeamldhaaGreat.Plan

def ex2 (g : Nat) : List Ent := [
  ⟨⟨#[114]⟩, 1, ⟨#[97]⟩, .slice none 0 0, [], ⟨#[110]⟩⟩,
  ⟨⟨#[112]⟩, 2, ⟨#[97]⟩, .slice (some ⟨g, 0, none⟩) 1 1, [⟨#[114]⟩], ⟨#[116]⟩⟩]
theorem ex2_closed (g : Nat) : closedB (ex2 g) = true := by kernel_rfl
theorem ex2_root (g : Nat) : rootN ⟨#[114]⟩ (ex2 g) = some 0 := by kernel_rfl
theorem ex2_ma (g : Nat) : (goodS (ex2 g) 0).member ⟨#[97]⟩ = true := by kernel_rfl
theorem ex2_mem (g : Nat) : MemL (goodS (ex2 g) 0) [⟨#[97]⟩] := by
  refine ⟨List.pairwise_singleton _ _, fun key => ?_⟩
  constructor
  · intro h
    have h : key = ⟨#[97]⟩ := by simpa using h
    rw [h]; exact ex2_ma g
  · intro h
    rcases member_added h with e | ⟨x, h1, h2, h3, h4⟩
    · rw [e]; exact List.mem_singleton.2 rfl
    · have h1 : x < 2 := h1
      have hx : x = 0 ∨ x = 1 := by omega
      rcases hx with rfl | rfl
      · exact absurd h3 (by show ¬ (1 : Int) = 4; decide)
      · exact absurd h3 (by show ¬ (2 : Int) = 4; decide)
theorem ex2_view (g : Nat) : viewV (ex2 g) (goodS (ex2 g) 0).holding [⟨#[114]⟩, ⟨#[112]⟩] = (⟨#[]⟩, [(⟨#[97]⟩, ⟨#[116]⟩)]) := by kernel_rfl
theorem ex2_ord (g : Nat) : OrdP (ex2 g) [⟨#[114]⟩, ⟨#[112]⟩] ∧ LeastP (ex2 g) [⟨#[114]⟩, ⟨#[112]⟩] := by
  have hC := closed_iff.1 (ex2_closed g)
  have r0 : readyB (ex2 g) [] 0 = true := by kernel_rfl
  have r1 : readyB (ex2 g) [] 1 = false := by kernel_rfl
  have s0 : readyB (ex2 g) ([] ++ [(ent (ex2 g) 0).id]) 0 = false := by kernel_rfl
  have s1 : readyB (ex2 g) ([] ++ [(ent (ex2 g) 0).id]) 1 = true := by kernel_rfl
  have a := (OrdP.start (ex2 g)).put hC (j := 0) (by show 0 < 2; omega) r0
  have b := (LeastP.start (ex2 g)).put (x := (ent (ex2 g) 0).id) (fun i hi hr => by
    have hi : i < 2 := hi
    rcases (show i = 0 ∨ i = 1 by omega) with rfl | rfl
    · exact bl_irrefl _
    · rw [r1] at hr; cases hr)
  exact ⟨a.put hC (j := 1) (by show 1 < 2; omega) s1, b.put (x := (ent (ex2 g) 1).id) (fun i hi hr => by
    have hi : i < 2 := hi
    rcases (show i = 0 ∨ i = 1 by omega) with rfl | rfl
    · rw [s0] at hr; cases hr
    · exact bl_irrefl _)⟩
theorem ex2_is (g : Nat) : IsView (ex2 g) 0 ⟨#[110]⟩ ⟨#[]⟩ [⟨#[97]⟩] [(⟨#[97]⟩, ⟨#[116]⟩)] := ⟨rfl, ex2_mem g, _, (ex2_ord g).1, (ex2_ord g).2, rfl, ex2_view g⟩
theorem str2_row {w : World} {g : Nat} {s : ByteArray} (h : w.heap[g]? = some (.cells #[.string s] 9 (0, 0))) : Row w 9 1 (.slice (some ⟨g, 0, none⟩) 1 1) 1 (sv [s]) :=
  row_of_cells h (Nat.le_refl _) (by decide) (by show 1 ≤ 1; exact Nat.le_refl _) rfl (fun t ht => by
    have : t = 0 := by omega
    subst this; rfl)
theorem ax_start (w : World) {w4 : World} (h : w4 = (w.alloc (.cells #[.string ⟨#[114]⟩] 9)).alloc (.cells (ecells (ex2 w.heap.size)).toArray 35)) :
    Ents w4 (some ⟨w.heap.size + 1, 0, none⟩) 2 (ex2 w.heap.size) ∧ Unch none_ w w4 := by
  subst h
  have b1 := blk_new w (.cells #[.string ⟨#[114]⟩] 9)
  have b4 := blk_new (w.alloc (.cells #[.string ⟨#[114]⟩] 9)) (.cells (ecells (ex2 w.heap.size)).toArray 35)
  simp only [World.size_alloc] at b4
  have c1 := blk_alloc b1 (.cells (ecells (ex2 w.heap.size)).toArray 35)
  generalize hW : (w.alloc (.cells #[.string ⟨#[114]⟩] 9)).alloc (.cells (ecells (ex2 w.heap.size)).toArray 35) = W at *
  have hu : Unch none_ w W := hW ▸ ((Unch.refl none_ w).alloc _).alloc _
  obtain ⟨g, hg⟩ : ∃ g, w.heap.size = g := ⟨_, rfl⟩
  rw [hg] at c1 b4 ⊢
  have hE : ∀ e ∈ ex2 g, EntS W e := by
    intro e he
    unfold ex2 at he
    simp only [List.mem_cons, List.not_mem_nil, or_false] at he
    rcases he with rfl | rfl
    · exact ⟨Row.nil _ _ _, by show 1 ≤ maxLen; decide, by show 1 ≤ maxLen; decide, by show 1 ≤ maxLen; decide, fun p hp => by cases hp⟩
    · exact ⟨str2_row c1, by show 1 ≤ maxLen; decide, by show 1 ≤ maxLen; decide, by show 1 ≤ maxLen; decide, fun p hp => by obtain rfl := List.mem_singleton.1 hp; show 1 ≤ maxLen; decide⟩
  have hR : Row W 35 5 (.slice (some ⟨g + 1, 0, none⟩) 2 2) 2 (ecells (ex2 g)) :=
    row_of_cells b4 (Nat.le_refl _) (by decide) (by show 10 ≤ 10; exact Nat.le_refl _) rfl (fun t ht => by rw [Nat.zero_add, List.getElem?_toArray])
  have hL : LMid w W (.slice (some ⟨g + 1, 0, none⟩) 2 2) (ex2 g) := ⟨hu, fun b hb => by have hb : some (g + 1) = some b := hb; injection hb with hb; omega, hR, hE⟩
  exact ⟨hL.rd rfl, hu⟩
set_option maxRecDepth 100000 in
set_option maxHeartbeats 2000000 in
theorem awake16_ok (w : World) : Calls Tryz.prog 13 #[] w fun e w' => e = .returned (.bool true) ∧ Unch none_ w w' := by
  obtain ⟨w4, hw4⟩ : ∃ w4, w4 = (w.alloc (.cells #[.string ⟨#[114]⟩] 9)).alloc (.cells #[.string ⟨#[114]⟩, .int .i64 1, .string ⟨#[97]⟩, .slice none 0 0, .string ⟨#[110]⟩, .string ⟨#[112]⟩, .int .i64 2, .string ⟨#[97]⟩, .slice (some ⟨w.heap.size, 0, none⟩) 1 1, .string ⟨#[116]⟩] 35) := ⟨_, rfl⟩
  obtain ⟨hE, hu4⟩ := ax_start w hw4
  have HLK := Lib.hid (look_ok hE (Nat.le_refl 2) ⟨#[114]⟩ (by decide) (ex2_closed _) (ex2_root _) (fun e he => by
    unfold ex2 at he
    simp only [List.mem_cons, List.not_mem_nil, or_false] at he
    rcases he with rfl | rfl
    · exact Nat.zero_le _
    · show 1 ≤ 1048576; decide))
  have HU4 := Lib.hid hu4
  have HW4 := Lib.hid hw4
  have HIS := Lib.hid (ex2_is w.heap.size)
  have HCL := Lib.hid (closed_iff.1 (ex2_closed w.heap.size))
  clear hE hu4 hw4
  go_enter Tryz.func13, Tryz.ntmps13
  go_wp2_with fail
  rw [← HW4.out]
  clear HW4
  obtain ⟨g1, hg1⟩ : ∃ g1, ex2 w.heap.size = g1 := ⟨_, rfl⟩
  rw [hg1] at HIS HLK HCL
  refine HLK.out.mono ?_
  rintro e w5 ⟨ys, tp, ps, vm, vp, L, rfl, ho, hv, hm, hw⟩
  obtain ⟨e1, rfl, rfl, rfl⟩ := HIS.out.uniq HCL.out (⟨rfl, hm, ys, ho.1, ho.2.1, ho.2.2, hv⟩ : IsView g1 0 (ent g1 0).body tp L ps)
  rw [e1]
  obtain ⟨Am, cm, hvm, _⟩ := hw.mem.row.slice
  obtain ⟨Ap, cp, hvp, _⟩ := hw.row.slice
  subst hvm
  subst hvp
  have HLIES := Lib.hid (hw.lies (nm := ⟨#[110]⟩) (tp := ⟨#[]⟩))
  have HU5 := Lib.hid (HU4.out.trans hw.hu)
  clear ho hv hm hw e1 HLK HIS HCL HU4 hg1
  simp only [List.length_cons, List.length_nil, Nat.zero_add] at HLIES ⊢
  obtain ⟨w6, hw6⟩ : ∃ w6, w6 = w5.alloc (.cells #[.string ⟨#[110]⟩, .string ⟨#[]⟩, .slice Am 1 cm, .slice Ap 1 cp] 30) := ⟨_, rfl⟩
  have b6 : w6.heap[w5.heap.size]? = some (.cells #[.string ⟨#[110]⟩, .string ⟨#[]⟩, .slice Am 1 cm, .slice Ap 1 cp] 30 (0, 0)) := by rw [hw6]; exact blk_new w5 _
  have hu6 : Unch none_ w5 w6 := by rw [hw6]; exact (Unch.refl none_ w5).alloc _
  have HW6 := Lib.hid hw6
  have B6 := Lib.hid b6
  have HU6 := Lib.hid hu6
  clear hw6 b6 hu6
  go_upto_region 2 with fail
  rw [← HW6.out]
  have y0 := blk_cell B6.out (j := 0) rfl
  have y1 := blk_cell B6.out (j := 1) rfl
  have y2 := blk_cell B6.out (j := 2) rfl
  have y3 := blk_cell B6.out (j := 3) rfl
  clear HW6
  have hA : Unch none_ w6 ((w6.alloc (.cells #[.string ⟨#[97]⟩] 9)).alloc (.cells #[.string ⟨#[97]⟩, .string ⟨#[116]⟩] 53)) := ((Unch.refl none_ w6).alloc _).alloc _
  have c1 := blk_alloc (blk_new w6 (.cells #[.string ⟨#[97]⟩] 9)) (.cells #[.string ⟨#[97]⟩, .string ⟨#[116]⟩] 53)
  have c2 := blk_new (w6.alloc (.cells #[.string ⟨#[97]⟩] 9)) (.cells #[.string ⟨#[97]⟩, .string ⟨#[116]⟩] 53)
  simp only [World.size_alloc] at c2
  have hl2 : ViewL ((w6.alloc (.cells #[.string ⟨#[97]⟩] 9)).alloc (.cells #[.string ⟨#[97]⟩, .string ⟨#[116]⟩] 53)) ⟨#[110]⟩ ⟨#[]⟩ [⟨#[97]⟩] [(⟨#[97]⟩, ⟨#[116]⟩)] (.agg #[.string ⟨#[110]⟩, .string ⟨#[]⟩, .slice (some ⟨w6.heap.size, 0, none⟩) 1 1, .slice (some ⟨w6.heap.size + 1, 0, none⟩) 1 1]) :=
    ⟨_, _, _, _, rfl, srow_rds (str2_row c1), row_of_cells c2 (Nat.le_refl _) (by decide) (by show 2 ≤ 2; exact Nat.le_refl _) rfl (fun t ht => by rw [Nat.zero_add, ← List.getElem?_toArray]; rfl)⟩
  have hsv := same_view ((HLIES.out.fresh HU6.out).fresh hA) hl2
  have HSV := Lib.hid hsv
  have HUA := Lib.hid ((HU5.out.trans HU6.out).trans hA)
  clear hA c1 c2 hl2 hsv HLIES
  go_wp2_with fail
  refine HSV.out.mono ?_
  rintro e w7 ⟨rfl, hu7⟩
  go_wp2
  go_ret
  exact ⟨rfl, HUA.out.trans hu7⟩
end Go.Proofs.YtgalnnmeamldhaaGreat
