/-
  member.Good, member.Holds.
  member.Holds.
-/
import Derived.Test.YtgalnnmeamldhaaGreatCMO4
import Derived.Test.YtgalnnmeamldhaaGreatCMRef7
/- member.Good, member.Holds. -/
set_option linter.unusedVariables false
set_option linter.unusedSimpArgs false
namespace Go.Proofs.YtgalnnmeamldhaaGreat
open Go Go.RowKit Go.Proofs.YtgalnnmeamldhaaGreat.Pal Go.Proofs.YtgalnnmeamldhaaGreat.Plan

theorem of_nil {w : World} {A : Option Addr} {n c : Nat} {l : List Ent} (h : Ents w A n l) (hc : n ≤ c) (room : ByteArray) (hb : closedB l = true → rootN room l = none) :
    Calls Tryz.prog 35 #[.string room, .slice A n c] w fun e w' => e = .returned (.pointer none) ∧ Unch none_ w w' := by
  cases hcl : closedB l with
  | false => exact of_open h hc room hcl
  | true => exact of_rootless h hc room hcl (hb hcl)
structure GSt (w wr : World) (l : List Ent) (r : Nat) (q : PB) (g n k : Nat) (F : Nat → Bool) : Prop where
  u : Unch none_ w wr
  ps : PSet wr l r q (goodL l r)
  row : Brow wr g n (fun j => decide (j < k) && F j)
  ge : w.heap.size ≤ g
section
variable {w wr w1 : World} {l : List Ent} {r : Nat} {q : PB} {g n k : Nat} {F : Nat → Bool}
theorem GSt.fresh (h : GSt w wr l r q g n k F) (hu : Unch none_ wr w1) : GSt w w1 l r q g n k F := ⟨h.u.trans hu, h.ps.fresh hu, h.row.unch hu (fun h => h), h.ge⟩
theorem GSt.set (h : GSt w wr l r q g n k F) {b : Bool} (hb : F k = b) : GSt w (wr.setCell ⟨g, k, none⟩ (.bool b)) l r q g n (k + 1) F := by
  have hu : Unch (fun j => j = g) wr (wr.setCell ⟨g, k, none⟩ (.bool b)) := (Unch.refl _ _).setCell _ (fun _ => rfl)
  refine ⟨h.u.step hu (fun i hi e => by have := h.ge; omega), h.ps.other h.row (by decide) hu, ?_, h.ge⟩
  refine (h.row.set k b).congr fun j _ => ?_
  by_cases hj : j = k
  · subst hj; simp [hb]
  · by_cases h1 : j < k
    · have : j < k + 1 := by omega
      simp [hj, h1, this]
    · have : ¬ j < k + 1 := by omega
      simp [hj, h1, this]
end
set_option maxRecDepth 100000 in
set_option maxHeartbeats 2000000 in
theorem good_nil {w : World} {A : Option Addr} {n c : Nat} {l : List Ent} (h : Ents w A n l) (hc : n ≤ c) (room : ByteArray) (hb : closedB l = true → rootN room l = none) :
    Calls Tryz.prog 34 #[.string room, .slice A n c] w fun e w' => e = .returned (.slice none 0 0) ∧ Unch none_ w w' := by
  have HOF := Lib.hid (of_nil h hc room hb)
  clear h hb
  go_enter Tryz.func34, Tryz.ntmps34
  go_wp2_with fail
  refine HOF.out.mono ?_
  rintro e w2 ⟨rfl, hu2⟩
  go_wp2
  go_ret
  exact ⟨rfl, hu2⟩
set_option maxRecDepth 100000 in
set_option maxHeartbeats 2000000 in
theorem holds_nil {w : World} {A : Option Addr} {n c : Nat} {l : List Ent} (h : Ents w A n l) (hc : n ≤ c) (room : ByteArray) (hb : closedB l = true → rootN room l = none) :
    Calls Tryz.prog 22 #[.string room, .slice A n c] w fun e w' => e = .returned (.slice none 0 0) ∧ Unch none_ w w' := by
  have HOF := Lib.hid (of_nil h hc room hb)
  clear h hb
  go_enter Tryz.func22, Tryz.ntmps22
  go_wp2_with fail
  refine HOF.out.mono ?_
  rintro e w2 ⟨rfl, hu2⟩
  go_wp2
  go_ret
  exact ⟨rfl, hu2⟩
set_option maxRecDepth 100000 in
set_option maxHeartbeats 2000000 in
theorem members_nil {w : World} {A : Option Addr} {n c : Nat} {l : List Ent} (h : Ents w A n l) (hc : n ≤ c) (room : ByteArray) (hb : closedB l = true → rootN room l = none) :
    Calls Tryz.prog 25 #[.string room, .slice A n c] w fun e w' => e = .returned (.slice none 0 0) ∧ Unch none_ w w' := by
  have HOF := Lib.hid (of_nil h hc room hb)
  clear h hb
  go_enter Tryz.func25, Tryz.ntmps25
  go_wp2_with fail
  refine HOF.out.mono ?_
  rintro e w2 ⟨rfl, hu2⟩
  go_wp2
  go_ret
  exact ⟨rfl, hu2⟩
set_option maxRecDepth 100000 in
set_option maxHeartbeats 4000000 in
theorem good_ok {w : World} {A : Option Addr} {n c : Nat} {l : List Ent} (h : Ents w A n l) (hc : n ≤ c) (room : ByteArray) (hmax : room.size ≤ maxLen) (hb : closedB l = true) {r : Nat} (hr : rootN room l = some r) :
    Calls Tryz.prog 34 #[.string room, .slice A n c] w (MadeB w n (goodL l r)) := by
  have HOF := Lib.hid (of_some h hc room hmax hb hr)
  have hC := closed_iff.1 hb
  have hl := h.len
  have n3 : n ≤ 300 := by rw [← hl]; exact hC.len
  have HSZ := Lib.hid (ents_sized h)
  have HH := Lib.hid h
  have HC := Lib.hid hC
  have HL := Lib.hid hl
  clear h hb hr hC hl
  have hmk := run_make_bool n (by omega)
  go_enter Tryz.func34, Tryz.ntmps34
  go_wp2_with fail
  refine HOF.out.mono ?_
  rintro e w2 ⟨q, rfl, hps, hu2⟩
  have HPS := Lib.hid hps
  have HU2 := Lib.hid hu2
  clear hps hu2
  go_wp2_with fail
  have hmade := Brow.made w2 n
  have hu3 : Unch none_ w2 (w2.alloc (.cells (madeCells #[.bool false] n) 4)) := (Unch.refl none_ _).alloc _
  have hge := HU2.out.size
  generalize w2.heap.size = g at *
  generalize w2.alloc _ = w3 at *
  have H0 : Hid (GSt w w3 l r q g n 0 (goodL l r)) := Lib.hid ⟨HU2.out.trans hu3, HPS.out.fresh hu3, hmade.congr (fun i _ => by simp), hge⟩
  clear hmade hu3 HU2 HPS HOF
  go_loopg [7, 8, 19] n (fun gk _ _ i wr => ∃ k : Nat, gk = n - k ∧ k ≤ n ∧ i = .int .i64 (k : Int) ∧ GSt w wr l r q g n k (goodL l r))
  case atStart => exact ⟨0, rfl, Nat.zero_le _, rfl, H0.out⟩
  case round =>
    clear H0
    obtain ⟨k, rfl, hk, rfl, hs⟩ := hrel
    obtain ⟨w4, rfl⟩ : ∃ w4, w4 = wr := ⟨_, rfl⟩
    by_cases hkn : k < n
    · have hkl : k < l.length := by rw [HL.out]; exact hkn
      have z1 : (k : Int) < (n : Int) := by omega
      have z2 : (0 : Int) ≤ (k : Int) := by omega
      have h4 := HH.out.fresh hs.u
      obtain ⟨bA, oA, rfl, _, x0, x1, x2, x3, x4⟩ := h4.at (ent_get hkl)
      obtain ⟨A2, m2, c2, hpv⟩ := HSZ.out.pv k hkl
      rw [hpv] at x3
      have HSS := Lib.hid hs
      clear h4 hpv hs
      go_upto_region 8 with fail
      have hu5 : Unch none_ w4 (w4.alloc (.cells #[.string (ent l k).id, .int .i64 (ent l k).kind, .string (ent l k).author, .slice A2 m2 c2, .string (ent l k).body] 35)) := (Unch.refl none_ w4).alloc _
      have bE := blk_new w4 (.cells #[.string (ent l k).id, .int .i64 (ent l k).kind, .string (ent l k).author, .slice A2 m2 c2, .string (ent l k).body] 35)
      generalize w4.heap.size = ge at *
      generalize w4.alloc _ = w5 at *
      clear x0 x1 x2 x3 x4
      have HS5 := Lib.hid (HSS.out.fresh hu5)
      have HBE := Lib.hid bE
      clear hu5 bE HSS
      refine wp_planC (fun W => Unch none_ w5 W) [0, 1, 2, 3, 4, 5, 6, 7, 8, 9] [10] 0 (by kernel_rfl) (by kernel_rfl) rfl rfl (fun c a d v w h => by cases d <;> exact h) ((Unch.refl _ _).drew) ?_
      intro S HS _
      have f7 : ∀ G2 : In S, G2.w.cell? ⟨q.bs, 7, none⟩ = some (.map (some q.bgood)) := fun G2 => (HS5.out.ps.fresh ((HS.out _).1 G2.h)).c7
      have g0 : ∀ G2 : In S, G2.w.cell? ⟨ge, 0, none⟩ = some (.string (ent l k).id) := fun G2 => blk_cell (((HS.out _).1 G2.h).heap HBE.out (fun h => h)) (j := 0) rfl
      have fl : ∀ G2 : In S, (Instr.lookup 76 (.map (some q.bgood)) (.string (ent l k).id) false).run Tryz.prog G2.w = .ok (.bool (goodL l r k)) G2.w := fun G2 => (HS5.out.ps.fresh ((HS.out _).1 G2.h)).lookGood hkl
      simp only [pickIn, List.getElem?_toArray, List.getElem?_cons_succ, List.getElem?_cons_zero]
      repeat (go_big_quiet_step (fail))
      refine wpQuiet_nil ?_
      clear f7 g0 fl
      refine tail_all ?_
      have hsd := HS5.out.fresh ((Unch.refl none_ w5).drew)
      have fb := hsd.row.free k
      have bk := hsd.row.at (j := k) hkn
      have HN := Lib.hid (hsd.set (b := goodL l r k) rfl)
      clear hsd
      go_wp2
      go_roundg (n - (k + 1))
      case measure => omega
      case rel => exact ⟨k + 1, rfl, by omega, by go_num, HN.out⟩
    · obtain rfl : k = n := by omega
      have hfin := hs.row.congr (f' := goodL l r) (fun j hj => by simp [hj])
      have HFIN := Lib.hid hfin
      have HU := Lib.hid hs.u
      have HGE := Lib.hid hs.ge
      clear hfin hs
      go_wp2
      go_ret
      exact ⟨g, rfl, HFIN.out, HGE.out, HU.out⟩
end Go.Proofs.YtgalnnmeamldhaaGreat
/- member.Holds. -/
set_option linter.unusedVariables false
set_option linter.unusedSimpArgs false
namespace Go.Proofs.YtgalnnmeamldhaaGreat
open Go Go.RowKit Go.Proofs.YtgalnnmeamldhaaGreat.Pal Go.Proofs.YtgalnnmeamldhaaGreat.Plan

structure HSt (w wr : World) (l : List Ent) (r : Nat) (q : PB) (k0 : CB) (g n k : Nat) (F : Nat → Bool) : Prop where
  u : Unch none_ w wr
  pc : PCir wr l r q (goodL l r) k0 (goodL l r) (holdAll l r (goodL l r))
  row : Brow wr g n (fun j => decide (j < k) && F j)
  ge : w.heap.size ≤ g
section
variable {w wr w1 : World} {l : List Ent} {r : Nat} {q : PB} {k0 : CB} {g n k : Nat} {F : Nat → Bool}
theorem HSt.fresh (h : HSt w wr l r q k0 g n k F) (hu : Unch none_ wr w1) : HSt w w1 l r q k0 g n k F := ⟨h.u.trans hu, h.pc.fresh hu, h.row.unch hu (fun h => h), h.ge⟩
theorem HSt.set (h : HSt w wr l r q k0 g n k F) {b : Bool} (hb : F k = b) : HSt w (wr.setCell ⟨g, k, none⟩ (.bool b)) l r q k0 g n (k + 1) F := by
  have hu : Unch (fun j => j = g) wr (wr.setCell ⟨g, k, none⟩ (.bool b)) := (Unch.refl _ _).setCell _ (fun _ => rfl)
  refine ⟨h.u.step hu (fun i hi e => by have := h.ge; omega), h.pc.other h.row (by decide) (by decide) hu, ?_, h.ge⟩
  refine (h.row.set k b).congr fun j _ => ?_
  by_cases hj : j = k
  · subst hj; simp [hb]
  · by_cases h1 : j < k
    · have : j < k + 1 := by omega
      simp [hj, h1, this]
    · have : ¬ j < k + 1 := by omega
      simp [hj, h1, this]
end
theorem amongAll {w : World} {l : List Ent} {r : Nat} {q : PB} (h : PSet w l r q (goodL l r)) : Calls Tryz.prog 36 #[.pointer (some ⟨q.bs, 0, none⟩), .map none] w (AmPost w l r q (goodL l r) (goodL l r)) :=
  among_ok h (Kf := fun _ => true) (.inl ⟨rfl, rfl⟩) (fun i _ => by simp) ⟨r, h.hr, goodU_self h.hr⟩
set_option maxRecDepth 100000 in
set_option maxHeartbeats 4000000 in
theorem pHolds_ok {w : World} {A : Option Addr} {n c : Nat} {l : List Ent} (h : Ents w A n l) (hc : n ≤ c) (room : ByteArray) (hmax : room.size ≤ maxLen) (hb : closedB l = true) {r : Nat} (hr : rootN room l = some r) :
    Calls Tryz.prog 22 #[.string room, .slice A n c] w (MadeB w n (goodS l r).holding) := by
  have HOF := Lib.hid (of_some h hc room hmax hb hr)
  have hC := closed_iff.1 hb
  have hl := h.len
  have n3 : n ≤ 300 := by rw [← hl]; exact hC.len
  have HSZ := Lib.hid (ents_sized h)
  have HH := Lib.hid h
  have HC := Lib.hid hC
  have HL := Lib.hid hl
  clear h hb hr hC hl
  have hmk := run_make_bool n (by omega)
  go_enter Tryz.func22, Tryz.ntmps22
  go_wp2_with fail
  refine HOF.out.mono ?_
  rintro e w1 ⟨q, rfl, hps, hu1⟩
  have HAM := Lib.hid (amongAll hps)
  have HU1 := Lib.hid hu1
  clear hps hu1 HOF
  go_wp2_with fail
  refine HAM.out.mono ?_
  rintro e w2 ⟨k0, L, rfl, hpc, _, _, _, hu2⟩
  have HPC := Lib.hid hpc
  have HU2 := Lib.hid (HU1.out.trans hu2)
  clear hpc hu2 HAM HU1
  go_wp2_with fail
  have hmade := Brow.made w2 n
  have hu3 : Unch none_ w2 (w2.alloc (.cells (madeCells #[.bool false] n) 4)) := (Unch.refl none_ _).alloc _
  have hge := HU2.out.size
  generalize w2.heap.size = g at *
  generalize w2.alloc _ = w3 at *
  have H0 : Hid (HSt w w3 l r q k0 g n 0 (goodS l r).holding) := Lib.hid ⟨HU2.out.trans hu3, HPC.out.fresh hu3, hmade.congr (fun i _ => by simp), hge⟩
  clear hmade hu3 HU2 HPC
  go_loopg [8, 9, 22] n (fun gk _ _ i wr => ∃ k : Nat, gk = n - k ∧ k ≤ n ∧ i = .int .i64 (k : Int) ∧ HSt w wr l r q k0 g n k (goodS l r).holding)
  case atStart => exact ⟨0, rfl, Nat.zero_le _, rfl, H0.out⟩
  case round =>
    clear H0
    obtain ⟨k, rfl, hk, rfl, hs⟩ := hrel
    obtain ⟨w4, rfl⟩ : ∃ w4, w4 = wr := ⟨_, rfl⟩
    by_cases hkn : k < n
    · have hkl : k < l.length := by rw [HL.out]; exact hkn
      have z1 : (k : Int) < (n : Int) := by omega
      have z2 : (0 : Int) ≤ (k : Int) := by omega
      have h4 := HH.out.fresh hs.u
      obtain ⟨bA, oA, rfl, _, x0, x1, x2, x3, x4⟩ := h4.at (ent_get hkl)
      obtain ⟨A2, m2, c2, hpv⟩ := HSZ.out.pv k hkl
      rw [hpv] at x3
      have HSS := Lib.hid hs
      clear h4 hpv hs
      go_upto_region 9 with fail
      have hu5 : Unch none_ w4 (w4.alloc (.cells #[.string (ent l k).id, .int .i64 (ent l k).kind, .string (ent l k).author, .slice A2 m2 c2, .string (ent l k).body] 35)) := (Unch.refl none_ w4).alloc _
      have bE := blk_new w4 (.cells #[.string (ent l k).id, .int .i64 (ent l k).kind, .string (ent l k).author, .slice A2 m2 c2, .string (ent l k).body] 35)
      generalize w4.heap.size = ge at *
      generalize w4.alloc _ = w5 at *
      clear x0 x1 x2 x3 x4
      have HS5 := Lib.hid (HSS.out.fresh hu5)
      have HBE := Lib.hid bE
      have hhold : (holdAll l r (goodL l r) k).getD false = (goodS l r).holding k := holdAll_getD l r (goodL l r) k
      have HHD := Lib.hid hhold
      clear hu5 bE HSS hhold
      generalize (goodS l r).holding k = hv at *
      refine wp_planC (fun W => Unch none_ w5 W) [0, 1, 2, 3, 4, 5, 6, 7, 8, 9] [10] 0 (by kernel_rfl) (by kernel_rfl) rfl rfl (fun c a d v w h => by cases d <;> exact h) ((Unch.refl _ _).drew) ?_
      intro S HS _
      have f7 : ∀ G2 : In S, G2.w.cell? ⟨k0.bc, 3, none⟩ = some (.map (some k0.bho)) := fun G2 => circ3 (HS5.out.pc.fresh ((HS.out _).1 G2.h)).blk
      have g0 : ∀ G2 : In S, G2.w.cell? ⟨ge, 0, none⟩ = some (.string (ent l k).id) := fun G2 => blk_cell (((HS.out _).1 G2.h).heap HBE.out (fun h => h)) (j := 0) rfl
      have fl : ∀ G2 : In S, (Instr.lookup 76 (.map (some k0.bho)) (.string (ent l k).id) false).run Tryz.prog G2.w = .ok (.bool hv) G2.w := fun G2 => by
        have := (HS5.out.pc.fresh ((HS.out _).1 G2.h)).lookHold hkl
        rw [HHD.out] at this
        exact this
      simp only [pickIn, List.getElem?_toArray, List.getElem?_cons_succ, List.getElem?_cons_zero]
      repeat (go_big_quiet_step (fail))
      refine wpQuiet_nil ?_
      clear f7 g0 fl
      refine tail_all ?_
      have hsd := HS5.out.fresh ((Unch.refl none_ w5).drew)
      have fb := hsd.row.free k
      have bk := hsd.row.at (j := k) hkn
      have HN := Lib.hid (hsd.set (b := hv) (by rw [← HHD.out]; exact (holdAll_getD l r (goodL l r) k).symm))
      clear hsd
      go_wp2
      go_roundg (n - (k + 1))
      case measure => omega
      case rel => exact ⟨k + 1, rfl, by omega, by go_num, HN.out⟩
    · obtain rfl : k = n := by omega
      have hfin := hs.row.congr (f' := (goodS l r).holding) (fun j hj => by simp [hj])
      have HFIN := Lib.hid hfin
      have HU := Lib.hid hs.u
      have HGE := Lib.hid hs.ge
      clear hfin hs
      go_wp2
      go_ret
      exact ⟨g, rfl, HFIN.out, HGE.out, HU.out⟩
end Go.Proofs.YtgalnnmeamldhaaGreat
