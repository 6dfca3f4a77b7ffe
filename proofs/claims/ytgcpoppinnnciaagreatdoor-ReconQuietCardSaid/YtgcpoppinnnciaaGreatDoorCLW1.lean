/-
  palaverlaw17: what is said, as it lies; height.
  palaverlaw17: signed.
  palaverlaw17.Made: its signers, what is made, as they lie.
-/
import Derived.Test.YtgcpoppinnnciaaGreatDoorCMRef17
import Derived.Test.YtgcpoppinnnciaaGreatDoorCEV4
/- palaverlaw17: what is said, as it lies; height. -/
set_option linter.unusedVariables false
set_option linter.unusedSimpArgs false
set_option maxRecDepth 100000
namespace Go.Proofs.YtgcpoppinnnciaaGreatDoor
open Go Go.RowKit Go.Proofs.YtgcpoppinnnciaaGreatDoor.Pal Go.Proofs.YtgcpoppinnnciaaGreatDoor.Plan

structure Sy where
  kind : Int
  who : Int
  whom : Int
  bv : Value
  behind : List Int
  spoil : Int
def Sy.cells (x : Sy) : List Value := [.int .i64 x.kind, .int .i64 x.who, .int .i64 x.whom, x.bv, .int .i64 x.spoil]
def SyR (x : Sy) (c : List Value) : Prop := c = x.cells
structure SyOk (w : World) (x : Sy) : Prop where
  bs : ∃ A c, x.bv = .slice A x.behind.length c ∧ x.behind.length ≤ c ∧ RdS w 1 IntR A x.behind.length x.behind
  kind : i64ok x.kind
  who : i64ok x.who
  whom : i64ok x.whom
  spoil : i64ok x.spoil
structure Sys (w : World) (A : Option Addr) (n : Nat) (l : List Sy) : Prop where
  rd : RdS w 5 SyR A n l
  ok : ∀ x ∈ l, SyOk w x
section
variable {w w1 : World} {A : Option Addr} {n : Nat} {l : List Sy}
theorem SyOk.fresh {x : Sy} (h : SyOk w x) (hu : Unch none_ w w1) : SyOk w1 x := by
  obtain ⟨⟨A, c, h1, h2, h3⟩, a, b, c', d⟩ := h
  exact ⟨⟨A, c, h1, h2, RdS.fresh h3 hu⟩, a, b, c', d⟩
theorem Sys.fresh (h : Sys w A n l) (hu : Unch none_ w w1) : Sys w1 A n l := ⟨RdS.fresh h.rd hu, fun e he => (h.ok e he).fresh hu⟩
theorem Sys.len (h : Sys w A n l) : l.length = n := h.rd.len
theorem Sys.at (h : Sys w A n l) {k : Nat} {x : Sy} (hx : l[k]? = some x) : ∃ b o, A = some ⟨b, o, none⟩ ∧ b < w.heap.size ∧
    w.cell? ⟨b, o + k * 5, none⟩ = some (.int .i64 x.kind) ∧ w.cell? ⟨b, o + k * 5 + 1, none⟩ = some (.int .i64 x.who) ∧ w.cell? ⟨b, o + k * 5 + 2, none⟩ = some (.int .i64 x.whom) ∧
    w.cell? ⟨b, o + k * 5 + 3, none⟩ = some x.bv ∧ w.cell? ⟨b, o + k * 5 + 4, none⟩ = some (.int .i64 x.spoil) := by
  obtain ⟨b, o, c, hA, hb, _, hc, hcell⟩ := h.rd.at hx
  unfold SyR at hc
  subst hc
  exact ⟨b, o, hA, hb, hcell 0 _ rfl, hcell 1 _ rfl, hcell 2 _ rfl, hcell 3 _ rfl, hcell 4 _ rfl⟩
end
theorem open_int7 {H : Type} {enc : TypeId × Value → H} {w : World} {base : Nat} {spare : Nat → Bool} {held : Bool} (fuel : Nat) (cs : List Value) (y : DataW H × List MemPlace)
    (h : DataW.trod enc Tryz.prog w base spare held fuel 3 cs = some y) : ∃ z : Int, IntR z cs := by
  obtain ⟨m0, h0, _, w0⟩ := DataW.trod_int Tryz.underlying3 h
  exact ⟨m0, h0, i64_wf w0⟩
def SyRW (w : World) (x : Sy) (c : List Value) : Prop := SyR x c ∧ SyOk w x
theorem open_sy {H : Type} {enc : TypeId × Value → H} {w : World} {base : Nat} {spare : Nat → Bool} {held : Bool} (fuel : Nat) (cs : List Value) (y : DataW H × List MemPlace)
    (h : DataW.trod enc Tryz.prog w base spare held fuel 54 cs = some y) : ∃ z : Sy, SyRW w z cs := by
  obtain ⟨xs, n, rfl, _, hl, hxl, hf⟩ := DataW.trod_struct Tryz.underlying54 h
  obtain ⟨c0, c1, c2, c3, c4, rfl⟩ := list5 (show cs.length = 5 from hl)
  obtain ⟨x0, e0⟩ := get_some (n := 5) hxl (i := 0) (by decide)
  obtain ⟨x1, e1⟩ := get_some (n := 5) hxl (i := 1) (by decide)
  obtain ⟨x2, e2⟩ := get_some (n := 5) hxl (i := 2) (by decide)
  obtain ⟨x3, e3⟩ := get_some (n := 5) hxl (i := 3) (by decide)
  obtain ⟨x4, e4⟩ := get_some (n := 5) hxl (i := 4) (by decide)
  obtain ⟨m0, h0, _, w0⟩ := DataW.trod_int Tryz.underlying3 ((hf 0 _ rfl).trans e0)
  obtain ⟨m1, h1, _, w1⟩ := DataW.trod_int Tryz.underlying3 ((hf 1 _ rfl).trans e1)
  obtain ⟨m2, h2, _, w2⟩ := DataW.trod_int Tryz.underlying3 ((hf 2 _ rfl).trans e2)
  obtain ⟨A, len, cap, ys, h3, hlc, _, hrd⟩ := open_slice Tryz.underlying52 (by kernel_rfl) (by decide : 0 < 1) IntR open_int7 ((hf 3 _ rfl).trans e3)
  obtain ⟨m4, h4, _, w4⟩ := DataW.trod_int Tryz.underlying3 ((hf 4 _ rfl).trans e4)
  have h0' : [c0] = [.int .i64 m0] := h0
  have h1' : [c1] = [.int .i64 m1] := h1
  have h2' : [c2] = [.int .i64 m2] := h2
  have h3' : [c3] = [.slice A len cap] := h3
  have h4' : [c4] = [.int .i64 m4] := h4
  injection h0' with h0'
  injection h1' with h1'
  injection h2' with h2'
  injection h3' with h3'
  injection h4' with h4'
  subst h0'; subst h1'; subst h2'; subst h3'; subst h4'
  have hlen := hrd.len
  subst hlen
  exact ⟨⟨m0, m1, m2, .slice A ys.length cap, ys, m4⟩, rfl, ⟨A, cap, rfl, hlc, hrd⟩, i64_wf w0, i64_wf w1, i64_wf w2, i64_wf w4⟩
theorem sys_of {w : World} {A : Option Addr} {n : Nat} {l : List Sy} (h : RdS w 5 (SyRW w) A n l) : Sys w A n l :=
  ⟨h.unch (Unch.refl none_ w) (fun _ _ h => h) (fun _ _ h => h.1), fun x hx => by
    obtain ⟨i, hi⟩ := List.mem_iff_getElem?.1 hx
    obtain ⟨b, o, c, _, _, _, hr, _⟩ := h.at hi
    exact hr.2⟩
/-! ### height -/
theorem mod_ix (x : Int) (n : Nat) (h0 : 0 < n) (hn : n ≤ 1000000000) : ∃ k : Nat, k < n ∧ wrap64 ((IntKind.u64.wrap x).tmod (n : Int)) = (k : Int) ∧ (IntKind.u64.wrap x).tmod (n : Int) = (k : Int) := by
  have h0' : 0 ≤ IntKind.u64.wrap x := by rw [IntKind.wrap_u64]; omega
  have h1 : 0 ≤ (IntKind.u64.wrap x).tmod (n : Int) := Int.tmod_nonneg _ h0'
  have h2 : (IntKind.u64.wrap x).tmod (n : Int) < n := Int.tmod_lt_of_pos _ (by omega)
  generalize (IntKind.u64.wrap x).tmod (n : Int) = z at h1 h2
  refine ⟨z.toNat, by omega, ?_, by omega⟩
  unfold wrap64
  omega
set_option maxHeartbeats 4000000 in
theorem height_ok {w : World} {A : Option Addr} {n c : Nat} {l : List Sy} (h : Sys w A n l) (who : Nat) :
    Calls Tryz.prog 14 #[.slice A n c, .int .i64 (who : Int)] w fun e w' => (∃ j : Nat, j ≤ 3 ∧ e = .returned (.int .i64 (j : Int))) ∧ w = w' := by
  have hn := h.rd.max
  unfold maxLen at hn
  have HH := Lib.hid h
  have HL := Lib.hid h.len
  clear h
  obtain ⟨N, hN⟩ : ∃ N, min n 12 = N := ⟨_, rfl⟩
  obtain ⟨h0, hh0, z0⟩ : ∃ h0 : Bool, h0 = decide (who = 0) ∧ ((who : Int) == 0) = h0 := ⟨_, rfl, by rw [Bool.eq_iff_iff, beq_iff_eq, decide_eq_true_eq]; omega⟩
  clear hh0
  have key : ∀ (a0 : Nat), a0 ≤ 1 → True := fun _ _ => trivial
  clear key
  cases h0 <;>
  · go_enter Tryz.func14, Tryz.ntmps14
    go_wp2_with fail
    go_loopg [5, 6] N (fun gk a i wr => ∃ (k m : Nat), gk = N - k ∧ k ≤ N ∧ m ≤ 1 + k ∧ a = .int .i64 (m : Int) ∧ i = .int .i64 (k : Int) ∧ wr = w)
    case atStart => first | exact ⟨0, 0, rfl, by omega, by omega, rfl, rfl, rfl⟩ | exact ⟨0, 1, rfl, by omega, by omega, rfl, rfl, rfl⟩
    case round =>
      obtain ⟨k, m, rfl, hk, hm, rfl, rfl, rfl⟩ := hrel
      by_cases hkN : k < N
      · obtain ⟨x, hx⟩ := get_some HL.out (show k < n by omega)
        obtain ⟨b, o, rfl, hb, y0, y1, y2, y3, y4⟩ := HH.out.at hx
        have z1 : (k : Int) < (n : Int) := by omega
        have z2 : (k : Int) < 12 := by omega
        have z3 : (0 : Int) ≤ (k : Int) := by omega
        clear hx y0 y2 y3 y4
        obtain ⟨t, ht⟩ : ∃ t : Bool, (wrap64 ((IntKind.u64.wrap x.who).tmod 3) == (who : Int)) = t := ⟨_, rfl⟩
        cases t
        · go_wp2_with fail
          go_roundg (N - (k + 1))
          case measure => omega
          case rel => exact ⟨k + 1, m, rfl, by omega, by omega, rfl, by go_num, rfl⟩
        · have z4 : (m : Int) ≤ 13 := by omega
          go_wp2_with fail
          go_roundg (N - (k + 1))
          case measure => omega
          case rel => exact ⟨k + 1, m + 1, rfl, by omega, by omega, by go_num, by go_num, rfl⟩
      · have hm13 : m ≤ 13 := by omega
        rcases (show k = n ∨ (k < n ∧ k = 12) by omega) with hkn | ⟨hkn, hk12⟩
        · have z1 : ¬ (k : Int) < (n : Int) := by omega
          clear HH HL
          go_wp2_with fail
          obtain ⟨w2, rfl⟩ : ∃ w2, w2 = wr := ⟨_, rfl⟩
          go_loopg [7] 3 (fun gk i wr => ∃ j : Nat, gk = 3 - j ∧ j ≤ 3 ∧ i = .int .i64 (j : Int) ∧ wr = w2)
          case atStart => exact ⟨0, rfl, by omega, rfl, rfl⟩
          case round =>
            obtain ⟨j, rfl, hj, rfl, rfl⟩ := hrel
            rcases (show j = 0 ∨ j = 1 ∨ j = 2 ∨ j = 3 by omega) with rfl | rfl | rfl | rfl
            · by_cases hjm : (1 : Int) < (m : Int)
              · go_wp2_with fail
                go_roundg 2
                case measure => omega
                case rel => exact ⟨1, rfl, by omega, rfl, rfl⟩
              · go_wp2_with fail
                go_ret
                exact ⟨⟨0, by omega, rfl⟩, rfl⟩
            · by_cases hjm : (2 : Int) < (m : Int)
              · go_wp2_with fail
                go_roundg 1
                case measure => omega
                case rel => exact ⟨2, rfl, by omega, rfl, rfl⟩
              · go_wp2_with fail
                go_ret
                exact ⟨⟨1, by omega, rfl⟩, rfl⟩
            · by_cases hjm : (4 : Int) < (m : Int)
              · go_wp2_with fail
                go_roundg 0
                case measure => omega
                case rel => exact ⟨3, rfl, by omega, rfl, rfl⟩
              · go_wp2_with fail
                go_ret
                exact ⟨⟨2, by omega, rfl⟩, rfl⟩
            · go_wp2_with fail
              go_ret
              exact ⟨⟨3, by omega, rfl⟩, rfl⟩
        · have z1 : (k : Int) < (n : Int) := by omega
          have z2 : ¬ (k : Int) < 12 := by omega
          clear HH HL hk12
          go_wp2_with fail
          obtain ⟨w2, rfl⟩ : ∃ w2, w2 = wr := ⟨_, rfl⟩
          go_loopg [7] 3 (fun gk i wr => ∃ j : Nat, gk = 3 - j ∧ j ≤ 3 ∧ i = .int .i64 (j : Int) ∧ wr = w2)
          case atStart => exact ⟨0, rfl, by omega, rfl, rfl⟩
          case round =>
            obtain ⟨j, rfl, hj, rfl, rfl⟩ := hrel
            rcases (show j = 0 ∨ j = 1 ∨ j = 2 ∨ j = 3 by omega) with rfl | rfl | rfl | rfl
            · by_cases hjm : (1 : Int) < (m : Int)
              · go_wp2_with fail
                go_roundg 2
                case measure => omega
                case rel => exact ⟨1, rfl, by omega, rfl, rfl⟩
              · go_wp2_with fail
                go_ret
                exact ⟨⟨0, by omega, rfl⟩, rfl⟩
            · by_cases hjm : (2 : Int) < (m : Int)
              · go_wp2_with fail
                go_roundg 1
                case measure => omega
                case rel => exact ⟨2, rfl, by omega, rfl, rfl⟩
              · go_wp2_with fail
                go_ret
                exact ⟨⟨1, by omega, rfl⟩, rfl⟩
            · by_cases hjm : (4 : Int) < (m : Int)
              · go_wp2_with fail
                go_roundg 0
                case measure => omega
                case rel => exact ⟨3, rfl, by omega, rfl, rfl⟩
              · go_wp2_with fail
                go_ret
                exact ⟨⟨2, by omega, rfl⟩, rfl⟩
            · go_wp2_with fail
              go_ret
              exact ⟨⟨3, by omega, rfl⟩, rfl⟩
end Go.Proofs.YtgcpoppinnnciaaGreatDoor
/- palaverlaw17: signed. -/
set_option linter.unusedVariables false
set_option linter.unusedSimpArgs false
set_option maxRecDepth 100000
namespace Go.Proofs.YtgcpoppinnnciaaGreatDoor
open Go Go.RowKit Go.Proofs.YtgcpoppinnnciaaGreatDoor.Pal Go.Proofs.YtgcpoppinnnciaaGreatDoor.Plan

theorem encodeF_size {e : Ev} (h : rightF e = true) : (encodeF e).size ≤ 1100000 := by
  have h1 := contentF_size (right_small h)
  have h2 := (right_parts h).2.2.2.2.2
  unfold encodeF
  rw [ByteArray.size_append, ByteArray.size_append]
  have h3 : (⟨(numB 2 e.sig.size).toArray⟩ : ByteArray).size = 2 := by
    show (numB 2 e.sig.size).toArray.size = 2
    rw [List.size_toArray]
    rfl
  omega
def SgnP (K : Nat → Int) (Z : Nat → Prop) (b : Nat) (seed : ByteArray) (h u : Nat) (w : World) (x : Ending) (w' : World) : Prop :=
  ∃ s u', x = .returned (.string s) ∧ s.size ≤ 1100000 ∧ KeyAt K Z w' b seed h u' ∧ u' ≤ u + 1 ∧ Unch (fun k => k = b) w w'
theorem signU_le (K : Nat → Int) (e : Ev) (seed : ByteArray) (h u : Nat) : signU K e seed h u ≤ u + 1 := by
  unfold signU
  split <;> omega
theorem signF_ps {K : Nat → Int} {e e' : Ev} {seed : ByteArray} {h u : Nat} (hs : signF K e seed h u = some e') : e'.ps = e.ps := by
  unfold signF at hs
  split at hs
  · injection hs with hs
    subst hs
    rfl
  · cases hs
set_option maxHeartbeats 2000000 in
theorem signed_ok (K : Nat → Int) (Z : Nat → Prop) (e : Ev) (A : Option Addr) (c : Nat) (b : Nat) (seed : ByteArray) (hs : seed.size ≤ 1000000) (h u : Nat) (hh : h ≤ 4) (hu100 : u ≤ 100) (w : World) (hK : Kys K w) (hk0 : b ≠ 0) (hZ : ∀ g, Z g → g < w.heap.size) (H : KeyAt K Z w b seed h u) (hrow : Row w 9 1 (.slice A e.ps.length c) e.ps.length (sv e.ps)) (hn : e.ps.length ≤ 1000) :
    Calls Tryz.prog 16 #[.agg (evV e A c), .pointer (some ⟨b, 0, none⟩)] w fun x w' => SgnP K Z b seed h u w x w' := by
  obtain ⟨fin, hfin⟩ : ∃ F, SgnP K Z b seed h u w = F := ⟨_, rfl⟩
  rw [hfin]
  have FIN := Lib.hid hfin
  clear hfin
  have hua := (Unch.refl none_ w).alloc (.cells (evV e A c) 50)
  have hb := blk_new w (.cells (evV e A c) 50)
  have HS := Lib.hid (sign_ok K Z e A c b seed hs h u hh hu100 _ (hK.unch hua (fun h => h)) hk0 (fun g hg => Nat.lt_of_lt_of_le (hZ g hg) hua.size) (H.unch hua) (hrow.unch hua (fun _ _ h => h)) hn)
  have HUA := Lib.hid hua
  have HK := Lib.hid hK
  have HSL := Lib.hid (signU_le K e seed h u)
  simp only [evV] at HS HUA ⊢
  have hend : ∀ W, Unch (fun k => k = b) w W → ∀ s : ByteArray, s.size ≤ 1100000 → KeyAt K Z W b seed h (signU K e seed h u) → fin (.returned (.string s)) W := fun W hu s hs H => by
    rw [← FIN.out]
    exact ⟨s, _, rfl, hs, H, HSL.out, hu⟩
  have HEND := Lib.hid hend
  clear hend
  generalize hpl : e.ps.length = n at HS HUA ⊢
  have HPL := Lib.hid hpl
  clear hpl
  have HN := Lib.hid hn
  clear hua hb hrow H hK hn
  go_enter Tryz.func16, Tryz.ntmps16
  go_wp2_with fail
  refine HS.out.mono ?_
  rintro x w2 ⟨H2, hu2, hz⟩
  have HH2 := Lib.hid H2
  have HU2 := Lib.hid hu2
  clear H2 hu2 HS
  rcases hz with ⟨_, z, hz0, rfl⟩ | ⟨e', hsf, A', c', rfl, hr', _⟩
  · have hzn : (z != 0) = true := by rw [bne, hz0]; rfl
    unfold zEv
    go_wp2_with fail
    have hua := (Unch.refl none_ w2).alloc (.cells #[.int .i64 0, .string ⟨#[]⟩, .slice none 0 0, .string ⟨#[]⟩, .string ⟨#[]⟩] 50)
    exact HEND.out _ ((HUA.out.mono (fun _ _ h => h.elim)).trans (HU2.out.trans (hua.mono (fun _ _ h => h.elim)))) _ (by decide) (HH2.out.unch hua)
  · have hrd := srow_rds hr'
    have hps := signF_ps hsf
    have hua := (Unch.refl none_ w2).alloc (.cells (evV e' A' c') 50)
    have hen := encode_ok e' A' c' (w2.alloc (.cells (evV e' A' c') 50)) (RdS.fresh hrd hua) (by rw [hps]; have := HN.out; omega)
    have HSZ := Lib.hid (fun h => encodeF_size (e := e') h)
    have HEN := Lib.hid hen
    have HUA2 := Lib.hid hua
    clear hrd hr' hen hps hsf hua
    generalize encodeF e' = en at *
    simp only [evV] at HEN HUA2 ⊢
    cases hR : rightF e' with
    | true =>
      rw [hR, if_pos rfl] at HEN
      have hsz := HSZ.out hR
      go_wp2_with fail
      refine HEN.out.mono ?_
      rintro _ w4 ⟨rfl, hu4⟩
      go_wp2_with fail
      exact HEND.out _ ((HUA.out.mono (fun _ _ h => h.elim)).trans (HU2.out.trans ((HUA2.out.trans hu4).mono (fun _ _ h => h.elim)))) _ hsz (HH2.out.unch (HUA2.out.trans hu4))
    | false =>
      rw [hR, if_neg (by decide)] at HEN
      go_wp2_with fail
      refine HEN.out.mono ?_
      rintro _ w4 ⟨rfl, hu4⟩
      go_wp2_with fail
      exact HEND.out _ ((HUA.out.mono (fun _ _ h => h.elim)).trans (HU2.out.trans ((HUA2.out.trans hu4).mono (fun _ _ h => h.elim)))) _ (by decide) (HH2.out.unch (HUA2.out.trans hu4))
end Go.Proofs.YtgcpoppinnnciaaGreatDoor
/- palaverlaw17.Made: its signers, what is made, as they lie. -/
set_option linter.unusedVariables false
set_option linter.unusedSimpArgs false
set_option maxRecDepth 100000
namespace Go.Proofs.YtgcpoppinnnciaaGreatDoor
open Go Go.RowKit Go.Proofs.YtgcpoppinnnciaaGreatDoor.Pal Go.Proofs.YtgcpoppinnnciaaGreatDoor.Plan

section
variable {K : Nat → Int} {Z Z' : Nat → Prop} {w w' : World} {b : Nat} {seed : ByteArray} {h u : Nat}
theorem KeyAt.oth {g : Nat} {cs : Array Value} {t : TypeId} {fr : Nat × Nat} (H : KeyAt K Z w b seed h u) (hg : w.heap[g]? = some (.cells cs t fr)) (h1 : t ≠ 104) (h2 : t ≠ 9) (hu : Unch (fun k => k = g) w w') : KeyAt K Z w' b seed h u := by
  obtain ⟨dn, lv, hb, hc⟩ := H.is
  have hne : b ≠ g := fun e => by
    subst e
    rw [hb] at hg
    injection hg with hg
    injection hg with _ hg
    exact absurd hg.symm h1
  exact ⟨dn, lv, hu.heap hb hne, hc.imp (fun h => h) (fun ⟨e1, e2, e3⟩ => ⟨e1, row_other e2 hg h2 hu, e3⟩)⟩
theorem KeyAt.app {v : Value} {n : Nat} {xs : List Value} (H : KeyAt K Z w b seed h u) (hr : Row w 9 1 v n xs) (hv : ∀ g, v.ownBlock = some g → Z g) (hu : Unch (fun k => v.ownBlock = some k) w w') (hZ : ∀ g, Z' g → Z g ∨ w.heap.size ≤ g) : KeyAt K Z' w' b seed h u := by
  obtain ⟨dn, lv, hb, hc⟩ := H.is
  have hne : ¬ v.ownBlock = some b := fun e => by
    obtain ⟨cur, hh⟩ := hr.blk e
    rw [hb] at hh
    injection hh with hh
    injection hh with _ hh
    exact absurd hh (by decide)
  refine ⟨dn, lv, hu.heap hb hne, hc.imp (fun h => h) (fun ⟨e1, e2, e3⟩ => ⟨e1, e2.unch hu (fun g hg e => e3 g hg (hv g e)), fun g hg hz => ?_⟩)⟩
  rcases hZ g hz with h1 | h1
  · exact e3 g hg h1
  · obtain ⟨cur, hh⟩ := e2.blk hg
    have := lt_of_heap hh
    omega
theorem KeyAt.grow (H : KeyAt K Z w b seed h u) (hZ : ∀ g, Z' g → Z g ∨ w.heap.size ≤ g) : KeyAt K Z' w b seed h u :=
  H.app (Row.nil w _ 1) (fun g hg => by cases hg) (Unch.refl _ _) hZ
theorem KeyAt.bne {g : Nat} {cs : Array Value} {t : TypeId} {fr : Nat × Nat} (H : KeyAt K Z w b seed h u) (hg : w.heap[g]? = some (.cells cs t fr)) (h1 : t ≠ 104) : b ≠ g := fun e => by
  obtain ⟨dn, lv, hb, _⟩ := H.is
  subst e
  rw [hb] at hg
  injection hg with hg
  injection hg with _ hg
  exact absurd hg.symm h1
end
structure Gh where
  cs : List Value
  qs : List ByteArray
  bk : Nat → Nat
  ht : Nat → Nat
  us : Nat → Nat
  sd : Nat → ByteArray
/-- The first k signers and publics, as they lie. -/
structure Sg (K : Nat → Int) (Z : Nat → Prop) (w W : World) (S P k U : Nat) (G : Gh) : Prop where
  u : Unch none_ w W
  s0 : w.heap.size ≤ S
  p0 : w.heap.size ≤ P
  cl : G.cs.length = 3
  sc : W.heap[S]? = some (.cells G.cs.toArray 43 (0, 0))
  ql : G.qs.length = 3
  pc : W.heap[P]? = some (.cells (sv G.qs).toArray 44 (0, 0))
  qz : ∀ q ∈ G.qs, q.size ≤ 1000
  ptr : ∀ i, i < k → G.cs[i]? = some (.pointer (some ⟨G.bk i, 0, none⟩))
  key : ∀ i, i < k → KeyAt K Z W (G.bk i) (G.sd i) (G.ht i) (G.us i)
  lo : ∀ i, i < k → w.heap.size ≤ G.bk i
  sz : ∀ i, i < k → (G.sd i).size ≤ 1000 ∧ G.ht i ≤ 3 ∧ G.us i ≤ U
  uq : ∀ i j, i < k → j < k → i ≠ j → G.bk i ≠ G.bk j
section
variable {K : Nat → Int} {Z Z' : Nat → Prop} {w W W' : World} {S P k U U' : Nat} {G : Gh}
theorem Sg.fresh (h : Sg K Z w W S P k U G) (hu : Unch none_ W W') : Sg K Z w W' S P k U G :=
  ⟨h.u.trans hu, h.s0, h.p0, h.cl, hu.heap h.sc (fun h => h), h.ql, hu.heap h.pc (fun h => h), h.qz, h.ptr, fun i hi => (h.key i hi).unch hu, h.lo, h.sz, h.uq⟩
theorem Sg.sp (h : Sg K Z w W S P k U G) : S ≠ P := fun e => by
  have h1 := h.sc
  have h2 := h.pc
  rw [e, h2] at h1
  injection h1 with h1
  injection h1 with _ h1
  exact absurd h1 (by decide)
def Gh.put (G : Gh) (k b ht : Nat) (sd : ByteArray) : Gh := { G with cs := G.cs.set k (.pointer (some ⟨b, 0, none⟩)), bk := fun i => if i = k then b else G.bk i, ht := fun i => if i = k then ht else G.ht i, us := fun i => if i = k then 0 else G.us i, sd := fun i => if i = k then sd else G.sd i }
/-- A signer more. -/
theorem Sg.put (h : Sg K Z w W S P k U G) (hk : k < 3) {W1 : World} (hu : Unch none_ W W1) {b ht : Nat} {sd : ByteArray} (hb : W.heap.size ≤ b) (H : KeyAt K Z W1 b sd ht 0) (hs : sd.size ≤ 1000) (hh : ht ≤ 3) :
    Sg K Z w (W1.setCell ⟨S, k, none⟩ (.pointer (some ⟨b, 0, none⟩))) S P (k + 1) U (G.put k b ht sd) := by
  have h1 := h.fresh hu
  have hset : Unch (fun g => g = S) W1 (W1.setCell ⟨S, k, none⟩ (.pointer (some ⟨b, 0, none⟩))) := (Unch.refl _ _).setCell _ (fun _ => rfl)
  have hsz := h.u.size
  refine ⟨h1.u.step hset (fun g hg e => by have := h.s0; omega), h.s0, h.p0, by simp [Gh.put, h.cl], ?_, h.ql, hset.heap h1.pc (fun e => h.sp e.symm), h.qz, fun i hi => ?_, fun i hi => ?_, fun i hi => ?_, fun i hi => ?_, fun i j hi hj hij => ?_⟩
  · have := blk_set h1.sc k (.pointer (some ⟨b, 0, none⟩))
    rw [List.setIfInBounds_toArray] at this
    exact this
  · show (G.cs.set k (.pointer (some ⟨b, 0, none⟩)))[i]? = some (.pointer (some ⟨if i = k then b else G.bk i, 0, none⟩))
    by_cases hik : i = k
    · subst hik
      rw [if_pos rfl, List.getElem?_set_self (by rw [h.cl]; exact hk)]
    · rw [if_neg hik, List.getElem?_set_ne (Ne.symm hik)]
      exact h.ptr i (by omega)
  · show KeyAt K Z _ (if i = k then b else G.bk i) (if i = k then sd else G.sd i) (if i = k then ht else G.ht i) (if i = k then 0 else G.us i)
    by_cases hik : i = k
    · rw [if_pos hik, if_pos hik, if_pos hik, if_pos hik]
      exact H.oth h1.sc (by decide) (by decide) hset
    · rw [if_neg hik, if_neg hik, if_neg hik, if_neg hik]
      exact (h1.key i (by omega)).oth h1.sc (by decide) (by decide) hset
  · show w.heap.size ≤ (if i = k then b else G.bk i)
    by_cases hik : i = k
    · rw [if_pos hik]; omega
    · rw [if_neg hik]; exact h.lo i (by omega)
  · show (if i = k then sd else G.sd i).size ≤ 1000 ∧ (if i = k then ht else G.ht i) ≤ 3 ∧ (if i = k then 0 else G.us i) ≤ U
    by_cases hik : i = k
    · rw [if_pos hik, if_pos hik, if_pos hik]
      exact ⟨hs, hh, Nat.zero_le _⟩
    · rw [if_neg hik, if_neg hik, if_neg hik]
      exact h.sz i (by omega)
  · show (if i = k then b else G.bk i) ≠ (if j = k then b else G.bk j)
    by_cases hik : i = k
    · by_cases hjk : j = k
      · exact absurd (hik.trans hjk.symm) hij
      · rw [if_pos hik, if_neg hjk]
        have := (h.key j (by omega)).lt
        omega
    · by_cases hjk : j = k
      · rw [if_neg hik, if_pos hjk]
        have := (h.key i (by omega)).lt
        omega
      · rw [if_neg hik, if_neg hjk]
        exact h.uq i j (by omega) (by omega) hij
/-- A signer used. -/
theorem Sg.touch (h : Sg K Z w W S P k U G) {j : Nat} (hj : j < k) (hu : Unch (fun g => g = G.bk j) W W') {u' : Nat} (H : KeyAt K Z W' (G.bk j) (G.sd j) (G.ht j) u') (hu' : u' ≤ U') (hU : U ≤ U') :
    Sg K Z w W' S P k U' { G with us := fun i => if i = j then u' else G.us i } := by
  have hkj := h.key j hj
  obtain ⟨dn, lv, hbj, _⟩ := hkj.is
  refine ⟨h.u.step hu (fun g hg e => by have := h.lo j hj; omega), h.s0, h.p0, h.cl, hu.heap h.sc (fun e => hkj.bne h.sc (by decide) e.symm), h.ql, hu.heap h.pc (fun e => hkj.bne h.pc (by decide) e.symm), h.qz, h.ptr, fun i hi => ?_, h.lo, fun i hi => ?_, h.uq⟩
  · show KeyAt K Z W' (G.bk i) (G.sd i) (G.ht i) (if i = j then u' else G.us i)
    by_cases hij : i = j
    · rw [if_pos hij, hij]; exact H
    · rw [if_neg hij]
      exact (h.key i hi).other hbj (h.uq i j hi hj hij) hu
  · show (G.sd i).size ≤ 1000 ∧ G.ht i ≤ 3 ∧ (if i = j then u' else G.us i) ≤ U'
    obtain ⟨a, b, c⟩ := h.sz i hi
    refine ⟨a, b, ?_⟩
    split
    · exact hu'
    · omega
theorem Sg.setP (h : Sg K Z w W S P k U G) {j : Nat} {q : ByteArray} (hq : q.size ≤ 1000) : Sg K Z w (W.setCell ⟨P, j, none⟩ (.string q)) S P k U { G with qs := G.qs.set j q } := by
  have hset : Unch (fun g => g = P) W (W.setCell ⟨P, j, none⟩ (.string q)) := (Unch.refl _ _).setCell _ (fun _ => rfl)
  refine ⟨h.u.step hset (fun g hg e => by have := h.p0; omega), h.s0, h.p0, h.cl, hset.heap h.sc h.sp, by simp [h.ql], ?_, fun x hx => ?_, h.ptr, fun i hi => (h.key i hi).oth h.pc (by decide) (by decide) hset, h.lo, h.sz, h.uq⟩
  · have := blk_set h.pc j (.string q)
    rw [List.setIfInBounds_toArray] at this
    rw [this]
    simp only [sv, List.map_set]
  · rcases List.mem_or_eq_of_mem_set hx with hx | rfl
    · exact h.qz x hx
    · exact hq
theorem Sg.grow (h : Sg K Z w W S P k U G) (hZ : ∀ g, Z' g → Z g ∨ W.heap.size ≤ g) : Sg K Z' w W S P k U G :=
  ⟨h.u, h.s0, h.p0, h.cl, h.sc, h.ql, h.pc, h.qz, h.ptr, fun i hi => (h.key i hi).grow hZ, h.lo, h.sz, h.uq⟩
theorem row_bne {w : World} {v : Value} {n : Nat} {xs : List Value} {g : Nat} {cs : Array Value} {t : TypeId} {fr : Nat × Nat} (hr : Row w 9 1 v n xs) (hg : w.heap[g]? = some (.cells cs t fr)) (ht : t ≠ 9) : ¬ v.ownBlock = some g := fun e => by
  obtain ⟨cur, hh⟩ := hr.blk e
  rw [hg] at hh
  injection hh with hh
  injection hh with _ hh
  exact ht hh
theorem Sg.app (h : Sg K Z w W S P k U G) {v : Value} {n : Nat} {xs : List Value} (hr : Row W 9 1 v n xs) (hv : ∀ g, v.ownBlock = some g → Z g) (hw : ∀ g, v.ownBlock = some g → w.heap.size ≤ g) (hu : Unch (fun k => v.ownBlock = some k) W W') (hZ : ∀ g, Z' g → Z g ∨ W.heap.size ≤ g) : Sg K Z' w W' S P k U G :=
  ⟨h.u.step hu (fun g hg e => by have := hw g e; omega), h.s0, h.p0, h.cl, hu.heap h.sc (row_bne hr h.sc (by decide)), h.ql, hu.heap h.pc (row_bne hr h.pc (by decide)), h.qz, h.ptr, fun i hi => (h.key i hi).app hr hv hu hZ, h.lo, h.sz, h.uq⟩
end
/-- The signers, and what is made. -/
structure MdI (K : Nat → Int) (w W : World) (S P U : Nat) (G : Gh) (vo vi : Value) (out ids : List ByteArray) : Prop where
  sg : Sg K (fun g => vo.ownBlock = some g ∨ vi.ownBlock = some g) w W S P 3 U G
  ro : Row W 9 1 vo out.length (sv out)
  ri : Row W 9 1 vi ids.length (sv ids)
  oo : ∀ g, vo.ownBlock = some g → w.heap.size ≤ g
  oi : ∀ g, vi.ownBlock = some g → w.heap.size ≤ g
  ne : ∀ g, vo.ownBlock = some g → vi.ownBlock = some g → False
  zo : ∀ s ∈ out, s.size ≤ 1100000
  zi : ∀ s ∈ ids, s.size = 32
section
variable {K : Nat → Int} {w W W' : World} {S P U U' : Nat} {G : Gh} {vo vi v' : Value} {out ids : List ByteArray}
theorem MdI.fresh (h : MdI K w W S P U G vo vi out ids) (hu : Unch none_ W W') : MdI K w W' S P U G vo vi out ids :=
  ⟨h.sg.fresh hu, h.ro.unch hu (fun _ _ h => h), h.ri.unch hu (fun _ _ h => h), h.oo, h.oi, h.ne, h.zo, h.zi⟩
theorem row_lt {w : World} {e : TypeId} {size : Nat} {v : Value} {n : Nat} {xs : List Value} (hr : Row w e size v n xs) : ∀ g, v.ownBlock = some g → g < w.heap.size := fun g hg => by
  obtain ⟨cur, hh⟩ := hr.blk hg
  exact lt_of_heap hh
theorem MdI.zlt (h : MdI K w W S P U G vo vi out ids) : ∀ g, (vo.ownBlock = some g ∨ vi.ownBlock = some g) → g < W.heap.size := fun g hg => hg.elim (row_lt h.ro g) (row_lt h.ri g)
theorem MdI.touch (h : MdI K w W S P U G vo vi out ids) {j : Nat} (hj : j < 3) (hu : Unch (fun g => g = G.bk j) W W') {u' : Nat} (H : KeyAt K (fun g => vo.ownBlock = some g ∨ vi.ownBlock = some g) W' (G.bk j) (G.sd j) (G.ht j) u') (hu' : u' ≤ U') (hU : U ≤ U') :
    MdI K w W' S P U' { G with us := fun i => if i = j then u' else G.us i } vo vi out ids := by
  obtain ⟨dn, lv, hbj, _⟩ := (h.sg.key j hj).is
  exact ⟨h.sg.touch hj hu H hu' hU, row_other h.ro hbj (by decide) hu, row_other h.ri hbj (by decide) hu, h.oo, h.oi, h.ne, h.zo, h.zi⟩
theorem MdI.appO (h : MdI K w W S P U G vo vi out ids) {b : ByteArray} (hb : b.size ≤ 1100000) (hr : Row W' 9 1 v' (out.length + 1) (sv out ++ [.string b])) (hu : Unch (fun k => vo.ownBlock = some k) W W') (hat : v'.ownBlock = vo.ownBlock ∨ ∃ b, v'.ownBlock = some b ∧ W.heap.size ≤ b) :
    MdI K w W' S P U G v' vi (out ++ [b]) ids := by
  have hn : ∀ g, v'.ownBlock = some g → vo.ownBlock = some g ∨ W.heap.size ≤ g := fun g hg => by
    rcases hat with h1 | ⟨b', h1, h2⟩
    · exact .inl (h1 ▸ hg)
    · rw [h1] at hg; injection hg with hg; subst hg; exact .inr h2
  refine ⟨h.sg.app h.ro (fun g hg => .inl hg) h.oo hu (fun g hg => ?_), ?_, h.ri.unch hu (fun g hg e => h.ne g e hg), fun g hg => ?_, h.oi, fun g hg hi => ?_, fun s hs => ?_, h.zi⟩
  · rcases hg with hg | hg
    · rcases hn g hg with h1 | h1
      · exact .inl (.inl h1)
      · exact .inr h1
    · exact .inl (.inr hg)
  · rw [List.length_append, List.length_singleton, sv_app]
    exact hr
  · rcases hn g hg with h1 | h1
    · exact h.oo g h1
    · exact Nat.le_trans h.sg.u.size h1
  · rcases hn g hg with h1 | h1
    · exact h.ne g h1 hi
    · have := row_lt h.ri g hi
      omega
  · rcases List.mem_append.1 hs with hs | hs
    · exact h.zo s hs
    · rw [List.mem_singleton] at hs; subst hs; exact hb
theorem MdI.appI (h : MdI K w W S P U G vo vi out ids) {b : ByteArray} (hb : b.size = 32) (hr : Row W' 9 1 v' (ids.length + 1) (sv ids ++ [.string b])) (hu : Unch (fun k => vi.ownBlock = some k) W W') (hat : v'.ownBlock = vi.ownBlock ∨ ∃ b, v'.ownBlock = some b ∧ W.heap.size ≤ b) :
    MdI K w W' S P U G vo v' out (ids ++ [b]) := by
  have hn : ∀ g, v'.ownBlock = some g → vi.ownBlock = some g ∨ W.heap.size ≤ g := fun g hg => by
    rcases hat with h1 | ⟨b', h1, h2⟩
    · exact .inl (h1 ▸ hg)
    · rw [h1] at hg; injection hg with hg; subst hg; exact .inr h2
  refine ⟨h.sg.app h.ri (fun g hg => .inr hg) h.oi hu (fun g hg => ?_), h.ro.unch hu (fun g hg e => h.ne g hg e), ?_, h.oo, fun g hg => ?_, fun g ho hg => ?_, h.zo, fun s hs => ?_⟩
  · rcases hg with hg | hg
    · exact .inl (.inl hg)
    · rcases hn g hg with h1 | h1
      · exact .inl (.inr h1)
      · exact .inr h1
  · rw [List.length_append, List.length_singleton, sv_app]
    exact hr
  · rcases hn g hg with h1 | h1
    · exact h.oi g h1
    · exact Nat.le_trans h.sg.u.size h1
  · rcases hn g hg with h1 | h1
    · exact h.ne g ho h1
    · have := row_lt h.ro g ho
      omega
  · rcases List.mem_append.1 hs with hs | hs
    · exact h.zi s hs
    · rw [List.mem_singleton] at hs; subst hs; exact hb
end
end Go.Proofs.YtgcpoppinnnciaaGreatDoor
