/-
  slices.symMergeCmpFunc over entries, many against one.
-/
import Derived.Test.YtgcpoppinnnciaaGreatDoorCMS5
/- slices.symMergeCmpFunc over entries, many against one. -/
set_option linter.unusedVariables false
set_option linter.unusedSimpArgs false
namespace Go.Proofs.YtgcpoppinnnciaaGreatDoor
open Go Go.RowKit Go.Proofs.YtgcpoppinnnciaaGreatDoor.Pal Go.Proofs.YtgcpoppinnnciaaGreatDoor.Plan

theorem perm_one' {R : List Ent} {x : Ent} (q : Nat) : (R.take q ++ x :: R.drop q).Perm (R ++ [x]) := (perm_one q).trans (List.perm_append_singleton x R).symm
set_option maxRecDepth 100000 in
set_option maxHeartbeats 2000000 in
theorem merge_right {w : World} {blk off n c : Nat} {P L S : List Ent} {x : Ent} (h : SR w blk off n c (P ++ (L ++ (x :: S)))) (hn : n ≤ 300) {g : Nat} {lb : Array Value} {K : Ent → Nat} {X : Ent → Prop} (hc : CmpK g lb K X blk w) (hXx : X x) (hX : ∀ y ∈ L, X y) (hR : Srt K L) {a la : Nat} (ha : P.length = a) (hb : L.length = la) (hla : la ≠ 1) :
    Calls Tryz.prog 234 #[.slice (some ⟨blk, off, none⟩) n c, .int .i64 (a : Int), .int .i64 ((a + la : Nat) : Int), .int .i64 ((a + la + 1 : Nat) : Int), .func (.func g) #[] lb] w (SortedTo K w blk off n c P (L ++ [x]) S) := by
  have hlen := h.len
  simp only [List.length_append, List.length_cons, ha, hb] at hlen
  have hbn : a + la + 1 ≤ n := by omega
  have eg := hc.eg
  have HC := Lib.hid hc
  have HX := Lib.hid hX
  have HP := Lib.hid ha
  have HM := Lib.hid hb
  have HR := Lib.hid hR
  have HROW := Lib.hid h
  have z0 : (a : Int) + la - (a : Int) = la := by omega
  have z0' : ((a + la : Nat) : Int) - (a : Int) = la := by omega
  have d1 : ((la : Int) == 1) = false := by simp; omega
  have d2 : (la == 1) = false := by simpa using hla
  have z00 : (a : Int) + la + 1 - ((a : Int) + la) = 1 := by omega
  have z00' : ((a + la + 1 : Nat) : Int) - ((a + la : Nat) : Int) = 1 := by omega
  clear hc hX ha hb hR h hlen hla
  go_enter Tryz.func234, Tryz.ntmps234
  go_wp2
  clear z0 z0' d1 d2 z00 z00'
  go_loopg [14, 15, 16] la (fun gk i10 i11 i12 wr => ∃ i j : Nat, gk = j - i ∧ i10 = .int .i64 ((a + i : Nat) : Int) ∧ i11 = .int .i64 ((a + j : Nat) : Int) ∧ Cut (fun t => kx K L t ≤ K x) 0 la i j ∧ Unch none_ w wr)
  case atStart => exact ⟨0, la, rfl, by go_num, by go_num, ⟨Nat.le_refl _, Nat.zero_le _, Nat.le_refl _, fun t _ ht => by omega, fun t ht1 ht2 => by omega⟩, Unch.refl _ _⟩
  case round =>
    obtain ⟨i, j, rfl, rfl, rfl, hcut, hu⟩ := hrel
    obtain ⟨w2, rfl⟩ : ∃ w2, w2 = wr := ⟨_, rfl⟩
    have hij := hcut.2.1
    have hjm := hcut.2.2.1
    have HCUT := Lib.hid hcut
    clear hcut
    by_cases hlt : i < j
    · have z1 : a + i < a + j := by omega
      obtain ⟨y, hy⟩ := get_some HM.out (show (i + j) / 2 < la by omega)
      obtain ⟨q, hq⟩ : ∃ q, (i + j) / 2 = q := ⟨_, rfl⟩
      rw [hq] at hy
      have hyx := HX.out y (List.mem_of_getElem? hy)
      have hkx : kx K L q = K y := by unfold kx; rw [ent_of hy]
      have hqm : q < la := by omega
      have hyes := fun hp => HCUT.out.yes (fun s t _ hst ht hp => Nat.le_trans (kx_mono HR.out hst (by rw [HM.out]; exact ht)) hp) hlt hp
      have hno := fun hp => HCUT.out.no (fun s t _ hst ht hp => Nat.le_trans (kx_mono HR.out hst (by rw [HM.out]; exact ht)) hp) hlt hp
      rw [hq, hkx] at hyes hno
      have HYES := Lib.hid hyes
      have HNO := Lib.hid hno
      have hrw2 := HROW.out.fresh hu
      have hxl : (P ++ (L ++ (x :: S)))[a + la]? = some x := by
        have := get_mid (P ++ L) x S
        rw [show (P ++ L).length = a + la by rw [List.length_append, HP.out, HM.out], List.append_assoc] at this
        exact this
      have hyl : (P ++ (L ++ (x :: S)))[a + q]? = some y := by
        rw [List.getElem?_append_right (by rw [HP.out]; omega), HP.out, show a + q - a = q by omega, List.getElem?_append_left (by rw [HM.out]; exact hqm)]
        exact hy
      obtain ⟨_, x0, x1, x2, x3, x4⟩ := SR.at hrw2 hxl
      obtain ⟨_, y0, y1, y2, y3, y4⟩ := SR.at hrw2 hyl
      have f0 := cellU x0
      have f1 := cellU x1
      have f2 := cellU x2
      have f3 := cellU x3
      have f4 := cellU x4
      have g0 := cellU y0
      have g1 := cellU y1
      have g2 := cellU y2
      have g3 := cellU y3
      have g4 := cellU y4
      have hc3 := HC.out.next (hu.mono (fun _ _ h => h.elim))
      have HQ := Lib.hid hq
      have z2 : a + q < n := by omega
      have z3 : a + la < n := by omega
      have z4 : ((a : Int) + i + (a + j)) / 2 = ((a + q : Nat) : Int) := by omega
      clear x0 x1 x2 x3 x4 y0 y1 y2 y3 y4 hy hkx hyes hno hrw2 hxl hyl hq
      go_upto_region 17 with fail
      clear z4
      refine wp_region_quiet_u (by kernel_rfl) (by kernel_rfl) (fun _ => ?_)
      by_cases hk : K y ≤ K x
      · obtain ⟨z, hz⟩ : ∃ z, cmpI (K x) (K y) = z := ⟨_, rfl⟩
        have hz0 : decide (z < 0) = false := by
          rw [← hz]
          apply decide_eq_false
          have := (cmpI_neg (K x) (K y))
          omega
        have HCUT2 := Lib.hid (HYES.out hk)
        have HQ1 := Lib.hid (hc3.q hXx hyx hz)
        unfold Ent.val at HQ1
        clear hk hz hc3
        repeat (go_big_quiet_step ((go_at_fn g; exact HQ1.out.u _)))
        refine wpQuiet_nil ?_
        intro wq hw'
        obtain ⟨⟨wqq, huq⟩, hw''⟩ := hw'
        subst hw''
        clear f0 f1 f2 f3 f4 g0 g1 g2 g3 g4
        go_wp2
        go_roundg (j - (q + 1))
        case measure => have := HQ.out; omega
        case rel => exact ⟨q + 1, j, rfl, by go_num, rfl, HCUT2.out, hu.trans huq⟩
      · have hz : cmpI (K x) (K y) = -1 := by unfold cmpI; rw [if_pos (by omega)]
        have HCUT2 := Lib.hid (HNO.out hk)
        have HQ1 := Lib.hid (hc3.q hXx hyx hz)
        unfold Ent.val at HQ1
        clear hk hz hc3
        repeat (go_big_quiet_step ((go_at_fn g; exact HQ1.out.u _)))
        refine wpQuiet_nil ?_
        intro wq hw'
        obtain ⟨⟨wqq, huq⟩, hw''⟩ := hw'
        subst hw''
        clear f0 f1 f2 f3 f4 g0 g1 g2 g3 g4
        go_wp2
        go_roundg (q - i)
        case measure => have := HQ.out; omega
        case rel => exact ⟨i, q, rfl, rfl, by go_num, HCUT2.out, hu.trans huq⟩
    · obtain rfl : i = j := by omega
      have z1 : ¬ a + i < a + i := by omega
      have hrw2 := HROW.out.fresh hu
      have HR2 : Hid (SR w2 blk off n c (mov P L S x la)) := by
        unfold Hid mov
        rw [List.take_of_length_le (by rw [HM.out]; exact Nat.le_refl _), List.drop_eq_nil_of_le (by rw [HM.out]; exact Nat.le_refl _)]
        simpa using hrw2
      have HU := Lib.hid hu
      clear hrw2 hu
      go_wp2
      go_loopg [17] (la - i) (fun gk i13 wr => ∃ t : Nat, gk = t - i ∧ i ≤ t ∧ t ≤ la ∧ i13 = .int .i64 ((a + t : Nat) : Int) ∧ SR wr blk off n c (mov P L S x t) ∧ Unch (fun k => k = blk) w wr)
      case atStart => exact ⟨la, rfl, hjm, Nat.le_refl _, by go_num, HR2.out, HU.out.mono (fun _ _ h => h.elim)⟩
      case round =>
        obtain ⟨t, rfl, hti, htl, rfl, hrow, hu⟩ := hrel
        obtain ⟨w3, rfl⟩ : ∃ w3, w3 = wr := ⟨_, rfl⟩
        by_cases hlt : i < t
        · obtain ⟨t, rfl⟩ : ∃ t', t = t' + 1 := ⟨t - 1, by omega⟩
          have z7 : a + i < a + (t + 1) := by omega
          have z7' : a + i < a + t + 1 := by omega
          have z7i : (a : Int) + i < (a : Int) + t + 1 := by omega
          have z7j : (a : Int) + i < (a : Int) + (t + 1) := by omega
          obtain ⟨y, hy⟩ := get_some HM.out (show t < la by omega)
          obtain ⟨e1, e2⟩ := mov_split (P := P) (S := S) (x := x) hy
          rw [e2] at hrow
          have hl1 : (P ++ L.take t).length = a + t := by rw [List.length_append, List.length_take, HP.out, HM.out]; omega
          have hadj := SR.adj hrow hl1
          rw [← e1] at hadj
          have hyl : ((P ++ L.take t) ++ y :: x :: (L.drop (t + 1) ++ S))[a + t]? = some y := by rw [← hl1]; exact get_mid _ _ _
          have hxl : ((P ++ L.take t) ++ y :: x :: (L.drop (t + 1) ++ S))[a + t + 1]? = some x := by
            have := get_mid ((P ++ L.take t) ++ [y]) x (L.drop (t + 1) ++ S)
            rw [show ((P ++ L.take t) ++ [y]).length = a + t + 1 by rw [List.length_append, hl1]; rfl] at this
            rw [← this]
            simp only [List.append_assoc, List.cons_append, List.nil_append]
          obtain ⟨_, x0, x1, x2, x3, x4⟩ := SR.at hrow hxl
          obtain ⟨_, y0, y1, y2, y3, y4⟩ := SR.at hrow hyl
          have hfz := fun j => SR.free hrow j
          have hun : Unch (fun k => k = blk) w (put5 (put5 w3 blk (off + (a + t + 1) * 5) y) blk (off + (a + t) * 5) x) := (hu.trans (put5_unch _ _ _ _)).trans (put5_unch _ _ _ _)
          have HN : Hid (SR (put5 (put5 w3 blk (off + (a + t + 1) * 5) y) blk (off + (a + t) * 5) x).drew blk off n c (mov P L S x t) ∧ Unch (fun k => k = blk) w (put5 (put5 w3 blk (off + (a + t + 1) * 5) y) blk (off + (a + t) * 5) x).drew) := ⟨SR.fresh hadj ((Unch.refl none_ _).drew), hun.drew⟩
          obtain ⟨Ax, mx, cx, hpx⟩ := HC.out.pv x hXx
          obtain ⟨Ay, my, cy, hpy⟩ := HC.out.pv y (HX.out y (List.mem_of_getElem? hy))
          unfold put5 at HN
          rw [hpx, hpy] at HN
          have z8 : a + t + 1 < n := by omega
          have z9 : a + t < n := by omega
          rw [show a + (t + 1) = a + t + 1 from rfl]
          clear hrow hadj hun hy e1 e2 hl1 hxl hyl hu
          go_upto_region 23 with fail
          refine wp_planP (fun W => W.heap[blk]? = w3.heap[blk]?) [2, 3, 4] [0, 1, 5, 6, 7, 8, 9, 10, 11, 12, 13] [14, 15, 16, 17] 0 (by kernel_rfl) (by kernel_rfl) rfl rfl rfl (fun c a d v w h => by cases d <;> exact h) (rfl) ?_
          intro S S0 HS _ _
          simp only [pickIn, List.getElem?_toArray, List.getElem?_cons_succ, List.getElem?_cons_zero]
          repeat (go_big_quiet_step (fail))
          refine wpQuiet_nil ?_
          have fT : ∀ W, S W → W.heap[blk]? = w3.heap[blk]? := fun W hW => (HS.out W).1 hW
          have f0 := cellS fT x0
          have f1 := cellS fT x1
          have f2 := cellS fT x2
          have f3 := cellS fT x3
          have f4 := cellS fT x4
          have g0 := cellS fT y0
          have g1 := cellS fT y1
          have g2 := cellS fT y2
          have g3 := cellS fT y3
          have g4 := cellS fT y4
          clear fT
          repeat (go_big_quiet_step (fail))
          refine wpQuiet_nil ?_
          clear f0 f1 f2 f3 f4 g0 g1 g2 g3 g4
          refine tail_all ?_
          go_wp2
          go_roundg (t - i)
          case measure => omega
          case rel => exact ⟨t, rfl, by omega, by omega, by go_num, HN.out.1, HN.out.2⟩
        · obtain rfl : t = i := by omega
          go_wp2
          go_end0
          obtain ⟨_, _, _, h4, h5⟩ := HCUT.out
          exact ⟨rfl, L.take t ++ x :: L.drop t, perm_one' t, srt_one HR.out (fun s hs hl => h4 s (Nat.zero_le _) hs) (fun s hs hl => Nat.le_of_lt (Nat.lt_of_not_le (h5 s hs (by rw [← HM.out]; exact hl)))), by simpa [mov] using hrow, hu⟩
end Go.Proofs.YtgcpoppinnnciaaGreatDoor
