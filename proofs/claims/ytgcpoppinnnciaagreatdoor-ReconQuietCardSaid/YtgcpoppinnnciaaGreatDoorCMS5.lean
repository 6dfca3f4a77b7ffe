/-
  slices.symMergeCmpFunc over entries, one against many.
-/
import Derived.Test.YtgcpoppinnnciaaGreatDoorCMS1
/- slices.symMergeCmpFunc over entries, one against many. -/
set_option linter.unusedVariables false
set_option linter.unusedSimpArgs false
namespace Go.Proofs.YtgcpoppinnnciaaGreatDoor
open Go Go.RowKit Go.Proofs.YtgcpoppinnnciaaGreatDoor.Pal Go.Proofs.YtgcpoppinnnciaaGreatDoor.Plan

/-- Where x goes among R: behind what is less. -/
def Cut (p : Nat → Prop) (lo hi i j : Nat) : Prop := lo ≤ i ∧ i ≤ j ∧ j ≤ hi ∧ (∀ t, lo ≤ t → t < i → p t) ∧ ∀ t, j ≤ t → t < hi → ¬ p t
theorem Cut.yes {p : Nat → Prop} {lo hi i j : Nat} (h : Cut p lo hi i j) (hm : ∀ s t, lo ≤ s → s ≤ t → t < hi → p t → p s) (hij : i < j) (hp : p ((i + j) / 2)) : Cut p lo hi ((i + j) / 2 + 1) j := by
  obtain ⟨h1, h2, h3, h4, h5⟩ := h
  refine ⟨by omega, by omega, h3, fun t ht1 ht2 => ?_, h5⟩
  exact hm t ((i + j) / 2) ht1 (by omega) (by omega) hp
theorem Cut.no {p : Nat → Prop} {lo hi i j : Nat} (h : Cut p lo hi i j) (hm : ∀ s t, lo ≤ s → s ≤ t → t < hi → p t → p s) (hij : i < j) (hp : ¬ p ((i + j) / 2)) : Cut p lo hi i ((i + j) / 2) := by
  obtain ⟨h1, h2, h3, h4, h5⟩ := h
  refine ⟨h1, by omega, by omega, h4, fun t ht1 ht2 hp2 => ?_⟩
  exact hp (hm ((i + j) / 2) t (by omega) ht1 ht2 hp2)
def kx (K : Ent → Nat) (xs : List Ent) (t : Nat) : Nat := K (ent xs t)
theorem kx_mono {K : Ent → Nat} {xs : List Ent} (h : Srt K xs) {s t : Nat} (hst : s ≤ t) (ht : t < xs.length) : kx K xs s ≤ kx K xs t := by
  unfold kx
  rcases Nat.lt_or_ge s t with h1 | h1
  · have := List.pairwise_iff_getElem.1 h s t (by omega) ht h1
    rw [ent_of (List.getElem?_eq_getElem (by omega)), ent_of (List.getElem?_eq_getElem ht)]
    exact this
  · obtain rfl : s = t := by omega
    exact Nat.le_refl _
theorem srt_split {K : Ent → Nat} {xs : List Ent} (h : Srt K xs) (q : Nat) : Srt K (xs.take q) ∧ Srt K (xs.drop q) := by
  have := h
  unfold Srt at *
  rw [← List.take_append_drop q xs, List.pairwise_append] at this
  exact ⟨this.1, this.2.1⟩
theorem mem_take_ent {xs : List Ent} {q : Nat} {y : Ent} (h : y ∈ xs.take q) : ∃ t, t < q ∧ t < xs.length ∧ y = ent xs t := by
  obtain ⟨t, ht⟩ := List.mem_iff_getElem?.1 h
  rw [List.getElem?_take] at ht
  split at ht
  · rename_i hq
    exact ⟨t, hq, (List.getElem?_eq_some_iff.1 ht).1, (ent_of ht).symm⟩
  · cases ht
theorem mem_drop_ent {xs : List Ent} {q : Nat} {y : Ent} (h : y ∈ xs.drop q) : ∃ t, q ≤ t ∧ t < xs.length ∧ y = ent xs t := by
  obtain ⟨t, ht⟩ := List.mem_iff_getElem?.1 h
  rw [List.getElem?_drop] at ht
  exact ⟨q + t, by omega, (List.getElem?_eq_some_iff.1 ht).1, (ent_of ht).symm⟩
/-- x laid where it goes. -/
theorem srt_one {K : Ent → Nat} {R : List Ent} {x : Ent} {q : Nat} (h : Srt K R) (h1 : ∀ t, t < q → t < R.length → kx K R t ≤ K x) (h2 : ∀ t, q ≤ t → t < R.length → K x ≤ kx K R t) : Srt K (R.take q ++ x :: R.drop q) := by
  have hm := h
  obtain ⟨a, b⟩ := srt_split h q
  unfold Srt at *
  rw [List.pairwise_append]
  refine ⟨a, List.pairwise_cons.2 ⟨fun y hy => ?_, b⟩, fun y hy z hz => ?_⟩
  · obtain ⟨t, ht1, ht2, rfl⟩ := mem_drop_ent hy
    exact h2 t ht1 ht2
  · obtain ⟨t, ht1, ht2, rfl⟩ := mem_take_ent hy
    rcases List.mem_cons.1 hz with rfl | hz
    · exact h1 t ht1 ht2
    · obtain ⟨s, hs1, hs2, rfl⟩ := mem_drop_ent hz
      exact kx_mono hm (by omega) hs2
theorem perm_one {R : List Ent} {x : Ent} (q : Nat) : (R.take q ++ x :: R.drop q).Perm (x :: R) := by
  refine List.perm_middle.trans ?_
  rw [List.take_append_drop]
/-- x, moved t places on. -/
def mov (P R S : List Ent) (x : Ent) (t : Nat) : List Ent := P ++ (R.take t ++ x :: (R.drop t ++ S))
theorem mov_split {P R S : List Ent} {x y : Ent} {t : Nat} (hy : R[t]? = some y) : mov P R S x t = (P ++ R.take t) ++ x :: y :: (R.drop (t + 1) ++ S) ∧ mov P R S x (t + 1) = (P ++ R.take t) ++ y :: x :: (R.drop (t + 1) ++ S) := by
  obtain ⟨h1, h2⟩ := List.getElem?_eq_some_iff.1 hy
  have e1 : R.drop t = y :: R.drop (t + 1) := by rw [List.drop_eq_getElem_cons h1, h2]
  have e2 : R.take (t + 1) = R.take t ++ [y] := by rw [List.take_add_one, hy]; rfl
  unfold mov
  rw [e1, e2]
  constructor <;> simp [List.append_assoc]
set_option maxRecDepth 100000 in
set_option maxHeartbeats 2000000 in
theorem merge_left {w : World} {blk off n c : Nat} {P R S : List Ent} {x : Ent} (h : SR w blk off n c (P ++ (x :: (R ++ S)))) (hn : n ≤ 300) {g : Nat} {lb : Array Value} {K : Ent → Nat} {X : Ent → Prop} (hc : CmpK g lb K X blk w) (hXx : X x) (hX : ∀ y ∈ R, X y) (hR : Srt K R) {a b : Nat} (ha : P.length = a) (hb : a + 1 + R.length = b) :
    Calls Tryz.prog 234 #[.slice (some ⟨blk, off, none⟩) n c, .int .i64 (a : Int), .int .i64 ((a + 1 : Nat) : Int), .int .i64 (b : Int), .func (.func g) #[] lb] w (SortedTo K w blk off n c P (x :: R) S) := by
  have hlen := h.len
  simp only [List.length_append, List.length_cons, ha] at hlen
  obtain ⟨m, hm⟩ : ∃ m, R.length = m := ⟨_, rfl⟩
  rw [hm] at hb hlen
  subst hb
  have hbn : a + 1 + m ≤ n := by omega
  have eg := hc.eg
  have HC := Lib.hid hc
  have HX := Lib.hid hX
  have HP := Lib.hid ha
  have HM := Lib.hid hm
  have HR := Lib.hid hR
  have HROW := Lib.hid h
  have z0 : ((a + 1 : Nat) : Int) - (a : Int) = 1 := by omega
  clear hc hX ha hm hR h hlen
  go_enter Tryz.func234, Tryz.ntmps234
  go_wp2
  go_loopg [10, 11, 12] m (fun gk i10 i11 i12 wr => ∃ i j : Nat, gk = j - i ∧ i10 = .int .i64 ((a + 1 + i : Nat) : Int) ∧ i11 = .int .i64 ((a + 1 + j : Nat) : Int) ∧ Cut (fun t => kx K R t < K x) 0 m i j ∧ Unch none_ w wr)
  case atStart => exact ⟨0, m, rfl, by go_num, by go_num, ⟨Nat.le_refl _, Nat.zero_le _, Nat.le_refl _, fun t _ ht => by omega, fun t ht1 ht2 => by omega⟩, Unch.refl _ _⟩
  case round =>
    obtain ⟨i, j, rfl, rfl, rfl, hcut, hu⟩ := hrel
    obtain ⟨w2, rfl⟩ : ∃ w2, w2 = wr := ⟨_, rfl⟩
    have hij := hcut.2.1
    have hjm := hcut.2.2.1
    have HCUT := Lib.hid hcut
    clear hcut
    by_cases hlt : i < j
    · have z1 : a + 1 + i < a + 1 + j := by omega
      obtain ⟨y, hy⟩ := get_some HM.out (show (i + j) / 2 < m by omega)
      obtain ⟨q, hq⟩ : ∃ q, (i + j) / 2 = q := ⟨_, rfl⟩
      rw [hq] at hy
      have hyx := HX.out y (List.mem_of_getElem? hy)
      have hkx : kx K R q = K y := by unfold kx; rw [ent_of hy]
      have hqm : q < m := by omega
      have hyes := fun hp => HCUT.out.yes (fun s t _ hst ht hp => Nat.lt_of_le_of_lt (kx_mono HR.out hst (by rw [HM.out]; exact ht)) hp) hlt hp
      have hno := fun hp => HCUT.out.no (fun s t _ hst ht hp => Nat.lt_of_le_of_lt (kx_mono HR.out hst (by rw [HM.out]; exact ht)) hp) hlt hp
      rw [hq, hkx] at hyes hno
      have HYES := Lib.hid hyes
      have HNO := Lib.hid hno
      have hrw2 := HROW.out.fresh hu
      have hxl : (P ++ (x :: (R ++ S)))[a]? = some x := by rw [← HP.out]; exact get_mid _ _ _
      have hyl : (P ++ (x :: (R ++ S)))[a + 1 + q]? = some y := by
        rw [List.getElem?_append_right (by rw [HP.out]; omega), HP.out, show a + 1 + q - a = q + 1 by omega, List.getElem?_cons_succ, List.getElem?_append_left (by rw [HM.out]; exact hqm)]
        exact hy
      obtain ⟨_, x0, x1, x2, x3, x4⟩ := SR.at hrw2 hxl
      obtain ⟨_, y0, y1, y2, y3, y4⟩ := SR.at hrw2 hyl
      have f0 := cellU x0
      have f1 := cellU x1
      have f2 := cellU x2
      have f3 := cellU x3
      have f4 := cellU x4
      have g0 := cellU y0
      have g1 := cellU y1
      have g2 := cellU y2
      have g3 := cellU y3
      have g4 := cellU y4
      have hc3 := HC.out.next (hu.mono (fun _ _ h => h.elim))
      have HQ := Lib.hid hq
      have z2 : a + 1 + q < n := by omega
      have z3 : a < n := by omega
      have z4 : ((a : Int) + 1 + i + (a + 1 + j)) / 2 = ((a + 1 + q : Nat) : Int) := by omega
      clear x0 x1 x2 x3 x4 y0 y1 y2 y3 y4 hy hkx hyes hno hrw2 hxl hyl hq
      go_upto_region 5 with fail
      clear z4
      refine wp_region_quiet_u (by kernel_rfl) (by kernel_rfl) (fun _ => ?_)
      by_cases hk : K y < K x
      · have hz : cmpI (K y) (K x) = -1 := by unfold cmpI; rw [if_pos (by omega)]
        have HCUT2 := Lib.hid (HYES.out hk)
        have HQ1 := Lib.hid (hc3.q hyx hXx hz)
        unfold Ent.val at HQ1
        clear hk hz hc3
        repeat (go_big_quiet_step ((go_at_fn g; exact HQ1.out.u _)))
        refine wpQuiet_nil ?_
        intro wq hw'
        obtain ⟨⟨wqq, huq⟩, hw''⟩ := hw'
        subst hw''
        clear f0 f1 f2 f3 f4 g0 g1 g2 g3 g4
        go_wp2
        go_roundg (j - (q + 1))
        case measure => have := HQ.out; omega
        case rel => exact ⟨q + 1, j, rfl, by go_num, rfl, HCUT2.out, hu.trans huq⟩
      · obtain ⟨z, hz⟩ : ∃ z, cmpI (K y) (K x) = z := ⟨_, rfl⟩
        have hz0 : decide (z < 0) = false := by
          rw [← hz]
          apply decide_eq_false
          have := (cmpI_neg (K y) (K x))
          omega
        have HCUT2 := Lib.hid (HNO.out hk)
        have HQ1 := Lib.hid (hc3.q hyx hXx hz)
        unfold Ent.val at HQ1
        clear hk hz hc3
        repeat (go_big_quiet_step ((go_at_fn g; exact HQ1.out.u _)))
        refine wpQuiet_nil ?_
        intro wq hw'
        obtain ⟨⟨wqq, huq⟩, hw''⟩ := hw'
        subst hw''
        clear f0 f1 f2 f3 f4 g0 g1 g2 g3 g4
        go_wp2
        go_roundg (q - i)
        case measure => have := HQ.out; omega
        case rel => exact ⟨i, q, rfl, rfl, by go_num, HCUT2.out, hu.trans huq⟩
    · obtain rfl : i = j := by omega
      have z1 : ¬ a + 1 + i < a + 1 + i := by omega
      have hrw2 := HROW.out.fresh hu
      have HR2 : Hid (SR w2 blk off n c (mov P R S x 0)) := by
        unfold Hid mov
        simpa using hrw2
      have HU := Lib.hid hu
      clear hrw2 hu
      go_wp2
      go_loopg [13] i (fun gk i13 wr => ∃ t : Nat, gk = i - t ∧ t ≤ i ∧ i13 = .int .i64 ((a + t : Nat) : Int) ∧ SR wr blk off n c (mov P R S x t) ∧ Unch (fun k => k = blk) w wr)
      case atStart => exact ⟨0, rfl, Nat.zero_le _, by go_num, HR2.out, HU.out.mono (fun _ _ h => h.elim)⟩
      case round =>
        obtain ⟨t, rfl, hti, rfl, hrow, hu⟩ := hrel
        obtain ⟨w3, rfl⟩ : ∃ w3, w3 = wr := ⟨_, rfl⟩
        have z5 : ((a + 1 + i : Nat) : Int) - 1 = ((a + i : Nat) : Int) := by omega
        have z6 : (a : Int) + 1 + i - 1 = ((a + i : Nat) : Int) := by omega
        by_cases hlt : t < i
        · have z7 : a + t < a + i := by omega
          obtain ⟨y, hy⟩ := get_some HM.out (show t < m by omega)
          obtain ⟨e1, e2⟩ := mov_split (P := P) (S := S) (x := x) hy
          rw [e1] at hrow
          have hl1 : (P ++ R.take t).length = a + t := by rw [List.length_append, List.length_take, HP.out, HM.out]; omega
          have hadj := SR.adj' hrow hl1
          rw [← e2] at hadj
          have hxl : ((P ++ R.take t) ++ x :: y :: (R.drop (t + 1) ++ S))[a + t]? = some x := by rw [← hl1]; exact get_mid _ _ _
          have hyl : ((P ++ R.take t) ++ x :: y :: (R.drop (t + 1) ++ S))[a + t + 1]? = some y := by
            have := get_mid ((P ++ R.take t) ++ [x]) y (R.drop (t + 1) ++ S)
            rw [show ((P ++ R.take t) ++ [x]).length = a + t + 1 by rw [List.length_append, hl1]; rfl] at this
            rw [← this]
            simp only [List.append_assoc, List.cons_append, List.nil_append]
          obtain ⟨_, x0, x1, x2, x3, x4⟩ := SR.at hrow hxl
          obtain ⟨_, y0, y1, y2, y3, y4⟩ := SR.at hrow hyl
          have hfz := fun j => SR.free hrow j
          have hun : Unch (fun k => k = blk) w (put5 (put5 w3 blk (off + (a + t) * 5) y) blk (off + (a + t + 1) * 5) x) := (hu.trans (put5_unch _ _ _ _)).trans (put5_unch _ _ _ _)
          have HN : Hid (SR (put5 (put5 w3 blk (off + (a + t) * 5) y) blk (off + (a + t + 1) * 5) x).drew blk off n c (mov P R S x (t + 1)) ∧ Unch (fun k => k = blk) w (put5 (put5 w3 blk (off + (a + t) * 5) y) blk (off + (a + t + 1) * 5) x).drew) := ⟨SR.fresh hadj ((Unch.refl none_ _).drew), hun.drew⟩
          obtain ⟨Ax, mx, cx, hpx⟩ := HC.out.pv x hXx
          obtain ⟨Ay, my, cy, hpy⟩ := HC.out.pv y (HX.out y (List.mem_of_getElem? hy))
          unfold put5 at HN
          rw [hpx, hpy] at HN
          have z8 : a + t + 1 < n := by omega
          have z9 : a + t < n := by omega
          clear hrow hadj hun hy e1 e2 hl1 hxl hyl hu
          go_upto_region 11 with fail
          clear z5 z6
          refine wp_planP (fun W => W.heap[blk]? = w3.heap[blk]?) [2, 3, 4] [0, 1, 5, 6, 7, 8, 9, 10, 11, 12, 13] [14, 15, 16, 17] 0 (by kernel_rfl) (by kernel_rfl) rfl rfl rfl (fun c a d v w h => by cases d <;> exact h) (rfl) ?_
          intro S S0 HS _ _
          simp only [pickIn, List.getElem?_toArray, List.getElem?_cons_succ, List.getElem?_cons_zero]
          repeat (go_big_quiet_step (fail))
          refine wpQuiet_nil ?_
          have fT : ∀ W, S W → W.heap[blk]? = w3.heap[blk]? := fun W hW => (HS.out W).1 hW
          have f0 := cellS fT x0
          have f1 := cellS fT x1
          have f2 := cellS fT x2
          have f3 := cellS fT x3
          have f4 := cellS fT x4
          have g0 := cellS fT y0
          have g1 := cellS fT y1
          have g2 := cellS fT y2
          have g3 := cellS fT y3
          have g4 := cellS fT y4
          clear fT
          repeat (go_big_quiet_step (fail))
          refine wpQuiet_nil ?_
          clear f0 f1 f2 f3 f4 g0 g1 g2 g3 g4
          refine tail_all ?_
          go_wp2
          go_roundg (i - (t + 1))
          case measure => omega
          case rel => exact ⟨t + 1, rfl, by omega, by go_num, HN.out.1, HN.out.2⟩
        · obtain rfl : t = i := by omega
          go_wp2
          go_end0
          obtain ⟨_, _, _, h4, h5⟩ := HCUT.out
          exact ⟨rfl, R.take t ++ x :: R.drop t, perm_one t, srt_one HR.out (fun s hs hl => Nat.le_of_lt (h4 s (Nat.zero_le _) hs)) (fun s hs hl => Nat.le_of_not_lt (h5 s hs (by rw [← HM.out]; exact hl))), by simpa [mov] using hrow, hu⟩
end Go.Proofs.YtgcpoppinnnciaaGreatDoor
