/-
  slices.symMergeCmpFunc over entries, many against many.
-/
import Derived.Test.YtgcpoppinnnciaaGreatDoorCMS6
/- slices.symMergeCmpFunc over entries, many against many. -/
set_option linter.unusedVariables false
set_option linter.unusedSimpArgs false
namespace Go.Proofs.YtgcpoppinnnciaaGreatDoor
open Go Go.RowKit Go.Proofs.YtgcpoppinnnciaaGreatDoor.Pal Go.Proofs.YtgcpoppinnnciaaGreatDoor.Plan

/-- What is said of merging two rows of together d entries at most. -/
def MergeC (g : Nat) (lb : Array Value) (K : Ent → Nat) (X : Ent → Prop) (w : World) (blk off n c d : Nat) : Prop :=
  ∀ (w' : World) (P L R S : List Ent) (a m b : Nat), Unch (fun k => k = blk) w w' → SR w' blk off n c (P ++ (L ++ (R ++ S))) → L ≠ [] → R ≠ [] → Srt K L → Srt K R → (∀ x ∈ L, X x) → (∀ x ∈ R, X x) → P.length = a → a + L.length = m → m + R.length = b → L.length + R.length ≤ d →
    Calls Tryz.prog 234 #[.slice (some ⟨blk, off, none⟩) n c, .int .i64 (a : Int), .int .i64 (m : Int), .int .i64 (b : Int), .func (.func g) #[] lb] w' (SortedTo K w' blk off n c P (L ++ R) S)
/-- The bounds of the search. -/
def GoodUR (la lb h u r : Nat) : Prop := (u = 0 ∨ u + lb = h) ∧ (r = la ∨ r = h) ∧ u ≤ r ∧ r ≤ la ∧ r ≤ h ∧ h ≤ u + lb
def GoodAt (w wx : World) (a la lb h : Nat) (v20 v21 : Value) : Prop := ∃ u r, v20 = .int .i64 ((a + u : Nat) : Int) ∧ v21 = .int .i64 ((a + r : Nat) : Int) ∧ GoodUR la lb h u r ∧ w = wx
def SearchE (K : Ent → Nat) (L R : List Ent) (w wx : World) (a h u0 r0 : Nat) (v20 v21 : Value) : Prop :=
  ∃ s t u : Nat, v20 = .int .i64 (s : Int) ∧ v21 = .int .i64 (t : Int) ∧ s = a + u ∧ Cut (fun t => kx K L t ≤ kx K R (h - 1 - t)) u0 r0 u u ∧ Unch none_ w wx
theorem cross_le {K : Ent → Nat} {L R : List Ent} {h u u0 r0 : Nat} (hL : Srt K L) (hR : Srt K R) (hg : GoodUR L.length R.length h u0 r0) (hc : Cut (fun t => kx K L t ≤ kx K R (h - 1 - t)) u0 r0 u u) :
    ∀ x ∈ L.take u ++ R.take (h - u), ∀ y ∈ L.drop u ++ R.drop (h - u), K x ≤ K y := by
  obtain ⟨g1, g2, g3, g4, g5, g6⟩ := hg
  obtain ⟨c1, _, c3, c4, c5⟩ := hc
  intro x hx y hy
  rcases List.mem_append.1 hx with hx | hx <;> rcases List.mem_append.1 hy with hy | hy
  · obtain ⟨s, s1, s2, rfl⟩ := mem_take_ent hx
    obtain ⟨t, t1, t2, rfl⟩ := mem_drop_ent hy
    exact kx_mono hL (by omega) t2
  · obtain ⟨s, s1, s2, rfl⟩ := mem_take_ent hx
    obtain ⟨t, t1, t2, rfl⟩ := mem_drop_ent hy
    have hu : u0 < u := by
      rcases g1 with e | e
      · omega
      · rcases Nat.lt_or_ge u0 u with h1 | h1
        · exact h1
        · have : u = u0 := by omega
          subst this
          omega
    have h1 := c4 (u - 1) (by omega) (by omega)
    have h2 := kx_mono hL (show s ≤ u - 1 by omega) (by omega)
    have h3 := kx_mono hR (show h - 1 - (u - 1) ≤ t by omega) t2
    unfold kx at *
    omega
  · obtain ⟨s, s1, s2, rfl⟩ := mem_take_ent hx
    obtain ⟨t, t1, t2, rfl⟩ := mem_drop_ent hy
    have hu : u < r0 := by
      rcases g2 with e | e
      · omega
      · omega
    have h1 := c5 u (Nat.le_refl _) hu
    have h2 := kx_mono hR (show s ≤ h - 1 - u by omega) (by omega)
    have h3 := kx_mono hL (show u ≤ t by omega) t2
    unfold kx at *
    omega
  · obtain ⟨s, s1, s2, rfl⟩ := mem_take_ent hx
    obtain ⟨t, t1, t2, rfl⟩ := mem_drop_ent hy
    exact kx_mono hR (by omega) t2
def RotE (w wx : World) (blk off n c : Nat) (P L1 R1 L2 R2 S : List Ent) : Prop := SR wx blk off n c (P ++ (L1 ++ (R1 ++ (L2 ++ (R2 ++ S))))) ∧ Unch (fun k => k = blk) w wx
structure Mid (K : Ent → Nat) (w wx : World) (blk off n c : Nat) (P M1 L1 R1 L2 R2 S : List Ent) : Prop where
  perm : M1.Perm (L1 ++ R1)
  srt : Srt K M1
  row : SR wx blk off n c (P ++ (M1 ++ (L2 ++ (R2 ++ S))))
  u : Unch (fun k => k = blk) w wx
def MidE (K : Ent → Nat) (w wx : World) (blk off n c : Nat) (P L1 R1 L2 R2 S : List Ent) : Prop := ∃ M1, Mid K w wx blk off n c P M1 L1 R1 L2 R2 S
theorem fin_perm {L R M1 M2 : List Ent} {u v : Nat} (h1 : M1.Perm (L.take u ++ R.take v)) (h2 : M2.Perm (L.drop u ++ R.drop v)) : (M1 ++ M2).Perm (L ++ R) := by
  refine (h1.append h2).trans ?_
  have e1 : L ++ R = (L.take u ++ L.drop u) ++ (R.take v ++ R.drop v) := by rw [List.take_append_drop, List.take_append_drop]
  rw [e1, List.append_assoc, List.append_assoc]
  refine List.Perm.append_left _ ?_
  rw [← List.append_assoc, ← List.append_assoc]
  exact List.Perm.append_right _ List.perm_append_comm
theorem fin_srt {K : Ent → Nat} {M1 M2 A B : List Ent} (h1 : M1.Perm A) (h2 : M2.Perm B) (s1 : Srt K M1) (s2 : Srt K M2) (hc : ∀ x ∈ A, ∀ y ∈ B, K x ≤ K y) : Srt K (M1 ++ M2) := by
  unfold Srt at *
  rw [List.pairwise_append]
  exact ⟨s1, s2, fun x hx y hy => hc x (h1.mem_iff.1 hx) y (h2.mem_iff.1 hy)⟩
set_option maxRecDepth 100000 in
set_option maxHeartbeats 4000000 in
theorem merge_gen {w : World} {blk off n c : Nat} {P L R S : List Ent} (h : SR w blk off n c (P ++ (L ++ (R ++ S)))) (hn : n ≤ 300) {g : Nat} {lb : Array Value} {K : Ent → Nat} {X : Ent → Prop} (hc : CmpK g lb K X blk w) (hXL : ∀ y ∈ L, X y) (hXR : ∀ y ∈ R, X y) (hsL : Srt K L) (hsR : Srt K R)
    {a la lbn d : Nat} (ha : P.length = a) (hla : L.length = la) (hlb : R.length = lbn) (hl2 : 2 ≤ la) (hr2 : 2 ≤ lbn) (hd : la + lbn ≤ d + 1) (hrec : MergeC g lb K X w blk off n c d) :
    Calls Tryz.prog 234 #[.slice (some ⟨blk, off, none⟩) n c, .int .i64 (a : Int), .int .i64 ((a + la : Nat) : Int), .int .i64 ((a + la + lbn : Nat) : Int), .func (.func g) #[] lb] w (SortedTo K w blk off n c P (L ++ R) S) := by
  have hlen := h.len
  simp only [List.length_append, ha, hla, hlb] at hlen
  have hbn : a + la + lbn ≤ n := by omega
  have eg := hc.eg
  obtain ⟨hh, hhe⟩ : ∃ hh, (la + lbn) / 2 = hh := ⟨_, rfl⟩
  have hh1 : 2 * hh ≤ la + lbn := by omega
  have hh2 : la + lbn ≤ 2 * hh + 1 := by omega
  have HC := Lib.hid hc
  have HXL := Lib.hid hXL
  have HXR := Lib.hid hXR
  have HP := Lib.hid ha
  have HLA := Lib.hid hla
  have HLB := Lib.hid hlb
  have HSL := Lib.hid hsL
  have HSR := Lib.hid hsR
  have HROW := Lib.hid h
  have HREC := Lib.hid hrec
  have z0 : (a : Int) + la - (a : Int) = la := by omega
  have z0' : ((a + la : Nat) : Int) - (a : Int) = la := by omega
  have d1 : ((la : Int) == 1) = false := by simp; omega
  have d2 : (la == 1) = false := by simp; omega
  have z00 : (a : Int) + la + lbn - ((a : Int) + la) = lbn := by omega
  have z00' : ((a + la + lbn : Nat) : Int) - ((a + la : Nat) : Int) = lbn := by omega
  have d3 : ((lbn : Int) == 1) = false := by simp; omega
  have d4 : (lbn == 1) = false := by simp; omega
  have z5 : ((a : Int) + (a + la + lbn)) / 2 = ((a + hh : Nat) : Int) := by omega
  clear hc hXL hXR ha hla hlb hsL hsR h hlen hrec hhe
  go_enter Tryz.func234, Tryz.ntmps234
  go_upto_if 140 with fail
  clear z0 z0' d1 d2 z00 z00' d3 d4 z5
  rw [show (a : Int) + hh + (a + la) = ((a + hh + (a + la) : Nat) : Int) by omega, show (a : Int) + hh = ((a + hh : Nat) : Int) by omega]
  obtain ⟨N, hN⟩ : ∃ N, a + hh + (a + la) = N := ⟨_, rfl⟩
  obtain ⟨b, hb⟩ : ∃ b, a + la + lbn = b := ⟨_, rfl⟩
  obtain ⟨m, hm⟩ : ∃ m, a + la = m := ⟨_, rfl⟩
  obtain ⟨mid, hmid⟩ : ∃ mid, a + hh = mid := ⟨_, rfl⟩
  rw [hN, hb, hm, hmid]
  have N1 : a + hh + (a + la) ≤ N := by omega
  have N2 : N ≤ a + hh + (a + la) := by omega
  have b1 : a + la + lbn ≤ b := by omega
  have b2 : b ≤ a + la + lbn := by omega
  have m1 : a + la ≤ m := by omega
  have m2 : m ≤ a + la := by omega
  have mi1 : a + hh ≤ mid := by omega
  have mi2 : mid ≤ a + hh := by omega
  clear hN hb hm hmid
  go_cut [20, 21] from 129 to 146 (fun v20 v21 wx => GoodAt w wx a la lbn hh v20 v21)
  case first =>
    by_cases hlt : hh < la
    · have z1 : mid < m := by omega
      have z4 : (mid : Int) < (m : Int) := by omega
      obtain ⟨s, hs⟩ : ∃ s, N = b + s := ⟨N - b, by omega⟩
      have z2 : (N : Int) - (b : Int) = (s : Int) := by omega
      have HS0 := Lib.hid hs
      clear hs
      go_wp2
      go_meet
      have := HS0.out
      exact ⟨hh - lbn, hh, by rw [show s = a + (hh - lbn) by omega], by rw [show mid = a + hh by omega], ⟨by omega, .inr rfl, by omega, by omega, Nat.le_refl _, by omega⟩, rfl⟩
    · have z1 : ¬ mid < m := by omega
      have z4 : ¬ (mid : Int) < (m : Int) := by omega
      go_wp2
      go_meet
      exact ⟨0, la, by go_num, by rw [show m = a + la by omega], ⟨.inl rfl, .inl rfl, by omega, Nat.le_refl _, by omega, by omega⟩, rfl⟩
  case rest =>
    obtain ⟨u0, r0, rfl, rfl, hgood, rfl⟩ := hcut
    have HG := Lib.hid hgood
    obtain ⟨g1, g2, g3, g4, g5, g6⟩ := hgood
    clear g1 g2
    obtain ⟨p, hp⟩ : ∃ p, N = p + 1 := ⟨N - 1, by omega⟩
    have z1 : (N : Int) - 1 = (p : Int) := by omega
    have p1 : p + 1 ≤ N := by omega
    have p2 : N ≤ p + 1 := by omega
    clear hp
    obtain ⟨s20, hs20⟩ : ∃ s, a + u0 = s := ⟨_, rfl⟩
    obtain ⟨s21, hs21⟩ : ∃ s, a + r0 = s := ⟨_, rfl⟩
    rw [hs20, hs21]
    have HS20 := Lib.hid hs20
    have HS21 := Lib.hid hs21
    clear hs20 hs21
    go_upto_block 8 with fail
    clear z1
    go_cut [20, 21, 23] from 149 to 174 (fun v20 v21 v23 wx => SearchE K L R w wx a hh u0 r0 v20 v21)
    case first =>
      go_wp2_with fail
      go_loopg [20, 21, 23] (r0 - u0) (fun gk i20 i21 i23 wr => ∃ s t u v : Nat, gk = v - u ∧ i20 = .int .i64 (s : Int) ∧ i21 = .int .i64 (t : Int) ∧ s = a + u ∧ t = a + v ∧ Cut (fun t => kx K L t ≤ kx K R (hh - 1 - t)) u0 r0 u v ∧ Unch none_ w wr)
      case atStart => exact ⟨s20, s21, u0, r0, rfl, rfl, rfl, HS20.out.symm, HS21.out.symm, ⟨Nat.le_refl _, g3, Nat.le_refl _, fun t h1 h2 => by omega, fun t h1 h2 => by omega⟩, Unch.refl _ _⟩
      case round =>
        obtain ⟨s, t, u, v, rfl, rfl, rfl, hs, ht, hcut, hu⟩ := hrel
        obtain ⟨w2, rfl⟩ : ∃ w2, w2 = wr := ⟨_, rfl⟩
        have s1 : s ≤ a + u := by omega
        have s2 : a + u ≤ s := by omega
        have t1 : t ≤ a + v := by omega
        have t2 : a + v ≤ t := by omega
        clear hs ht
        have huv := hcut.2.1
        have hu0 := hcut.1
        have hvr := hcut.2.2.1
        have HCUT := Lib.hid hcut
        clear hcut
        by_cases hlt : u < v
        · have y1 : s < t := by omega
          have y2 : (s : Int) < (t : Int) := by omega
          obtain ⟨q, hq⟩ : ∃ q, (u + v) / 2 = q := ⟨_, rfl⟩
          have hqr : q < r0 := by omega
          have hq0 : u0 ≤ q := by omega
          obtain ⟨x, hx⟩ := get_some HLA.out (show q < la by omega)
          obtain ⟨e, he⟩ : ∃ e, hh - 1 - q = e := ⟨_, rfl⟩
          obtain ⟨y, hy⟩ := get_some HLB.out (show e < lbn by omega)
          have hxx := HXL.out x (List.mem_of_getElem? hx)
          have hyx := HXR.out y (List.mem_of_getElem? hy)
          have hkx : kx K L q = K x := by unfold kx; rw [ent_of hx]
          have hky : kx K R e = K y := by unfold kx; rw [ent_of hy]
          have hmono : ∀ s t, u0 ≤ s → s ≤ t → t < r0 → kx K L t ≤ kx K R (hh - 1 - t) → kx K L s ≤ kx K R (hh - 1 - s) := fun s t h1 h2 h3 h4 =>
            Nat.le_trans (kx_mono HSL.out h2 (by rw [HLA.out]; omega)) (Nat.le_trans h4 (kx_mono HSR.out (by omega) (by rw [HLB.out]; omega)))
          have hyes := fun hp => HCUT.out.yes hmono hlt hp
          have hno := fun hp => HCUT.out.no hmono hlt hp
          rw [hq, he, hkx, hky] at hyes hno
          have HYES := Lib.hid hyes
          have HNO := Lib.hid hno
          obtain ⟨cc, hcc⟩ : ∃ cc, a + q = cc := ⟨_, rfl⟩
          obtain ⟨pc, hpc⟩ : ∃ pc, m + e = pc := ⟨_, rfl⟩
          have hrw2 := HROW.out.fresh hu
          have hxl : (P ++ (L ++ (R ++ S)))[cc]? = some x := by
            rw [List.getElem?_append_right (by rw [HP.out]; omega), HP.out, show cc - a = q by omega, List.getElem?_append_left (by rw [HLA.out]; omega)]
            exact hx
          have hyl : (P ++ (L ++ (R ++ S)))[pc]? = some y := by
            rw [List.getElem?_append_right (by rw [HP.out]; omega), HP.out, List.getElem?_append_right (by rw [HLA.out]; omega), HLA.out, show pc - a - la = e by omega, List.getElem?_append_left (by rw [HLB.out]; omega)]
            exact hy
          obtain ⟨_, x0, x1, x2, x3, x4⟩ := SR.at hrw2 hxl
          obtain ⟨_, y0, y1', y2', y3, y4⟩ := SR.at hrw2 hyl
          have f0 := cellU x0
          have f1 := cellU x1
          have f2 := cellU x2
          have f3 := cellU x3
          have f4 := cellU x4
          have k0 := cellU y0
          have k1 := cellU y1'
          have k2 := cellU y2'
          have k3 := cellU y3
          have k4 := cellU y4
          have hc3 := HC.out.next (hu.mono (fun _ _ h => h.elim))
          have HQ := Lib.hid hq
          have HCC := Lib.hid hcc
          have z2 : cc < n := by omega
          have z3 : pc < n := by omega
          have z2' : (cc : Int) < (n : Int) := by omega
          have z3' : (pc : Int) < (n : Int) := by omega
          have z4 : ((s : Int) + t) / 2 = (cc : Int) := by omega
          have z5 : (p : Int) - (cc : Int) = (pc : Int) := by omega
          clear x0 x1 x2 x3 x4 y0 y1' y2' y3 y4 hx hy hkx hky hyes hno hrw2 hxl hyl hq he hmono hcc hpc
          go_upto_region 35 with fail
          refine wp_region_quiet_u (by kernel_rfl) (by kernel_rfl) (fun _ => ?_)
          by_cases hk : K x ≤ K y
          · obtain ⟨z, hz⟩ : ∃ z, cmpI (K y) (K x) = z := ⟨_, rfl⟩
            have hz0 : decide (z < 0) = false := by
              rw [← hz]
              apply decide_eq_false
              have := (cmpI_neg (K y) (K x))
              omega
            have HCUT2 := Lib.hid (HYES.out hk)
            have HQ1 := Lib.hid (hc3.q hyx hxx hz)
            unfold Ent.val at HQ1
            clear hk hz hc3
            repeat (go_big_quiet_step ((go_at_fn g; exact HQ1.out.u _)))
            refine wpQuiet_nil ?_
            intro wq hw'
            obtain ⟨⟨wqq, huq⟩, hw''⟩ := hw'
            subst hw''
            clear f0 f1 f2 f3 f4 k0 k1 k2 k3 k4 z4 z5
            go_wp2
            go_roundg (v - (q + 1))
            case measure => have := HQ.out; omega
            case rel => exact ⟨cc + 1, t, q + 1, v, rfl, by go_num, rfl, by have := HCC.out; omega, by omega, HCUT2.out, hu.trans huq⟩
          · have hz : cmpI (K y) (K x) = -1 := by unfold cmpI; rw [if_pos (by omega)]
            have HCUT2 := Lib.hid (HNO.out hk)
            have HQ1 := Lib.hid (hc3.q hyx hxx hz)
            unfold Ent.val at HQ1
            clear hk hz hc3
            repeat (go_big_quiet_step ((go_at_fn g; exact HQ1.out.u _)))
            refine wpQuiet_nil ?_
            intro wq hw'
            obtain ⟨⟨wqq, huq⟩, hw''⟩ := hw'
            subst hw''
            clear f0 f1 f2 f3 f4 k0 k1 k2 k3 k4 z4 z5
            go_wp2
            go_roundg (q - u)
            case measure => have := HQ.out; omega
            case rel => exact ⟨s, cc, u, q, rfl, rfl, rfl, by omega, by have := HCC.out; omega, HCUT2.out, hu.trans huq⟩
        · have y1 : ¬ s < t := by omega
          have y2 : ¬ (s : Int) < (t : Int) := by omega
          obtain rfl : u = v := by omega
          go_wp2
          go_meet
          exact ⟨s, t, u, rfl, rfl, by omega, HCUT.out, hu⟩
    case rest =>
      obtain ⟨s, t, u, rfl, rfl, hs, hcut, hu⟩ := hcut
      obtain ⟨w2, rfl⟩ : ∃ w2, w2 = wc := ⟨_, rfl⟩
      have cu0 := hcut.1
      have cr0 := hcut.2.2.1
      have HCR := Lib.hid (cross_le HSL.out HSR.out (by rw [HLA.out, HLB.out]; exact HG.out) hcut)
      obtain ⟨v, hv⟩ : ∃ v, hh - u = v := ⟨_, rfl⟩
      rw [hv] at HCR
      have s1 : s ≤ a + u := by omega
      have s2 : a + u ≤ s := by omega
      have v1 : hh ≤ u + v := by omega
      have v2 : u + v ≤ hh := by omega
      obtain ⟨en, hen⟩ : ∃ en, m + v = en := ⟨_, rfl⟩
      have e1 : m + v ≤ en := by omega
      have e2 : en ≤ m + v := by omega
      have z1 : (N : Int) - (s : Int) = (en : Int) := by omega
      have hrw2 := HROW.out.fresh hu
      have l1 : (L.take u).length = u := by rw [List.length_take, HLA.out]; omega
      have l2 : (L.drop u).length = la - u := by rw [List.length_drop, HLA.out]
      have l3 : (R.take v).length = v := by rw [List.length_take, HLB.out]; omega
      have l4 : (R.drop v).length = lbn - v := by rw [List.length_drop, HLB.out]
      have hsp : P ++ (L ++ (R ++ S)) = P ++ (L.take u ++ (L.drop u ++ (R.take v ++ (R.drop v ++ S)))) := by
        rw [← List.append_assoc (R.take v), List.take_append_drop, ← List.append_assoc (L.take u), List.take_append_drop]
      rw [hsp] at hrw2
      have HR2 := Lib.hid hrw2
      have HU := Lib.hid (hu.mono (Y := fun k => k = blk) (fun _ _ h => h.elim))
      have xl1 : Hid (∀ x ∈ L.take u, X x) := Lib.hid fun x hx => HXL.out x (List.mem_of_mem_take hx)
      have xl2 : Hid (∀ x ∈ L.drop u, X x) := Lib.hid fun x hx => HXL.out x (List.mem_of_mem_drop hx)
      have xr1 : Hid (∀ x ∈ R.take v, X x) := Lib.hid fun x hx => HXR.out x (List.mem_of_mem_take hx)
      have xr2 : Hid (∀ x ∈ R.drop v, X x) := Lib.hid fun x hx => HXR.out x (List.mem_of_mem_drop hx)
      have sl := Lib.hid (srt_split HSL.out u)
      have sr := Lib.hid (srt_split HSR.out v)
      have hfin : ∀ (M1 M2 : List Ent) (w' : World), M1.Perm (L.take u ++ R.take v) → M2.Perm (L.drop u ++ R.drop v) → Srt K M1 → Srt K M2 → SR w' blk off n c (P ++ (M1 ++ (M2 ++ S))) → Unch (fun k => k = blk) w w' → SortedTo K w blk off n c P (L ++ R) S (.returned (.tuple #[])) w' := fun M1 M2 w' p1 p2 q1 q2 hrow hun =>
        ⟨rfl, M1 ++ M2, fin_perm p1 p2, fin_srt p1 p2 q1 q2 HCR.out, by simpa [List.append_assoc] using hrow, hun⟩
      have HFIN := Lib.hid hfin
      clear hfin
      generalize L.take u = L1 at *
      generalize L.drop u = L2 at *
      generalize R.take v = R1 at *
      generalize R.drop v = R2 at *
      have HL1 := Lib.hid l1
      have HL2 := Lib.hid l2
      have HL3 := Lib.hid l3
      have HL4 := Lib.hid l4
      clear hrw2 hu hs hv hen hsp l1 l2 l3 l4 hcut
      go_upto_region 39 with fail
      go_cut [185] from 178 to 184 (fun vb wx => vb = .bool (decide (u < la) && decide (u < hh)) ∧ w2 = wx)
      case first =>
        by_cases k1 : u < la
        · have y1 : s < m := by omega
          have y2 : (s : Int) < (m : Int) := by omega
          by_cases k2 : u < hh
          · have y3 : m < en := by omega
            have y4 : (m : Int) < (en : Int) := by omega
            have HF : Hid ((decide (u < la) && decide (u < hh)) = true) := by rw [decide_eq_true k1, decide_eq_true k2]; rfl
            clear k1 k2
            go_wp2
            go_meet
            exact ⟨by rw [HF.out], rfl⟩
          · have y3 : ¬ m < en := by omega
            have y4 : ¬ (m : Int) < (en : Int) := by omega
            have HF : Hid ((decide (u < la) && decide (u < hh)) = false) := by rw [decide_eq_false k2, Bool.and_false]; rfl
            clear k1 k2
            go_wp2
            go_meet
            exact ⟨by rw [HF.out], rfl⟩
        · have y1 : ¬ s < m := by omega
          have y2 : ¬ (s : Int) < (m : Int) := by omega
          have HF : Hid ((decide (u < la) && decide (u < hh)) = false) := by rw [decide_eq_false k1, Bool.false_and]; rfl
          clear k1
          go_wp2
          go_meet
          exact ⟨by rw [HF.out], rfl⟩
      case rest =>
        obtain ⟨rfl, rfl⟩ := hcut
        obtain ⟨bb, hbb⟩ : ∃ bb, (decide (u < la) && decide (u < hh)) = bb := ⟨_, rfl⟩
        rw [hbb]
        have HB := Lib.hid hbb
        clear hbb
        go_upto_if 185 with fail
        go_cut [186] from 187 to 191 (fun v wx => RotE w wx blk off n c P L1 R1 L2 R2 S)
        case first =>
          cases bb with
          | false =>
            go_wp2
            go_meet
            refine ⟨?_, HU.out⟩
            have h0 := HB.out
            rcases Nat.lt_or_ge u la with h1 | h1
            · have h2 : hh ≤ u := by
                rcases Nat.lt_or_ge u hh with h2 | h2
                · rw [decide_eq_true h1, decide_eq_true h2] at h0; cases h0
                · exact h2
              have : R1 = [] := List.eq_nil_of_length_eq_zero (by rw [HL3.out]; omega)
              subst this
              simpa using HR2.out
            · have : L2 = [] := List.eq_nil_of_length_eq_zero (by rw [HL2.out]; omega)
              subst this
              simpa using HR2.out
          | true =>
            obtain ⟨h1, h2⟩ : u < la ∧ u < hh := by have := HB.out; simpa using this
            have hrot := rotate_ok (f := .func (.func g) #[] lb) (P := P ++ L1) (by have := HR2.out; simpa [List.append_assoc] using this) hn HC.out.pv xl2.out xr1.out (a := s) (m := m) (b := en) (by rw [List.length_append, HP.out, HL1.out]; omega) (by rw [HL2.out]; omega) (by rw [HL3.out]; omega)
              (fun e => by have := HL2.out; rw [e] at this; simp at this; omega) (fun e => by have := HL3.out; rw [e] at this; simp at this; omega)
            have HROT := Lib.hid hrot
            clear hrot h1 h2
            go_wp2_with fail
            refine HROT.out.mono ?_
            rintro e w' ⟨rfl, h1, h2⟩
            go_wp2
            go_meet
            exact ⟨by simpa [List.append_assoc] using h1, HU.out.trans h2⟩
        case rest =>
          obtain ⟨hr3, hu3⟩ := hcut
          obtain ⟨w3, rfl⟩ : ∃ w3, w3 = wc := ⟨_, rfl⟩
          have HR3 := Lib.hid hr3
          have HU3 := Lib.hid hu3
          clear hr3 hu3 HB HR2 HU
          go_upto_region 41 with fail
          go_cut [199] from 192 to 198 (fun vb wx => vb = .bool (decide (0 < u) && decide (u < hh)) ∧ w3 = wx)
          case first =>
            by_cases k1 : 0 < u
            · have y1 : a < s := by omega
              have y2 : (a : Int) < (s : Int) := by omega
              by_cases k2 : u < hh
              · have y3 : s < mid := by omega
                have y4 : (s : Int) < (mid : Int) := by omega
                have HF : Hid ((decide (0 < u) && decide (u < hh)) = true) := by rw [decide_eq_true k1, decide_eq_true k2]; rfl
                clear k1 k2
                go_wp2
                go_meet
                exact ⟨by rw [HF.out], rfl⟩
              · have y3 : ¬ s < mid := by omega
                have y4 : ¬ (s : Int) < (mid : Int) := by omega
                have HF : Hid ((decide (0 < u) && decide (u < hh)) = false) := by rw [decide_eq_false k2, Bool.and_false]; rfl
                clear k1 k2
                go_wp2
                go_meet
                exact ⟨by rw [HF.out], rfl⟩
            · have y1 : ¬ a < s := by omega
              have y2 : ¬ (a : Int) < (s : Int) := by omega
              have HF : Hid ((decide (0 < u) && decide (u < hh)) = false) := by rw [decide_eq_false k1, Bool.false_and]; rfl
              clear k1
              go_wp2
              go_meet
              exact ⟨by rw [HF.out], rfl⟩
          case rest =>
            obtain ⟨rfl, rfl⟩ := hcut
            obtain ⟨bb, hbb⟩ : ∃ bb, (decide (0 < u) && decide (u < hh)) = bb := ⟨_, rfl⟩
            rw [hbb]
            have HB := Lib.hid hbb
            clear hbb
            go_upto_if 199 with fail
            go_cut [200] from 201 to 205 (fun v wx => MidE K w wx blk off n c P L1 R1 L2 R2 S)
            case first =>
              cases bb with
              | false =>
                go_wp2
                go_meet
                have h0 := HB.out
                rcases Nat.eq_zero_or_pos u with h1 | h1
                · have : L1 = [] := List.eq_nil_of_length_eq_zero (by rw [HL1.out]; exact h1)
                  subst this
                  exact ⟨R1, by simp, sr.out.1, by simpa using HR3.out, HU3.out⟩
                · have h2 : hh ≤ u := by
                    rcases Nat.lt_or_ge u hh with h2 | h2
                    · rw [decide_eq_true h1, decide_eq_true h2] at h0; cases h0
                    · exact h2
                  have : R1 = [] := List.eq_nil_of_length_eq_zero (by rw [HL3.out]; omega)
                  subst this
                  exact ⟨L1, by simp, sl.out.1, by simpa using HR3.out, HU3.out⟩
              | true =>
                obtain ⟨h1, h2⟩ : 0 < u ∧ u < hh := by have := HB.out; simpa using this
                have hm := HREC.out w3 P L1 R1 (L2 ++ (R2 ++ S)) a s mid HU3.out HR3.out (fun e => by have := HL1.out; rw [e] at this; simp at this; omega) (fun e => by have := HL3.out; rw [e] at this; simp at this; omega)
                  sl.out.1 sr.out.1 xl1.out xr1.out HP.out (by rw [HL1.out]; omega) (by rw [HL3.out]; omega) (by rw [HL1.out, HL3.out]; omega)
                have HMG := Lib.hid hm
                clear hm h1 h2
                go_wp2_with fail
                refine HMG.out.mono ?_
                rintro e w' ⟨rfl, M1, p1, p2, p3, p4⟩
                have HMM : Hid (MidE K w w' blk off n c P L1 R1 L2 R2 S) := ⟨M1, p1, p2, p3, HU3.out.trans p4⟩
                clear p1 p2 p3 p4
                go_wp2
                go_meet
                exact HMM.out
            case rest =>
              obtain ⟨M1, hmid⟩ := hcut
              obtain ⟨w4, rfl⟩ : ∃ w4, w4 = wc := ⟨_, rfl⟩
              have HMID := Lib.hid hmid
              have lm : M1.length = hh := by rw [hmid.perm.length_eq, List.length_append, HL1.out, HL3.out]; omega
              have HLM := Lib.hid lm
              clear hmid HB HR3 HU3 lm
              go_upto_region 43 with fail
              go_cut [213] from 206 to 212 (fun vb wx => vb = .bool (decide (u < la) && decide (v < lbn)) ∧ w4 = wx)
              case first =>
                by_cases k1 : u < la
                · have y1 : mid < en := by omega
                  have y2 : (mid : Int) < (en : Int) := by omega
                  by_cases k2 : v < lbn
                  · have y3 : en < b := by omega
                    have y4 : (en : Int) < (b : Int) := by omega
                    have HF : Hid ((decide (u < la) && decide (v < lbn)) = true) := by rw [decide_eq_true k1, decide_eq_true k2]; rfl
                    clear k1 k2
                    go_wp2
                    go_meet
                    exact ⟨by rw [HF.out], rfl⟩
                  · have y3 : ¬ en < b := by omega
                    have y4 : ¬ (en : Int) < (b : Int) := by omega
                    have HF : Hid ((decide (u < la) && decide (v < lbn)) = false) := by rw [decide_eq_false k2, Bool.and_false]; rfl
                    clear k1 k2
                    go_wp2
                    go_meet
                    exact ⟨by rw [HF.out], rfl⟩
                · have y1 : ¬ mid < en := by omega
                  have y2 : ¬ (mid : Int) < (en : Int) := by omega
                  have HF : Hid ((decide (u < la) && decide (v < lbn)) = false) := by rw [decide_eq_false k1, Bool.false_and]; rfl
                  clear k1
                  go_wp2
                  go_meet
                  exact ⟨by rw [HF.out], rfl⟩
              case rest =>
                obtain ⟨rfl, rfl⟩ := hcut
                obtain ⟨bb, hbb⟩ : ∃ bb, (decide (u < la) && decide (v < lbn)) = bb := ⟨_, rfl⟩
                rw [hbb]
                have HB := Lib.hid hbb
                clear hbb
                go_upto_if 213 with fail
                cases bb with
                | false =>
                  go_wp2
                  go_end0
                  have h0 := HB.out
                  rcases Nat.lt_or_ge u la with h1 | h1
                  · have h2 : lbn ≤ v := by
                      rcases Nat.lt_or_ge v lbn with h2 | h2
                      · rw [decide_eq_true h1, decide_eq_true h2] at h0; cases h0
                      · exact h2
                    have e0 : R2 = [] := List.eq_nil_of_length_eq_zero (by rw [HL4.out]; omega)
                    subst e0
                    exact HFIN.out M1 L2 w4 HMID.out.perm (by simp) HMID.out.srt sl.out.2 (by have := HMID.out.row; simpa [List.append_assoc] using this) HMID.out.u
                  · have e0 : L2 = [] := List.eq_nil_of_length_eq_zero (by rw [HL2.out]; omega)
                    subst e0
                    exact HFIN.out M1 R2 w4 HMID.out.perm (by simp) HMID.out.srt sr.out.2 (by have := HMID.out.row; simpa [List.append_assoc] using this) HMID.out.u
                | true =>
                  obtain ⟨h1, h2⟩ : u < la ∧ v < lbn := by have := HB.out; simpa using this
                  have hm := HREC.out w4 (P ++ M1) L2 R2 S mid en b HMID.out.u (by have := HMID.out.row; simpa [List.append_assoc] using this) (fun e => by have := HL2.out; rw [e] at this; simp at this; omega) (fun e => by have := HL4.out; rw [e] at this; simp at this; omega)
                    sl.out.2 sr.out.2 xl2.out xr2.out (by rw [List.length_append, HP.out, HLM.out]; omega) (by rw [HL2.out]; omega) (by rw [HL4.out]; omega) (by rw [HL2.out, HL4.out]; omega)
                  have HMG := Lib.hid hm
                  clear hm h1 h2
                  go_wp2_with fail
                  refine HMG.out.mono ?_
                  rintro e w' ⟨rfl, M2, p1, p2, p3, p4⟩
                  have HMM := Lib.hid (HFIN.out M1 M2 w' HMID.out.perm p1 HMID.out.srt p2 (by simpa [List.append_assoc] using p3) (HMID.out.u.trans p4))
                  clear p1 p2 p3 p4
                  go_wp2
                  go_end0
                  exact HMM.out
end Go.Proofs.YtgcpoppinnnciaaGreatDoor
