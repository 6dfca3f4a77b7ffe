/-
  palaverref15, Set.Members: the walk.
-/
import Derived.Test.YtgalnnmeamldhaaGreatCRS1
/- palaverref15, Set.Members: the walk. -/
set_option linter.unusedVariables false
set_option linter.unusedSimpArgs false
namespace Go.Proofs.YtgalnnmeamldhaaGreat
open Go Go.RowKit Go.Proofs.YtgalnnmeamldhaaGreat.Pal Go.Proofs.YtgalnnmeamldhaaGreat.Plan

theorem keysL_f {s : Ms} {k : Nat} (h1 : ¬ k = s.r) (h2 : (s.inn k && decide (s.kind k = 4)) = false) : keysL s (k + 1) = keysL s k := by
  rw [keysL_succ]; unfold kAt; rw [if_neg h1, h2]; simp
theorem keysL_r {s : Ms} {k : Nat} (h1 : k = s.r) (h2 : (s.inn k && decide (s.kind k = 4)) = false) : keysL s (k + 1) = keysL s k ++ [s.aut k] := by
  rw [keysL_succ]; unfold kAt; rw [if_pos h1, h2]; simp
theorem keysL_t {s : Ms} {k : Nat} (h1 : ¬ k = s.r) (h2 : (s.inn k && decide (s.kind k = 4)) = true) : keysL s (k + 1) = keysL s k ++ [s.body k] := by
  rw [keysL_succ]; unfold kAt; rw [if_neg h1, if_pos h2]; simp
theorem sv_inv {xs : List ByteArray} {j : Nat} {u : Value} (h : (sv xs)[j]? = some u) : ∃ y, xs[j]? = some y ∧ u = .string y := by
  unfold sv at h
  rw [List.getElem?_map] at h
  obtain ⟨y, hy, rfl⟩ := Option.map_eq_some_iff.1 h
  exact ⟨y, hy, rfl⟩
theorem sv_one {xs : List ByteArray} : ∀ u ∈ sv xs, u.oneCell' = true := by
  intro u hu
  obtain ⟨y, _, rfl⟩ := List.mem_map.1 hu
  rfl
set_option maxRecDepth 100000 in
set_option maxHeartbeats 4000000 in
theorem rMembers_ok {w : World} {p : Pl} {s : Ms} (h : SetOk w p s) :
    Calls Tryz.prog 30 #[setV p s] w fun e w' => ∃ v L, e = .returned v ∧ MemL s L ∧ SMid w w' v L.length L := by
  have hu1 : Unch none_ w (w.alloc (Obj.cells (setC p s) 46)) := (Unch.refl none_ w).alloc _
  have bS := blk_new w (Obj.cells (setC p s) 46)
  have HH := Lib.hid (holding_ok (h.fresh hu1))
  have hOk := h.ok
  have hQl : ∀ W, Unch none_ w W → ∀ a b, QC Tryz.prog 52 #[setV p s, .string a, .string b] (.bool (decide (s.rk a < s.rk b))) W := fun W hW a b => lower_Q (h.fresh hW) a b (hOk.lower_rk a b)
  have hQm : ∀ W, Unch none_ w W → ∀ key A c, RdS W 1 BoolR A p.n ((List.range p.n).map s.holding) → QC Tryz.prog 53 #[setV p s, .string key, .slice A p.n c] (.bool (s.member key)) W := fun W hW key A c hr W' hW' => rmember_ok ((h.fresh hW).fresh hW') key (RdS.fresh hr hW')
  have HQL := Lib.hid hQl
  have HQM := Lib.hid hQm
  have HOK := Lib.hid hOk
  have HSET := Lib.hid h
  have hrr := h.r
  have n3 := h.n3
  have hsn := h.n
  obtain ⟨n, AL, cL, AP, cP, AI, cI⟩ := p
  simp only at hrr n3 hsn
  have s0 := blk_cell bS (j := 0) rfl
  have s1 := blk_cell bS (j := 1) rfl
  have s2 := blk_cell bS (j := 2) rfl
  have s3 := blk_cell bS (j := 3) rfl
  have HSN := Lib.hid hsn
  unfold setV setC at *
  clear h hOk hQl hQm hsn
  go_enter Tryz.func30, Tryz.ntmps30
  go_wp2_with fail
  refine HH.out.mono ?_
  rintro e w2 ⟨gh, rfl, hbh, hgh, hu2⟩
  have hu12 := hu1.trans hu2
  have bS2 := hu2.heap bS (fun h => h)
  have hrows := hbh.rds (Nat.le_trans n3 (by decide))
  have HRH := Lib.hid hrows
  have HU2 := Lib.hid hu12
  have HBS := Lib.hid bS2
  clear hu1 bS hbh hgh hu2 hu12 bS2 hrows s0 s1 s2 s3 HH
  generalize w.heap.size = g at *
  have y0 := blk_cell HBS.out (j := 0) rfl
  go_wp2_with fail
  clear y0
  go_loopg [4, 5] n (fun gk v4 i5 wr => ∃ i : Nat, gk = n - i ∧ i ≤ n ∧ i5 = .int .i64 (i : Int) ∧ SMid w2 wr v4 (keysL s i).length (keysL s i))
  case atStart => exact ⟨0, rfl, Nat.zero_le _, rfl, Unch.refl _ _, (fun b hb => by cases hb), Row.nil _ _ _⟩
  case round =>
    obtain ⟨i, rfl, hi, rfl, hs⟩ := hrel
    obtain ⟨w3, rfl⟩ : ∃ w3, w3 = wr := ⟨_, rfl⟩
    have b3 := hs.hu.heap HBS.out (fun h => h)
    have s0 := blk_cell b3 (j := 0) rfl
    have s2 := blk_cell b3 (j := 2) rfl
    have s3 := blk_cell b3 (j := 3) rfl
    have hkl := keysL_len HOK.out i
    have HS := Lib.hid hs
    by_cases hin : i < n
    · have hset := HSET.out.fresh (HU2.out.trans hs.hu)
      obtain ⟨b, o, A2, c2, hAL, _, _, x1, x2, _, x4⟩ := hset.entry (k := i) hin
      obtain ⟨bi, oi, hAI, yi⟩ := hset.inAt (k := i) hin
      simp only at hAL hAI
      subst hAL
      subst hAI
      have z0 : (0 : Int) ≤ (i : Int) := by omega
      have z1 : (i : Int) < (n : Int) := by omega
      clear hset hs b3
      by_cases c1 : i = s.r
      · have hk1 : s.kind i = 1 := by rw [c1]; exact HOK.out.kr
        have HK := Lib.hid (keysL_r c1 (by rw [hk1]; simp))
        rw [hk1] at x1
        have hput : ∀ (v2 : Value) (w4 : World), Row w4 9 1 v2 ((keysL s i).length + 1) (sv (keysL s i) ++ [.string (s.aut i)]) → Unch (fun k => u4.ownBlock = some k) w3 w4 → (v2.ownBlock = u4.ownBlock ∨ ∃ b, v2.ownBlock = some b ∧ w3.heap.size ≤ b) → SMid w2 w4 v2 (keysL s (i + 1)).length (keysL s (i + 1)) ∧ w4.heap[g]? = some (.cells #[.slice (some ⟨b, o, none⟩) n cL, .slice AP n cP, .int .i64 (s.r : Int), .slice (some ⟨bi, oi, none⟩) n cI] 46 (0, 0)) ∧ w4.cell? ⟨b, o + i * 5 + 1, none⟩ = some (.int .i64 1) ∧ w4.cell? ⟨bi, oi + i, none⟩ = some (.bool (s.inn i)) := fun v2 w4 hr hu hat => by
          have h1 := HS.out.app1 hr hu hat
          have hu24 := h1.hu
          have hset := HSET.out.fresh (HU2.out.trans hu24)
          obtain ⟨b', o', A2, c2, hAL, _, _, x1', x2', _, x4'⟩ := hset.entry (k := i) hin
          obtain ⟨bi', oi', hAI, yi'⟩ := hset.inAt (k := i) hin
          simp only at hAL hAI
          injection hAL with hAL
          injection hAL with hAL1 hAL2
          injection hAI with hAI
          injection hAI with hAI1 hAI2
          subst hAL1; subst hAL2; subst hAI1; subst hAI2
          rw [hk1] at x1'
          refine ⟨?_, hu24.heap HBS.out (fun h => h), x1', yi'⟩
          rw [HK.out, List.length_append, List.length_singleton]
          exact h1
        have HPUT := Lib.hid hput
        have c1' : ((i : Int) == (s.r : Int)) = true := by rw [c1]; simp
        have d1 : ((1 : Int) == 4) = false := by decide
        clear hput hk1
        subst c1
        cases c2 : s.inn s.r with
        | true =>
          rw [c2] at HPUT
          clear c2 yi
          go_wp2_with (at_builtin; refine wpList_append1 w3 rfl (.tmp 22) (.tmp 29) 27 9 _ 1 16 rfl Tryz.underlying27 info_str rfl (by omega) u4 _ (sv (keysL s s.r)) (by rfl) HS.out.row [.string (s.aut s.r)] rfl (by intro u hu; simp at hu; subst hu; rfl) (by rfl) (by simp only [maxLen]; omega) (by omega) ?_; intro v5 w5 hr5 hu5 hat5; obtain ⟨hs5, b5, x5, y5⟩ := HPUT.out _ _ hr5 hu5 hat5; have t0 := blk_cell b5 (j := 0) rfl; have t3 := blk_cell b5 (j := 3) rfl; have HS5 := Lib.hid hs5; clear hr5 hu5 hat5 hs5 b5 s0 s2 s3 x1 x2 x4)
          go_roundg (n - (s.r + 1))
          case measure => omega
          case rel => exact ⟨s.r + 1, rfl, by omega, by go_num, HS5.out⟩
        | false =>
          rw [c2] at HPUT
          clear c2 yi
          go_wp2_with (at_builtin; refine wpList_append1 w3 rfl (.tmp 22) (.tmp 29) 27 9 _ 1 16 rfl Tryz.underlying27 info_str rfl (by omega) u4 _ (sv (keysL s s.r)) (by rfl) HS.out.row [.string (s.aut s.r)] rfl (by intro u hu; simp at hu; subst hu; rfl) (by rfl) (by simp only [maxLen]; omega) (by omega) ?_; intro v5 w5 hr5 hu5 hat5; obtain ⟨hs5, b5, x5, y5⟩ := HPUT.out _ _ hr5 hu5 hat5; have t0 := blk_cell b5 (j := 0) rfl; have t3 := blk_cell b5 (j := 3) rfl; have HS5 := Lib.hid hs5; clear hr5 hu5 hat5 hs5 b5 s0 s2 s3 x1 x2 x4)
          go_roundg (n - (s.r + 1))
          case measure => omega
          case rel => exact ⟨s.r + 1, rfl, by omega, by go_num, HS5.out⟩
      · obtain ⟨e1, e2, e3, e4⟩ := nat_ne c1
        cases c2 : s.inn i with
        | false =>
          rw [c2] at yi
          have HK := Lib.hid (keysL_f c1 (by rw [c2]; rfl))
          clear c1 c2
          go_wp2
          go_roundg (n - (i + 1))
          case measure => omega
          case rel => exact ⟨i + 1, rfl, by omega, by go_num, by rw [HK.out]; exact HS.out⟩
        | true =>
          rw [c2] at yi
          by_cases c3 : s.kind i = 4
          · rw [c3] at x1
            have HK := Lib.hid (keysL_t c1 (by rw [c2, decide_eq_true c3]; rfl))
            clear c1 c2 c3
            go_wp2_with (at_builtin; refine wpList_append1 w3 rfl (.tmp 45) (.tmp 52) 27 9 _ 1 16 rfl Tryz.underlying27 info_str rfl (by omega) u4 _ (sv (keysL s i)) (by rfl) HS.out.row [.string (s.body i)] rfl (by intro u hu; simp at hu; subst hu; rfl) (by rfl) (by simp only [maxLen]; omega) (by omega) ?_; intro v5 w5 hr5 hu5 hat5; have hs5 := HS.out.app1 hr5 hu5 hat5; have HS5 := Lib.hid hs5; clear hr5 hu5 hat5 hs5)
            go_roundg (n - (i + 1))
            case measure => omega
            case rel => exact ⟨i + 1, rfl, by omega, by go_num, by rw [HK.out, List.length_append, List.length_singleton]; exact HS5.out⟩
          · have d1 : (s.kind i == 4) = false := by simpa using c3
            have HK := Lib.hid (keysL_f c1 (by rw [c2, decide_eq_false c3]; rfl))
            clear c1 c2 c3
            go_wp2
            go_roundg (n - (i + 1))
            case measure => omega
            case rel => exact ⟨i + 1, rfl, by omega, by go_num, by rw [HK.out]; exact HS.out⟩
    · obtain rfl : n = i := by omega
      have hu3 := HU2.out.trans hs.hu
      obtain ⟨AK, cK, hv, hcK⟩ := hs.row.slice
      subst hv
      have hso := sorted_ok (c := cK) (srow_rds hs.row) (by omega)
      obtain ⟨nk, hnk⟩ : ∃ nk, (keysL s n).length = nk := ⟨_, rfl⟩
      rw [hnk] at hso ⊢
      have HSO := Lib.hid hso
      clear hso hnk b3 s2 s3 hs
      go_wp2_with fail
      refine HSO.out.mono ?_
      rintro e w4 ⟨v, rfl, hs4⟩
      clear s0
      obtain ⟨K0, hK0⟩ : ∃ K0, sortS (keysL s n) = K0 := ⟨_, rfl⟩
      have hnd : K0.Nodup := by
        rw [← hK0]
        exact (sortS_sorted (keysL s n)).imp fun {a b} hab e => by rw [e, bl_irrefl] at hab; cases hab
      have hmem : ∀ a, a ∈ K0 ↔ (rkO s a).isSome = true := fun a => by
        rw [← hK0, sortS_mem, ← HSN.out]; exact keysL_mem HOK.out
      have hk0l : K0.length ≤ 300 := by rw [← hK0]; have := sortS_len (keysL s n); omega
      rw [hK0] at hs4
      have hm0 : MSt w2 w4 v (.slice none 0 0) K0 [] := ⟨⟨HS.out.hu.trans hs4.hu, fun b hb => Nat.le_trans HS.out.hu.size (hs4.own b hb), hs4.row⟩, ⟨HS.out.hu.trans hs4.hu, (fun b hb => by cases hb), Row.nil _ _ _⟩, fun b hb e => by cases e⟩
      have HM0 := Lib.hid hm0
      have HND := Lib.hid hnd
      have HMEM := Lib.hid hmem
      clear hs4 hm0 hnd hmem HSO HS hK0 hu3
      go_wp2_with fail
      go_loopg [4, 6, 7, 8] K0.length (fun gk v4 v6 _ _ wr => ∃ (K O : List ByteArray), gk = K.length ∧ K.length ≤ 300 ∧ O.length + K.length ≤ 300 ∧ MSt w2 wr v4 v6 K O ∧ Sel s K0 K O)
      case atStart => exact ⟨K0, [], rfl, hk0l, by simpa using hk0l, HM0.out, Sel.start s HND.out⟩
      case round =>
        clear HM0
        obtain ⟨K, O, rfl, hKl, hOl, hm, hsel⟩ := hrel
        obtain ⟨w5, rfl⟩ : ∃ w5, w5 = wr := ⟨_, rfl⟩
        obtain ⟨A4, c4, hv4, hc4⟩ := hm.k.row.slice
        subst hv4
        obtain ⟨m, hmm⟩ : ∃ m, K.length = m := ⟨_, rfl⟩
        have hmx := hm.k.row.max
        unfold maxLen at hmx
        have HM := Lib.hid hm
        have HSEL := Lib.hid hsel
        rw [hmm] at hc4 hKl hOl hmx ⊢
        have HMM := Lib.hid hmm
        clear hm hsel hmm
        rcases Nat.eq_zero_or_pos m with h0 | hpos
        · subst h0
          have hKn : K = [] := List.eq_nil_of_length_eq_zero HMM.out
          have hfin := HSEL.out
          rw [hKn] at hfin
          have HFIN := Lib.hid (hfin.done (fun a ha => (HMEM.out a).2 ha))
          have hsz := HU2.out.size
          have HO := Lib.hid HM.out.o
          clear hfin hKn
          go_wp2
          go_ret
          exact ⟨_, O, rfl, HFIN.out, HU2.out.trans HO.out.hu, fun b hb => Nat.le_trans hsz (HO.out.own b hb), HO.out.row⟩
        · have z0 : (0 : Int) < (m : Int) := by omega
          obtain ⟨b4, o4, hA4⟩ : ∃ b o, A4 = some ⟨b, o, none⟩ := by
            have hr := HM.out.k.row
            rw [HMM.out] at hr
            obtain ⟨g', o', cap', cur', hv', _⟩ := hr.form hpos
            injection hv' with h1 _ _
            exact ⟨g', o', h1⟩
          subst hA4
          have hcell : ∀ (W : World), Unch none_ w5 W → ∀ (j : Nat) (x : ByteArray), K[j]? = some x → W.cell? ⟨b4, o4 + j, none⟩ = some (.string x) := fun W hW j x hx => by
            have hr := HM.out.k.row.unch hW (fun _ _ h => h)
            rw [HMM.out] at hr
            exact hr.at rfl (sv_get hx)
          have HCELL := Lib.hid hcell
          clear hcell
          go_wp2_with fail
          obtain ⟨x0, hx0⟩ := get_some HMM.out hpos
          have hst : ∀ (j : Nat) (b : ByteArray), j < 1 → K[j]? = some b → s.rk x0 ≤ s.rk b := fun j b hj hb => by
            obtain rfl : j = 0 := by omega
            rw [hx0] at hb
            rw [Option.some.inj hb]
            exact Nat.le_refl _
          have HX0 := Lib.hid hx0
          clear hx0
          go_loopg [7, 8] (m - 1 : Nat) (fun gk i7 i8 wr => ∃ (kk i : Nat) (x : ByteArray), gk = m - i ∧ 1 ≤ i ∧ i ≤ m ∧ i7 = .int .i64 (kk : Int) ∧ i8 = .int .i64 (i : Int) ∧ kk < m ∧ K[kk]? = some x ∧ (∀ (j : Nat) (b : ByteArray), j < i → K[j]? = some b → s.rk x ≤ s.rk b) ∧ Unch none_ w5 wr)
          case atStart => exact ⟨0, 1, x0, rfl, Nat.le_refl _, hpos, rfl, rfl, hpos, HX0.out, hst, Unch.refl _ _⟩
          case round =>
            obtain ⟨kk, i, x, rfl, hi1, him, rfl, rfl, hkm, hx, hmin, hu⟩ := hrel
            obtain ⟨w6, rfl⟩ : ∃ w6, w6 = wr := ⟨_, rfl⟩
            have zk0 : (0 : Int) ≤ (kk : Int) := by omega
            have zk1 : (kk : Int) < (m : Int) := by omega
            have HX := Lib.hid hx
            have HMIN := Lib.hid hmin
            have HU6 := Lib.hid hu
            have b6 := (HM.out.k.hu.trans hu).heap HBS.out (fun h => h)
            have t0 := cellU (blk_cell b6 (j := 0) rfl)
            have t1 := cellU (blk_cell b6 (j := 1) rfl)
            have t2 := cellU (blk_cell b6 (j := 2) rfl)
            have t3 := cellU (blk_cell b6 (j := 3) rfl)
            have tk := cellU (HCELL.out w6 hu kk x hx)
            have huw := HU2.out.trans (HM.out.k.hu.trans hu)
            clear hx hmin b6
            by_cases hilt : i < m
            · obtain ⟨y, hy⟩ := get_some HMM.out hilt
              have zi0 : (0 : Int) ≤ (i : Int) := by omega
              have zi1 : (i : Int) < (m : Int) := by omega
              have ti := cellU (HCELL.out w6 hu i y hy)
              have HY := Lib.hid hy
              have hq := HQL.out w6 huw y x
              clear hy hu huw
              by_cases hlt : s.rk y < s.rk x
              · rw [decide_eq_true hlt] at hq
                have HQ := Lib.hid hq
                have HLT := Lib.hid hlt
                clear hq hlt
                go_upto_region 17 with fail
                refine wp_region_quiet_u (by kernel_rfl) (by kernel_rfl) (fun _ => ?_)
                repeat (go_big_quiet_step ((go_at_call 52; with_reducible exact HQ.out.u _)))
                refine wpQuiet_nil ?_
                intro wq hw'
                obtain ⟨⟨wqq, huq⟩, hw''⟩ := hw'
                subst hw''
                clear t0 t1 t2 t3 tk ti
                go_wp2
                go_roundg (m - (i + 1))
                case measure => omega
                case rel =>
                  refine ⟨i, i + 1, y, rfl, by omega, by omega, rfl, by go_num, hilt, HY.out, fun j b hj hb => ?_, HU6.out.trans huq⟩
                  rcases Nat.lt_or_ge j i with h1 | h1
                  · have := HMIN.out j b h1 hb; have := HLT.out; omega
                  · obtain rfl : j = i := by omega
                    rw [HY.out] at hb; rw [Option.some.inj hb]; exact Nat.le_refl _
              · rw [decide_eq_false hlt] at hq
                have HQ := Lib.hid hq
                have HLT := Lib.hid hlt
                clear hq hlt
                go_upto_region 17 with fail
                refine wp_region_quiet_u (by kernel_rfl) (by kernel_rfl) (fun _ => ?_)
                repeat (go_big_quiet_step ((go_at_call 52; with_reducible exact HQ.out.u _)))
                refine wpQuiet_nil ?_
                intro wq hw'
                obtain ⟨⟨wqq, huq⟩, hw''⟩ := hw'
                subst hw''
                clear t0 t1 t2 t3 tk ti
                go_wp2
                go_roundg (m - (i + 1))
                case measure => omega
                case rel =>
                  refine ⟨kk, i + 1, x, rfl, by omega, by omega, rfl, by go_num, hkm, HX.out, fun j b hj hb => ?_, HU6.out.trans huq⟩
                  rcases Nat.lt_or_ge j i with h1 | h1
                  · exact HMIN.out j b h1 hb
                  · obtain rfl : j = i := by omega
                    rw [HY.out] at hb; rw [← Option.some.inj hb]; have := HLT.out; omega
            · obtain rfl : m = i := by omega
              have hstep := HSEL.out.step HOK.out (fun a ha => (HMEM.out a).1 ha) HX.out (fun b hb => by
                obtain ⟨j, hj⟩ := List.mem_iff_getElem?.1 hb
                exact HMIN.out j b (by have := (List.getElem?_eq_some_iff.1 hj).1; have := HMM.out; omega) hj)
              have hq := HQM.out w6 huw x (some ⟨gh, 0, none⟩) n (RdS.fresh HRH.out (HM.out.k.hu.trans hu))
              have hm6 := HM.out.fresh hu
              have hdl := dropAt_len (show kk < K.length by rw [HMM.out]; exact hkm)
              rw [HMM.out] at hdl
              have HDL := Lib.hid hdl
              have HM6 := Lib.hid hm6
              have HUQ5 := Lib.hid hu
              clear hm6 hu huw hdl HU6 HMIN
              cases hmx2 : s.member x with
              | true =>
                rw [hmx2] at hq hstep
                simp only [if_true] at hstep
                have HQ := Lib.hid hq
                have HST := Lib.hid hstep
                clear hq hstep hmx2
                go_upto_region 19 with fail
                refine wp_region_quiet_u (by kernel_rfl) (by kernel_rfl) (fun _ => ?_)
                repeat (go_big_quiet_step ((go_at_call 53; with_reducible exact HQ.out.u _)))
                refine wpQuiet_nil ?_
                intro wq hw'
                obtain ⟨⟨wqq, huq⟩, hw''⟩ := hw'
                subst hw''
                clear t0 t1 t2 t3 tk
                have HM7 := Lib.hid (HM6.out.fresh huq)
                have tx := HCELL.out wq (HUQ5.out.trans huq) kk x HX.out
                go_upto_region 21 with (at_builtin; refine wpList_append1 wq rfl (.tmp 83) (.tmp 88) 27 9 _ 1 16 rfl Tryz.underlying27 info_str rfl (by omega) u6 _ (sv O) (by rfl) HM7.out.o.row [.string x] rfl (by intro u hu; simp at hu; subst hu; rfl) (by rfl) (by simp only [maxLen]; omega) (by omega) ?_; intro v8 w8 hr8 hu8 hat8; have hm8 := HM7.out.putO hr8 hu8 hat8; have HM8 := Lib.hid hm8; clear hr8 hu8 hat8 hm8)
                clear tx
                refine wp_planP (fun W => Unch none_ w8 W) [1, 2, 3, 5, 6, 7, 8] [] [0, 4, 9, 10] 0 (by kernel_rfl) (by kernel_rfl) rfl rfl rfl (fun c a d v w h => by cases d <;> exact h) ((Unch.refl _ _).drew) ?_
                intro S S0 HS _ _
                simp only [pickIn, List.getElem?_toArray, List.getElem?_cons_succ, List.getElem?_cons_zero]
                repeat (go_big_quiet_step (fail))
                refine wpQuiet_nil ?_
                repeat (go_big_quiet_step (fail))
                refine wpQuiet_nil ?_
                refine tail_all ?_
                obtain ⟨A9, hA9⟩ : ∃ A9, (if c4 = kk + 1 then some (⟨b4, o4, none⟩ : Addr) else some ⟨b4, o4 + (kk + 1), none⟩) = A9 := ⟨_, rfl⟩
                have hA9n : A9 ≠ none := by rw [← hA9]; split <;> (intro e; cases e)
                have hA9s : 0 < m - (kk + 1) → A9 = some ⟨b4, o4 + (kk + 1), none⟩ := fun h => by rw [← hA9, if_neg (by omega)]
                rw [hA9]
                have hb4 : b4 < w8.heap.size := own_lt HM8.out.k.row rfl
                have hcw : ∀ (W : World), Unch none_ w8 W → ∀ (j : Nat) (y : ByteArray), K[j]? = some y → W.cell? ⟨b4, o4 + j, none⟩ = some (.string y) := fun W hW j y hy => by
                  have hr := HM8.out.k.row.unch hW (fun _ _ h => h)
                  rw [HMM.out] at hr
                  exact hr.at rfl (sv_get hy)
                have huz : Unch none_ w8 ((w8.alloc (.cells #[] 9)).drew) := ((Unch.refl none_ w8).alloc _).drew
                have hrow0 : Row ((w8.alloc (.cells #[] 9)).drew) 9 1 (.slice (some ⟨w8.heap.size, 0, none⟩) 0 0) 0 [] := row_of_cells (blk_new w8 (.cells #[] 9)) (Nat.le_refl _) (by decide) (by decide) rfl (fun t ht => by omega)
                have hst1 : Row ((w8.alloc (.cells #[] 9)).drew) 9 1 (.slice (some ⟨w8.heap.size, 0, none⟩) 0 0) 0 [] ∧ (0 < kk → ∃ ad : Addr, some (⟨b4, o4, none⟩ : Addr) = some ad ∧ ∀ (j : Nat) (u : Value), (sv (K.take kk))[j]? = some u → ((w8.alloc (.cells #[] 9)).drew).cell? (ad.add j) = some u) := ⟨hrow0, fun _ => ⟨_, rfl, fun j u hu => by
                  obtain ⟨y, hy, rfl⟩ := sv_inv hu
                  rw [List.getElem?_take] at hy
                  split at hy
                  · rw [Addr.add_lit]
                    exact hcw _ huz j y hy
                  · cases hy⟩⟩
                have hst2 : ∀ (W : World), Unch none_ w8 W → 0 < m - (kk + 1) → ∃ ad : Addr, A9 = some ad ∧ ∀ (j : Nat) (u : Value), (sv (K.drop (kk + 1)))[j]? = some u → W.cell? (ad.add j) = some u := fun W hW hp => ⟨_, hA9s hp, fun j u hu => by
                  obtain ⟨y, hy, rfl⟩ := sv_inv hu
                  rw [List.getElem?_drop] at hy
                  have := hcw W hW (kk + 1 + j) y hy
                  rw [← Nat.add_assoc] at this
                  rw [Addr.add_lit]
                  exact this⟩
                have hl1 : (sv (K.take kk)).length = kk * 1 := by rw [sv_len, List.length_take, HMM.out]; omega
                have hl2 : (sv (K.drop (kk + 1))).length = (m - (kk + 1)) * 1 := by rw [sv_len, List.length_drop, HMM.out]; omega
                have HST1 := Lib.hid hst1
                have HST2 := Lib.hid hst2
                have HUZ := Lib.hid huz
                have HA9N := Lib.hid hA9n
                clear hrow0 hst1 hst2 huz hcw hA9 hA9n hA9s
                go_wp2_with (first
                  | (at_builtin; refine wpList_append ((w8.alloc (.cells #[] 9)).drew) rfl (.tmp 90) (.tmp 93) 27 9 _ 1 16 rfl Tryz.underlying27 info_str rfl (by omega) (.slice (some ⟨w8.heap.size, 0, none⟩) 0 0) 0 [] (by rfl) HST1.out.1 (some ⟨b4, o4, none⟩) kk c4 (sv (K.take kk)) (by rfl) hl1 HST1.out.2 (fun h => by cases h) sv_one (by simp only [maxLen]; omega) (by omega) ?_; intro v9 w9 hr9 hu9 hat9; have hun9 : Unch none_ w8 w9 := HUZ.out.step hu9 (fun i hi e => by have e : some w8.heap.size = some i := e; injection e with e; omega); have HR9 := Lib.hid hr9; have HUN9 := Lib.hid hun9; have hown9 : ∀ b, v9.ownBlock = some b → w8.heap.size ≤ b := (fun b hb => by { rcases hat9 with h | ⟨b', h, hlt⟩; { rw [h] at hb; have hb : some w8.heap.size = some b := hb; injection hb with hb; omega }; { rw [h] at hb; injection hb with hb; have : w8.heap.size ≤ ((w8.alloc (.cells #[] 9)).drew).heap.size := HUZ.out.size; omega } }); have HOWN9 := Lib.hid hown9; clear hr9 hu9 hat9 hun9 hown9)
                  | (at_builtin; refine wpList_append w9 rfl (.tmp 94) (.tmp 98) 27 9 _ 1 16 rfl Tryz.underlying27 info_str rfl (by omega) v9 (0 + kk) ([] ++ sv (K.take kk)) (by rfl) HR9.out A9 (m - (kk + 1)) (c4 - (kk + 1)) (sv (K.drop (kk + 1))) (by rfl) hl2 (HST2.out w9 HUN9.out) (fun h => absurd h HA9N.out) sv_one (by simp only [maxLen]; omega) (by omega) ?_; intro v10 w10 hr10 hu10 hat10; have hun10 : Unch none_ w8 w10 := HUN9.out.step hu10 (fun i hi e => by have := HOWN9.out i e; omega); have hown10 : ∀ b, v10.ownBlock = some b → w8.heap.size ≤ b := (fun b hb => by { rcases hat10 with h | ⟨b', h, hlt⟩; { rw [h] at hb; exact HOWN9.out b hb }; { rw [h] at hb; injection hb with hb; have := HUN9.out.size; omega } }); have hm10 := HM8.out.newK (K2 := dropAt K kk) hun10 (by rw [HDL.out, show m - 1 = 0 + kk + (m - (kk + 1)) by omega]; unfold dropAt; rw [sv_app]; exact hr10) hown10; have HM10 := Lib.hid hm10; clear hr10 hu10 hat10 hun10 hown10 hm10))
                go_roundg (dropAt K kk).length
                case measure => rw [HDL.out, HMM.out]; omega
                case rel => exact ⟨dropAt K kk, (O ++ [x]), rfl, by rw [HDL.out]; omega, by simp only [List.length_append, List.length_singleton]; rw [HDL.out]; omega, HM10.out, HST.out⟩
              | false =>
                rw [hmx2] at hq hstep
                simp only [Bool.false_eq_true, if_false] at hstep
                have HQ := Lib.hid hq
                have HST := Lib.hid hstep
                clear hq hstep hmx2
                go_upto_region 19 with fail
                refine wp_region_quiet_u (by kernel_rfl) (by kernel_rfl) (fun _ => ?_)
                repeat (go_big_quiet_step ((go_at_call 53; with_reducible exact HQ.out.u _)))
                refine wpQuiet_nil ?_
                intro wq hw'
                obtain ⟨⟨wqq, huq⟩, hw''⟩ := hw'
                subst hw''
                clear t0 t1 t2 t3 tk
                have HM7 := Lib.hid (HM6.out.fresh huq)
                go_upto_region 21 with fail
                refine wp_planP (fun W => Unch none_ wq W) [1, 2, 3, 5, 6, 7, 8] [] [0, 4, 9, 10] 0 (by kernel_rfl) (by kernel_rfl) rfl rfl rfl (fun c a d v w h => by cases d <;> exact h) ((Unch.refl _ _).drew) ?_
                intro S S0 HS _ _
                simp only [pickIn, List.getElem?_toArray, List.getElem?_cons_succ, List.getElem?_cons_zero]
                repeat (go_big_quiet_step (fail))
                refine wpQuiet_nil ?_
                repeat (go_big_quiet_step (fail))
                refine wpQuiet_nil ?_
                refine tail_all ?_
                obtain ⟨A9, hA9⟩ : ∃ A9, (if c4 = kk + 1 then some (⟨b4, o4, none⟩ : Addr) else some ⟨b4, o4 + (kk + 1), none⟩) = A9 := ⟨_, rfl⟩
                have hA9n : A9 ≠ none := by rw [← hA9]; split <;> (intro e; cases e)
                have hA9s : 0 < m - (kk + 1) → A9 = some ⟨b4, o4 + (kk + 1), none⟩ := fun h => by rw [← hA9, if_neg (by omega)]
                rw [hA9]
                have hb4 : b4 < wq.heap.size := own_lt HM7.out.k.row rfl
                have hcw : ∀ (W : World), Unch none_ wq W → ∀ (j : Nat) (y : ByteArray), K[j]? = some y → W.cell? ⟨b4, o4 + j, none⟩ = some (.string y) := fun W hW j y hy => by
                  have hr := HM7.out.k.row.unch hW (fun _ _ h => h)
                  rw [HMM.out] at hr
                  exact hr.at rfl (sv_get hy)
                have huz : Unch none_ wq ((wq.alloc (.cells #[] 9)).drew) := ((Unch.refl none_ wq).alloc _).drew
                have hrow0 : Row ((wq.alloc (.cells #[] 9)).drew) 9 1 (.slice (some ⟨wq.heap.size, 0, none⟩) 0 0) 0 [] := row_of_cells (blk_new wq (.cells #[] 9)) (Nat.le_refl _) (by decide) (by decide) rfl (fun t ht => by omega)
                have hst1 : Row ((wq.alloc (.cells #[] 9)).drew) 9 1 (.slice (some ⟨wq.heap.size, 0, none⟩) 0 0) 0 [] ∧ (0 < kk → ∃ ad : Addr, some (⟨b4, o4, none⟩ : Addr) = some ad ∧ ∀ (j : Nat) (u : Value), (sv (K.take kk))[j]? = some u → ((wq.alloc (.cells #[] 9)).drew).cell? (ad.add j) = some u) := ⟨hrow0, fun _ => ⟨_, rfl, fun j u hu => by
                  obtain ⟨y, hy, rfl⟩ := sv_inv hu
                  rw [List.getElem?_take] at hy
                  split at hy
                  · rw [Addr.add_lit]
                    exact hcw _ huz j y hy
                  · cases hy⟩⟩
                have hst2 : ∀ (W : World), Unch none_ wq W → 0 < m - (kk + 1) → ∃ ad : Addr, A9 = some ad ∧ ∀ (j : Nat) (u : Value), (sv (K.drop (kk + 1)))[j]? = some u → W.cell? (ad.add j) = some u := fun W hW hp => ⟨_, hA9s hp, fun j u hu => by
                  obtain ⟨y, hy, rfl⟩ := sv_inv hu
                  rw [List.getElem?_drop] at hy
                  have := hcw W hW (kk + 1 + j) y hy
                  rw [← Nat.add_assoc] at this
                  rw [Addr.add_lit]
                  exact this⟩
                have hl1 : (sv (K.take kk)).length = kk * 1 := by rw [sv_len, List.length_take, HMM.out]; omega
                have hl2 : (sv (K.drop (kk + 1))).length = (m - (kk + 1)) * 1 := by rw [sv_len, List.length_drop, HMM.out]; omega
                have HST1 := Lib.hid hst1
                have HST2 := Lib.hid hst2
                have HUZ := Lib.hid huz
                have HA9N := Lib.hid hA9n
                clear hrow0 hst1 hst2 huz hcw hA9 hA9n hA9s
                go_wp2_with (first
                  | (at_builtin; refine wpList_append ((wq.alloc (.cells #[] 9)).drew) rfl (.tmp 90) (.tmp 93) 27 9 _ 1 16 rfl Tryz.underlying27 info_str rfl (by omega) (.slice (some ⟨wq.heap.size, 0, none⟩) 0 0) 0 [] (by rfl) HST1.out.1 (some ⟨b4, o4, none⟩) kk c4 (sv (K.take kk)) (by rfl) hl1 HST1.out.2 (fun h => by cases h) sv_one (by simp only [maxLen]; omega) (by omega) ?_; intro v9 w9 hr9 hu9 hat9; have hun9 : Unch none_ wq w9 := HUZ.out.step hu9 (fun i hi e => by have e : some wq.heap.size = some i := e; injection e with e; omega); have HR9 := Lib.hid hr9; have HUN9 := Lib.hid hun9; have hown9 : ∀ b, v9.ownBlock = some b → wq.heap.size ≤ b := (fun b hb => by { rcases hat9 with h | ⟨b', h, hlt⟩; { rw [h] at hb; have hb : some wq.heap.size = some b := hb; injection hb with hb; omega }; { rw [h] at hb; injection hb with hb; have : wq.heap.size ≤ ((wq.alloc (.cells #[] 9)).drew).heap.size := HUZ.out.size; omega } }); have HOWN9 := Lib.hid hown9; clear hr9 hu9 hat9 hun9 hown9)
                  | (at_builtin; refine wpList_append w9 rfl (.tmp 94) (.tmp 98) 27 9 _ 1 16 rfl Tryz.underlying27 info_str rfl (by omega) v9 (0 + kk) ([] ++ sv (K.take kk)) (by rfl) HR9.out A9 (m - (kk + 1)) (c4 - (kk + 1)) (sv (K.drop (kk + 1))) (by rfl) hl2 (HST2.out w9 HUN9.out) (fun h => absurd h HA9N.out) sv_one (by simp only [maxLen]; omega) (by omega) ?_; intro v10 w10 hr10 hu10 hat10; have hun10 : Unch none_ wq w10 := HUN9.out.step hu10 (fun i hi e => by have := HOWN9.out i e; omega); have hown10 : ∀ b, v10.ownBlock = some b → wq.heap.size ≤ b := (fun b hb => by { rcases hat10 with h | ⟨b', h, hlt⟩; { rw [h] at hb; exact HOWN9.out b hb }; { rw [h] at hb; injection hb with hb; have := HUN9.out.size; omega } }); have hm10 := HM7.out.newK (K2 := dropAt K kk) hun10 (by rw [HDL.out, show m - 1 = 0 + kk + (m - (kk + 1)) by omega]; unfold dropAt; rw [sv_app]; exact hr10) hown10; have HM10 := Lib.hid hm10; clear hr10 hu10 hat10 hun10 hown10 hm10))
                go_roundg (dropAt K kk).length
                case measure => rw [HDL.out, HMM.out]; omega
                case rel => exact ⟨dropAt K kk, O, rfl, by rw [HDL.out]; omega, by rw [HDL.out]; omega, HM10.out, HST.out⟩
end Go.Proofs.YtgalnnmeamldhaaGreat
