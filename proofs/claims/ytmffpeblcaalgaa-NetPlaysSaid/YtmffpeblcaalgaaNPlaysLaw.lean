/-
  NetPlays.
-/
import Derived.Test.YtmffpeblcaalgaaNModel5
import Derived.Test.YtmffpeblcaalgaaNAct
import Derived.IntWalk
set_option linter.unusedVariables false
set_option linter.unusedSimpArgs false
namespace Go.Proofs.Ytmffpeblcaalgaa
open Go Go.RowKit Go.Proofs.Ytmffpeblcaalgaa.Pal Go.Proofs.Ytmffpeblcaalgaa.Plan

theorem Md.ofNil {w : World} {M nodes : Nat} (h : w.heap[M]? = some (.cells (mcells nodes (.slice none 0 0) (fun _ _ => false)) 57 (0, 0))) : Md w M (.slice none 0 0) nodes [] (fun _ _ => false) := ⟨h, Row.nil _ _ _⟩
/-- The net and the document's net, both made behind w. -/
structure Both (w wr : World) (N K M : Nat) (v vm : Value) (nodes : Nat) (l : List Ltr) (c : Nat → Nat → Bool) (l2 : List Ltr) (c2 : Nat → Nat → Bool) : Prop where
  nb : NB w wr N K v nodes l c
  md : Md wr M vm nodes l2 c2
  newM : ∀ k, mfoot M vm k → w.heap.size ≤ k
  dis : ∀ k, nfoot N K v k → ¬ mfoot M vm k
section
variable {w wr w1 : World} {N K M nodes : Nat} {v vm : Value} {l l2 l' : List Ltr} {c c2 c' : Nat → Nat → Bool}
theorem Both.fresh (h : Both w wr N K M v vm nodes l c l2 c2) (hu : Unch none_ wr w1) : Both w w1 N K M v vm nodes l c l2 c2 := ⟨h.nb.fresh hu, h.md.fresh hu, h.newM, h.dis⟩
theorem Both.did (h : Both w wr N K M v vm nodes l c l2 c2) (hL : Left wr N K v nodes l' c' w1) : ∃ v', Both w w1 N K M v' vm nodes l' c' l2 c2 := by
  obtain ⟨v', h1, h2, h3⟩ := hL
  refine ⟨v', ⟨h1, h.nb.unch.step h2 (fun i hi hk => by have := h.nb.new i hk; omega), fun k hk => ?_⟩, h.md.unch h2 (fun k hk e => h.dis k e hk), h.newM, fun k hk hm => ?_⟩
  · rcases h3 k hk with h4 | h4
    · exact h.nb.new k h4
    · exact Nat.le_trans h.nb.unch.size h4
  · rcases h3 k hk with h4 | h4
    · exact h.dis k h4 hm
    · have := h.md.lt hm; omega
theorem Both.does (h : Both w wr N K M v vm nodes l c l2 c2) (hL : MLeft wr M vm nodes l' c' w1) : ∃ vm', Both w w1 N K M v vm' nodes l c l' c' := by
  obtain ⟨v', h1, h2, h3⟩ := hL
  refine ⟨v', ⟨h.nb.nt.unch h2 (fun k hk e => h.dis k hk e), h.nb.unch.step h2 (fun i hi hk => by have := h.newM i hk; omega), h.nb.new⟩, h1, fun k hk => ?_, fun k hk hm => ?_⟩
  · rcases h3 k hk with h4 | h4
    · exact h.newM k h4
    · exact Nat.le_trans h.nb.unch.size h4
  · rcases h3 k hm with h4 | h4
    · exact h.dis k hk h4
    · have := h.nb.nt.lt hk; omega
end
theorem mcells0 (nodes : Nat) (v : Value) : mcells nodes v (fun _ _ => false) = #[.int .i64 (nodes : Int), v, .bool false, .bool false, .bool false, .bool false, .bool false, .bool false, .bool false, .bool false, .bool false, .bool false, .bool false, .bool false, .bool false, .bool false, .bool false, .bool false, .bool false, .bool false, .bool false, .bool false, .bool false, .bool false, .bool false, .bool false, .bool false] := by
  apply Array.toList_inj.1
  rw [mcells_off]
  rfl
def PRel (w wr : World) (N K M nodes : Nat) : Prop := ∃ v vm l c, Both w wr N K M v vm nodes l c l c ∧ Ok nodes l
theorem doStep_val (nodes : Nat) (l : List Ltr) (c : Nat → Nat → Bool) (k a b n : Int) (t : ByteArray) : ∃ (s d : Int) (tx : ByteArray) (ok : Bool) (er : Int) (l' : List Ltr) (c' : Nat → Nat → Bool), doStep nodes l c k a b n t = ((.agg #[.int .i64 s, .int .i64 d, .string tx], ok, er), l', c') := by
  unfold doStep
  repeat' split
  all_goals exact ⟨_, _, _, _, _, _, _, rfl⟩
set_option maxRecDepth 100000 in
set_option maxHeartbeats 4000000 in
theorem netPlays_core (A : Option Addr) (len cap : Nat) (hlen : len ≤ 100) (l : List NAct) (nodes : Nat) (n1 : 1 ≤ nodes) (n5 : nodes ≤ 5) (w : World) (hl : RdS w 5 NActR A len l) (hcap : len ≤ cap) :
    Calls Try.prog 8 #[.int .i64 (nodes : Int), .slice A len cap] w (lawPost w) := by
  have k1 : ¬ (100 < (len : Int)) := by omega
  have k2 : ¬ ((nodes : Int) < 1) := by omega
  have k3 : ¬ (5 < (nodes : Int)) := by omega
  have d1 : decide ((nodes : Int) < 1) = false := decide_eq_false k2
  have d2 : decide (5 < (nodes : Int)) = false := decide_eq_false k3
  have HL := Lib.hid hl
  clear hl
  go_enter Try.func8, Try.ntmps8
  go_wp2_with fail
  refine (nawake _).mono ?_
  rintro e w0 ⟨rfl, hu0⟩
  go_wp2_with fail
  refine (new_ok nodes n1 n5 _).mono ?_
  rintro e w1 hN
  obtain ⟨N, K, rfl, h1⟩ := NB.made hN
  have hb1 : NB w w1 N K (.slice none 0 0) nodes [] (fun _ _ => false) := ⟨h1.nt, hu0.trans h1.unch, fun k hk => Nat.le_trans hu0.size (h1.new k hk)⟩
  clear hN h1 hu0
  have hb2 : Both w (w1.alloc (.cells (mcells nodes (.slice none 0 0) (fun _ _ => false)) 57)) N K w1.heap.size (.slice none 0 0) (.slice none 0 0) nodes [] (fun _ _ => false) [] (fun _ _ => false) := by
    refine ⟨hb1.fresh ((Unch.refl none_ w1).alloc _), Md.ofNil (blk_new w1 _), fun k hk => ?_, fun k hk hm => ?_⟩
    · rcases hk with rfl | hk
      · exact hb1.unch.size
      · cases hk
    · rcases hm with rfl | hm
      · have := hb1.nt.lt hk; omega
      · cases hm
  rw [mcells0] at hb2
  have HB2 := Lib.hid hb2
  clear hb2 hb1
  go_wp2_with fail
  generalize hM : w1.heap.size = M
  have HM := Lib.hid hM
  clear hM
  go_loopg [7] len (fun gk i wr => ∃ k : Nat, k ≤ len ∧ gk = len - k ∧ i = .int .i64 (k : Int) ∧ PRel w wr N K M nodes)
  case atStart => exact ⟨0, Nat.zero_le _, rfl, rfl, _, _, _, _, by rw [← HM.out]; exact HB2.out, ⟨n5, by decide, fun z hz => by cases hz⟩⟩
  case round =>
    clear HB2
    obtain ⟨k, hk, rfl, rfl, v, vm, ll, c, hb, hO⟩ := hrel
    by_cases hkl : k < len
    · obtain ⟨a, ha⟩ := get_some HL.out.len hkl
      obtain ⟨b, o, cc, rfl, hbw, _, hca, hcell⟩ := HL.out.at ha
      unfold NActR at hca
      subst hca
      have args : ∀ wx, Unch none_ w wx → wx.cell? ⟨b, o + k * 5, none⟩ = some (.int .i64 a.k) ∧ wx.cell? ⟨b, o + k * 5 + 1, none⟩ = some (.int .i64 a.a) ∧ wx.cell? ⟨b, o + k * 5 + 2, none⟩ = some (.int .i64 a.b) ∧ wx.cell? ⟨b, o + k * 5 + 3, none⟩ = some (.int .i64 a.n) ∧ wx.cell? ⟨b, o + k * 5 + 4, none⟩ = some (.string a.t) :=
        fun wx hu => ⟨hu.cell (hcell 0 _ rfl) (fun h => h), hu.cell (hcell 1 _ rfl) (fun h => h), hu.cell (hcell 2 _ rfl) (fun h => h), hu.cell (hcell 3 _ rfl) (fun h => h), hu.cell (hcell 4 _ rfl) (fun h => h)⟩
      have z2 : (0 : Int) ≤ (k : Int) := by omega
      have z3 : (k : Int) < (len : Int) := by omega
      clear hcell ha
      obtain ⟨kd, ka, kb, kn, kt⟩ := a
      simp only at args
      obtain ⟨x0, x1, x2, x3, x5⟩ := args wr hb.nb.unch
      have ARGS := Lib.hid args
      clear args
      obtain ⟨rs, rd, rt, rok, rer, rl, rc, hst⟩ := doStep_val nodes ll c kd ka kb kn kt
      have hdo := do_ok hb.nb.nt hO kd ka kb kn kt
      rw [hst] at hdo
      have hOk := doStep_ok (c := c) hO kd ka kb kn kt
      rw [hst] at hOk
      have HST := Lib.hid hst
      clear hst
      unfold actV at hdo
      have HDO := Lib.hid hdo
      clear hdo
      go_wp2_with fail
      refine HDO.out.mono ?_
      rintro e w4 ⟨rfl, hL⟩
      obtain ⟨v4, hb4⟩ := hb.did hL
      clear HDO hL x0 x1 x2 x3 x5
      have hb5 := hb4.fresh ((Unch.refl none_ w4).alloc (.cells #[.int .i64 rs, .int .i64 rd, .string rt] 47))
      obtain ⟨x0, x1, x2, x3, x5⟩ := ARGS.out _ hb5.nb.unch
      have hdo := does_ok hb5.md hO kd ka kb kn kt
      rw [HST.out] at hdo
      unfold actV at hdo
      have HDO := Lib.hid hdo
      clear hdo
      go_wp2_with fail
      refine HDO.out.mono ?_
      rintro e w6 ⟨rfl, hL⟩
      have bX := blk_new w4 (.cells #[.int .i64 rs, .int .i64 rd, .string rt] 47)
      obtain ⟨vm6, hm6, hu6, hn6⟩ := hL
      have bX := hu6.heap bX (fun hk => by have := hb4.md.lt hk; omega)
      have hLX := lt_of_heap bX
      obtain ⟨vm6, hb6⟩ := hb5.does ⟨vm6, hm6, hu6, hn6⟩
      clear HDO hm6 hu6 hn6 x0 x1 x2 x3 x5
      go_wp2_with fail
      have hb7 := hb6.fresh ((Unch.refl none_ w6).alloc (.cells #[.int .i64 rs, .int .i64 rd, .string rt] 47))
      have bX := blk_alloc bX (.cells #[.int .i64 rs, .int .i64 rd, .string rt] 47)
      have bY := blk_new w6 (.cells #[.int .i64 rs, .int .i64 rd, .string rt] 47)
      generalize w6.alloc (.cells #[.int .i64 rs, .int .i64 rd, .string rt] 47) = w7 at *
      have x0 := blk_cell bX (j := 0) rfl
      have x1 := blk_cell bX (j := 1) rfl
      have x2 := blk_cell bX (j := 2) rfl
      have y0 := blk_cell bY (j := 0) rfl
      have y1 := blk_cell bY (j := 1) rfl
      have y2 := blk_cell bY (j := 2) rfl
      clear bX bY hb4 hb5 hb6
      have m1 := hb7.md.c1
      obtain ⟨q, hq⟩ : ∃ q, rl.length = q := ⟨_, rfl⟩
      obtain ⟨AM, cM, hvm, _⟩ := hb7.md.row.slice
      rw [hq] at hvm
      subst hvm
      have hlen' : ∀ n, Calls Try.prog 20 #[.pointer (some ⟨N, 0, none⟩)] (w7.drewN n) (fun e w'' => e = .returned (.int .i64 (q : Int)) ∧ ∃ k, w'' = w7.drewN k) := fun n =>
        (nlen_ok (hb7.nb.nt.fresh ((Unch.refl none_ w7).drewN n)) q hq).mono fun e w'' ⟨h1, h2⟩ => ⟨h1, n, h2.symm⟩
      have HLN := Lib.hid hlen'
      have HQ := Lib.hid hq
      clear hlen' hq
      go_quiet ((go_at_call 20; exact HLN.out _))
      go_wp2_with fail
      go_roundg (len - (k + 1))
      case measure => omega
      case rel => exact ⟨k + 1, by omega, rfl, by go_num, _, _, _, _, hb7.fresh ((Unch.refl none_ w7).drewN nq), hOk⟩
    · obtain rfl : len = k := by omega
      obtain ⟨AM, cM, hvm, hlM⟩ := hb.md.row.slice
      obtain ⟨q, hq⟩ : ∃ q, ll.length = q := ⟨_, rfl⟩
      rw [hq] at hvm
      subst hvm
      have hq256 : q ≤ 256 := by rw [← hq]; exact hO.len
      have HQ := Lib.hid hq
      have HO := Lib.hid hO
      clear hq hO
      go_wp2_with fail
      go_loopg [14] q (fun gk i wr2 => ∃ j : Nat, j ≤ q ∧ gk = q - j ∧ i = .int .i64 (j : Int) ∧ Both w wr2 N K M v (.slice AM q cM) nodes ll c ll c)
      case atStart => exact ⟨0, Nat.zero_le _, rfl, rfl, hb⟩
      case round =>
        obtain ⟨j, hj, rfl, rfl, hbj⟩ := hrel
        have m1 := hbj.md.c1
        by_cases hjq : j < q
        · have z4 : (0 : Int) ≤ (j : Int) := by omega
          have z5 : (j : Int) < (q : Int) := by omega
          obtain ⟨z, hz⟩ := get_some HQ.out hjq
          have hrow := hbj.md.row
          rw [HQ.out] at hrow
          obtain ⟨g, o, cap', cur, hv, hgb, _, _, _⟩ := hrow.form (by omega)
          injection hv with e1 _ e3
          subst e1; subst e3
          obtain ⟨p0, p1, p2⟩ := Row.ltr hrow hz
          have HZ := Lib.hid hz
          clear hz
          go_wp2_with fail
          refine (npeek_ok hbj.nb.nt j z HZ.out).mono ?_
          rintro e w6 ⟨rfl, hu6⟩
          unfold Ltr.val
          have hb6 := hbj.fresh (hu6.alloc (.cells #[.int .i64 (z.src : Int), .int .i64 (z.dst : Int), .string z.txt] 47))
          have bX := blk_new w6 (.cells #[.int .i64 (z.src : Int), .int .i64 (z.dst : Int), .string z.txt] 47)
          have hu7 := hu6.alloc (.cells #[.int .i64 (z.src : Int), .int .i64 (z.dst : Int), .string z.txt] 47)
          have p0 := hu7.cell p0 (fun h => h)
          have p1 := hu7.cell p1 (fun h => h)
          have p2 := hu7.cell p2 (fun h => h)
          have m1 := hb6.md.c1
          have x0 := blk_cell bX (j := 0) rfl
          have x1 := blk_cell bX (j := 1) rfl
          have x2 := blk_cell bX (j := 2) rfl
          clear bX hu7 hgb
          go_wp2_with fail
          generalize w6.alloc (.cells #[.int .i64 (z.src : Int), .int .i64 (z.dst : Int), .string z.txt] 47) = w7 at *
          go_quiet (fail)
          go_wp2_with fail
          go_roundg (q - (j + 1))
          case measure => omega
          case rel => exact ⟨j + 1, by omega, rfl, by go_num, hb6.fresh ((Unch.refl none_ w7).drewN _)⟩
        · obtain rfl : j = q := by omega
          go_wp2_with fail
          refine (npeek_out hbj.nb.nt j (.inr (by rw [HQ.out]; omega))).mono ?_
          rintro e w6 ⟨rfl, hu6⟩
          unfold zltr
          go_wp2_with fail
          have hb7 := hbj.fresh (hu6.alloc zO)
          refine (npeek_neg (some ⟨N, 0, none⟩) (-1) (by decide) _).mono ?_
          rintro e w8 ⟨rfl, hu8⟩
          unfold zltr
          go_wp2
          go_ret
          exact ⟨rfl, (hb7.nb.unch.trans hu8).alloc _⟩
set_option maxRecDepth 100000 in
set_option maxHeartbeats 1000000 in
theorem netPlays_long (A : Option Addr) (len cap : Nat) (hlen : 100 < len) (p : Int) (w : World) :
    Calls Try.prog 8 #[.int .i64 p, .slice A len cap] w (lawPost w) := by
  have k1 : (100 : Int) < (len : Int) := by omega
  go_enter Try.func8, Try.ntmps8
  go_wp2_with fail
  refine (nawake _).mono ?_
  rintro e w' ⟨rfl, hu⟩
  go_wp2
  go_ret
  exact ⟨rfl, hu⟩
set_option maxRecDepth 100000 in
set_option maxHeartbeats 1000000 in
theorem netPlays_bad (A : Option Addr) (len cap : Nat) (hlen : len ≤ 100) (p : Int) (hp : p < 1 ∨ 5 < p) (w : World) :
    Calls Try.prog 8 #[.int .i64 p, .slice A len cap] w (lawPost w) := by
  have k1 : ¬ (100 < (len : Int)) := by omega
  go_enter Try.func8, Try.ntmps8
  go_wp2_with fail
  refine (nawake _).mono ?_
  rintro e w' ⟨rfl, hu⟩
  go_wp2_with fail
  refine (new_bad p hp _).mono ?_
  rintro e w1 ⟨rfl, rfl⟩
  by_cases h1 : p < 1
  · go_wp2
    go_ret
    exact ⟨rfl, hu⟩
  · have h2 : 5 < p := by omega
    go_wp2
    go_ret
    exact ⟨rfl, hu⟩
theorem netPlays_walk (p : Int) (A : Option Addr) (len cap : Nat) (l : List NAct) (w : World) (hl : RdS w 5 NActR A len l) (hcap : len ≤ cap) :
    Calls Try.prog 8 #[.int .i64 p, .slice A len cap] w (lawPost w) := by
  by_cases hlen : 100 < len
  · exact netPlays_long A len cap hlen p w
  · by_cases hp : p < 1 ∨ 5 < p
    · exact netPlays_bad A len cap (by omega) p hp w
    · obtain ⟨x, rfl⟩ : ∃ x : Nat, p = x := ⟨p.toNat, by omega⟩
      exact netPlays_core A len cap (by omega) l x (by omega) (by omega) w hl hcap
end Go.Proofs.Ytmffpeblcaalgaa
