/-
  key: a signature's parts.
  key: whether a signature is right.
-/
import Derived.Test.YtgcpoppinnnciaaGreatDoorCKY3
/- key: a signature's parts. -/
set_option linter.unusedVariables false
set_option linter.unusedSimpArgs false
set_option maxRecDepth 100000
namespace Go.Proofs.YtgcpoppinnnciaaGreatDoor
open Go Go.RowKit Go.Proofs.YtgcpoppinnnciaaGreatDoor.Pal Go.Proofs.YtgcpoppinnnciaaGreatDoor.Plan

theorem results_tmp4 {fn : Func} {t u v x : Tmp} (h : fn.results = #[.tmp t, .tmp u, .tmp v, .tmp x]) (tmps : Array Value) (P : Program) (w : World) :
    (results fn tmps).run P w = .ok (.tuple #[tmps.getD t undef, tmps.getD u undef, tmps.getD v undef, tmps.getD x undef]) w := by
  simp [results, h]
def pieces : Nat → ByteArray → List ByteArray
  | 0, _ => []
  | n + 1, x => x.extract 0 32 :: pieces n (x.extract 32 x.size)
theorem pieces_len : ∀ (n : Nat) (x : ByteArray), (pieces n x).length = n
  | 0, _ => rfl
  | n + 1, x => by rw [pieces, List.length_cons, pieces_len n]
theorem pieces_32 : ∀ (n : Nat) (x : ByteArray), x.size = 32 * n → ∀ p ∈ pieces n x, p.size = 32
  | 0, _, _, p, hp => by cases hp
  | n + 1, x, h, p, hp => by
    rw [pieces] at hp
    rcases List.mem_cons.1 hp with rfl | hp
    · rw [ByteArray.size_extract]; omega
    · exact pieces_32 n _ (by rw [ByteArray.size_extract]; omega) p hp
def sigQ (s : ByteArray) : Nat := (s.size - 2) / 32
def sigLeaf (s : ByteArray) : Nat := numI (s.extract 0 2) 2
def sigL (s : ByteArray) : List ByteArray := pieces (sigQ s) (s.extract 2 s.size)
/-- It has the form of a signature. -/
def sigOk (s : ByteArray) : Prop := 2 ≤ s.size ∧ (s.size - 2) % 32 = 0 ∧ 67 ≤ sigQ s ∧ sigQ s ≤ 71 ∧ sigLeaf s < 2 ^ (sigQ s - 67)
instance (s : ByteArray) : Decidable (sigOk s) := by unfold sigOk; infer_instance
set_option maxHeartbeats 1000000 in
theorem parts_short (s : ByteArray) (hs : s.size < 2) (w : World) :
    Calls Tryz.prog 160 #[.string s] w fun e w' => e = .returned (.tuple #[.int .i64 0, .slice none 0 0, .slice none 0 0, .bool false]) ∧ Unch none_ w w' := by
  have hc : s.size = 0 ∨ s.size = 1 := by omega
  have q1 : (-2 : Int).tdiv 32 = 0 := by decide
  have q2 : (-1 : Int).tdiv 32 = 0 := by decide
  rcases hc with hc | hc
  all_goals
    go_enter Tryz.func160, Tryz.ntmps160
    go_wp2_with fail
    exact bodyPost_ret (results_tmp4 rfl _ _ _) rfl ⟨rfl, Unch.refl _ _⟩
theorem parts_form (s : ByteArray) (h2 : 2 ≤ s.size) (hs : s.size ≤ 1000000000) (hno : (s.size - 2) % 32 ≠ 0 ∨ sigQ s < 67 ∨ 71 < sigQ s) (w : World) :
    Calls Tryz.prog 160 #[.string s] w fun e w' => e = .returned (.tuple #[.int .i64 0, .slice none 0 0, .slice none 0 0, .bool false]) ∧ Unch none_ w w' := by
  obtain ⟨n, hn⟩ : ∃ n, s.size = n := ⟨_, rfl⟩
  unfold sigQ at hno
  obtain ⟨q, hq⟩ : ∃ q, (s.size - 2) / 32 = q := ⟨_, rfl⟩
  obtain ⟨r, hr⟩ : ∃ r, (s.size - 2) % 32 = r := ⟨_, rfl⟩
  rw [hq, hr] at hno
  rw [hn] at h2 hs hq hr
  have e1 : ((n : Int) - 2) / 32 = (q : Int) := by omega
  have e2 : ((n : Int) - 2).tdiv 32 = (q : Int) := by rw [Int.tdiv_eq_ediv_of_nonneg (by omega)]; omega
  have e3 : ((n : Int) - 2) % 32 = (r : Int) := by omega
  have e4 : ((n : Int) - 2).tmod 32 = (r : Int) := by rw [Int.tmod_eq_emod_of_nonneg (by omega)]; omega
  have z0 : (2 : Int) ≤ (n : Int) := by omega
  have z1 : (n : Int) ≤ 1000000000 := by omega
  have z2 : (0 : Int) ≤ (q : Int) := by omega
  have z3 : (q : Int) ≤ 1000000000 := by omega
  have d1 : decide ((n : Int) < 2) = false := decide_eq_false (by omega)
  by_cases hr0 : r = 0
  · subst hr0
    by_cases hq67 : q < 67
    · have d2 : decide ((q : Int) - 67 < 0) = true := decide_eq_true (by omega)
      go_enter Tryz.func160, Tryz.ntmps160
      go_wp2_with fail
      exact bodyPost_ret (results_tmp4 rfl _ _ _) rfl ⟨rfl, Unch.refl _ _⟩
    · have hq71 : 71 < q := by omega
      have d2 : decide ((q : Int) - 67 < 0) = false := decide_eq_false (by omega)
      have d3 : decide (4 < (q : Int) - 67) = true := decide_eq_true (by omega)
      go_enter Tryz.func160, Tryz.ntmps160
      go_wp2_with fail
      exact bodyPost_ret (results_tmp4 rfl _ _ _) rfl ⟨rfl, Unch.refl _ _⟩
  · have d2 : ((r : Int) != 0) = true := by simp; omega
    go_enter Tryz.func160, Tryz.ntmps160
    go_wp2_with fail
    exact bodyPost_ret (results_tmp4 rfl _ _ _) rfl ⟨rfl, Unch.refl _ _⟩
theorem pieces_step {m k : Nat} {x : ByteArray} {done L : List ByteArray} (h : done ++ pieces (m - k) x = L) (hk : k < m) : done ++ [x.extract 0 32] ++ pieces (m - (k + 1)) (x.extract 32 x.size) = L := by
  rw [show m - k = (m - (k + 1)) + 1 by omega, pieces] at h
  rw [← h]
  simp
theorem row_ne {w : World} {g : Nat} {e t : TypeId} {size n : Nat} {v : Value} {xs : List Value} {cs : Array Value} {fr : Nat × Nat} (h : Row w e size v n xs) (hb : w.heap[g]? = some (.cells cs t fr)) (hte : t ≠ e) : ∀ b, v.ownBlock = some b → b ≠ g := fun b he hbg => by
  subst hbg
  rcases h.2 with ⟨hv, _⟩ | ⟨g2, o, cap, cur, hv, hh, _⟩
  · rw [hv] at he; cases he
  · rw [hv] at he
    simp only [Value.ownBlock, Option.some.injEq] at he
    subst he
    rw [hh] at hb
    injection hb with hb
    injection hb with _ hb
    exact hte hb.symm
theorem RdS.nilAny {w : World} (A : Option Addr) : RdS w 1 StrR A 0 [] := ⟨rfl, by unfold maxLen; omega, fun h => by omega⟩
def PartsP (lf P h : Nat) (L : List ByteArray) (w' : World) (e : Ending) : Prop :=
  if lf < P then ∃ A A2 c c2, e = .returned (.tuple #[.int .i64 (lf : Int), .slice A 67 c, .slice A2 h c2, .bool true]) ∧ RdS w' 1 StrR A 67 (L.take 67) ∧ RdS w' 1 StrR A2 h (L.drop 67)
  else e = .returned (.tuple #[.int .i64 0, .slice none 0 0, .slice none 0 0, .bool false])
set_option maxHeartbeats 1000000 in
theorem parts_good (s : ByteArray) (h2 : 2 ≤ s.size) (hs : s.size ≤ 1000000000) (hr0 : (s.size - 2) % 32 = 0) (hq67 : 67 ≤ sigQ s) (hq71 : sigQ s ≤ 71) (w : World) :
    Calls Tryz.prog 160 #[.string s] w fun e w' => Unch none_ w w' ∧ PartsP (sigLeaf s) (2 ^ (sigQ s - 67)) (sigQ s - 67) (sigL s) w' e := by
  have hrd := octRead_ok s w
  have hl2 : (tkB s false 2).size = 2 ∧ numI (tkB s false 2) (tkB s false 2).size = sigLeaf s := by
    have : tkB s false 2 = s.extract 0 2 := by unfold tkB; rw [if_neg]; simp; omega
    have hz : (s.extract 0 2).size = 2 := by rw [ByteArray.size_extract]; omega
    rw [this, hz]
    exact ⟨rfl, rfl⟩
  have hx2 : tkR s false 2 = s.extract 2 s.size := by unfold tkR; rw [if_neg]; simp; omega
  have hb2 : tkQ s false 2 = false := by unfold tkQ; rw [if_neg]; simp; omega
  have hsh := fun (W : World) (h : RdO W w.heap.size s false) => octRShort_ok w.heap.size s false W h
  rw [hl2.2, hx2, hb2] at hsh
  have hxs : (s.extract 2 s.size).size = 32 * sigQ s := by rw [ByteArray.size_extract]; unfold sigQ; omega
  have hsl : sigL s = pieces (sigQ s) (s.extract 2 s.size) := rfl
  have hleaf : sigLeaf s < 65536 := by
    have := numI_lt (s.extract 0 2) 2 (by rw [ByteArray.size_extract]; omega)
    exact this
  have hsz : s.size = 32 * sigQ s + 2 := by unfold sigQ; omega
  generalize s.extract 2 s.size = x0 at *
  generalize sigLeaf s = lf at *
  generalize sigL s = L at *
  generalize sigQ s = q at *
  clear hl2 hx2 hb2 hr0
  obtain ⟨h, hh⟩ : ∃ h, q = h + 67 := ⟨q - 67, by omega⟩
  rw [hh, show h + 67 - 67 = h by omega]
  obtain ⟨n, hn⟩ : ∃ n, s.size = n := ⟨_, rfl⟩
  rw [hn] at hs h2 hsz
  have e1 : ((n : Int) - 2) / 32 = (q : Int) := by omega
  have e2 : ((n : Int) - 2).tdiv 32 = (q : Int) := by rw [Int.tdiv_eq_ediv_of_nonneg (by omega)]; omega
  have e3 : ((n : Int) - 2) % 32 = 0 := by omega
  have e4 : ((n : Int) - 2).tmod 32 = 0 := by rw [Int.tmod_eq_emod_of_nonneg (by omega)]; omega
  have e5 : (q : Int) - 67 = (h : Int) := by omega
  have z0 : (2 : Int) ≤ (n : Int) := by omega
  have z1 : (n : Int) ≤ 1000000000 := by omega
  have z2 : (67 : Int) ≤ (q : Int) := by omega
  have z3 : (q : Int) ≤ 71 := by omega
  have z4 : (0 : Int) ≤ (h : Int) := by omega
  have z5 : (h : Int) ≤ 4 := by omega
  have d1 : decide ((n : Int) < 2) = false := decide_eq_false (by omega)
  have d2 : decide ((h : Int) < 0) = false := decide_eq_false (by omega)
  have d3 : decide (4 < (h : Int)) = false := decide_eq_false (by omega)
  have hP : (2 : Int) ^ h = ((2 ^ h : Nat) : Int) := by push_cast; rfl
  have h16 : 2 ^ h ≤ 16 := Nat.pow_le_pow_right (n := 2) (by decide) (show h ≤ 4 by omega)
  have hP1 : 1 ≤ 2 ^ h := Nat.one_le_two_pow
  generalize 2 ^ h = P at *
  have p0 : (1 : Int) ≤ (P : Int) := by omega
  have p1 : (P : Int) ≤ 16 := by omega
  have hgw : w.heap.size = w.heap.size := rfl
  have hHSL := Lib.hid hsl
  have HXS := Lib.hid hxs
  have HSZ := Lib.hid hsz
  have HH := Lib.hid hh
  clear hsl hsz hxs hh hgw
  generalize hg : w.heap.size = g at *
  have HG := Lib.hid hg
  clear hg
  go_enter Tryz.func160, Tryz.ntmps160
  go_wp2_with (first
    | (go_at_call 93; refine hrd.mono ?_; rintro _ w1 ⟨rfl, hr1, hu1⟩)
    | (go_at_call 158; refine (hsh _ hr1).mono ?_; rintro _ w2 ⟨rfl, hr2, hu2⟩))
  have hte : (190 : TypeId) ≠ 9 := by decide
  have hu02 : Unch none_ w w2 := hu1.step hu2 (fun i hi e => by have := HG.out; omega)
  clear hrd hsh hr1 hu1 hu2
  go_loopg [9] q (fun gk v wr => ∃ (k : Nat) (x : ByteArray) (done : List ByteArray), gk = q - k ∧ k ≤ q ∧ RdO wr g x false ∧ x.size = 32 * (q - k) ∧ done ++ pieces (q - k) x = L ∧ Row wr 9 1 v k (sv done) ∧ (∀ b, v.ownBlock = some b → w.heap.size ≤ b) ∧ Unch none_ w wr)
  case atStart => exact ⟨0, x0, [], rfl, by omega, hr2, HXS.out, hHSL.out.symm, Row.nil _ _ _, fun b hb => (by cases hb), hu02⟩
  case round =>
    clear hr2 hu02
    obtain ⟨k, x, done, rfl, hk, hr, hx, hdn, hrow, hown, hu⟩ := hrel
    obtain ⟨w3, rfl⟩ : ∃ w3, w3 = wr := ⟨_, rfl⟩
    obtain ⟨A, c, rfl, hc⟩ := hrow.slice
    have hlf := fun W (h : w3 = W) => octLeft_ok g x false W (h ▸ hr)
    rw [if_neg (by decide)] at hlf
    have HDN := Lib.hid hdn
    have HROW := Lib.hid hrow
    have HOWN := Lib.hid hown
    have HU := Lib.hid hu
    have HX := Lib.hid hx
    by_cases hkq : k < q
    · have y0 : (0 : Int) < (x.size : Int) := by omega
      have htk : Calls Tryz.prog 123 #[.pointer (some ⟨g, 0, none⟩), .int .i64 32] w3 _ := octTake_ok g 32 x w3 hr (by omega)
      have hnx := pieces_step hdn hkq
      have hxs2 : (x.extract 32 x.size).size = 32 * (q - (k + 1)) := by rw [ByteArray.size_extract]; omega
      have HNX := Lib.hid hnx
      have HXS2 := Lib.hid hxs2
      clear hdn hown hu hx hnx hxs2
      generalize x.extract 0 32 = y at *
      generalize x.extract 32 x.size = x2 at *
      have hrow4 : ∀ W, Unch (fun k => k = g) w3 W → Row W 9 1 (.slice A k c) k (sv done) := fun W h => row_other HROW.out hr hte h
      go_wp2_with (first
        | (go_at_call 159; refine (hlf _ rfl).mono ?_; rintro _ w4 ⟨rfl, rfl⟩)
        | (go_at_call 123; refine htk.mono ?_; rintro _ w5 ⟨rfl, hr5, hu5⟩; have hrow5 := hrow4 _ hu5)
        | (at_builtin; refine wpList_append1 w5 rfl (.tmp 40) (.tmp 43) 25 9 _ 1 16 rfl Tryz.underlying25 info_str rfl (by omega) (.slice A k c) k (sv done) (by rfl) hrow5 [.string y] rfl (by intro u hu; simp at hu; subst hu; rfl) (by rfl) (by simp only [maxLen]; omega) (by omega) ?_; intro v6 w6 hr6 hu6 hat6; have HR6 := Lib.hid hr6; have HU6 := Lib.hid hu6; have HAT6 := Lib.hid hat6; clear hr6 hu6 hat6))
      go_roundg (q - (k + 1))
      case measure => omega
      case rel =>
        have hu35 : Unch none_ w w5 := HU.out.step hu5 (fun i hi e => by have := HG.out; omega)
        refine ⟨k + 1, x2, done ++ [y], rfl, by omega, ?_, HXS2.out, HNX.out, by rw [sv_app]; exact HR6.out, fun b hb => ?_, hu35.step HU6.out (fun i hi e => by have := HOWN.out i e; omega)⟩
        · exact HU6.out.heap hr5 (fun he => row_ne hrow5 hr5 hte g he rfl)
        · rcases HAT6.out with h1 | ⟨b', h1, h2⟩
          · exact HOWN.out b (h1 ▸ hb)
          · rw [h1] at hb; injection hb with hb; subst hb; exact Nat.le_trans hu35.size h2
    · obtain rfl : k = q := by omega
      rw [Nat.sub_self, pieces, List.append_nil] at hdn
      subst hdn
      have hx0 : x.size = 0 := by rw [Nat.sub_self] at hx; omega
      have hlen := (srow_rds hrow).len
      have hq67 : 67 ≤ k := hq67
      obtain ⟨gr, o, cap, cur, hv, hh2, hnc, -⟩ := hrow.form (by omega)
      injection hv with h1 h3 h4
      subst h1
      subst h4
      have hcm : c ≤ maxLen := by
        rcases hrow.2 with ⟨hv, _⟩ | ⟨_, _, _, _, hv, _, _, hm, _⟩
        · cases hv
        · injection hv with _ _ h5; omega
      unfold maxLen at hcm
      have HHH := HH.out
      clear HDN hx HX hlen hh2 hown hrow hu h3
      have l0 : (0 : Int) ≤ (lf : Int) := by omega
      have l1 : (lf : Int) < 65536 := by omega
      have c0 : (67 : Int) ≤ (c : Int) := by omega
      have c1 : (k : Int) ≤ (c : Int) := by omega
      have hlf0 : Calls Tryz.prog 159 #[.pointer (some ⟨g, 0, none⟩)] w3 fun e w' => e = .returned (.int .i64 0) ∧ w3 = w' := by have := hlf w3 rfl; rw [hx0] at this; exact this
      clear HHH e1 e2 e3 e4 hx0 hlf hkq hk hc
      by_cases hlp : lf < P
      · have d4 : decide ((P : Int) ≤ (lf : Int)) = false := decide_eq_false (by omega)
        have d5 : decide (P ≤ lf) = false := decide_eq_false (by omega)
        have l2 : (lf : Int) < (P : Int) := by omega
        go_wp2_with (go_at_call 159; refine hlf0.mono ?_; rintro _ w4 ⟨rfl, rfl⟩)
        by_cases hc67 : c = 67
        · subst hc67
          refine wp_region_quiet_u (by kernel_rfl) (by kernel_rfl) (fun _ => ?_)
          repeat (go_big_quiet_step (fail))
          refine wpQuiet_nil ?_
          intro wq hw'
          obtain ⟨⟨wqq, huq⟩, hw''⟩ := hw'
          subst hw''
          have HUQ := Lib.hid huq
          clear huq
          go_wp2_with fail
          have huq := HUQ.out
          have hk67 : k = 67 := by omega
          have hh0 : h = 0 := by have := HH.out; omega
          refine bodyPost_ret (results_tmp4 rfl _ _ _) rfl ⟨HU.out.trans huq, ?_⟩
          unfold PartsP
          rw [if_pos hlp]
          have hrq := srow_rds (HROW.out.unch huq (fun _ _ h => h))
          refine ⟨some ⟨gr, o, none⟩, some ⟨gr, o, none⟩, 67, 0, by rw [hh0]; rfl, RdS.take hrq 67 (by omega), ?_⟩
          rw [hh0, List.drop_of_length_le (by rw [hrq.len]; omega)]
          exact RdS.nilAny _
        · have c3 : (67 : Int) < (c : Int) := by omega
          refine wp_region_quiet_u (by kernel_rfl) (by kernel_rfl) (fun _ => ?_)
          repeat (go_big_quiet_step (fail))
          refine wpQuiet_nil ?_
          intro wq hw'
          obtain ⟨⟨wqq, huq⟩, hw''⟩ := hw'
          subst hw''
          have HUQ := Lib.hid huq
          clear huq
          go_wp2_with fail
          have huq := HUQ.out
          have hkh : k - 67 = h := by have := HH.out; omega
          refine bodyPost_ret (results_tmp4 rfl _ _ _) rfl ⟨HU.out.trans huq, ?_⟩
          unfold PartsP
          rw [if_pos hlp]
          have hrq := srow_rds (HROW.out.unch huq (fun _ _ h => h))
          refine ⟨some ⟨gr, o, none⟩, some ⟨gr, o + 67, none⟩, c, c - 67, by rw [← hkh]; rfl, RdS.take hrq 67 (by omega), ?_⟩
          have := RdS.drop hrq 67 (by omega)
          rw [Nat.mul_one, hkh] at this
          exact this
      · have l2 : (P : Int) ≤ (lf : Int) := by omega
        have d5 : decide (P ≤ lf) = true := decide_eq_true (by omega)
        have d4 : decide ((P : Int) ≤ (lf : Int)) = true := decide_eq_true (by omega)
        clear l2
        have HLP := Lib.hid hlp
        clear hlp
        go_wp2_with (go_at_call 159; refine hlf0.mono ?_; rintro _ w4 ⟨rfl, rfl⟩)
        refine bodyPost_ret (results_tmp4 rfl _ _ _) rfl ⟨HU.out, ?_⟩
        unfold PartsP
        rw [if_neg HLP.out]
        rfl
end Go.Proofs.YtgcpoppinnnciaaGreatDoor
/- key: whether a signature is right. -/
set_option linter.unusedVariables false
set_option linter.unusedSimpArgs false
set_option maxRecDepth 100000
namespace Go.Proofs.YtgcpoppinnnciaaGreatDoor
open Go Go.RowKit Go.Proofs.YtgcpoppinnnciaaGreatDoor.Pal Go.Proofs.YtgcpoppinnnciaaGreatDoor.Plan

theorem parts_no (s : ByteArray) (hs : s.size ≤ 1000000000) (hno : ¬ sigOk s) (w : World) :
    Calls Tryz.prog 160 #[.string s] w fun e w' => e = .returned (.tuple #[.int .i64 0, .slice none 0 0, .slice none 0 0, .bool false]) ∧ Unch none_ w w' := by
  by_cases h2 : s.size < 2
  · exact parts_short s h2 w
  by_cases hf : (s.size - 2) % 32 ≠ 0 ∨ sigQ s < 67 ∨ 71 < sigQ s
  · exact parts_form s (by omega) hs hf w
  have h3 : (s.size - 2) % 32 = 0 := by omega
  refine (parts_good s (by omega) hs h3 (by omega) (by omega) w).mono fun e w' ⟨hu, hp⟩ => ?_
  have hl : ¬ sigLeaf s < 2 ^ (sigQ s - 67) := fun hl => hno ⟨by omega, h3, by omega, by omega, hl⟩
  unfold PartsP at hp
  rw [if_neg hl] at hp
  exact ⟨hp, hu⟩
theorem parts_yes (s : ByteArray) (hs : s.size ≤ 1000000000) (hok : sigOk s) (w : World) :
    Calls Tryz.prog 160 #[.string s] w fun e w' => ∃ A A2 c c2, e = .returned (.tuple #[.int .i64 (sigLeaf s : Int), .slice A 67 c, .slice A2 (sigQ s - 67) c2, .bool true]) ∧ RdS w' 1 StrR A 67 ((sigL s).take 67) ∧ RdS w' 1 StrR A2 (sigQ s - 67) ((sigL s).drop 67) ∧ Unch none_ w w' := by
  obtain ⟨h1, h2, h3, h4, h5⟩ := hok
  refine (parts_good s h1 hs h2 h3 h4 w).mono fun e w' ⟨hu, hp⟩ => ?_
  unfold PartsP at hp
  rw [if_pos h5] at hp
  obtain ⟨A, A2, c, c2, e1, e2, e3⟩ := hp
  exact ⟨A, A2, c, c2, e1, e2, e3, hu⟩
theorem sigL_32 {s : ByteArray} (hok : sigOk s) : ∀ p ∈ sigL s, p.size = 32 := pieces_32 _ _ (by
  obtain ⟨h1, h2, _⟩ := hok
  rw [ByteArray.size_extract]
  unfold sigQ
  omega)
/-- Whether a signature is right. -/
def verT (K : Nat → Int) (msg sig : ByteArray) : ByteArray := namedF K (sigQ sig - 67) (foldF K (recoverF K (tagF K 6 [msg]) ((sigL sig).take 67)) (sigLeaf sig) ((sigL sig).drop 67))
def verifyF (K : Nat → Int) (pub msg sig : ByteArray) : Bool := decide (sigOk sig) && decide (verT K msg sig = pub)
theorem verify_no (K : Nat → Int) (pub msg sig : ByteArray) (hs : sig.size ≤ 1000000000) (hno : ¬ sigOk sig) (w : World) :
    Calls Tryz.prog 125 #[.string pub, .string msg, .string sig] w fun e w' => e = .returned (.bool false) ∧ Unch none_ w w' := by
  have hp := parts_no sig hs hno w
  go_enter Tryz.func125, Tryz.ntmps125
  go_wp2_with (go_at_call 160; refine hp.mono ?_; rintro _ w1 ⟨rfl, hu1⟩)
  go_ret
  exact ⟨rfl, hu1⟩
set_option maxHeartbeats 1000000 in
theorem verify_yes (K : Nat → Int) (pub msg sig : ByteArray) (hm : msg.size ≤ 1000000000) (hs : sig.size ≤ 1000000000) (hok : sigOk sig) (w : World) (hK : Kys K w) :
    Calls Tryz.prog 125 #[.string pub, .string msg, .string sig] w fun e w' => e = .returned (.bool (decide (verT K msg sig = pub))) ∧ Unch none_ w w' := by
  have hp := parts_yes sig hs hok w
  have h32 := sigL_32 hok
  obtain ⟨_, _, h3, h4, h5⟩ := hok
  have hll : (sigL sig).length = sigQ sig := pieces_len _ _
  have h32t : ∀ p ∈ (sigL sig).take 67, p.size = 32 := fun p hp => h32 p (List.mem_of_mem_take hp)
  have h32d : ∀ p ∈ (sigL sig).drop 67, p.size = 32 := fun p hp => h32 p (List.mem_of_mem_drop hp)
  have htg := fun (W : World) (hu : Unch none_ w W) => tag1_ok K 6 (by omega) msg hm W (hK.unch hu (fun h => h)) _ rfl
  have hts := tagF_size K 6 [msg]
  have hrc := fun (A : Option Addr) (c : Nat) (W : World) (hu : Unch none_ w W) (hr : RdS W 1 StrR A 67 ((sigL sig).take 67)) => recover_ok K (tagF K 6 [msg]) hts A c _ W (hK.unch hu (fun h => h)) hr h32t
  have hr32 : (recoverF K (tagF K 6 [msg]) ((sigL sig).take 67)).size = 32 := tagF_size K 3 _
  have hfo := fun (A : Option Addr) (c : Nat) (W : World) (hu : Unch none_ w W) (hr : RdS W 1 StrR A (sigQ sig - 67) ((sigL sig).drop 67)) => fold_ok K _ hr32 (sigLeaf sig) A (sigQ sig - 67) c _ W (hK.unch hu (fun h => h)) (by omega) h5 hr h32d
  have hf32 := foldF_32 K ((sigL sig).drop 67) _ (sigLeaf sig) hr32
  have hnm := fun (W : World) (hu : Unch none_ w W) => named_ok K (sigQ sig - 67) (by omega) _ (by rw [hf32]; omega) W (hK.unch hu (fun h => h))
  rw [show namedF K (sigQ sig - 67) (foldF K (recoverF K (tagF K 6 [msg]) ((sigL sig).take 67)) (sigLeaf sig) ((sigL sig).drop 67)) = verT K msg sig from rfl] at hnm
  clear h32 h32t h32d hll hts hf32 hr32
  generalize verT K msg sig = res at *
  generalize foldF K (recoverF K (tagF K 6 [msg]) ((sigL sig).take 67)) (sigLeaf sig) ((sigL sig).drop 67) = fo at *
  generalize recoverF K (tagF K 6 [msg]) ((sigL sig).take 67) = rc at *
  generalize tagF K 6 [msg] = dg at *
  generalize (sigL sig).take 67 = l1 at *
  generalize (sigL sig).drop 67 = l2 at *
  generalize sigLeaf sig = lf at *
  have hb := str_beq (s := res) (t := pub)
  generalize hdb : decide (res = pub) = db at *
  obtain ⟨h, hh⟩ : ∃ h, sigQ sig - 67 = h := ⟨_, rfl⟩
  rw [hh] at hp hfo hnm h5
  have HDB := Lib.hid hdb
  have HRC := Lib.hid hrc
  have HFO := Lib.hid hfo
  have HNM := Lib.hid hnm
  have HTG := Lib.hid htg
  clear hdb h3 h4 h5 hh hrc hfo hnm htg
  go_enter Tryz.func125, Tryz.ntmps125
  go_wp2_with (first
    | (go_at_call 160; refine hp.mono ?_; rintro _ w1 ⟨A, A2, c, c2, rfl, hr1, hr2, hu1⟩; have HR1 := Lib.hid hr1; have HR2 := Lib.hid hr2; have HU1 := Lib.hid hu1; clear hr1 hr2 hu1)
    | (go_at_call 47; refine (HTG.out _ HU1.out).mono ?_; rintro _ w2 ⟨rfl, hu2⟩; have HU2 := Lib.hid hu2; clear hu2)
    | (go_at_call 161; refine (HRC.out A c _ (HU1.out.trans HU2.out) (RdS.fresh HR1.out HU2.out)).mono ?_; rintro _ w3 ⟨rfl, hu3⟩; have HU3 := Lib.hid (HU2.out.trans hu3); clear hu3)
    | (go_at_call 162; refine (HFO.out A2 c2 _ (HU1.out.trans HU3.out) (RdS.fresh HR2.out HU3.out)).mono ?_; rintro _ w4 ⟨rfl, hu4⟩; have HU4 := Lib.hid (HU1.out.trans (HU3.out.trans hu4)); clear hu4)
    | (go_at_call 44; refine (HNM.out _ HU4.out).mono ?_; rintro _ w5 ⟨rfl, hu5⟩; have HU5 := Lib.hid (HU4.out.trans hu5); clear hu5))
  go_ret
  exact ⟨rfl, HU5.out⟩
theorem verify_ok (K : Nat → Int) (pub msg sig : ByteArray) (hm : msg.size ≤ 1000000000) (hs : sig.size ≤ 1000000000) (w : World) (hK : Kys K w) :
    Calls Tryz.prog 125 #[.string pub, .string msg, .string sig] w fun e w' => e = .returned (.bool (verifyF K pub msg sig)) ∧ Unch none_ w w' := by
  unfold verifyF
  by_cases h : sigOk sig
  · rw [decide_eq_true h, Bool.true_and]
    exact verify_yes K pub msg sig hm hs h w hK
  · rw [decide_eq_false h, Bool.false_and]
    exact verify_no K pub msg sig hs h w
end Go.Proofs.YtgcpoppinnnciaaGreatDoor
