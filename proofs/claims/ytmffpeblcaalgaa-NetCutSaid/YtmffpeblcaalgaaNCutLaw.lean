/-
  NetCut.
-/
import Derived.Test.YtmffpeblcaalgaaNAct
import Derived.IntWalk
set_option linter.unusedVariables false
set_option linter.unusedSimpArgs false
namespace Go.Proofs.Ytmffpeblcaalgaa
open Go Go.RowKit Go.Proofs.Ytmffpeblcaalgaa.Pal Go.Proofs.Ytmffpeblcaalgaa.Plan

/-- Nothing is under way between two that are cut. -/
def Clean (l : List Ltr) (c : Nat → Nat → Bool) : Prop := ∀ z ∈ l, c z.src z.dst = false
theorem doStep_clean {nodes : Nat} {l : List Ltr} {c : Nat → Nat → Bool} (h : Clean l c) (k a b n : Int) (t : ByteArray) : Clean (doStep nodes l c k a b n t).2.1 (doStep nodes l c k a b n t).2.2 := by
  unfold doStep
  split
  · split
    · exact h
    · split
      · exact h
      · split
        · exact h
        · rename_i _ h2 _
          intro z hz
          simp only [List.mem_append, List.mem_singleton] at hz
          rcases hz with hz | rfl
          · exact h z hz
          · simpa using h2
  · split
    · split
      · exact h
      · exact fun z hz => h z (List.mem_of_mem_eraseIdx hz)
    · split
      · split
        · exact h
        · split
          · exact h
          · rename_i x hx _
            intro z hz
            simp only [List.mem_append, List.mem_singleton] at hz
            rcases hz with hz | rfl
            · exact h z hz
            · split at hx
              · exact h _ (List.mem_of_getElem? hx)
              · cases hx
      · split
        · split
          · exact h
          · intro z hz
            have := (List.mem_filter.1 hz).2
            simpa using this
        · intro z _; rfl
theorem doStep_cut {nodes : Nat} {l : List Ltr} {c : Nat → Nat → Bool} {x y : Nat} (h : c x y = true) (k a b n : Int) (hk : 0 ≤ k ∧ k ≤ 3) (t : ByteArray) : (doStep nodes l c k a b n t).2.2 x y = true := by
  unfold doStep
  split
  · split
    · exact h
    · split
      · exact h
      · split <;> exact h
  · split
    · split <;> exact h
    · split
      · split
        · exact h
        · split <;> exact h
      · split
        · split
          · exact h
          · simp only [cutOf]
            split
            · rfl
            · split
              · rfl
              · exact h
        · omega
/-- The net, whatever was done. -/
def CutRel (w wr : World) (N K : Nat) (P : (Nat → Nat → Bool) → Prop) : Prop := ∃ v l c, NB w wr N K v 4 l c ∧ Ok 4 l ∧ Clean l c ∧ P c
theorem CutRel.step {w wr w1 : World} {N K : Nat} {P : (Nat → Nat → Bool) → Prop} {v : Value} {l : List Ltr} {c : Nat → Nat → Bool} (hb : NB w wr N K v 4 l c) (hO : Ok 4 l) (hC : Clean l c) {k a b n : Int} {t : ByteArray} {e : Ending} (h : DoPost wr N K v 4 (doStep 4 l c k a b n t) e w1) (hP : P (doStep 4 l c k a b n t).2.2) : CutRel w w1 N K P := by
  obtain ⟨_, hL⟩ := h
  obtain ⟨v', h1⟩ := hb.left hL
  exact ⟨v', _, _, h1, doStep_ok hO k a b n t, doStep_clean hC k a b n t, hP⟩
set_option maxRecDepth 100000 in
set_option maxHeartbeats 4000000 in
theorem netCut_core (A : Option Addr) (len cap : Nat) (hlen : len ≤ 100) (l : List NAct) (p q : Nat) (hp : p < 256) (hq : q < 256) (w : World) (hl : RdS w 5 NActR A len l) (hcap : len ≤ cap) :
    Calls Try.prog 9 #[.slice A len cap, .int .u8 (p : Int), .int .u8 (q : Int)] w (lawPost w) := by
  obtain ⟨x, Hx⟩ : ∃ x, Hid (x = p % 4) := ⟨_, rfl⟩
  obtain ⟨y, Hy⟩ : ∃ y, Hid (y = q % 4) := ⟨_, rfl⟩
  have x4 : x < 4 := by rw [Hx.out]; omega
  have y4 : y < 4 := by rw [Hy.out]; omega
  have ex : (p : Int) % 4 = (x : Int) := by rw [Hx.out]; simp
  have ey : (q : Int) % 4 = (y : Int) := by rw [Hy.out]; simp
  have k1 : ¬ (100 < (len : Int)) := by omega
  obtain ⟨hf, Hf⟩ : ∃ hf, Hid (hf = len / 2) := ⟨_, rfl⟩
  have ef : (len : Int) / 2 = (hf : Int) := by rw [Hf.out]; simp
  have hfl : hf ≤ len := by rw [Hf.out]; omega
  have HL := Lib.hid hl
  clear hl
  go_enter Try.func9, Try.ntmps9
  go_wp2_with fail
  refine (nawake _).mono ?_
  rintro e w0 ⟨rfl, hu0⟩
  go_wp2_with fail
  refine (new_ok 4 (by decide) (by decide) _).mono ?_
  rintro e w1 hN
  obtain ⟨N, K, rfl, h1⟩ := NB.made hN
  have hb1 : NB w w1 N K (.slice none 0 0) 4 [] (fun _ _ => false) := ⟨h1.nt, hu0.trans h1.unch, fun k hk => Nat.le_trans hu0.size (h1.new k hk)⟩
  clear hN h1
  by_cases hxy : x = y
  · have z1 : ((x : Int) == (y : Int)) = true := by simp; omega
    have htwo : isTwo 4 x y = false := by simp [isTwo]; omega
    go_wp2_with fail
    subst hxy
    refine (ncut_bad hb1.nt x x htwo).mono ?_
    rintro e w2 ⟨rfl, hu2⟩
    go_wp2
    go_ret
    exact ⟨rfl, hb1.unch.trans hu2⟩
  · have z1 : ((x : Int) == (y : Int)) = false := by simp; omega
    have htwo : isTwo 4 x y = true := by simp [isTwo]; omega
    have z10 : (0 : Int) ≤ (hf : Int) := by omega
    go_wp2
    clear ex ey ef
    go_loopg [11] len (fun gk i wr => ∃ k : Nat, k ≤ hf ∧ gk = len - k ∧ i = .int .i64 (k : Int) ∧ CutRel w wr N K (fun _ => True))
    case atStart => exact ⟨0, Nat.zero_le _, rfl, rfl, _, _, _, hb1, ⟨by decide, by decide, fun x hx => (by cases hx)⟩, fun x hx => (by cases hx), trivial⟩
    case round =>
      obtain ⟨k, hk, rfl, rfl, v, ll, c, hb, hO, hC, _⟩ := hrel
      by_cases hkf : k < hf
      · obtain ⟨a, ha⟩ := get_some HL.out.len (show k < len by omega)
        obtain ⟨b, o, cc, rfl, hbw, _, hca, hcell⟩ := (HL.out.unch (R' := NActR) hb.unch (fun _ _ h => h) (fun _ _ h => h)).at ha
        unfold NActR at hca
        subst hca
        have x0 := hcell 0 _ rfl
        rw [Nat.add_zero] at x0
        have x1 := hcell 1 _ rfl
        have x2 := hcell 2 _ rfl
        have x3 := hcell 3 _ rfl
        have x5 := hcell 4 _ rfl
        have z2 : (0 : Int) ≤ (k : Int) := by omega
        have z3 : (k : Int) < (len : Int) := by omega
        have z4 : (k : Int) < (hf : Int) := by omega
        clear hcell ha
        go_wp2_with fail
        refine (do_ok hb.nt hO a.k a.a a.b a.n a.t).mono ?_
        rintro e w3 hd
        have hr := CutRel.step (P := fun _ => True) hb hO hC hd trivial
        obtain ⟨rfl, _⟩ := hd
        have HR := Lib.hid hr
        clear hr
        go_wp2
        go_roundg (len - (k + 1))
        case measure => omega
        case rel => exact ⟨k + 1, by omega, rfl, by go_num, HR.out⟩
      · obtain rfl : hf = k := by omega
        go_wp2_with fail
        refine (ncut_ok hb.nt (by decide) x y htwo hO.len hO.small).mono ?_
        rintro e w3 ⟨rfl, hL⟩
        obtain ⟨v3, hb3⟩ := hb.left hL
        have hr : CutRel w w3 N K (fun c => c x y = true ∧ c y x = true) := ⟨v3, _, _, hb3, ⟨hO.n5, Nat.le_trans (List.length_filter_le _ _) hO.len, fun z hz => hO.small z (List.mem_filter.1 hz).1⟩, fun z hz => by have := (List.mem_filter.1 hz).2; simpa using this, by simp [cutOf], by simp [cutOf]⟩
        have HR := Lib.hid hr
        clear hr hb3 hL hb hO hC
        go_wp2
        go_loopg [12] (len - hf) (fun gk i wr => ∃ k : Nat, k ≤ len ∧ gk = len - k ∧ i = .int .i64 (k : Int) ∧ CutRel w wr N K (fun c => c x y = true ∧ c y x = true))
        case atStart => exact ⟨hf, hfl, rfl, rfl, HR.out⟩
        case round =>
          obtain ⟨k, hk, rfl, rfl, v, ll, c, hb, hO, hC, hxc, hyc⟩ := hrel
          by_cases hkl : k < len
          · obtain ⟨a, ha⟩ := get_some HL.out.len hkl
            obtain ⟨b, o, cc, rfl, hbw, _, hca, hcell⟩ := (HL.out.unch (R' := NActR) hb.unch (fun _ _ h => h) (fun _ _ h => h)).at ha
            unfold NActR at hca
            subst hca
            have x0 := hcell 0 _ rfl
            rw [Nat.add_zero] at x0
            have x1 := hcell 1 _ rfl
            have x2 := hcell 2 _ rfl
            have x3 := hcell 3 _ rfl
            have x5 := hcell 4 _ rfl
            have z2 : (0 : Int) ≤ (k : Int) := by omega
            have z3 : (k : Int) < (len : Int) := by omega
            clear hcell ha
            obtain ⟨kd, ka, kb, kn, kt⟩ := a
            simp only [List.getElem_cons_zero, List.getElem_cons_succ] at x0 x1 x2 x3 x5
            rcases (by omega : kd < 0 ∨ 3 < kd ∨ (0 ≤ kd ∧ kd ≤ 3)) with g | g | ⟨g, g'⟩
            · go_wp2
              obtain ⟨m, hm⟩ : ∃ m, ll.length = m := ⟨_, rfl⟩
              have HO := Lib.hid hO
              have HC := Lib.hid hC
              have HX := Lib.hid hxc
              have HY := Lib.hid hyc
              clear hO hC hxc hyc
              go_loopg [13] m (fun gk i wr2 => ∃ j : Nat, j ≤ m ∧ gk = m - j ∧ i = .int .i64 (j : Int) ∧ NB w wr2 N K v 4 ll c)
              case atStart => exact ⟨0, Nat.zero_le _, rfl, rfl, hb⟩
              case round =>
                obtain ⟨j, hj, rfl, rfl, hbj⟩ := hrel
                by_cases hjm : j < m
                · have z4 : (0 : Int) ≤ (j : Int) := by omega
                  have z5 : (j : Int) < (m : Int) := by omega
                  have z6 : (m : Int) ≤ 256 := by have := HO.out.len; omega
                  obtain ⟨z, hz⟩ := get_some hm hjm
                  have hzc := HC.out z (List.mem_of_getElem? hz)
                  have HZ := Lib.hid hz
                  clear hz
                  go_wp2_with fail
                  refine (nlen_ok hbj.nt m hm).mono ?_
                  rintro e w5 ⟨rfl, rfl⟩
                  go_wp2_with fail
                  refine (npeek_ok hbj.nt j z HZ.out).mono ?_
                  rintro e w6 ⟨rfl, hu6⟩
                  have hb6 := hbj.fresh (hu6.alloc (.cells #[.int .i64 (z.src : Int), .int .i64 (z.dst : Int), .string z.txt] 47))
                  unfold Ltr.val
                  by_cases s1 : z.src = x
                  · have s2 : z.dst ≠ y := fun s2 => by rw [s1, s2, HX.out] at hzc; cases hzc
                    have e1 : ((z.src : Int) == (x : Int)) = true := by simp; omega
                    have e2 : ((z.dst : Int) == (y : Int)) = false := by simp; omega
                    have e3 : ((z.src : Int) == (y : Int)) = false := by simp; omega
                    clear hzc s1 s2
                    go_wp2
                    go_roundg (m - (j + 1))
                    case measure => omega
                    case rel => exact ⟨j + 1, by omega, rfl, by go_num, hb6⟩
                  · have e1 : ((z.src : Int) == (x : Int)) = false := by simp; omega
                    by_cases s3 : z.src = y
                    · have s2 : z.dst ≠ x := fun s2 => by rw [s3, s2, HY.out] at hzc; cases hzc
                      have e3 : ((z.src : Int) == (y : Int)) = true := by simp; omega
                      have e2 : ((z.dst : Int) == (x : Int)) = false := by simp; omega
                      clear hzc s1 s2 s3
                      go_wp2
                      go_roundg (m - (j + 1))
                      case measure => omega
                      case rel => exact ⟨j + 1, by omega, rfl, by go_num, hb6⟩
                    · have e3 : ((z.src : Int) == (y : Int)) = false := by simp; omega
                      clear hzc s1 s3
                      go_wp2
                      go_roundg (m - (j + 1))
                      case measure => omega
                      case rel => exact ⟨j + 1, by omega, rfl, by go_num, hb6⟩
                · obtain rfl : m = j := by omega
                  go_wp2_with fail
                  refine (nlen_ok hbj.nt m hm).mono ?_
                  rintro e w5 ⟨rfl, rfl⟩
                  go_wp2
                  go_roundg (len - (k + 1))
                  case measure => omega
                  case rel => exact ⟨k + 1, by omega, rfl, by go_num, v, ll, c, hbj, HO.out, HC.out, HX.out, HY.out⟩
            · go_wp2
              obtain ⟨m, hm⟩ : ∃ m, ll.length = m := ⟨_, rfl⟩
              have HO := Lib.hid hO
              have HC := Lib.hid hC
              have HX := Lib.hid hxc
              have HY := Lib.hid hyc
              clear hO hC hxc hyc
              go_loopg [13] m (fun gk i wr2 => ∃ j : Nat, j ≤ m ∧ gk = m - j ∧ i = .int .i64 (j : Int) ∧ NB w wr2 N K v 4 ll c)
              case atStart => exact ⟨0, Nat.zero_le _, rfl, rfl, hb⟩
              case round =>
                obtain ⟨j, hj, rfl, rfl, hbj⟩ := hrel
                by_cases hjm : j < m
                · have z4 : (0 : Int) ≤ (j : Int) := by omega
                  have z5 : (j : Int) < (m : Int) := by omega
                  have z6 : (m : Int) ≤ 256 := by have := HO.out.len; omega
                  obtain ⟨z, hz⟩ := get_some hm hjm
                  have hzc := HC.out z (List.mem_of_getElem? hz)
                  have HZ := Lib.hid hz
                  clear hz
                  go_wp2_with fail
                  refine (nlen_ok hbj.nt m hm).mono ?_
                  rintro e w5 ⟨rfl, rfl⟩
                  go_wp2_with fail
                  refine (npeek_ok hbj.nt j z HZ.out).mono ?_
                  rintro e w6 ⟨rfl, hu6⟩
                  have hb6 := hbj.fresh (hu6.alloc (.cells #[.int .i64 (z.src : Int), .int .i64 (z.dst : Int), .string z.txt] 47))
                  unfold Ltr.val
                  by_cases s1 : z.src = x
                  · have s2 : z.dst ≠ y := fun s2 => by rw [s1, s2, HX.out] at hzc; cases hzc
                    have e1 : ((z.src : Int) == (x : Int)) = true := by simp; omega
                    have e2 : ((z.dst : Int) == (y : Int)) = false := by simp; omega
                    have e3 : ((z.src : Int) == (y : Int)) = false := by simp; omega
                    clear hzc s1 s2
                    go_wp2
                    go_roundg (m - (j + 1))
                    case measure => omega
                    case rel => exact ⟨j + 1, by omega, rfl, by go_num, hb6⟩
                  · have e1 : ((z.src : Int) == (x : Int)) = false := by simp; omega
                    by_cases s3 : z.src = y
                    · have s2 : z.dst ≠ x := fun s2 => by rw [s3, s2, HY.out] at hzc; cases hzc
                      have e3 : ((z.src : Int) == (y : Int)) = true := by simp; omega
                      have e2 : ((z.dst : Int) == (x : Int)) = false := by simp; omega
                      clear hzc s1 s2 s3
                      go_wp2
                      go_roundg (m - (j + 1))
                      case measure => omega
                      case rel => exact ⟨j + 1, by omega, rfl, by go_num, hb6⟩
                    · have e3 : ((z.src : Int) == (y : Int)) = false := by simp; omega
                      clear hzc s1 s3
                      go_wp2
                      go_roundg (m - (j + 1))
                      case measure => omega
                      case rel => exact ⟨j + 1, by omega, rfl, by go_num, hb6⟩
                · obtain rfl : m = j := by omega
                  go_wp2_with fail
                  refine (nlen_ok hbj.nt m hm).mono ?_
                  rintro e w5 ⟨rfl, rfl⟩
                  go_wp2
                  go_roundg (len - (k + 1))
                  case measure => omega
                  case rel => exact ⟨k + 1, by omega, rfl, by go_num, v, ll, c, hbj, HO.out, HC.out, HX.out, HY.out⟩
            · go_wp2_with fail
              refine (do_ok hb.nt hO kd ka kb kn kt).mono ?_
              rintro e w4 hd
              have hr := CutRel.step (P := fun c => c x y = true ∧ c y x = true) hb hO hC hd ⟨doStep_cut hxc kd ka kb kn ⟨g, g'⟩ kt, doStep_cut hyc kd ka kb kn ⟨g, g'⟩ kt⟩
              obtain ⟨rfl, _⟩ := hd
              clear hb hO hC hxc hyc
              obtain ⟨v, ll, c, hb, hO, hC, hxc, hyc⟩ := hr
              generalize hr1 : (doStep 4 _ _ kd ka kb kn kt).1.1 = r1 at *
              generalize hr2 : (doStep 4 _ _ kd ka kb kn kt).1.2.1 = r2 at *
              generalize hr3 : (doStep 4 _ _ kd ka kb kn kt).1.2.2 = r3 at *
              clear hr1 hr2 hr3
              go_wp2
              obtain ⟨m, hm⟩ : ∃ m, ll.length = m := ⟨_, rfl⟩
              have HO := Lib.hid hO
              have HC := Lib.hid hC
              have HX := Lib.hid hxc
              have HY := Lib.hid hyc
              clear hO hC hxc hyc
              go_loopg [13] m (fun gk i wr2 => ∃ j : Nat, j ≤ m ∧ gk = m - j ∧ i = .int .i64 (j : Int) ∧ NB w wr2 N K v 4 ll c)
              case atStart => exact ⟨0, Nat.zero_le _, rfl, rfl, hb⟩
              case round =>
                obtain ⟨j, hj, rfl, rfl, hbj⟩ := hrel
                by_cases hjm : j < m
                · have z4 : (0 : Int) ≤ (j : Int) := by omega
                  have z5 : (j : Int) < (m : Int) := by omega
                  have z6 : (m : Int) ≤ 256 := by have := HO.out.len; omega
                  obtain ⟨z, hz⟩ := get_some hm hjm
                  have hzc := HC.out z (List.mem_of_getElem? hz)
                  have HZ := Lib.hid hz
                  clear hz
                  go_wp2_with fail
                  refine (nlen_ok hbj.nt m hm).mono ?_
                  rintro e w5 ⟨rfl, rfl⟩
                  go_wp2_with fail
                  refine (npeek_ok hbj.nt j z HZ.out).mono ?_
                  rintro e w6 ⟨rfl, hu6⟩
                  have hb6 := hbj.fresh (hu6.alloc (.cells #[.int .i64 (z.src : Int), .int .i64 (z.dst : Int), .string z.txt] 47))
                  unfold Ltr.val
                  by_cases s1 : z.src = x
                  · have s2 : z.dst ≠ y := fun s2 => by rw [s1, s2, HX.out] at hzc; cases hzc
                    have e1 : ((z.src : Int) == (x : Int)) = true := by simp; omega
                    have e2 : ((z.dst : Int) == (y : Int)) = false := by simp; omega
                    have e3 : ((z.src : Int) == (y : Int)) = false := by simp; omega
                    clear hzc s1 s2
                    go_wp2
                    go_roundg (m - (j + 1))
                    case measure => omega
                    case rel => exact ⟨j + 1, by omega, rfl, by go_num, hb6⟩
                  · have e1 : ((z.src : Int) == (x : Int)) = false := by simp; omega
                    by_cases s3 : z.src = y
                    · have s2 : z.dst ≠ x := fun s2 => by rw [s3, s2, HY.out] at hzc; cases hzc
                      have e3 : ((z.src : Int) == (y : Int)) = true := by simp; omega
                      have e2 : ((z.dst : Int) == (x : Int)) = false := by simp; omega
                      clear hzc s1 s2 s3
                      go_wp2
                      go_roundg (m - (j + 1))
                      case measure => omega
                      case rel => exact ⟨j + 1, by omega, rfl, by go_num, hb6⟩
                    · have e3 : ((z.src : Int) == (y : Int)) = false := by simp; omega
                      clear hzc s1 s3
                      go_wp2
                      go_roundg (m - (j + 1))
                      case measure => omega
                      case rel => exact ⟨j + 1, by omega, rfl, by go_num, hb6⟩
                · obtain rfl : m = j := by omega
                  go_wp2_with fail
                  refine (nlen_ok hbj.nt m hm).mono ?_
                  rintro e w5 ⟨rfl, rfl⟩
                  go_wp2
                  go_roundg (len - (k + 1))
                  case measure => omega
                  case rel => exact ⟨k + 1, by omega, rfl, by go_num, v, ll, c, hbj, HO.out, HC.out, HX.out, HY.out⟩
          · obtain rfl : len = k := by omega
            obtain ⟨m, hm⟩ : ∃ m, ll.length = m := ⟨_, rfl⟩
            have hml : m ≤ 256 := by rw [← hm]; exact hO.len
            go_wp2_with fail
            refine (nheal_ok hb.nt).mono ?_
            rintro e w4 ⟨rfl, hn4, hu4⟩
            have hb4 : NB w w4 N K v 4 ll (fun _ _ => false) := ⟨hn4, hb.unch.step hu4 (fun i hi hk => by have := hb.new i hk; omega), hb.new⟩
            clear hb hn4 hu4 hO hC hxc hyc
            go_wp2_with fail
            refine (nlen_ok hb4.nt m hm).mono ?_
            rintro e w5 ⟨rfl, rfl⟩
            by_cases hfull : 256 ≤ m
            · have z4 : (256 : Int) ≤ (m : Int) := by omega
              go_wp2
              go_ret
              exact ⟨rfl, hb4.unch⟩
            · have z4 : ¬ ((256 : Int) ≤ (m : Int)) := by omega
              go_wp2_with fail
              refine (nput_ok hb4.nt (by decide) x y htwo rfl (by omega) _).mono ?_
              rintro e w6 ⟨rfl, hL⟩
              obtain ⟨v6, hb6⟩ := hb4.left hL
              go_wp2
              go_ret
              exact ⟨rfl, hb6.unch⟩
set_option maxRecDepth 100000 in
set_option maxHeartbeats 1000000 in
theorem netCut_long (A : Option Addr) (len cap : Nat) (hlen : 100 < len) (p q : Int) (w : World) :
    Calls Try.prog 9 #[.slice A len cap, .int .u8 p, .int .u8 q] w (lawPost w) := by
  have k1 : (100 : Int) < (len : Int) := by omega
  go_enter Try.func9, Try.ntmps9
  go_wp2_with fail
  refine (nawake _).mono ?_
  rintro e w' ⟨rfl, hu⟩
  go_wp2
  go_ret
  exact ⟨rfl, hu⟩
theorem netCut_walk (A : Option Addr) (len cap : Nat) (l : List NAct) (p q : Int) (hp : 0 ≤ p ∧ p ≤ 255) (hq : 0 ≤ q ∧ q ≤ 255) (w : World) (hl : RdS w 5 NActR A len l) (hcap : len ≤ cap) :
    Calls Try.prog 9 #[.slice A len cap, .int .u8 p, .int .u8 q] w (lawPost w) := by
  by_cases hlen : 100 < len
  · exact netCut_long A len cap hlen p q w
  · obtain ⟨x, rfl⟩ : ∃ x : Nat, p = x := ⟨p.toNat, by omega⟩
    obtain ⟨y, rfl⟩ : ∃ y : Nat, q = y := ⟨q.toNat, by omega⟩
    exact netCut_core A len cap (by omega) l x y (by omega) (by omega) w hl hcap
end Go.Proofs.Ytmffpeblcaalgaa
