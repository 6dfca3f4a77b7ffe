/-
  event: whether an event is right.
-/
import Derived.Test.YtgcpoppinnnciaaGreatDoorCKY6
import Derived.Test.YtgcpoppinnnciaaGreatDoorCMRd
/- event: whether an event is right. -/
set_option linter.unusedVariables false
set_option linter.unusedSimpArgs false
set_option maxRecDepth 100000
namespace Go.Proofs.YtgcpoppinnnciaaGreatDoor
open Go Go.RowKit Go.Proofs.YtgcpoppinnnciaaGreatDoor.Pal Go.Proofs.YtgcpoppinnnciaaGreatDoor.Plan

structure Ev where
  kind : Int
  author : ByteArray
  ps : List ByteArray
  body : ByteArray
  sig : ByteArray
def evV (e : Ev) (A : Option Addr) (c : Nat) : Array Value := #[.int .i64 e.kind, .string e.author, .slice A e.ps.length c, .string e.body, .string e.sig]
def okP (ps : List ByteArray) (i : Nat) : Bool := decide ((ps.getD i ⟨#[]⟩).size = 32) && (decide (i = 0) || bl (ps.getD (i - 1) ⟨#[]⟩) (ps.getD i ⟨#[]⟩))
def kindF (e : Ev) : Bool := if e.kind = 1 then decide (e.ps.length = 0) else if e.kind = 4 ∨ e.kind = 5 then decide (e.body.size = 32) && decide (0 < e.ps.length) else if e.kind = 2 ∨ e.kind = 3 then decide (0 < e.ps.length) else false
/-- Whether an event is right. -/
def rightF (e : Ev) : Bool := (List.range e.ps.length).all (okP e.ps) && (kindF e && (decide (e.author.size = 32) && (decide (e.ps.length ≤ 8) && (decide (e.body.size ≤ 200) && decide (e.sig.size ≤ 65535)))))
theorem hash_ok (s : ByteArray) (w : World) : Calls Tryz.prog 114 #[.string s] w fun e w' => e = .returned (.bool (decide (s.size = 32))) ∧ w = w' := by
  have h : ((s.size : Int) == 32) = decide (s.size = 32) := by
    rw [Bool.eq_iff_iff, beq_iff_eq, decide_eq_true_eq]
    omega
  go_enter Tryz.func114, Tryz.ntmps114
  go_wp2
  go_ret
  exact ⟨by simp, rfl⟩
theorem str_geq (t : TypeId) (a b : ByteArray) (W : World) : (binOp .geq t (.string a) (.string b)).run Tryz.prog W = .ok (.bool (!bl a b)) W := by
  simp [binOp, Op.stringOp, bl]
theorem hash_at (s : ByteArray) {b : Bool} (h : decide (s.size = 32) = b) (w : World) : Calls Tryz.prog 114 #[.string s] w fun e w' => e = .returned (.bool b) ∧ w = w' := h ▸ hash_ok s w
theorem right_no {e : Ev} {k : Nat} (hk : k < e.ps.length) (h : okP e.ps k = false) : rightF e = false := by
  have : (List.range e.ps.length).all (okP e.ps) = false := by
    rw [List.all_eq_false]
    exact ⟨k, List.mem_range.2 hk, by rw [h]; decide⟩
  rw [rightF, this, Bool.false_and]
theorem right_all {e : Ev} (h : ∀ k, k < e.ps.length → okP e.ps k = true) : rightF e = (kindF e && (decide (e.author.size = 32) && (decide (e.ps.length ≤ 8) && (decide (e.body.size ≤ 200) && decide (e.sig.size ≤ 65535))))) := by
  have : (List.range e.ps.length).all (okP e.ps) = true := by
    rw [List.all_eq_true]
    exact fun k hk => h k (List.mem_range.1 hk)
  rw [rightF, this, Bool.true_and]
set_option maxHeartbeats 1000000 in
theorem right_ok (e : Ev) (A : Option Addr) (c : Nat) (w : World) (hr : RdS w 1 StrR A e.ps.length e.ps) (hn : e.ps.length ≤ 1000000) :
    Calls Tryz.prog 76 #[.agg (evV e A c)] w fun x w' => x = .returned (.bool (rightF e)) ∧ Unch none_ w w' := by
  obtain ⟨kind, author, ps, body, sig⟩ := e
  obtain ⟨res, hres⟩ : ∃ r, rightF ⟨kind, author, ps, body, sig⟩ = r := ⟨_, rfl⟩
  rw [hres]
  have HRES := Lib.hid hres
  clear hres
  have hu := (Unch.refl none_ w).alloc (.cells (evV ⟨kind, author, ps, body, sig⟩ A c) 50)
  have hb : (w.alloc (.cells (evV ⟨kind, author, ps, body, sig⟩ A c) 50)).heap[w.heap.size]? = _ := blk_new w _
  have hrw := RdS.fresh hr hu
  simp only [evV] at hu hb hrw hr hn ⊢
  obtain ⟨n, hpn⟩ : ∃ n, ps.length = n := ⟨_, rfl⟩
  rw [hpn] at hu hb hrw hr hn ⊢
  have c0 := blk_cell hb (j := 0) (v := .int .i64 kind) rfl
  have c1 := blk_cell hb (j := 1) (v := .string author) rfl
  have c2 := blk_cell hb (j := 2) (v := .slice A n c) rfl
  have c3 := blk_cell hb (j := 3) (v := .string body) rfl
  have c4 := blk_cell hb (j := 4) (v := .string sig) rfl
  have HPN := Lib.hid hpn
  have HU := Lib.hid hu
  have HRW := Lib.hid hrw
  go_enter Tryz.func76, Tryz.ntmps76
  clear hb hpn hu hrw hr
  go_wp2_with fail
  generalize w.alloc (.cells #[.int .i64 kind, .string author, .slice A n c, .string body, .string sig] 50) = w1 at *
  generalize w.heap.size = g at *
  go_loopg [3, 4, 8] n (fun gk _ _ i wr => ∃ (k : Nat), gk = n - k ∧ k ≤ n ∧ i = .int .i64 (k : Int) ∧ w1 = wr ∧ ∀ j, j < k → okP ps j = true)
  case atStart => exact ⟨0, rfl, by omega, rfl, rfl, fun j hj => by omega⟩
  case round =>
    obtain ⟨k, rfl, hk, rfl, rfl, hall⟩ := hrel
    have HALL := Lib.hid hall
    clear hall
    by_cases hkn : k < n
    · have y0 : (0 : Int) ≤ (k : Int) := by omega
      have y1 : (k : Int) < (n : Int) := by omega
      obtain ⟨p, hpk⟩ := get_some HPN.out hkn
      obtain ⟨bb, o, hA, _, x0⟩ := RdS.str HRW.out hpk
      have hpd : ps.getD k ⟨#[]⟩ = p := by rw [List.getD_eq_getElem?_getD, hpk]; rfl
      subst hA
      by_cases hsz : p.size = 32
      · have hh := hash_at p (b := true) (decide_eq_true hsz)
        have HH := Lib.hid hh
        clear hh
        by_cases hk0 : k = 0
        · have g0 : ¬ (0 : Int) < (k : Int) := by omega
          have hok : okP ps k = true := by unfold okP; rw [hpd]; simp [hsz, hk0]
          clear hk0 hpd hpk hsz
          go_wp2_with (go_at_call 114; refine (HH.out _).mono ?_; rintro _ w4 ⟨rfl, rfl⟩)
          go_roundg (n - (k + 1))
          case measure => omega
          case rel => exact ⟨k + 1, rfl, by omega, by go_num, rfl, fun j hj => by
            rcases Nat.lt_or_ge j k with h | h
            · exact HALL.out j h
            · rw [show j = k by omega]; exact hok⟩
        · have g0 : (0 : Int) < (k : Int) := by omega
          obtain ⟨q, hqk⟩ := get_some HPN.out (i := k - 1) (by omega)
          obtain ⟨bb2, o2, hA2, _, x1⟩ := RdS.str HRW.out hqk
          injection hA2 with hA2
          injection hA2 with h1 h2
          subst h1; subst h2
          have hqd : ps.getD (k - 1) ⟨#[]⟩ = q := by rw [List.getD_eq_getElem?_getD, hqk]; rfl
          have ek : (k : Int) - 1 = ((k - 1 : Nat) : Int) := by omega
          obtain ⟨k', hk'⟩ : ∃ k', k - 1 = k' := ⟨_, rfl⟩
          rw [hk'] at ek x1
          have z0 : (0 : Int) ≤ (k' : Int) := by omega
          have z1 : (k' : Int) < (n : Int) := by omega
          have hge := str_geq 9 q p
          cases hbl : bl q p with
          | true =>
            rw [hbl] at hge
            have hok : okP ps k = true := by unfold okP; rw [hpd, hqd]; simp [hsz, hbl]
            have hbl2 : Op.bytesLess q.toList p.toList = true := hbl
            simp only [Bool.not_true] at hge
            clear hbl hpd hqd hk' hpk hqk hsz hk0
            go_wp2_with (go_at_call 114; refine (HH.out _).mono ?_; rintro _ w4 ⟨rfl, rfl⟩)
            go_roundg (n - (k + 1))
            case measure => omega
            case rel => exact ⟨k + 1, rfl, by omega, by go_num, rfl, fun j hj => by
              rcases Nat.lt_or_ge j k with h | h
              · exact HALL.out j h
              · rw [show j = k by omega]; exact hok⟩
          | false =>
            rw [hbl] at hge
            have hok : okP ps k = false := by unfold okP; rw [hpd, hqd]; simp [hsz, hbl, hk0]
            have hbl2 : Op.bytesLess q.toList p.toList = false := hbl
            simp only [Bool.not_false] at hge
            have hR : res = false := by rw [← HRES.out]; exact right_no (by simp only []; rw [HPN.out]; exact hkn) hok
            subst hR
            clear hbl hpd hqd hk' hpk hqk hsz hk0 hok
            go_wp2_with (go_at_call 114; refine (HH.out _).mono ?_; rintro _ w4 ⟨rfl, rfl⟩)
            go_ret
            exact ⟨rfl, HU.out⟩
      · have hh := hash_at p (b := false) (decide_eq_false hsz)
        have HH := Lib.hid hh
        have hok : okP ps k = false := by unfold okP; rw [hpd]; simp [hsz]
        have hR : res = false := by rw [← HRES.out]; exact right_no (by simp only []; rw [HPN.out]; exact hkn) hok
        subst hR
        clear hh hok hpd hpk hsz
        go_wp2_with (go_at_call 114; refine (HH.out _).mono ?_; rintro _ w4 ⟨rfl, rfl⟩)
        go_ret
        exact ⟨rfl, HU.out⟩
    · obtain rfl : k = n := by omega
      have hres := HRES.out
      rw [right_all (fun j hj => HALL.out j (by simp only [] at hj; rw [HPN.out] at hj; exact hj))] at hres
      simp only [] at hres
      rw [HPN.out] at hres
      clear hk hkn
      obtain ⟨n, rfl⟩ : ∃ n', n' = k := ⟨_, rfl⟩
      have hcase : kind = 1 ∨ kind = 4 ∨ kind = 5 ∨ kind = 2 ∨ kind = 3 ∨ (kind ≠ 1 ∧ kind ≠ 4 ∧ kind ≠ 5 ∧ kind ≠ 2 ∧ kind ≠ 3) := by omega
      rcases hcase with rfl | rfl | rfl | rfl | rfl | ⟨k1, k4, k5, k2, k3⟩
      · by_cases n0 : n = 0
        · have g0 : ¬ (0 : Int) < (n : Int) := by omega
          have hkf : kindF ⟨1, author, ps, body, sig⟩ = true := by simp [kindF, HPN.out, n0]
          rw [hkf, Bool.true_and] at hres
          clear n0
          have a0 := hash_at author (b := decide (author.size = 32)) rfl
          by_cases h1 : author.size = 32
          · rw [decide_eq_true h1] at a0 hres
            by_cases h2 : n ≤ 8
            · have d2 : decide ((n : Int) ≤ 8) = true := decide_eq_true (by omega)
              rw [decide_eq_true h2] at hres
              by_cases h3 : body.size ≤ 200
              · have d3 : decide ((body.size : Int) ≤ 200) = true := decide_eq_true (by omega)
                rw [decide_eq_true h3] at hres
                by_cases h4 : sig.size ≤ 65535
                · have d4 : decide ((sig.size : Int) ≤ 65535) = true := decide_eq_true (by omega)
                  rw [decide_eq_true h4] at hres
                  have hR : res = true := by rw [← hres]; rfl
                  subst hR
                  have HA := Lib.hid a0
                  clear a0 hres
                  go_wp2_with (go_at_call 114; refine (HA.out _).mono ?_; rintro _ w4 ⟨rfl, rfl⟩)
                  go_ret
                  exact ⟨rfl, HU.out⟩
                · have d4 : decide ((sig.size : Int) ≤ 65535) = false := decide_eq_false (by omega)
                  rw [decide_eq_false h4] at hres
                  have hR : res = false := by rw [← hres]; rfl
                  subst hR
                  have HA := Lib.hid a0
                  clear a0 hres
                  go_wp2_with (go_at_call 114; refine (HA.out _).mono ?_; rintro _ w4 ⟨rfl, rfl⟩)
                  go_ret
                  exact ⟨rfl, HU.out⟩
              · have d3 : decide ((body.size : Int) ≤ 200) = false := decide_eq_false (by omega)
                rw [decide_eq_false h3] at hres
                have hR : res = false := by rw [← hres]; rfl
                subst hR
                have HA := Lib.hid a0
                clear a0 hres
                go_wp2_with (go_at_call 114; refine (HA.out _).mono ?_; rintro _ w4 ⟨rfl, rfl⟩)
                go_ret
                exact ⟨rfl, HU.out⟩
            · exfalso; omega
          · rw [decide_eq_false h1] at a0 hres
            have hR : res = false := by rw [← hres]; rfl
            subst hR
            have HA := Lib.hid a0
            clear a0 hres
            go_wp2_with (go_at_call 114; refine (HA.out _).mono ?_; rintro _ w4 ⟨rfl, rfl⟩)
            go_ret
            exact ⟨rfl, HU.out⟩
        · have g0 : (0 : Int) < (n : Int) := by omega
          have hkf : kindF ⟨1, author, ps, body, sig⟩ = false := by simp [kindF, HPN.out, n0]
          rw [hkf, Bool.false_and] at hres
          subst hres
          go_wp2_with fail
          go_ret
          exact ⟨rfl, HU.out⟩
      · by_cases b32 : body.size = 32
        · have hbd := hash_at body (b := true) (decide_eq_true b32)
          have HBD := Lib.hid hbd
          clear hbd
          by_cases n0 : n = 0
          · have g0 : ((n : Int) == 0) = true := by rw [beq_iff_eq]; omega
            have hkf : kindF ⟨4, author, ps, body, sig⟩ = false := by simp [kindF, HPN.out, n0]
            rw [hkf, Bool.false_and] at hres
            subst hres
            go_wp2_with (go_at_call 114; refine (HBD.out _).mono ?_; rintro _ w5 ⟨rfl, rfl⟩)
            go_ret
            exact ⟨rfl, HU.out⟩
          · have g0 : ((n : Int) == 0) = false := by rw [beq_eq_false_iff_ne]; omega
            have n1 : 0 < n := by omega
            have hkf : kindF ⟨4, author, ps, body, sig⟩ = true := by simp [kindF, HPN.out, n1, b32]
            rw [hkf, Bool.true_and] at hres
            clear n0 n1
            have hne : author ≠ body ∨ author = body := (Classical.em _).symm
            have a0 := hash_at author (b := decide (author.size = 32)) rfl
            by_cases h1 : author.size = 32
            · rw [decide_eq_true h1] at a0 hres
              by_cases h2 : n ≤ 8
              · have d2 : decide ((n : Int) ≤ 8) = true := decide_eq_true (by omega)
                rw [decide_eq_true h2] at hres
                by_cases h3 : body.size ≤ 200
                · have d3 : decide ((body.size : Int) ≤ 200) = true := decide_eq_true (by omega)
                  rw [decide_eq_true h3] at hres
                  by_cases h4 : sig.size ≤ 65535
                  · have d4 : decide ((sig.size : Int) ≤ 65535) = true := decide_eq_true (by omega)
                    rw [decide_eq_true h4] at hres
                    have hR : res = true := by rw [← hres]; rfl
                    subst hR
                    have HA := Lib.hid a0
                    clear a0 hres
                    go_wp2_with (first | (go_at_call 114; (with_reducible refine (HBD.out _).mono ?_); rintro _ w5 ⟨rfl, rfl⟩) | (go_at_call 114; refine (HA.out _).mono ?_; rintro _ w4 ⟨rfl, rfl⟩))
                    go_ret
                    exact ⟨rfl, HU.out⟩
                  · have d4 : decide ((sig.size : Int) ≤ 65535) = false := decide_eq_false (by omega)
                    rw [decide_eq_false h4] at hres
                    have hR : res = false := by rw [← hres]; rfl
                    subst hR
                    have HA := Lib.hid a0
                    clear a0 hres
                    go_wp2_with (first | (go_at_call 114; (with_reducible refine (HBD.out _).mono ?_); rintro _ w5 ⟨rfl, rfl⟩) | (go_at_call 114; refine (HA.out _).mono ?_; rintro _ w4 ⟨rfl, rfl⟩))
                    go_ret
                    exact ⟨rfl, HU.out⟩
                · exfalso; omega
              · have d2 : decide ((n : Int) ≤ 8) = false := decide_eq_false (by omega)
                rw [decide_eq_false h2] at hres
                have hR : res = false := by rw [← hres]; rfl
                subst hR
                have HA := Lib.hid a0
                clear a0 hres
                go_wp2_with (first | (go_at_call 114; (with_reducible refine (HBD.out _).mono ?_); rintro _ w5 ⟨rfl, rfl⟩) | (go_at_call 114; refine (HA.out _).mono ?_; rintro _ w4 ⟨rfl, rfl⟩))
                go_ret
                exact ⟨rfl, HU.out⟩
            · rw [decide_eq_false h1] at a0 hres
              have hR : res = false := by rw [← hres]; rfl
              subst hR
              have HA := Lib.hid a0
              clear a0 hres
              go_wp2_with (first | (go_at_call 114; (with_reducible refine (HBD.out _).mono ?_); rintro _ w5 ⟨rfl, rfl⟩) | (go_at_call 114; refine (HA.out _).mono ?_; rintro _ w4 ⟨rfl, rfl⟩))
              go_ret
              exact ⟨rfl, HU.out⟩
        · have hbd := hash_at body (b := false) (decide_eq_false b32)
          have HBD := Lib.hid hbd
          clear hbd
          have hkf : kindF ⟨4, author, ps, body, sig⟩ = false := by simp [kindF, b32]
          rw [hkf, Bool.false_and] at hres
          subst hres
          go_wp2_with (go_at_call 114; refine (HBD.out _).mono ?_; rintro _ w5 ⟨rfl, rfl⟩)
          go_ret
          exact ⟨rfl, HU.out⟩
      · by_cases b32 : body.size = 32
        · have hbd := hash_at body (b := true) (decide_eq_true b32)
          have HBD := Lib.hid hbd
          clear hbd
          by_cases n0 : n = 0
          · have g0 : ((n : Int) == 0) = true := by rw [beq_iff_eq]; omega
            have hkf : kindF ⟨5, author, ps, body, sig⟩ = false := by simp [kindF, HPN.out, n0]
            rw [hkf, Bool.false_and] at hres
            subst hres
            go_wp2_with (go_at_call 114; refine (HBD.out _).mono ?_; rintro _ w5 ⟨rfl, rfl⟩)
            go_ret
            exact ⟨rfl, HU.out⟩
          · have g0 : ((n : Int) == 0) = false := by rw [beq_eq_false_iff_ne]; omega
            have n1 : 0 < n := by omega
            have hkf : kindF ⟨5, author, ps, body, sig⟩ = true := by simp [kindF, HPN.out, n1, b32]
            rw [hkf, Bool.true_and] at hres
            clear n0 n1
            have hne : author ≠ body ∨ author = body := (Classical.em _).symm
            have a0 := hash_at author (b := decide (author.size = 32)) rfl
            by_cases h1 : author.size = 32
            · rw [decide_eq_true h1] at a0 hres
              by_cases h2 : n ≤ 8
              · have d2 : decide ((n : Int) ≤ 8) = true := decide_eq_true (by omega)
                rw [decide_eq_true h2] at hres
                by_cases h3 : body.size ≤ 200
                · have d3 : decide ((body.size : Int) ≤ 200) = true := decide_eq_true (by omega)
                  rw [decide_eq_true h3] at hres
                  by_cases h4 : sig.size ≤ 65535
                  · have d4 : decide ((sig.size : Int) ≤ 65535) = true := decide_eq_true (by omega)
                    rw [decide_eq_true h4] at hres
                    have hR : res = true := by rw [← hres]; rfl
                    subst hR
                    have HA := Lib.hid a0
                    clear a0 hres
                    go_wp2_with (first | (go_at_call 114; (with_reducible refine (HBD.out _).mono ?_); rintro _ w5 ⟨rfl, rfl⟩) | (go_at_call 114; refine (HA.out _).mono ?_; rintro _ w4 ⟨rfl, rfl⟩))
                    go_ret
                    exact ⟨rfl, HU.out⟩
                  · have d4 : decide ((sig.size : Int) ≤ 65535) = false := decide_eq_false (by omega)
                    rw [decide_eq_false h4] at hres
                    have hR : res = false := by rw [← hres]; rfl
                    subst hR
                    have HA := Lib.hid a0
                    clear a0 hres
                    go_wp2_with (first | (go_at_call 114; (with_reducible refine (HBD.out _).mono ?_); rintro _ w5 ⟨rfl, rfl⟩) | (go_at_call 114; refine (HA.out _).mono ?_; rintro _ w4 ⟨rfl, rfl⟩))
                    go_ret
                    exact ⟨rfl, HU.out⟩
                · exfalso; omega
              · have d2 : decide ((n : Int) ≤ 8) = false := decide_eq_false (by omega)
                rw [decide_eq_false h2] at hres
                have hR : res = false := by rw [← hres]; rfl
                subst hR
                have HA := Lib.hid a0
                clear a0 hres
                go_wp2_with (first | (go_at_call 114; (with_reducible refine (HBD.out _).mono ?_); rintro _ w5 ⟨rfl, rfl⟩) | (go_at_call 114; refine (HA.out _).mono ?_; rintro _ w4 ⟨rfl, rfl⟩))
                go_ret
                exact ⟨rfl, HU.out⟩
            · rw [decide_eq_false h1] at a0 hres
              have hR : res = false := by rw [← hres]; rfl
              subst hR
              have HA := Lib.hid a0
              clear a0 hres
              go_wp2_with (first | (go_at_call 114; (with_reducible refine (HBD.out _).mono ?_); rintro _ w5 ⟨rfl, rfl⟩) | (go_at_call 114; refine (HA.out _).mono ?_; rintro _ w4 ⟨rfl, rfl⟩))
              go_ret
              exact ⟨rfl, HU.out⟩
        · have hbd := hash_at body (b := false) (decide_eq_false b32)
          have HBD := Lib.hid hbd
          clear hbd
          have hkf : kindF ⟨5, author, ps, body, sig⟩ = false := by simp [kindF, b32]
          rw [hkf, Bool.false_and] at hres
          subst hres
          go_wp2_with (go_at_call 114; refine (HBD.out _).mono ?_; rintro _ w5 ⟨rfl, rfl⟩)
          go_ret
          exact ⟨rfl, HU.out⟩
      · by_cases n0 : n = 0
        · have g0 : ((n : Int) == 0) = true := by rw [beq_iff_eq]; omega
          have hkf : kindF ⟨2, author, ps, body, sig⟩ = false := by simp [kindF, HPN.out, n0]
          rw [hkf, Bool.false_and] at hres
          subst hres
          go_wp2_with fail
          go_ret
          exact ⟨rfl, HU.out⟩
        · have g0 : ((n : Int) == 0) = false := by rw [beq_eq_false_iff_ne]; omega
          have n1 : 0 < n := by omega
          have hkf : kindF ⟨2, author, ps, body, sig⟩ = true := by simp [kindF, HPN.out, n1]
          rw [hkf, Bool.true_and] at hres
          clear n0 n1
          have a0 := hash_at author (b := decide (author.size = 32)) rfl
          by_cases h1 : author.size = 32
          · rw [decide_eq_true h1] at a0 hres
            by_cases h2 : n ≤ 8
            · have d2 : decide ((n : Int) ≤ 8) = true := decide_eq_true (by omega)
              rw [decide_eq_true h2] at hres
              by_cases h3 : body.size ≤ 200
              · have d3 : decide ((body.size : Int) ≤ 200) = true := decide_eq_true (by omega)
                rw [decide_eq_true h3] at hres
                by_cases h4 : sig.size ≤ 65535
                · have d4 : decide ((sig.size : Int) ≤ 65535) = true := decide_eq_true (by omega)
                  rw [decide_eq_true h4] at hres
                  have hR : res = true := by rw [← hres]; rfl
                  subst hR
                  have HA := Lib.hid a0
                  clear a0 hres
                  go_wp2_with (go_at_call 114; refine (HA.out _).mono ?_; rintro _ w4 ⟨rfl, rfl⟩)
                  go_ret
                  exact ⟨rfl, HU.out⟩
                · have d4 : decide ((sig.size : Int) ≤ 65535) = false := decide_eq_false (by omega)
                  rw [decide_eq_false h4] at hres
                  have hR : res = false := by rw [← hres]; rfl
                  subst hR
                  have HA := Lib.hid a0
                  clear a0 hres
                  go_wp2_with (go_at_call 114; refine (HA.out _).mono ?_; rintro _ w4 ⟨rfl, rfl⟩)
                  go_ret
                  exact ⟨rfl, HU.out⟩
              · have d3 : decide ((body.size : Int) ≤ 200) = false := decide_eq_false (by omega)
                rw [decide_eq_false h3] at hres
                have hR : res = false := by rw [← hres]; rfl
                subst hR
                have HA := Lib.hid a0
                clear a0 hres
                go_wp2_with (go_at_call 114; refine (HA.out _).mono ?_; rintro _ w4 ⟨rfl, rfl⟩)
                go_ret
                exact ⟨rfl, HU.out⟩
            · have d2 : decide ((n : Int) ≤ 8) = false := decide_eq_false (by omega)
              rw [decide_eq_false h2] at hres
              have hR : res = false := by rw [← hres]; rfl
              subst hR
              have HA := Lib.hid a0
              clear a0 hres
              go_wp2_with (go_at_call 114; refine (HA.out _).mono ?_; rintro _ w4 ⟨rfl, rfl⟩)
              go_ret
              exact ⟨rfl, HU.out⟩
          · rw [decide_eq_false h1] at a0 hres
            have hR : res = false := by rw [← hres]; rfl
            subst hR
            have HA := Lib.hid a0
            clear a0 hres
            go_wp2_with (go_at_call 114; refine (HA.out _).mono ?_; rintro _ w4 ⟨rfl, rfl⟩)
            go_ret
            exact ⟨rfl, HU.out⟩
      · by_cases n0 : n = 0
        · have g0 : ((n : Int) == 0) = true := by rw [beq_iff_eq]; omega
          have hkf : kindF ⟨3, author, ps, body, sig⟩ = false := by simp [kindF, HPN.out, n0]
          rw [hkf, Bool.false_and] at hres
          subst hres
          go_wp2_with fail
          go_ret
          exact ⟨rfl, HU.out⟩
        · have g0 : ((n : Int) == 0) = false := by rw [beq_eq_false_iff_ne]; omega
          have n1 : 0 < n := by omega
          have hkf : kindF ⟨3, author, ps, body, sig⟩ = true := by simp [kindF, HPN.out, n1]
          rw [hkf, Bool.true_and] at hres
          clear n0 n1
          have a0 := hash_at author (b := decide (author.size = 32)) rfl
          by_cases h1 : author.size = 32
          · rw [decide_eq_true h1] at a0 hres
            by_cases h2 : n ≤ 8
            · have d2 : decide ((n : Int) ≤ 8) = true := decide_eq_true (by omega)
              rw [decide_eq_true h2] at hres
              by_cases h3 : body.size ≤ 200
              · have d3 : decide ((body.size : Int) ≤ 200) = true := decide_eq_true (by omega)
                rw [decide_eq_true h3] at hres
                by_cases h4 : sig.size ≤ 65535
                · have d4 : decide ((sig.size : Int) ≤ 65535) = true := decide_eq_true (by omega)
                  rw [decide_eq_true h4] at hres
                  have hR : res = true := by rw [← hres]; rfl
                  subst hR
                  have HA := Lib.hid a0
                  clear a0 hres
                  go_wp2_with (go_at_call 114; refine (HA.out _).mono ?_; rintro _ w4 ⟨rfl, rfl⟩)
                  go_ret
                  exact ⟨rfl, HU.out⟩
                · have d4 : decide ((sig.size : Int) ≤ 65535) = false := decide_eq_false (by omega)
                  rw [decide_eq_false h4] at hres
                  have hR : res = false := by rw [← hres]; rfl
                  subst hR
                  have HA := Lib.hid a0
                  clear a0 hres
                  go_wp2_with (go_at_call 114; refine (HA.out _).mono ?_; rintro _ w4 ⟨rfl, rfl⟩)
                  go_ret
                  exact ⟨rfl, HU.out⟩
              · have d3 : decide ((body.size : Int) ≤ 200) = false := decide_eq_false (by omega)
                rw [decide_eq_false h3] at hres
                have hR : res = false := by rw [← hres]; rfl
                subst hR
                have HA := Lib.hid a0
                clear a0 hres
                go_wp2_with (go_at_call 114; refine (HA.out _).mono ?_; rintro _ w4 ⟨rfl, rfl⟩)
                go_ret
                exact ⟨rfl, HU.out⟩
            · have d2 : decide ((n : Int) ≤ 8) = false := decide_eq_false (by omega)
              rw [decide_eq_false h2] at hres
              have hR : res = false := by rw [← hres]; rfl
              subst hR
              have HA := Lib.hid a0
              clear a0 hres
              go_wp2_with (go_at_call 114; refine (HA.out _).mono ?_; rintro _ w4 ⟨rfl, rfl⟩)
              go_ret
              exact ⟨rfl, HU.out⟩
          · rw [decide_eq_false h1] at a0 hres
            have hR : res = false := by rw [← hres]; rfl
            subst hR
            have HA := Lib.hid a0
            clear a0 hres
            go_wp2_with (go_at_call 114; refine (HA.out _).mono ?_; rintro _ w4 ⟨rfl, rfl⟩)
            go_ret
            exact ⟨rfl, HU.out⟩
      · have e1 : (kind == 1) = false := by rw [beq_eq_false_iff_ne]; exact k1
        have e2 : (kind == 2) = false := by rw [beq_eq_false_iff_ne]; exact k2
        have e3 : (kind == 3) = false := by rw [beq_eq_false_iff_ne]; exact k3
        have e4 : (kind == 4) = false := by rw [beq_eq_false_iff_ne]; exact k4
        have e5 : (kind == 5) = false := by rw [beq_eq_false_iff_ne]; exact k5
        have hkf : kindF ⟨kind, author, ps, body, sig⟩ = false := by simp [kindF, k1, k2, k3, k4, k5]
        rw [hkf, Bool.false_and] at hres
        subst hres
        clear k1 k2 k3 k4 k5
        go_wp2_with fail
        go_ret
        exact ⟨rfl, HU.out⟩
end Go.Proofs.YtgcpoppinnnciaaGreatDoor
