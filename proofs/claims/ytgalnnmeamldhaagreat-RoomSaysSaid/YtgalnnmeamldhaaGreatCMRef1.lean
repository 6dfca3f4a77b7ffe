/-
  palaverref15: Closed, Root, count.
-/
import Derived.Test.YtgalnnmeamldhaaGreatCMRd
import Derived.Deep.QuietTactic
/- palaverref15: Closed, Root, count. -/
set_option linter.unusedVariables false
set_option linter.unusedSimpArgs false
namespace Go.Proofs.YtgalnnmeamldhaaGreat
open Go Go.RowKit Go.Proofs.YtgalnnmeamldhaaGreat.Pal

/-- A quiet call: it hands v back and draws at most. -/
def Quiet (f : FuncId) (args : Array Value) (v : Value) (w : World) : Prop := ∀ m, Calls Tryz.prog f args (w.drewN m) fun e w'' => e = .returned v ∧ ∃ k, w'' = w.drewN k
theorem find_quiet {w : World} {A : Option Addr} {n c : Nat} {l : List Ent} (h : Ents w A n l) (hc : n ≤ c) (s : ByteArray) {v : Option Nat} (hv : findN l s = v) : Quiet 15 #[.slice A n c, .string s] (.int .i64 (optI v)) w := fun m => by
  subst hv
  exact (find_ok (h.fresh ((Unch.refl none_ w).drewN m)) hc s).mono fun e w'' ⟨h1, h2⟩ => ⟨h1, m, h2.symm⟩
theorem closedAt_eq (pre : List Ent) (e : Ent) : closedAt pre e = true ↔ 1 ≤ e.id.size ∧ e.id.size ≤ 64 ∧ findN pre e.id = none ∧ ∀ s ∈ e.ps, (findN pre s).isSome = true := by
  simp only [closedAt, Bool.and_eq_true, decide_eq_true_eq, Option.isNone_iff_eq_none, List.all_eq_true]
set_option maxRecDepth 100000 in
set_option maxHeartbeats 2000000 in
theorem rclosed_ok {w : World} {A : Option Addr} {n c : Nat} {l : List Ent} (h : Ents w A n l) (hc : n ≤ c) :
    Calls Tryz.prog 27 #[.slice A n c] w fun e w' => e = .returned (.bool (closedB l)) ∧ Unch none_ w w' := by
  have hlen := h.len
  by_cases hbig : 300 < n
  · have hr : closedB l = false := by unfold closedB; rw [decide_eq_false (by omega)]; rfl
    rw [hr]
    have z0 : (300 : Int) < (n : Int) := by omega
    go_enter Tryz.func27, Tryz.ntmps27
    go_wp2
    go_ret
    exact ⟨rfl, Unch.refl _ _⟩
  · have z0 : ¬ (300 : Int) < (n : Int) := by omega
    have hcb : closedB l = closedUpto l n := by unfold closedB; rw [decide_eq_true (by omega), hlen]; rfl
    rw [hcb]
    have HLEN := Lib.hid hlen
    clear hlen hcb
    go_enter Tryz.func27, Tryz.ntmps27
    go_wp2
    go_loopg [3] n (fun gk i wr => ∃ k : Nat, k ≤ n ∧ gk = n - k ∧ i = .int .i64 (k : Int) ∧ Unch none_ w wr ∧ closedUpto l k = true)
    case atStart => exact ⟨0, Nat.zero_le _, rfl, rfl, Unch.refl _ _, rfl⟩
    case round =>
      obtain ⟨k, hk, rfl, rfl, hu, hcu⟩ := hrel
      by_cases hkn : k < n
      · obtain ⟨e, he⟩ := get_some HLEN.out hkn
        have hw := h.fresh hu
        have hek : ent l k = e := ent_of he
        obtain ⟨b, o, rfl, hb, x0, x1, x2, x3, x4⟩ := hw.at he
        obtain ⟨⟨A2, c2, hpv, hpc, hps⟩, hs1, _, _, _⟩ := hw.ok e (List.mem_of_getElem? he)
        rw [hpv] at x3
        have z1 : (0 : Int) ≤ (k : Int) := by omega
        have z2 : (k : Int) < (n : Int) := by omega
        have z3 : (k : Int) ≤ (n : Int) := by omega
        have hbad : closedAt (l.take k) e = false → closedUpto l n = false := fun hf => by
          unfold closedUpto
          rw [List.all_eq_false]
          exact ⟨k, by simpa using hkn, by rw [hek, hf]; simp⟩
        have hgood : closedAt (l.take k) e = true → closedUpto l (k + 1) = true := fun hf => by rw [closedUpto_succ, hcu, hek, hf]; rfl
        have HBAD := Lib.hid hbad
        have HGOOD := Lib.hid hgood
        clear hbad hgood he hek hcu
        have hpre := hw.take k (by omega)
        have hkc : k ≤ c := by omega
        by_cases s0 : e.id.size < 1
        · have y0 : (e.id.size : Int) < 1 := by omega
          have hf := HBAD.out (by rw [Bool.eq_false_iff]; intro hh; have := (closedAt_eq _ _).1 hh; omega)
          have HF := Lib.hid hf
          clear hf
          go_wp2
          go_quiet (fail)
          go_wp2
          go_ret
          rw [HF.out]
          exact ⟨rfl, hu.drewN _⟩
        · have y0 : decide ((e.id.size : Int) < 1) = false := decide_eq_false (by omega)
          by_cases s1 : 64 < e.id.size
          · have y1 : decide ((64 : Int) < (e.id.size : Int)) = true := decide_eq_true (by omega)
            have hf := HBAD.out (by rw [Bool.eq_false_iff]; intro hh; have := (closedAt_eq _ _).1 hh; omega)
            have HF := Lib.hid hf
            clear hf s0 s1
            go_wp2
            go_quiet (fail)
            go_wp2
            go_ret
            rw [HF.out]
            exact ⟨rfl, hu.drewN _⟩
          · have y1 : decide ((64 : Int) < (e.id.size : Int)) = false := decide_eq_false (by omega)
            cases hfi : findN (l.take k) e.id with
            | some p =>
              have hq := find_quiet hpre hkc e.id hfi
              have HQ := Lib.hid hq
              have hf := HBAD.out (by rw [Bool.eq_false_iff]; intro hh; have := ((closedAt_eq _ _).1 hh).2.2.1; rw [hfi] at this; cases this)
              have HF := Lib.hid hf
              have y2 : decide (0 ≤ (p : Int)) = true := decide_eq_true (by omega)
              clear hf hq hfi s0 s1
              unfold optI at HQ
              go_wp2
              go_quiet ((go_at_call 15; exact HQ.out _))
              go_wp2
              go_ret
              rw [HF.out]
              exact ⟨rfl, hu.drewN _⟩
            | none =>
              have hq := find_quiet hpre hkc e.id hfi
              have HQ := Lib.hid hq
              have HFI := Lib.hid hfi
              have S0 := Lib.hid s0
              have S1 := Lib.hid s1
              clear hq hfi s0 s1
              unfold optI at HQ
              have HPV := Lib.hid hpv
              clear hpv
              go_wp2
              go_quiet ((go_at_call 15; exact HQ.out _))
              go_wp2
              obtain ⟨m, hm⟩ : ∃ m, e.ps.length = m := ⟨_, rfl⟩
              rw [hm] at x3 hpc hps
              have HM := Lib.hid hm
              clear hm
              have hmx := hps.max
              unfold maxLen at hmx
              go_loopg [4] m (fun gk i wr2 => ∃ j : Nat, j ≤ m ∧ gk = m - j ∧ i = .int .i64 (j : Int) ∧ Unch none_ wr wr2 ∧ ∀ s ∈ e.ps.take j, (findN (l.take k) s).isSome = true)
              case atStart => exact ⟨0, Nat.zero_le _, rfl, rfl, (Unch.refl _ _).drewN _, fun s hs => by simp at hs⟩
              case round =>
                obtain ⟨j, hj, rfl, rfl, hu2, hall⟩ := hrel
                have HALL := Lib.hid hall
                clear hall
                have x3' := hu2.cell x3 (fun h => h)
                by_cases hjm : j < m
                · obtain ⟨t, ht⟩ := get_some HM.out hjm
                  obtain ⟨b2, o2, rfl, hb2, y2⟩ := RdS.str (RdS.fresh hps hu2) ht
                  have z4 : (0 : Int) ≤ (j : Int) := by omega
                  have z5 : (j : Int) < (m : Int) := by omega
                  cases hft : findN (l.take k) t with
                  | some p =>
                    have HQ2 := Lib.hid (find_quiet (hpre.fresh hu2) hkc t hft)
                    have hnew : ∀ s ∈ e.ps.take (j + 1), (findN (l.take k) s).isSome = true := fun s hs => by
                      have hjl : j < e.ps.length := (List.getElem?_eq_some_iff.1 ht).1
                      rw [List.take_succ_eq_append_getElem hjl, (List.getElem?_eq_some_iff.1 ht).2] at hs
                      rcases List.mem_append.1 hs with h1 | h1
                      · exact HALL.out s h1
                      · simp at h1; rw [h1, hft]; rfl
                    have HNEW := Lib.hid hnew
                    have y3 : decide ((p : Int) < 0) = false := decide_eq_false (by omega)
                    clear hnew hft ht
                    unfold optI at HQ2
                    go_wp2
                    go_quiet ((go_at_call 15; exact HQ2.out _))
                    go_wp2
                    go_roundg (m - (j + 1))
                    case measure => omega
                    case rel => exact ⟨j + 1, by omega, rfl, by go_num, hu2.drewN _, HNEW.out⟩
                  | none =>
                    have HQ2 := Lib.hid (find_quiet (hpre.fresh hu2) hkc t hft)
                    have hf := HBAD.out (by rw [Bool.eq_false_iff]; intro hh; have := ((closedAt_eq _ _).1 hh).2.2.2 t (List.mem_of_getElem? ht); rw [hft] at this; cases this)
                    have HF := Lib.hid hf
                    clear hf hft ht
                    unfold optI at HQ2
                    go_wp2
                    go_quiet ((go_at_call 15; exact HQ2.out _))
                    go_wp2
                    go_ret
                    rw [HF.out]
                    exact ⟨rfl, (hu.trans hu2).drewN _⟩
                · obtain rfl : j = m := by omega
                  have hg := HGOOD.out ((closedAt_eq _ _).2 ⟨by have := S0.out; omega, by have := S1.out; omega, HFI.out, fun s hs => HALL.out s (by rw [List.take_of_length_le (by rw [HM.out]; exact Nat.le_refl _)]; exact hs)⟩)
                  have HG := Lib.hid hg
                  clear hg
                  go_wp2
                  go_roundg (n - (k + 1))
                  case measure => omega
                  case rel => exact ⟨k + 1, by omega, rfl, by go_num, hu.trans hu2, HG.out⟩
      · obtain rfl : k = n := by omega
        have HC := Lib.hid hcu
        clear hcu
        go_wp2
        go_ret
        rw [HC.out]
        exact ⟨rfl, hu⟩
end Go.Proofs.YtgalnnmeamldhaaGreat
