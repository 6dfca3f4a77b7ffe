/-
  MemberCloseds: any entries at all.
-/
import Derived.Test.YtgalnnmeamldhaaCLA2
/- MemberCloseds: any entries at all. -/
set_option linter.unusedVariables false
set_option linter.unusedSimpArgs false
namespace Go.Proofs.Ytgalnnmeamldhaa
open Go Go.RowKit Go.Proofs.Ytgalnnmeamldhaa.Pal Go.Proofs.Ytgalnnmeamldhaa.Plan

def StrRS (s : ByteArray) (c : List Value) : Prop := c = [.string s] ∧ s.size ≤ maxLen
def EntRW (w : World) (e : Ent) (c : List Value) : Prop := EntR e c ∧ EntOk w e
theorem open_strs {H : Type} {enc : TypeId × Value → H} {w : World} {base : Nat} {spare : Nat → Bool} {held : Bool} (fuel : Nat) (cs : List Value) (y : DataW H × List MemPlace)
    (h : DataW.trod enc Try.prog w base spare held fuel 9 cs = some y) : ∃ z : ByteArray, StrRS z cs := by
  obtain ⟨m0, h0, _, w0⟩ := DataW.trod_string Try.underlying9 h
  exact ⟨m0, h0, w0⟩
set_option maxRecDepth 100000 in
theorem open_ent {H : Type} {enc : TypeId × Value → H} {w : World} {base : Nat} {spare : Nat → Bool} {held : Bool} (fuel : Nat) (cs : List Value) (y : DataW H × List MemPlace)
    (h : DataW.trod enc Try.prog w base spare held fuel 40 cs = some y) : ∃ z : Ent, EntRW w z cs := by
  obtain ⟨xs, n, rfl, _, hl, hxl, hf⟩ := DataW.trod_struct Try.underlying40 h
  obtain ⟨c0, c1, c2, c3, c4, rfl⟩ := list5 (show cs.length = 5 from hl)
  obtain ⟨x0, e0⟩ := get_some (n := 5) hxl (i := 0) (by decide)
  obtain ⟨x1, e1⟩ := get_some (n := 5) hxl (i := 1) (by decide)
  obtain ⟨x2, e2⟩ := get_some (n := 5) hxl (i := 2) (by decide)
  obtain ⟨x3, e3⟩ := get_some (n := 5) hxl (i := 3) (by decide)
  obtain ⟨x4, e4⟩ := get_some (n := 5) hxl (i := 4) (by decide)
  obtain ⟨m0, h0, _, w0⟩ := DataW.trod_string Try.underlying9 ((hf 0 _ rfl).trans e0)
  obtain ⟨m1, h1, _, w1⟩ := DataW.trod_int Try.underlying3 ((hf 1 _ rfl).trans e1)
  obtain ⟨m2, h2, _, w2⟩ := DataW.trod_string Try.underlying9 ((hf 2 _ rfl).trans e2)
  obtain ⟨A, len, cap, ys, h3, hlc, _, hrd⟩ := open_slice Try.underlying36 (by kernel_rfl) (by decide : 0 < 1) StrRS open_strs ((hf 3 _ rfl).trans e3)
  obtain ⟨m4, h4, _, w4⟩ := DataW.trod_string Try.underlying9 ((hf 4 _ rfl).trans e4)
  have h0' : [c0] = [.string m0] := h0
  have h1' : [c1] = [.int .i64 m1] := h1
  have h2' : [c2] = [.string m2] := h2
  have h3' : [c3] = [.slice A len cap] := h3
  have h4' : [c4] = [.string m4] := h4
  injection h0' with h0'
  injection h1' with h1'
  injection h2' with h2'
  injection h3' with h3'
  injection h4' with h4'
  subst h0'; subst h1'; subst h2'; subst h3'; subst h4'
  have hlen := hrd.len
  subst hlen
  refine ⟨⟨m0, m1, m2, .slice A ys.length cap, ys, m4⟩, rfl, ⟨A, cap, rfl, hlc, hrd.unch (Unch.refl none_ w) (fun _ _ h => h) (fun _ _ h => h.1)⟩, w0, w2, w4, fun p hp => ?_⟩
  obtain ⟨i, hi⟩ := List.mem_iff_getElem?.1 hp
  obtain ⟨b, o, c, _, _, _, hr, _⟩ := hrd.at hi
  exact hr.2
theorem ents_of {w : World} {A : Option Addr} {n : Nat} {l : List Ent} (h : RdS w 5 (EntRW w) A n l) : Ents w A n l :=
  ⟨h.unch (Unch.refl none_ w) (fun _ _ h => h) (fun _ _ h => h.1), fun x hx => by
    obtain ⟨i, hi⟩ := List.mem_iff_getElem?.1 hx
    obtain ⟨b, o, c, _, _, _, hr, _⟩ := h.at hi
    exact hr.2⟩
set_option maxRecDepth 100000 in
set_option maxHeartbeats 4000000 in
theorem memberCloseds_walk (room : ByteArray) (A : Option Addr) (n c : Nat) (l : List Ent) (w : World) (hmax : room.size ≤ maxLen) (h : RdS w 5 (EntRW w) A n l) (hc : n ≤ c) :
    Calls Try.prog 6 #[.string room, .slice A n c] w fun e w' => e = .returned (.bool true) ∧ Unch none_ w w' := by
  have he := ents_of h
  have hlen := he.len
  have hn := h.max
  unfold maxLen at hn
  have HE := Lib.hid he
  have HL := Lib.hid hlen
  clear h he hlen
  by_cases hn16 : 16 < n
  · have z0 : (16 : Int) < (n : Int) := by omega
    go_enter Try.func6, Try.ntmps6
    go_wp2_with fail
    refine (awake_ok w).mono ?_
    rintro e w6 ⟨rfl, hu6⟩
    go_wp2
    go_ret
    exact ⟨rfl, hu6⟩
  · have z0 : ¬ (16 : Int) < (n : Int) := by omega
    go_enter Try.func6, Try.ntmps6
    go_wp2_with fail
    go_loopg [5] n (fun gk i5 wr => ∃ k : Nat, gk = n - k ∧ k ≤ n ∧ i5 = .int .i64 (k : Int) ∧ w = wr)
    case atStart => exact ⟨0, rfl, Nat.zero_le _, rfl, rfl⟩
    case round =>
      obtain ⟨k, rfl, hk, rfl, rfl⟩ := hrel
      by_cases hkn : k < n
      · have hkl : k < l.length := by rw [HL.out]; exact hkn
        have z1 : (k : Int) < (n : Int) := by omega
        have z2 : (0 : Int) ≤ (k : Int) := by omega
        obtain ⟨b, o, rfl, _, x0, x1, x2, x3, x4⟩ := HE.out.at (ent_get hkl)
        obtain ⟨A2, c2, hpv, hc2, hrp⟩ := (HE.out.ok _ (List.mem_of_getElem? (ent_get hkl))).ps
        obtain ⟨np, hnp⟩ : ∃ np, (ent l k).ps.length = np := ⟨_, rfl⟩
        rw [hpv, hnp] at x3
        have hpm := hrp.max
        rw [hnp] at hpm
        unfold maxLen at hpm
        clear hrp hpv x0 x1 x2 x4 hnp
        by_cases h30 : 30 < np
        · have z3 : (30 : Int) < (np : Int) := by omega
          go_wp2_with fail
          refine (awake_ok w).mono ?_
          rintro e w6 ⟨rfl, hu6⟩
          go_wp2
          go_ret
          exact ⟨rfl, hu6⟩
        · have z3 : ¬ (30 : Int) < (np : Int) := by omega
          go_wp2
          go_roundg (n - (k + 1))
          case measure => omega
          case rel => exact ⟨k + 1, rfl, by omega, by go_num, rfl⟩
      · obtain rfl : k = n := by omega
        have HRC := Lib.hid (rclosed_ok HE.out hc)
        go_wp2_with fail
        refine HRC.out.mono ?_
        rintro e w1 ⟨rfl, hu1⟩
        have HPC := Lib.hid (pClosed_ok (HE.out.fresh hu1) hc)
        have HU1 := Lib.hid hu1
        clear hu1 HRC
        go_wp2_with fail
        refine HPC.out.mono ?_
        rintro e w2 ⟨rfl, hu2⟩
        have HU2 := Lib.hid (HU1.out.trans hu2)
        clear hu2 HPC HU1
        have hnil : (closedB l = true → rootN room l = none) → ∀ W, Unch none_ w W → Calls Try.prog 21 #[.string room, .slice A k c] W (fun e w' => e = .returned (.slice none 0 0) ∧ Unch none_ W w') ∧ Calls Try.prog 15 #[.string room, .slice A k c] W (fun e w' => e = .returned (.slice none 0 0) ∧ Unch none_ W w') ∧ Calls Try.prog 19 #[.string room, .slice A k c] W (fun e w' => e = .returned (.slice none 0 0) ∧ Unch none_ W w') :=
          fun hb W hW => ⟨good_nil (HE.out.fresh hW) hc room hb, holds_nil (HE.out.fresh hW) hc room hb, members_nil (HE.out.fresh hW) hc room hb⟩
        have HN := Lib.hid hnil
        clear hnil
        cases hcl : closedB l with
        | false =>
          have HNN := Lib.hid (HN.out (fun h => by rw [hcl] at h; cases h))
          clear hcl HN
          have HG := Lib.hid (HNN.out _ HU2.out).1
          go_wp2_with fail
          refine HG.out.mono ?_
          rintro e w3 ⟨rfl, hu3⟩
          have HU3 := Lib.hid (HU2.out.trans hu3)
          have HH := Lib.hid (HNN.out _ HU3.out).2.1
          clear hu3 HG
          go_wp2_with fail
          refine HH.out.mono ?_
          rintro e w4 ⟨rfl, hu4⟩
          have HU4 := Lib.hid (HU3.out.trans hu4)
          have HM := Lib.hid (HNN.out _ HU4.out).2.2
          clear hu4 HH
          go_wp2_with fail
          refine HM.out.mono ?_
          rintro e w5 ⟨rfl, hu5⟩
          have HU5 := Lib.hid (HU4.out.trans hu5)
          clear hu5 HM
          go_wp2_with fail
          refine (awake_ok _).mono ?_
          rintro e w6 ⟨rfl, hu6⟩
          go_wp2
          go_ret
          exact ⟨rfl, HU5.out.trans hu6⟩
        | true =>
          have HRT := Lib.hid (rroot_ok (HE.out.fresh HU2.out) hc room)
          go_wp2_with fail
          refine HRT.out.mono ?_
          rintro e w7 ⟨rfl, hu7⟩
          have HU7 := Lib.hid (HU2.out.trans hu7)
          clear hu7 HRT HU2
          cases hr : rootN room l with
          | none =>
            have HNN := Lib.hid (HN.out (fun _ => hr))
            simp only [optI]
            clear hcl HN hr
            have HG := Lib.hid (HNN.out _ HU7.out).1
            go_wp2_with fail
            refine HG.out.mono ?_
            rintro e w3 ⟨rfl, hu3⟩
            have HU3 := Lib.hid (HU7.out.trans hu3)
            have HH := Lib.hid (HNN.out _ HU3.out).2.1
            clear hu3 HG
            go_wp2_with fail
            refine HH.out.mono ?_
            rintro e w4 ⟨rfl, hu4⟩
            have HU4 := Lib.hid (HU3.out.trans hu4)
            have HM := Lib.hid (HNN.out _ HU4.out).2.2
            clear hu4 HH
            go_wp2_with fail
            refine HM.out.mono ?_
            rintro e w5 ⟨rfl, hu5⟩
            have HU5 := Lib.hid (HU4.out.trans hu5)
            clear hu5 HM
            go_wp2_with fail
            refine (awake_ok _).mono ?_
            rintro e w6 ⟨rfl, hu6⟩
            go_wp2
            go_ret
            exact ⟨rfl, HU5.out.trans hu6⟩
          | some r =>
            have h3 : k ≤ 300 := by rw [← HL.out]; exact (closed_iff.1 hcl).len
            have HG := Lib.hid (good_ok (HE.out.fresh HU7.out) hc room hmax hcl hr)
            have HOF : Hid (∀ W, Unch none_ w W → Calls Try.prog 16 #[.string room, .slice A k c] W fun e w' => (∃ p, e = .returned (setV p (goodS l r)) ∧ p.AL = A ∧ p.n = k ∧ SetOk w' p (goodS l r)) ∧ Unch none_ W w') := Lib.hid fun W hW => of_ok (HE.out.fresh hW) hc (closed_iff.1 hcl) room hr
            simp only [optI]
            have zr : ¬ (r : Int) < 0 := by omega
            clear hcl HN hr
            go_wp2_with fail
            refine HG.out.mono ?_
            rintro e w3 ⟨g, rfl, hb, hg, hu3⟩
            have HB := Lib.hid (hb.rds (Nat.le_trans h3 (by decide)))
            have HU3 := Lib.hid (HU7.out.trans hu3)
            have HO := Lib.hid (HOF.out _ HU3.out)
            clear hb hg hu3 HG
            go_wp2_with fail
            refine HO.out.mono ?_
            rintro e w4 ⟨⟨p, rfl, hpA, hpn, hset⟩, hu4⟩
            have hin : RdS w4 1 BoolR p.AI k ((List.range k).map (goodL l r)) := by have := hset.inn; rw [hpn] at this; exact this
            have hsame := lawsame_ok (c := k) (d := p.cI) (RdS.fresh HB.out hu4) hin
            rw [decide_eq_true rfl] at hsame
            have HS := Lib.hid hsame
            have HU4 := Lib.hid (HU3.out.trans hu4)
            have HPN := Lib.hid hpn
            clear hset hu4 hpA hpn hin hsame
            unfold setV setC at *
            rw [HPN.out]
            have hfd := field_in (.slice p.AL k p.cL) (.slice p.AP k p.cP) (.int .i64 ((goodS l r).r : Int)) (.slice p.AI k p.cI) w4
            go_wp2_with fail
            refine HS.out.mono ?_
            rintro e w5 ⟨rfl, hu5⟩
            go_wp2_with fail
            refine (awake_ok w5).mono ?_
            rintro e w6 ⟨rfl, hu6⟩
            go_wp2
            go_ret
            exact ⟨rfl, (HU4.out.trans hu5).trans hu6⟩
end Go.Proofs.Ytgalnnmeamldhaa
