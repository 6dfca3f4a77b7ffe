/-
  dag.Add once more, told whose the parents' row is; slices.Compact as a row.
  dag.Heads.
-/
import Derived.Test.YtgcpoppinnnciaaGreatDoorCDG4
import Derived.Test.YtgcpoppinnnciaaGreatDoorCKM2
import Derived.Test.YtgcpoppinnnciaaGreatDoorCMP3
/- dag.Add once more, told whose the parents' row is; slices.Compact as a row. -/
set_option linter.unusedVariables false
set_option linter.unusedSimpArgs false
namespace Go.Proofs.YtgcpoppinnnciaaGreatDoor
open Go Go.RowKit Go.Proofs.YtgcpoppinnnciaaGreatDoor.Pal Go.Proofs.YtgcpoppinnnciaaGreatDoor.Plan

set_option maxHeartbeats 1000000 in
theorem compactR_ok {w : World} {v : Value} {m : Nat} {L xs : List ByteArray} (hrow : Row w 9 1 v m (sv L)) (hm3 : m ≤ 1048576) (hp : L.Perm xs) (hs : L.Pairwise fun a b => bl b a = false) :
    Calls Tryz.prog 37 #[v] w fun e w' => ∃ A k c, e = .returned (.slice A k c) ∧ k ≤ c ∧ Row w' 9 1 (.slice A k c) k (sv (sortS xs)) ∧ (∀ g, (Value.slice A k c).ownBlock = some g → v.ownBlock = some g) ∧ Unch (fun k => v.ownBlock = some k) w w' := by
  have hlen : L.length = m := by have := hrow.1; rw [sv_len] at this; omega
  have hcs := compact_sortS hp hs
  rcases Nat.eq_zero_or_pos m with h0 | hpos
  · subst h0
    have hL : L = [] := List.eq_nil_of_length_eq_zero hlen
    subst hL
    have hx : xs = [] := (List.nil_perm.1 hp)
    subst hx
    obtain ⟨B, cc, hv, hcc⟩ := hrow.slice
    rw [hv] at hrow ⊢
    have HR := Lib.hid hrow
    clear hrow hcs hp hs
    go_enter Tryz.func37, Tryz.ntmps37
    go_wp2
    go_ret
    exact ⟨B, 0, cc, rfl, hcc, HR.out, fun g h => h, Unch.refl _ _⟩
  · obtain ⟨h1, hform⟩ := hrow
    rcases hform with ⟨_, h0⟩ | ⟨blk, off, c, cur, hv, hblk, hn, hm2, hs2, htake⟩
    · omega
    subst hv
    have hrow : Row w 9 1 (.slice (some ⟨blk, off, none⟩) m c) m (sv L) := ⟨h1, .inr ⟨blk, off, c, cur, rfl, hblk, hn, hm2, hs2, htake⟩⟩
    have hH : Sort.Holds Value.string w blk off L.toArray := by
      intro j hj
      have hj' : j < L.length := by simpa using hj
      refine ⟨?_, blk_free hblk _⟩
      rw [getElem!_pos L.toArray j hj]
      exact hrow.at rfl (sv_get (List.getElem?_eq_getElem hj'))
    have hcon := AnyE.slices_Compact (ρ := Tryz.compS_ren) Tryz.compS Value.string (fun x => rfl) eql_str neq_str ⟨#[]⟩ (fun w => zero_of _ _ (by kernel_rfl) w) blk off c L.toArray w hH (by simp; omega) (by simp; omega)
    rw [show L.toArray.size = L.length by simp, hcs, hlen] at hcon
    refine Calls.mono hcon ?_
    rintro e w' ⟨rfl, q, rfl⟩
    have hkl : (sortS xs).length ≤ m := by rw [← hlen, hp.length_eq]; exact sortS_len xs
    have hbw := put_heap' Value.string w blk off q ((sortS xs ++ List.replicate (m - (sortS xs).length) (⟨#[]⟩ : ByteArray)).toArray) #[] hblk
    have huw := put_unch' Value.string w blk off q ((sortS xs ++ List.replicate (m - (sortS xs).length) (⟨#[]⟩ : ByteArray)).toArray) #[]
    rw [Sort.grow_empty] at hbw huw
    refine ⟨_, _, _, rfl, by omega, ?_, fun g h => h, huw.mono fun j hj e => by subst e; rfl⟩
    have hr2 : Row (Sort.putRow Value.string (Sort.ahead w q) blk off ((sortS xs ++ List.replicate (m - (sortS xs).length) (⟨#[]⟩ : ByteArray)).toArray)) 9 1 (.slice (some ⟨blk, off, none⟩) (sortS xs).length c) (sortS xs).length (sv (sortS xs)) :=
      row_of_cells hbw (by omega) hm2 (by simpa [Sort.putCells] using hs2) (by rw [sv_len]; omega) fun t ht => by
        rw [putCells_get' Value.string _ _ _ (by simp; omega) (by omega)]
        have ht' : t < (sortS xs).length := by omega
        rw [getElem!_pos _ t (by simp; omega)]
        rw [sv_get (List.getElem?_eq_getElem ht')]
        simp [List.getElem_append_left ht']
    exact hr2
def ind (L : List ByteArray) (s : ByteArray) : Nat := if hasB L s = true then 1 else 0
theorem ind_in {L : List ByteArray} {s : ByteArray} (h : s ∈ L) : ind L s = 1 := if_pos (List.any_eq_true.2 ⟨s, h, decide_eq_true rfl⟩)
theorem ind_out {L : List ByteArray} {s : ByteArray} (h : s ∉ L) : ind L s = 0 := if_neg (fun e => by
  obtain ⟨t, ht, e⟩ := List.any_eq_true.1 e
  exact h (of_decide_eq_true e ▸ ht))
/-- How often each is a parent, as it lies. -/
def KidV (mk : Asc) (f : ByteArray → Nat) : Prop := ∀ s, (mget mk s).getD (.int .i64 0) = .int .i64 (f s : Int)
theorem KidV.ints {mk : Asc} {f : ByteArray → Nat} (h : KidV mk f) : IntsM mk := fun s v hv => ⟨f s, by
  have := h s
  rw [hv] at this
  exact this⟩
theorem KidV.put {mk : Asc} {f : ByteArray → Nat} (h : KidV mk f) (p : ByteArray) : KidV (mput mk p (.int .i64 ((f p : Int) + 1))) (fun s => f s + if s = p then 1 else 0) := fun s => by
  rw [mget_mput]
  by_cases hs : s = p
  · subst hs
    simp only [if_true, Option.getD_some]
    congr 1
  · rw [if_neg hs]
    simp only [if_neg hs, Nat.add_zero]
    exact h s
theorem KidV.congr {mk : Asc} {f g : ByteArray → Nat} (h : KidV mk f) (e : ∀ s, f s = g s) : KidV mk g := fun s => by rw [← e s]; exact h s
theorem kid_take {xs : List ByteArray} (hn : xs.Nodup) {q : Nat} {p : ByteArray} (hp : xs[q]? = some p) : p ∉ xs.take q ∧ ∀ s, s ∈ xs.take (q + 1) ↔ s ∈ xs.take q ∨ s = p := by
  have hq := (List.getElem?_eq_some_iff.1 hp).1
  refine ⟨fun hm => ?_, fun s => ?_⟩
  · obtain ⟨j, hj⟩ := List.getElem?_of_mem hm
    have hjl := (List.getElem?_eq_some_iff.1 hj).1
    rw [List.length_take] at hjl
    rw [List.getElem?_take, if_pos (by omega)] at hj
    have := (List.getElem?_inj (by omega) hn).1 (hj.trans hp.symm)
    omega
  · rw [List.take_add_one, hp]
    simp
set_option maxRecDepth 100000 in
set_option maxHeartbeats 4000000 in
theorem dadd2_ok {w : World} {bd bp bk : Nat} {es : List Ent} {k : Nat} {pv : Nat → Value} (h : Dg w bd bp bk es k pv) (hC : Closed es) (hk : k < es.length) {A : Option Addr} {m c : Nat} (hrd : RdS w 1 StrR A m (ent es k).ps) (hm : m ≤ 1048576) (f : ByteArray → Nat) (hfk : ∃ mk, Sm w bk mk ∧ KidV mk f) (hfb : ∀ s, f s ≤ 1000) :
    Calls Tryz.prog 50 #[.pointer (some ⟨bd, 0, none⟩), .string (ent es k).id, .slice A m c] w fun e w' => (∃ x, e = .returned x) ∧ (∃ pv2, Dg w' bd bp bk es (k + 1) pv2 ∧ (∀ i, i ≠ k → pv2 i = pv i) ∧ (∃ m2, Row w' 9 1 (pv2 k) m2 (sv (parsL es k))) ∧ ∃ mk, Sm w' bk mk ∧ KidV mk (fun s => f s + ind (parsL es k) s)) ∧ Unch (fun j => j = bp ∨ j = bk) w w' := by
  have hlo := hC.lo k hk
  have hhi := hC.hi k hk
  have h300 := hC.len
  have hsid : (ent es k).id.size ≤ maxLen := by unfold maxLen; omega
  have hsps : ∀ p ∈ (ent es k).ps, p.size ≤ maxLen := fun p hp => by
    obtain ⟨q, hq, e⟩ := hC.pars k p hk hp
    have := hC.hi q (by omega)
    rw [e] at this
    unfold maxLen; omega
  have d0 : ¬ (ent es k).id.toList = [] := fun h => by have := (size_toList _).1 h; omega
  have d0' : ((ent es k).id.toList == []) = false := by simpa using d0
  have d0'' : ((ent es k).id.toList.isEmpty) = false := by simpa using d0
  have d1 : ¬ (64 : Int) < ((ent es k).id.size : Int) := by omega
  have d2 : ¬ (300 : Int) ≤ (k : Int) := by omega
  have hhas := dhas_ok h (ent es k).id hsid
  rw [idA_get hC allT pv (Nat.le_of_lt hk) hk, if_neg (by omega)] at hhas
  have hparent : ∀ p ∈ (ent es k).ps, (mget (idA es allT pv k) p).isSome = true := fun p hp => by
    obtain ⟨q, hq, e⟩ := hC.pars k p hk hp
    rw [← e, idA_get hC allT pv (Nat.le_of_lt hk) (by omega), if_pos ⟨hq, rfl⟩]
    rfl
  have c0 := blk_cell h.blk (j := 0) rfl
  have HHAS := Lib.hid hhas
  have HLEN := Lib.hid (dlen_ok h (Nat.le_of_lt hk))
  have HDG := Lib.hid h
  have HPAR := Lib.hid hparent
  have HSPS := Lib.hid hsps
  have HRD := Lib.hid hrd
  have HFK := Lib.hid hfk
  have HFB := Lib.hid hfb
  clear h hhas hparent hsps hrd hlo hhi h300 hfk hfb
  obtain ⟨ps, hps⟩ : ∃ ps, (ent es k).ps = ps := ⟨_, rfl⟩
  rw [hps] at HPAR HSPS HRD
  have HPS := Lib.hid hps
  obtain ⟨sid, hid⟩ : ∃ sid, (ent es k).id = sid := ⟨_, rfl⟩
  rw [hid] at d0 d0' d0'' d1 hsid HHAS ⊢
  have HID := Lib.hid hid
  clear hps hid
  go_enter Tryz.func50, Tryz.ntmps50
  go_wp2_with fail
  refine HHAS.out.mono ?_
  rintro e w1 ⟨rfl, rfl⟩
  go_wp2_with fail
  refine HLEN.out.mono ?_
  rintro e w1 ⟨rfl, rfl⟩
  go_wp2_with fail
  refine (values_ok _ _ _ _).mono ?_
  rintro e w1 ⟨rfl, rfl⟩
  have hu1 : Unch none_ w (w.alloc (.cells #[.slice A m c] 25)) := (Unch.refl none_ w).alloc _
  have b1 := blk_new w (.cells #[.slice A m c] 25)
  have hlt1 : w.heap.size < (w.alloc (.cells #[.slice A m c] 25)).heap.size := by simp
  obtain ⟨B1, hB1⟩ : ∃ B1, w.heap.size = B1 := ⟨_, rfl⟩
  obtain ⟨w1, hw1⟩ : ∃ w1, w1 = w.alloc (.cells #[.slice A m c] 25) := ⟨_, rfl⟩
  rw [← hw1] at hu1 b1 hlt1 ⊢
  rw [hB1] at b1 hlt1 ⊢
  have HS := Lib.hid (sortedS_ok (RdS.fresh HRD.out hu1) hm (blk_cell b1 (j := 0) rfl))
  have HU1 := Lib.hid hu1
  clear hw1 hu1 b1
  go_wp2_with fail
  refine HS.out.mono ?_
  rintro e w2 ⟨v, L, rfl, hp, hso, hs⟩
  have hll := hp.length_eq
  have hlx := HRD.out.len
  have HCP := Lib.hid (compactR_ok hs.row (by omega) hp hso)
  have HSM := Lib.hid hs
  clear hp hso hs HS
  go_wp2_with fail
  refine HCP.out.mono ?_
  rintro e w3 ⟨A2, n, c2, rfl, hc2, hr3R, _, hu23⟩
  have hr3 := srow_rds hr3R
  have HR3R := Lib.hid hr3R
  clear hr3R
  have hu3 : Unch none_ w w3 := (HU1.out.trans HSM.out.hu).step hu23 (fun i hi e => by have := HSM.out.own i e; omega)
  have HU3 := Lib.hid hu3
  have HR3 := Lib.hid hr3
  have hdg3 := HDG.out.fresh hu3
  have HDG3 := Lib.hid hdg3
  have hnl := hr3.len
  have hnm : n ≤ 1048576 := by have := sortS_len ps; omega
  have c3 := blk_cell hdg3.blk (j := 0) rfl
  clear hu3 hu23 hr3 HCP hdg3 c0
  go_wp2_with fail
  go_loopg [9, 38] n (fun gk _ i38 wr => ∃ t : Nat, gk = n - t ∧ t ≤ n ∧ i38 = .int .i64 (t : Int) ∧ w3 = wr)
  case atStart => exact ⟨0, rfl, Nat.zero_le _, rfl, rfl⟩
  case round =>
    obtain ⟨t, rfl, ht, rfl, rfl⟩ := hrel
    by_cases htn : t < n
    · have zt : (t : Int) < (n : Int) := by omega
      obtain ⟨p, hp⟩ := get_some hnl htn
      obtain ⟨bb, oo, rfl, _, xp⟩ := RdS.str HR3.out hp
      have hpm := sortS_mem.1 (List.mem_of_getElem? hp)
      have hh := dhas_ok HDG3.out p (HSPS.out p hpm)
      rw [HPAR.out p hpm] at hh
      have HH := Lib.hid hh
      clear hp hpm hh
      go_wp2_with fail
      refine HH.out.mono ?_
      rintro e w4 ⟨rfl, rfl⟩
      go_wp2
      go_roundg (n - (t + 1))
      case measure => omega
      case rel => exact ⟨t + 1, rfl, by omega, by go_num, rfl⟩
    · obtain rfl : t = n := by omega
      have hparsm := HDG3.out.par
      have HPM := Lib.hid hparsm
      clear hparsm
      go_wp2_with (at_mapUpdate; refine wpList_sm_put w3 rfl (.tmp 50) (.tmp 51) (.tmp 52) 126 rfl 9 25 Tryz.underlying126 Tryz.underlying9 bp _ rfl HPM.out sid rfl hsid (.slice A2 t c2) (by rfl) ?_; intro w4 hsm4 hu4; have HSM4 := Lib.hid hsm4; have HU4 := Lib.hid hu4; clear hsm4 hu4)
      go_simp
      have hsm4 := HSM4.out
      rw [← HID.out] at hsm4
      have hr3 := HR3.out
      rw [show sortS ps = parsL es k by unfold parsL; rw [HPS.out]] at hr3
      have hdg4 := HDG3.out.parput hC hk hc2 hr3 HU4.out hsm4
      obtain ⟨pv4, hpv4⟩ : ∃ pv4, (fun i => if i = k then Value.slice A2 t c2 else pv i) = pv4 := ⟨_, rfl⟩
      rw [hpv4] at hdg4
      have HPV4 := Lib.hid hpv4
      have hrd4 : RdS w4 1 StrR A2 t (sortS ps) := by
        refine rds_cells HR3.out (by decide) HU4.out (fun j e => by subst e; exact fun cs e fr => sm_no_cells HPM.out cs e fr)
      have HFK4 : Hid (∃ mk, Sm w4 bk mk ∧ KidV mk (fun s => f s + ind ((sortS ps).take 0) s)) := Lib.hid (by
        obtain ⟨mk, h1, h2⟩ := HFK.out
        exact ⟨mk, (h1.unch HU3.out (fun h => h)).unch HU4.out (fun e => HDG3.out.hne e.symm), h2.congr (fun s => by rw [ind_out (by simp)]; rfl)⟩)
      have HDG4 := Lib.hid hdg4
      have HRD4 := Lib.hid hrd4
      clear hsm4 hr3 hdg4 hpv4 hrd4 c3
      go_wp2_with fail
      go_loopg [11, 55] t (fun gk _ i55 wr => ∃ q : Nat, gk = t - q ∧ q ≤ t ∧ i55 = .int .i64 (q : Int) ∧ Dg wr bd bp bk es (k + 1) pv4 ∧ RdS wr 1 StrR A2 t (sortS ps) ∧ Unch (fun j => j = bk) w4 wr ∧ ∃ mk, Sm wr bk mk ∧ KidV mk (fun s => f s + ind ((sortS ps).take q) s))
      case atStart => exact ⟨0, rfl, Nat.zero_le _, rfl, HDG4.out, HRD4.out, Unch.refl _ _, HFK4.out⟩
      case round =>
        obtain ⟨q, rfl, hq, rfl, hdg, hrdq, huq, hkv⟩ := hrel
        obtain ⟨w5, rfl⟩ : ∃ w5, w5 = wr := ⟨_, rfl⟩
        by_cases hqt : q < t
        · have zt : (q : Int) < (t : Int) := by omega
          obtain ⟨p, hp⟩ := get_some hnl hqt
          obtain ⟨bb, oo, rfl, _, xp⟩ := RdS.str hrdq hp
          have hpm := sortS_mem.1 (List.mem_of_getElem? hp)
          have hsp := HSPS.out p hpm
          have c1 := blk_cell hdg.blk (j := 1) rfl
          obtain ⟨mk, hmk, hkd⟩ := hkv
          obtain ⟨hnt, htk⟩ := kid_take ((sortS_sorted ps).imp fun {a b} hab e => by rw [e, bl_irrefl] at hab; cases hab) hp
          have hz := hkd p
          have hput := hkd.put p
          simp only [ind_out hnt, Nat.add_zero] at hz hput
          have hlk := look_i1 hmk hsp hz
          have zf0 : (0 : Int) ≤ (f p : Int) := by omega
          have zf1 : (f p : Int) ≤ 1000 := by have := HFB.out p; omega
          have hnew := hput.congr (g := fun s => f s + ind ((sortS ps).take (q + 1)) s) (fun s => by
            by_cases hsp' : s = p
            · subst hsp'
              simp only [ind_out hnt, ind_in ((htk s).2 (.inr rfl)), if_true]
            · simp only [if_neg hsp', Nat.add_zero]
              by_cases hst : s ∈ (sortS ps).take q
              · rw [ind_in hst, ind_in ((htk s).2 (.inl hst))]
              · rw [ind_out hst, ind_out (fun hc => ((htk s).1 hc).elim hst hsp')])
          have HNEW := Lib.hid hnew
          have HINT := Lib.hid hnew.ints
          have HMK := Lib.hid hmk
          have HDG5 := Lib.hid hdg
          have HRD5 := Lib.hid hrdq
          have HU5 := Lib.hid huq
          clear hp hpm hmk hkd hdg hrdq huq hz hput hnew hnt htk
          go_wp2_with (at_mapUpdate; refine wpList_sm_put w5 rfl (.tmp 62) (.tmp 63) (.tmp 65) 127 rfl 9 3 Tryz.underlying127 Tryz.underlying9 bk _ rfl HMK.out p rfl hsp (.int .i64 ((f p : Int) + 1)) (by rfl) ?_; intro w6 hsm6 hu6; have HSM6 := Lib.hid hsm6; have HU6 := Lib.hid hu6; clear hsm6 hu6)
          go_simp
          go_wp2
          go_roundg (t - (q + 1))
          case measure => omega
          case rel => exact ⟨q + 1, rfl, by omega, by go_num, HDG5.out.kidput HU6.out ⟨_, HSM6.out, HINT.out⟩, rds_cells HRD5.out (by decide) HU6.out (fun j e => by subst e; exact fun cs e fr => sm_no_cells HMK.out cs e fr), HU5.out.trans HU6.out, _, HSM6.out, HNEW.out⟩
        · obtain rfl : q = t := by omega
          have HDG5 := Lib.hid hdg
          have HU5 := Lib.hid huq
          have HKV := Lib.hid hkv
          clear hdg hrdq huq hkv
          go_wp2
          go_ret
          have hrow5 : Row w5 9 1 (.slice A2 q c2) q (sv (parsL es k)) := by
            have h3 : Row w3 9 1 (.slice A2 q c2) q (sv (parsL es k)) := by
              have h := HR3R.out
              rw [show sortS ps = parsL es k by unfold parsL; rw [HPS.out]] at h
              exact h
            have h4 := h3.unch HU4.out (fun j hj e => by
              obtain ⟨cur, hc⟩ := h3.blk hj
              rw [e] at hc
              exact sm_no_cells HPM.out _ _ _ hc)
            obtain ⟨mk, hmk, _⟩ := HDG4.out.kid
            exact h4.unch HU5.out (fun j hj e => by
              obtain ⟨cur, hc⟩ := h4.blk hj
              rw [e] at hc
              exact sm_no_cells hmk _ _ _ hc)
          have hkv5 : ∃ mk, Sm w5 bk mk ∧ KidV mk (fun s => f s + ind (parsL es k) s) := by
            obtain ⟨mk, h1, h2⟩ := HKV.out
            refine ⟨mk, h1, h2.congr (fun s => ?_)⟩
            rw [show (sortS ps).take q = parsL es k by rw [List.take_of_length_le (by omega)]; unfold parsL; rw [HPS.out]]
          exact ⟨⟨_, rfl⟩, ⟨_, HDG5.out, fun i hi => by rw [← HPV4.out]; exact if_neg hi, ⟨q, by rw [← HPV4.out]; show Row w5 9 1 (if k = k then _ else _) q _; rw [if_pos rfl]; exact hrow5⟩, hkv5⟩, ((HU3.out.mono (fun _ _ h => h.elim)).step HU4.out (fun i hi e => .inl e)).step HU5.out (fun i hi e => .inr e)⟩
end Go.Proofs.YtgcpoppinnnciaaGreatDoor
/- dag.Heads. -/
set_option linter.unusedVariables false
set_option linter.unusedSimpArgs false
set_option maxRecDepth 100000
namespace Go.Proofs.YtgcpoppinnnciaaGreatDoor
open Go Go.RowKit Go.Proofs.YtgcpoppinnnciaaGreatDoor.Pal Go.Proofs.YtgcpoppinnnciaaGreatDoor.Plan

/-- How many have it as a parent, as a map of numbers says. -/
def kz (mk : Asc) (s : ByteArray) : Int := match (mget mk s).getD (.int .i64 0) with | .int _ z => z | _ => 1
theorem kz_of {mk : Asc} (h : IntsM mk) (s : ByteArray) : (mget mk s).getD (.int .i64 0) = .int .i64 (kz mk s) := by
  obtain ⟨z, hz⟩ := h.get s
  unfold kz
  rw [hz]
def hdP (m mk : Asc) : List ByteArray := (m.map (·.1)).filter fun s => decide (kz mk s = 0)
def hdF (m mk : Asc) : List ByteArray := sortS (hdP m mk)
theorem hdF_len (m mk : Asc) : (hdF m mk).length ≤ m.length := by
  refine Nat.le_trans (sortS_len _) ?_
  unfold hdP
  refine Nat.le_trans (List.length_filter_le _ _) ?_
  rw [List.length_map]
  exact Nat.le_refl _
theorem sorted_sortS {L xs : List ByteArray} (hn : L.Nodup) (hs : L.Pairwise fun a b => bl b a = false) (hm : ∀ x, x ∈ L ↔ x ∈ xs) : L = sortS xs := by
  refine bl_uniq ?_ (sortS_sorted xs) (fun x => by rw [hm, sortS_mem])
  have h2 : L.Pairwise fun a b => a ≠ b := hn
  refine (hs.and h2).imp ?_
  intro a b ⟨h1, h3⟩
  cases hab : bl a b with
  | true => rfl
  | false => exact absurd (bl_total hab h1) h3
theorem sit_no_cells {w : World} {b r : Nat} {m left : Asc} (h : Sit w b r m left) (cs : Array Value) (e : TypeId) (fr : Nat × Nat) : w.heap[r]? ≠ some (.cells cs e fr) := by
  obtain ⟨_, _, _, _, _, _, h2, _⟩ := h
  rw [h2]
  exact fun h => by cases h
/-- Of those keys that came: those that are heads. -/
structure HdP (m mk left : Asc) (acc : List ByteArray) : Prop where
  nd : acc.Nodup
  mem : ∀ s, s ∈ acc ↔ s ∈ hdP m mk ∧ ∀ q ∈ left, q.1 ≠ s
theorem HdP.start (m mk : Asc) : HdP m mk m [] := ⟨List.nodup_nil, fun s => ⟨fun h => (by cases h), fun ⟨h1, h2⟩ => by
  obtain ⟨q, hq, rfl⟩ := List.mem_map.1 (List.mem_filter.1 h1).1
  exact absurd rfl (h2 q hq)⟩⟩
theorem HdP.no {m mk left : Asc} {acc : List ByteArray} (h : HdP m mk left acc) {k : ByteArray} (hk : kz mk k ≠ 0) : HdP m mk (left.filter fun q => decide (q.1 ≠ k)) acc := ⟨h.nd, fun s => by
  rw [h.mem]
  refine ⟨fun ⟨h1, h2⟩ => ⟨h1, fun q hq => h2 q (List.mem_filter.1 hq).1⟩, fun ⟨h1, h2⟩ => ⟨h1, fun q hq e => ?_⟩⟩
  by_cases hqk : q.1 = k
  · have h3 := (List.mem_filter.1 h1).2
    rw [← e, hqk] at h3
    exact hk (by simpa using h3)
  · exact h2 q (List.mem_filter.2 ⟨hq, by simpa using hqk⟩) e⟩
theorem HdP.yes {m mk left : Asc} {acc : List ByteArray} (h : HdP m mk left acc) {k : ByteArray} {v : Value} (hp : (k, v) ∈ left) (hpm : (k, v) ∈ m) (hk : kz mk k = 0) : HdP m mk (left.filter fun q => decide (q.1 ≠ k)) (acc ++ [k]) := by
  have hka : k ∉ acc := fun hm => ((h.mem k).1 hm).2 (k, v) hp rfl
  refine ⟨?_, fun s => ?_⟩
  · rw [List.nodup_append]
    refine ⟨h.nd, by simp, fun a ha b hb => ?_⟩
    rw [List.mem_singleton] at hb
    subst hb
    exact fun e => hka (e ▸ ha)
  · rw [List.mem_append, List.mem_singleton, h.mem]
    constructor
    · rintro (⟨h1, h2⟩ | rfl)
      · exact ⟨h1, fun q hq => h2 q (List.mem_filter.1 hq).1⟩
      · exact ⟨List.mem_filter.2 ⟨List.mem_map.2 ⟨_, hpm, rfl⟩, by simpa using hk⟩, fun q hq => by simpa using (List.mem_filter.1 hq).2⟩
    · rintro ⟨h1, h2⟩
      by_cases e : s = k
      · exact .inr e
      · refine .inl ⟨h1, fun q hq e2 => ?_⟩
        exact h2 q (List.mem_filter.2 ⟨hq, by simpa using fun e3 : q.1 = k => e (e2.symm.trans e3)⟩) e2
theorem HdP.len {m mk left : Asc} {acc : List ByteArray} (hn : (m.map (·.1)).Nodup) (h : HdP m mk left acc) : acc.length ≤ m.length := by
  have h1 : acc.length ≤ (m.map (·.1)).length := by
    exact sub_len h.nd hn (fun s hs => (List.mem_filter.1 ((h.mem s).1 hs).1).1)
  rwa [List.length_map] at h1
set_option maxHeartbeats 2000000 in
theorem dheads_ok {w : World} {bd bp bk : Nat} {m mk : Asc} (hb : w.heap[bd]? = some (.cells #[.map (some bp), .map (some bk)] 129 (0, 0))) (hm : Sm w bp m) (hmk : Sm w bk mk) (hint : IntsM mk) (hl : m.length ≤ 1000000) :
    Calls Tryz.prog 58 #[.pointer (some ⟨bd, 0, none⟩)] w fun e w' => ∃ v, e = .returned v ∧ SMid w w' v (hdF m mk).length (hdF m mk) := by
  have c0 := blk_cell hb (j := 0) rfl
  have c1 := blk_cell hb (j := 1) rfl
  have hsm := Lib.hid hm.small
  have hone := Lib.hid hm.one
  have HB := Lib.hid hb
  have HM := Lib.hid hm
  have HMK := Lib.hid hmk
  have HINT := Lib.hid hint
  have hbl := lt_of_heap hb
  have hbpl := hm.lt
  have hbkl := hmk.lt
  clear hb hm hmk hint
  go_enter Tryz.func58, Tryz.ntmps58
  go_wp2_with (at_range; refine wpList_sm_range w rfl (.tmp 10) 126 rfl 9 25 Tryz.underlying126 bp _ rfl HM.out ?_; intro w1 hsit hu1 hsz; have HSIT := Lib.hid hsit; have HU1 := Lib.hid hu1; clear hsit hu1 hsz)
  go_simp
  go_loopg [3, 4] (m.length : Nat) (fun gk v3 _ wr => ∃ left acc, gk = left.length ∧ Sit wr bp w.heap.size m left ∧ SMid w wr v3 acc.length acc ∧ HdP m mk left acc)
  case atStart => exact ⟨m, [], rfl, HSIT.out, ⟨HU1.out, (fun b hb => by cases hb), Row.nil _ _ _⟩, HdP.start _ _⟩
  case round =>
    obtain ⟨left, acc, rfl, hsit, hs, hp⟩ := hrel
    obtain ⟨w2, rfl⟩ : ∃ w2, w2 = wr := ⟨_, rfl⟩
    obtain ⟨A3, c3, rfl, hc3⟩ := hs.row.slice
    have HSIT2 := Lib.hid hsit
    have HS := Lib.hid hs
    have HP := Lib.hid hp
    have hal := hp.len hone.out
    clear hsit hs hp
    have c0' := (HS.out.hu).cell c0 (fun h => h)
    have c1' := (HS.out.hu).cell c1 (fun h => h)
    clear c0 c1
    go_wp2_with (at_next; refine wpList_sit_next2 w2 rfl (.tmp 11) rfl bp w.heap.size m left rfl HSIT2.out ?c1 ?c2)
    case c2 =>
      rintro ⟨k, v, w5, hp, hsit5, hu5, hsz5, hent⟩
      dsimp only
      have hkm := HSIT2.out.mem (k, v) hp
      have hks := hsm.out (k, v) hkm
      have hs5 : SMid w w5 (.slice A3 acc.length c3) acc.length acc := by
        refine ⟨HS.out.hu.step hu5 (fun j hj e => by omega), HS.out.own, HS.out.row.unch hu5 (fun b hb e => ?_)⟩
        obtain ⟨cur, hc⟩ := HS.out.row.blk hb
        rw [e] at hc
        exact sit_no_cells HSIT2.out _ _ _ hc
      have hlk := look_i1 (HMK.out.unch hs5.hu (fun h => h)) hks (kz_of HINT.out k)
      have c1 := hs5.hu.cell (blk_cell HB.out (j := 1) rfl) (fun h => h)
      have hless := left_less hp
      have HSIT5 := Lib.hid hsit5
      have HS5 := Lib.hid hs5
      have HLESS := Lib.hid hless
      have HPM := Lib.hid hkm
      have HPL := Lib.hid hp
      clear hp hsit5 hu5 hsz5 hkm hs5 hless c0' c1'
      cases hz : decide (kz mk k = 0) with
      | true =>
        have hz0 : kz mk k = 0 := of_decide_eq_true hz
        rw [hz0] at hlk
        have HY := Lib.hid (HP.out.yes HPL.out HPM.out hz0)
        clear hz hz0
        go_simp
        go_wp2_with (at_builtin; refine wpList_append1 w5 rfl (.tmp 23) (.tmp 25) 25 9 _ 1 16 rfl Tryz.underlying25 info_str rfl (by omega) (.slice A3 acc.length c3) acc.length (sv acc) (by rfl) HS5.out.row [.string k] rfl (by intro u hu; simp at hu; subst hu; rfl) (by rfl) (by simp only [maxLen]; omega) (by omega) ?_; intro v6 w6 hr6 hu6 hat6; have hs6 := HS5.out.app1 hr6 hu6 hat6; have hsit6 := HSIT5.out.unch hu6 (fun e => by obtain ⟨cur, hc⟩ := HS5.out.row.blk e; exact sm_no_cells HSIT5.out.sm _ _ _ hc) (fun e => by obtain ⟨cur, hc⟩ := HS5.out.row.blk e; exact sit_no_cells HSIT5.out _ _ _ hc); have HS6 := Lib.hid hs6; have HSIT6 := Lib.hid hsit6; clear hr6 hu6 hat6 hs6 hsit6)
        go_simp
        go_roundg ((left.filter fun q => decide (q.1 ≠ k)).length)
        case measure => exact HLESS.out
        case rel => exact ⟨_, acc ++ [k], rfl, HSIT6.out, by rw [List.length_append]; exact HS6.out, HY.out⟩
      | false =>
        have hz0 : kz mk k ≠ 0 := of_decide_eq_false hz
        have hz1 : (kz mk k == 0) = false := by rw [beq_eq_false_iff_ne]; exact hz0
        have HN := Lib.hid (HP.out.no hz0)
        clear hz
        go_simp
        go_wp2_with fail
        go_roundg ((left.filter fun q => decide (q.1 ≠ k)).length)
        case measure => exact HLESS.out
        case rel => exact ⟨_, acc, rfl, HSIT5.out, HS5.out, HN.out⟩
    case c1 =>
      intro hl
      subst hl
      have hL : ∀ L : List ByteArray, L.Perm acc → (L.Pairwise fun a b => bl b a = false) → L = hdF m mk := fun L h1 h2 => sorted_sortS (h1.symm.nodup HP.out.nd) h2 (fun x => by
        rw [h1.mem_iff, HP.out.mem]
        exact ⟨fun h => h.1, fun h => ⟨h, fun q hq => by cases hq⟩⟩)
      have HL := Lib.hid hL
      clear hL
      go_simp
      go_wp2_with (go_at_call 66; refine (sortO_ok HS.out.row (by omega)).mono ?_; rintro _ w6 ⟨rfl, L, hp6, hs6, hr6, hu6⟩; have hle := HL.out L hp6 hs6; have hs7 : SMid w w6 (.slice A3 acc.length c3) acc.length L := ⟨HS.out.hu.step hu6 (fun j hj e => by have := HS.out.own j e; omega), HS.out.own, hr6⟩; have HS7 := Lib.hid hs7; have HLE := Lib.hid hle; have HPL := Lib.hid hp6.length_eq; clear hp6 hs6 hr6 hu6 hle hs7)
      go_ret
      refine ⟨_, rfl, ?_⟩
      rw [← HLE.out, HPL.out]
      exact HS7.out
end Go.Proofs.YtgcpoppinnnciaaGreatDoor
