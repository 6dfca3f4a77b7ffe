/-
  event: Check, Sign.
-/
import Derived.Test.YtgcpoppinnnciaaGreatDoorCEV3
import Derived.Test.YtgcpoppinnnciaaGreatDoorCKY6
/- event: Check, Sign. -/
set_option linter.unusedVariables false
set_option linter.unusedSimpArgs false
set_option maxRecDepth 100000
namespace Go.Proofs.YtgcpoppinnnciaaGreatDoor
open Go Go.RowKit Go.Proofs.YtgcpoppinnnciaaGreatDoor.Pal Go.Proofs.YtgcpoppinnnciaaGreatDoor.Plan

/-- What is wrong with an event. -/
def echkF (K : Nat → Int) (e : Ev) : Int := if rightF (noSig e) = true ∧ rightF e = true then (if verifyF K e.author (contentF (noSig e)) e.sig = true then 0 else 4) else 2
theorem evCells {W : World} {g : Nat} {a b c d e : Value} (h : W.heap[g]? = some (.cells #[a, b, c, d, e] 50 (0, 0))) : W.cell? ⟨g, 0, none⟩ = some a ∧ W.cell? ⟨g, 1, none⟩ = some b ∧ W.cell? ⟨g, 2, none⟩ = some c ∧ W.cell? ⟨g, 3, none⟩ = some d ∧ W.cell? ⟨g, 4, none⟩ = some e :=
  ⟨blk_cell h (j := 0) rfl, blk_cell h (j := 1) rfl, blk_cell h (j := 2) rfl, blk_cell h (j := 3) rfl, blk_cell h (j := 4) rfl⟩
set_option maxHeartbeats 1000000 in
theorem echeck_ok (K : Nat → Int) (e : Ev) (A : Option Addr) (c : Nat) (w : World) (hr : RdS w 1 StrR A e.ps.length e.ps) (hn : e.ps.length ≤ 1000000) (hsz : e.sig.size ≤ 1000000000) (hK : Kys K w) :
    Calls Tryz.prog 83 #[.agg (evV e A c)] w fun x w' => x = .returned (.int .i64 (echkF K e)) ∧ Unch none_ w w' := by
  obtain ⟨res, hres⟩ : ∃ r, echkF K e = r := ⟨_, rfl⟩
  rw [hres]
  unfold echkF at hres
  have hct := fun (W : World) (hu : Unch none_ w W) => evContent_ok e A c W (RdS.fresh hr hu) hn
  have hrt := fun (W : World) (hu : Unch none_ w W) => right_ok e A c W (RdS.fresh hr hu) hn
  have hu := (Unch.refl none_ w).alloc (.cells (evV e A c) 50)
  have hve : rightF (noSig e) = true → ∀ (W : World), Unch none_ w W → Calls Tryz.prog 125 #[.string e.author, .string (contentF (noSig e)), .string e.sig] W fun x w' => x = .returned (.bool (verifyF K e.author (contentF (noSig e)) e.sig)) ∧ Unch none_ W w' := fun hR W hu =>
    verify_ok K e.author (contentF (noSig e)) e.sig (by have := contentF_size (right_small hR); omega) hsz W (hK.unch hu (fun h => h))
  generalize verifyF K e.author (contentF (noSig e)) e.sig = vb at *
  generalize contentF (noSig e) = ct at *
  generalize rightF (noSig e) = b1 at *
  generalize rightF e = b2 at *
  have HRES := Lib.hid hres
  clear hres hr hK
  simp only [evV] at hct hrt hu ⊢
  have HCT := Lib.hid hct
  have HRT := Lib.hid hrt
  have HVE := Lib.hid hve
  clear hct hrt hve
  cases b1 with
  | false =>
    obtain rfl : 2 = res := by rw [← HRES.out, if_neg (by simp)]
    go_enter Tryz.func83, Tryz.ntmps83
    go_wp2_with (go_at_call 74; refine (HCT.out _ hu).mono ?_; rintro _ w2 ⟨rfl, hu2⟩; rw [if_neg (by decide)])
    go_ret
    exact ⟨rfl, hu.trans hu2⟩
  | true =>
    have HV := Lib.hid (HVE.out rfl)
    clear HVE
    cases b2 with
    | false =>
      obtain rfl : 2 = res := by rw [← HRES.out, if_neg (by simp)]
      go_enter Tryz.func83, Tryz.ntmps83
      go_wp2_with (first
        | (go_at_call 74; refine (HCT.out _ hu).mono ?_; rintro _ w2 ⟨rfl, hu2⟩; rw [if_pos rfl]; obtain ⟨c0, c1, c2, c3, c4⟩ := ev_cells hu2)
        | (go_at_call 76; refine (HRT.out _ (hu.trans hu2)).mono ?_; rintro _ w3 ⟨rfl, hu3⟩))
      go_ret
      exact ⟨rfl, hu.trans (hu2.trans hu3)⟩
    | true =>
      have hres : (if vb = true then (0 : Int) else 4) = res := by rw [← HRES.out]; simp
      cases vb with
      | true =>
        obtain rfl : 0 = res := hres
        go_enter Tryz.func83, Tryz.ntmps83
        go_wp2_with (first
          | (go_at_call 74; refine (HCT.out _ hu).mono ?_; rintro _ w2 ⟨rfl, hu2⟩; rw [if_pos rfl]; obtain ⟨c0, c1, c2, c3, c4⟩ := ev_cells hu2)
          | (go_at_call 76; refine (HRT.out _ (hu.trans hu2)).mono ?_; rintro _ w3 ⟨rfl, hu3⟩; obtain ⟨c0, c1, c2, c3, c4⟩ := ev_cells (hu2.trans hu3))
          | (go_at_call 125; refine (HV.out _ (hu.trans (hu2.trans hu3))).mono ?_; rintro _ w4 ⟨rfl, hu4⟩))
        go_ret
        exact ⟨rfl, hu.trans (hu2.trans (hu3.trans hu4))⟩
      | false =>
        obtain rfl : 4 = res := hres
        go_enter Tryz.func83, Tryz.ntmps83
        go_wp2_with (first
          | (go_at_call 74; refine (HCT.out _ hu).mono ?_; rintro _ w2 ⟨rfl, hu2⟩; rw [if_pos rfl]; obtain ⟨c0, c1, c2, c3, c4⟩ := ev_cells hu2)
          | (go_at_call 76; refine (HRT.out _ (hu.trans hu2)).mono ?_; rintro _ w3 ⟨rfl, hu3⟩; obtain ⟨c0, c1, c2, c3, c4⟩ := ev_cells (hu2.trans hu3))
          | (go_at_call 125; refine (HV.out _ (hu.trans (hu2.trans hu3))).mono ?_; rintro _ w4 ⟨rfl, hu4⟩))
        go_ret
        exact ⟨rfl, hu.trans (hu2.trans (hu3.trans hu4))⟩
theorem zCells {W : World} {g : Nat} (h : W.heap[g]? = some (.cells zEv 50 (0, 0))) : (W.cell? ⟨g, 0, none⟩ = some (.int .i64 0) ∧ W.cell? ⟨g, 1, none⟩ = some (.string ⟨#[]⟩) ∧ W.cell? ⟨g, 2, none⟩ = some (.slice none 0 0) ∧ W.cell? ⟨g, 3, none⟩ = some (.string ⟨#[]⟩) ∧ W.cell? ⟨g, 4, none⟩ = some (.string ⟨#[]⟩)) ∧ (∀ j, W.frozen? ⟨g, j, none⟩ = false) :=
  ⟨⟨blk_cell h (j := 0) rfl, blk_cell h (j := 1) rfl, blk_cell h (j := 2) rfl, blk_cell h (j := 3) rfl, blk_cell h (j := 4) rfl⟩, blk_free h⟩
/-- Two events in blocks of their own. -/
structure EvW (X : Nat → Prop) (w : World) (rc eb : Nat) (cs : Array Value) (W : World) : Prop where
  u : Unch X w W
  brc : W.heap[rc]? = some (.cells zEv 50 (0, 0))
  ev : W.heap[eb]? = some (.cells cs 50 (0, 0))
  hrc : w.heap.size ≤ rc
  heb : w.heap.size ≤ eb
  ne : rc ≠ eb
section
variable {X Y : Nat → Prop} {w W W' : World} {rc eb : Nat} {cs : Array Value}
theorem EvW.step (h : EvW X w rc eb cs W) (hu : Unch Y W W') (hY : ∀ k, Y k → k < w.heap.size ∧ X k) : EvW X w rc eb cs W' :=
  ⟨h.u.step hu (fun k hk hy => (hY k hy).2), hu.heap h.brc (fun hy => by have := (hY _ hy).1; have := h.hrc; omega), hu.heap h.ev (fun hy => by have := (hY _ hy).1; have := h.heb; omega), h.hrc, h.heb, h.ne⟩
theorem EvW.set (h : EvW X w rc eb cs W) (j : Nat) (v : Value) : EvW X w rc eb (cs.setIfInBounds j v) (W.setCell ⟨eb, j, none⟩ v) := by
  have hu : Unch (fun k => k = eb) W (W.setCell ⟨eb, j, none⟩ v) := (Unch.refl _ _).setCell _ (fun _ => rfl)
  exact ⟨h.u.step hu (fun k hk e => by have := h.heb; omega), hu.heap h.brc h.ne, blk_set h.ev j v, h.hrc, h.heb, h.ne⟩
theorem EvW.zero (h : EvW X w rc eb cs W) : Unch X w (((((W.setCell ⟨rc, 0, none⟩ (.int .i64 0)).setCell ⟨rc, 1, none⟩ (.string ⟨#[]⟩)).setCell ⟨rc, 2, none⟩ (.slice none 0 0)).setCell ⟨rc, 3, none⟩ (.string ⟨#[]⟩)).setCell ⟨rc, 4, none⟩ (.string ⟨#[]⟩)) :=
  h.u.step unch_set5 (fun k hk e => by have := h.hrc; omega)
end
/-- An event, signed by a key of which u leaves are used; how many then are. -/
def signF (K : Nat → Int) (e : Ev) (seed : ByteArray) (h u : Nat) : Option Ev :=
  if rightF (noSig { e with author := pubF K seed h }) = true ∧ u < 2 ^ h then some { e with author := pubF K seed h, sig := ksigF K seed h u (contentF (noSig { e with author := pubF K seed h })) } else none
def signU (K : Nat → Int) (e : Ev) (seed : ByteArray) (h u : Nat) : Nat :=
  if rightF (noSig { e with author := pubF K seed h }) = true ∧ u < 2 ^ h then u + 1 else u
def SignP (K : Nat → Int) (Z : Nat → Prop) (e : Ev) (b : Nat) (seed : ByteArray) (h u : Nat) (w : World) (x : Ending) (w' : World) : Prop :=
  KeyAt K Z w' b seed h (signU K e seed h u) ∧ Unch (fun k => k = b) w w' ∧
  ((signF K e seed h u = none ∧ ∃ z : Int, (z == 0) = false ∧ x = .returned (.tuple #[.agg zEv, .int .i64 z])) ∨
   ∃ e', signF K e seed h u = some e' ∧ ∃ A c, x = .returned (.tuple #[.agg (evV e' A c), .int .i64 0]) ∧ Row w' 9 1 (.slice A e'.ps.length c) e'.ps.length (sv e'.ps) ∧ ∀ g o, A = some ⟨g, o, none⟩ → w.heap.size ≤ g)
theorem row_news {w : World} {A : Option Addr} {n c : Nat} {xs : List Value} (h : Row w 9 1 (.slice A n c) n xs) : (0 < n → ∃ ad, A = some ad ∧ ∀ j u, xs[j]? = some u → w.cell? (ad.add j) = some u) ∧ (A = none → c = 0) := by
  rcases h.2 with ⟨hv, h0⟩ | ⟨g, o, cap, cur, hv, hh, _⟩
  · injection hv with h1 h2 h3
    exact ⟨fun h => by omega, fun _ => h3⟩
  · injection hv with h1 h2 h3
    subst h1
    exact ⟨fun _ => ⟨_, rfl, fun j u hu => by rw [Addr.add_lit]; exact h.at rfl hu⟩, fun h => by cases h⟩
theorem KeyAt.ev {K : Nat → Int} {Z : Nat → Prop} {w w' : World} {b g : Nat} {seed : ByteArray} {h u : Nat} {cs : Array Value} (H : KeyAt K Z w b seed h u) (hg : w.heap[g]? = some (.cells cs 50 (0, 0))) (hu : Unch (fun k => k = g) w w') : KeyAt K Z w' b seed h u := by
  obtain ⟨dn, lv, hb, hc⟩ := H.is
  have hne : b ≠ g := fun e => by
    subst e
    rw [hb] at hg
    injection hg with hg
    injection hg with _ hg
    exact absurd hg (by decide)
  exact ⟨dn, lv, hu.heap hb hne, hc.imp (fun h => h) (fun ⟨e1, e2, e3⟩ => ⟨e1, row_other e2 hg (by decide) hu, e3⟩)⟩
set_option maxHeartbeats 2000000 in
theorem sign_ok (K : Nat → Int) (Z : Nat → Prop) (e : Ev) (A : Option Addr) (c : Nat) (b : Nat) (seed : ByteArray) (hs : seed.size ≤ 1000000) (h u : Nat) (hh : h ≤ 4) (hu100 : u ≤ 100) (w : World) (hK : Kys K w) (hk0 : b ≠ 0) (hZ : ∀ g, Z g → g < w.heap.size) (H : KeyAt K Z w b seed h u) (hrow : Row w 9 1 (.slice A e.ps.length c) e.ps.length (sv e.ps)) (hn : e.ps.length ≤ 1000) :
    Calls Tryz.prog 45 #[.agg (evV e A c), .pointer (some ⟨b, 0, none⟩)] w fun x w' => SignP K Z e b seed h u w x w' := by
  have hbl := H.lt
  obtain ⟨fin, hfin⟩ : ∃ F, SignP K Z e b seed h u = F := ⟨_, rfl⟩
  rw [hfin]
  have FIN := Lib.hid hfin
  clear hfin
  obtain ⟨kind, author, ps, body, sig⟩ := e
  simp only [] at hrow hn
  obtain ⟨n, hpn⟩ : ∃ n, ps.length = n := ⟨_, rfl⟩
  simp only [evV]
  rw [hpn] at hrow hn ⊢
  have HPN := Lib.hid hpn
  have hrw : ∀ W, Unch (fun k => k = b) w W → Row W 9 1 (.slice A n c) n (sv ps) := fun W hu => by
    obtain ⟨dn, lv, hb, _⟩ := H.is
    exact row_other hrow hb (by decide) hu
  have hKu : ∀ W, Unch (fun k => k = b) w W → Kys K W := fun W hu => hK.unch hu (fun e => hk0 e.symm)
  have HRW := Lib.hid hrw
  have HKU := Lib.hid hKu
  have HZ := Lib.hid hZ
  clear hpn hrw hKu hZ
  have hd0 : EvW (fun k => k = b) w (w.heap.size + 1) w.heap.size #[.int .i64 kind, .string author, .slice A n c, .string body, .string sig] ((w.alloc (.cells #[.int .i64 kind, .string author, .slice A n c, .string body, .string sig] 50)).alloc (.cells zEv 50)) := by
    have hua := (Unch.refl none_ w).alloc (.cells #[.int .i64 kind, .string author, .slice A n c, .string body, .string sig] 50)
    have hub := hua.alloc (.cells zEv 50)
    have hz := blk_new (w.alloc (.cells #[.int .i64 kind, .string author, .slice A n c, .string body, .string sig] 50)) (.cells zEv 50)
    rw [show (w.alloc (.cells #[.int .i64 kind, .string author, .slice A n c, .string body, .string sig] 50)).heap.size = w.heap.size + 1 by simp] at hz
    exact ⟨hub.mono (fun _ _ h => h.elim), hz, blk_alloc (blk_new w _) _, by omega, by omega, by omega⟩
  unfold zEv at hd0
  have hH0 : KeyAt K Z ((w.alloc (.cells #[.int .i64 kind, .string author, .slice A n c, .string body, .string sig] 50)).alloc (.cells #[.int .i64 0, .string ⟨#[]⟩, .slice none 0 0, .string ⟨#[]⟩, .string ⟨#[]⟩] 50)) b seed h u := H.unch (((Unch.refl none_ w).alloc _).alloc _)
  have hpb := public_ok K Z b seed hs h u hh _ (HKU.out _ hd0.u) hk0 (fun g hg => Nat.lt_of_lt_of_le (HZ.out g hg) hd0.u.size) hH0
  have HPB := Lib.hid hpb
  have HD0 := Lib.hid hd0
  clear hd0 hH0 hpb hrow H hK
  go_enter Tryz.func45, Tryz.ntmps45
  go_wp2_with fail
  refine HPB.out.mono ?_
  rintro _ w3 ⟨rfl, H3, hu3⟩
  have hd3 := HD0.out.step hu3 (fun k e => ⟨by omega, e⟩)
  generalize hpb : pubF K seed h = pub at *
  have x3 := evCells hd3.ev
  have f3 := blk_free hd3.ev 1
  have hd4 := hd3.set 1 (.string pub)
  have H4 := H3.ev hd3.ev ((Unch.refl (fun k => k = w.heap.size) w3).setCell (p := ⟨w.heap.size, 1, none⟩) (.string pub) (fun _ => rfl))
  rw [(agg5_eq _ _ _ _ _ _).1] at hd4
  obtain ⟨y0, y1, y2, y3, y4⟩ := evCells hd4.ev
  have x31 := x3.2.1
  have hct := evContent_ok ⟨kind, pub, ps, body, sig⟩ A c _ (by simp only []; rw [HPN.out]; exact srow_rds (HRW.out _ hd4.u)) (by simp only []; rw [HPN.out]; omega)
  simp only [evV] at hct
  rw [HPN.out] at hct
  have hcsz := fun h => contentF_size (right_small (e := noSig ⟨kind, pub, ps, body, sig⟩) h)
  have hfin : signF K ⟨kind, author, ps, body, sig⟩ seed h u = if rightF (noSig ⟨kind, pub, ps, body, sig⟩) = true ∧ u < 2 ^ h then some ⟨kind, pub, ps, body, ksigF K seed h u (contentF (noSig ⟨kind, pub, ps, body, sig⟩))⟩ else none := by unfold signF; rw [hpb]
  have hfiu : signU K ⟨kind, author, ps, body, sig⟩ seed h u = if rightF (noSig ⟨kind, pub, ps, body, sig⟩) = true ∧ u < 2 ^ h then u + 1 else u := by unfold signU; rw [hpb]
  generalize contentF (noSig ⟨kind, pub, ps, body, sig⟩) = ct at *
  have HD4 := Lib.hid hd4
  have HH4 := Lib.hid H4
  clear hd3 hd4 H3 H4 hu3 x3 HPB HD0 hpb
  have hz0 : ∀ W, EvW (fun k => k = b) w (w.heap.size + 1) w.heap.size #[.int .i64 kind, .string pub, .slice A n c, .string body, .string sig] W → (W.cell? ⟨w.heap.size + 1, 0, none⟩ = some (.int .i64 0) ∧ W.cell? ⟨w.heap.size + 1, 1, none⟩ = some (.string ⟨#[]⟩) ∧ W.cell? ⟨w.heap.size + 1, 2, none⟩ = some (.slice none 0 0) ∧ W.cell? ⟨w.heap.size + 1, 3, none⟩ = some (.string ⟨#[]⟩) ∧ W.cell? ⟨w.heap.size + 1, 4, none⟩ = some (.string ⟨#[]⟩)) ∧ (∀ j, W.frozen? ⟨w.heap.size + 1, j, none⟩ = false) := fun W h =>
    ⟨⟨blk_cell h.brc (j := 0) rfl, blk_cell h.brc (j := 1) rfl, blk_cell h.brc (j := 2) rfl, blk_cell h.brc (j := 3) rfl, blk_cell h.brc (j := 4) rfl⟩, blk_free h.brc⟩
  cases hR : rightF (noSig ⟨kind, pub, ps, body, sig⟩) with
  | false =>
    rw [hR] at hct hfin hfiu
    rw [if_neg (by decide)] at hct
    rw [if_neg (by simp)] at hfin hfiu
    have HFIN := Lib.hid hfin
    have HFIU := Lib.hid hfiu
    have HCT := Lib.hid hct
    clear hct hfin hfiu hcsz hR
    go_wp2_with (go_at_call 74; refine HCT.out.mono ?_; rintro _ w5 ⟨rfl, hu5⟩; have hd5 := HD4.out.step hu5 (fun _ h => h.elim); obtain ⟨⟨z0, z1, z2, z3, z4⟩, zf⟩ := hz0 _ hd5; have HD5 := Lib.hid hd5; have HU5 := Lib.hid hu5; clear hd5 hu5)
    have hset := set5 (v0 := .int .i64 0) (v1 := .string ⟨#[]⟩) (v2 := .slice none 0 0) (v3 := .string ⟨#[]⟩) (v4 := .string ⟨#[]⟩) HD5.out.brc
    refine bodyPost_ret (results_cell_row2 rfl _ _ (w.heap.size + 1) _ _ _ _ rfl hset Tryz.underlying50 rfl (by kernel_rfl)) rfl ?_
    rw [← FIN.out]
    unfold SignP
    rw [HFIN.out, HFIU.out]
    exact ⟨((HH4.out.unch HU5.out).ev HD5.out.brc unch_set5), HD5.out.zero, .inl ⟨rfl, 2, rfl, rfl⟩⟩
  | true =>
    rw [hR] at hct hfin hfiu
    rw [if_pos rfl] at hct
    have hcsz := hcsz hR
    have HCT := Lib.hid hct
    clear hct
    by_cases hul : u < 2 ^ h
    · rw [if_pos ⟨rfl, hul⟩] at hfin hfiu
      have hks := fun W (hZ : ∀ g, Z g → g < W.heap.size) (hK : Kys K W) (H : KeyAt K Z W b seed h u) => ksign_ok K Z b seed hs h u hh hul ct (by omega) W hK hk0 hZ H
      generalize ksigF K seed h u ct = sg at *
      have HFIN := Lib.hid hfin
      have HFIU := Lib.hid hfiu
      have HKS := Lib.hid hks
      clear hfin hfiu hcsz hR hks hul
      go_wp2_with (go_at_call 74; refine HCT.out.mono ?_; rintro _ w5 ⟨rfl, hu5⟩; have hd5 := HD4.out.step hu5 (fun _ h => h.elim); have HD5 := Lib.hid hd5; have HU5 := Lib.hid hu5; clear hd5 hu5)
      refine (HKS.out _ (fun g hg => Nat.lt_of_lt_of_le (HZ.out g hg) HD5.out.u.size) (HKU.out _ HD5.out.u) (HH4.out.unch HU5.out)).mono ?_
      rintro _ w6 ⟨rfl, H6, hu6⟩
      have hd6 := HD5.out.step hu6 (fun k e => ⟨by omega, e⟩)
      have c64 : w6.cell? ⟨w.heap.size, 4, none⟩ = some (.string sig) := (evCells hd6.ev).2.2.2.2
      have q64 : w6.frozen? ⟨w.heap.size, 4, none⟩ = false := blk_free hd6.ev 4
      have hd7 := hd6.set 4 (.string sg)
      rw [(agg5_eq _ _ _ _ _ _).2.2.2] at hd7
      have H7 := H6.ev hd6.ev ((Unch.refl (fun k => k = w.heap.size) w6).setCell (p := ⟨w.heap.size, 4, none⟩) (.string sg) (fun _ => rfl))
      have HD7 := Lib.hid hd7
      have HH7 := Lib.hid H7
      have c72 := (evCells hd7.ev).2.2.1
      clear hd6 hu6 H6 hd7 H7 HKS HCT
      have hr7 := HRW.out _ HD7.out.u
      obtain ⟨hA, hA0⟩ := row_news hr7
      have hsl := sv_len ps
      rw [HPN.out] at hsl
      have HA := Lib.hid hA
      have HA0 := Lib.hid hA0
      have HSL := Lib.hid hsl
      clear hA hA0 hsl hr7
      go_wp2_with (at_builtin; refine wpList_append (w6.setCell ⟨w.heap.size, 4, none⟩ (.string sg)) rfl (.const (.slice none 0 0)) (.tmp 33) 25 9 _ 1 16 rfl Tryz.underlying25 info_str rfl (by omega) (.slice none 0 0) 0 [] (by rfl) (Row.nil _ _ _) A n c (sv ps) (by rfl) (by rw [HSL.out]; omega) HA.out HA0.out (by intro u hu; simp only [sv, List.mem_map] at hu; obtain ⟨x, _, rfl⟩ := hu; rfl) (by simp only [maxLen]; omega) (by omega) ?_; intro v8 w8 hr8 hu8 hat8; rw [Nat.zero_add] at hr8; obtain ⟨A8, c8, rfl, hcc8⟩ := hr8.slice; have HR8 := Lib.hid hr8; have HAT8 := Lib.hid hat8; have HU8 := Lib.hid (hu8.mono (Y := none_) (fun k _ h => by cases h)); clear hr8 hu8 hat8; clear y0 y1 y2 y3 y4 c72 c64 q64 x31 f3; obtain ⟨e0, e1, e2, e3, e4⟩ := evCells (HU8.out.heap HD7.out.ev (fun h => h)); have q82 := blk_free (HU8.out.heap HD7.out.ev (fun h => h)); obtain ⟨⟨z0, z1, z2, z3, z4⟩, zf⟩ := zCells (HU8.out.heap HD7.out.brc (fun h => h)))
      have hd8 := HD7.out.step HU8.out (fun _ h => h.elim)
      have hd9 := hd8.set 2 (.slice A8 n c8)
      rw [(agg5_eq _ _ _ _ _ _).2.1] at hd9
      have hu9 : Unch (fun k => k = w.heap.size) w8 (w8.setCell ⟨w.heap.size, 2, none⟩ (.slice A8 n c8)) := (Unch.refl _ _).setCell _ (fun _ => rfl)
      have H9 := (HH7.out.unch HU8.out).ev hd8.ev hu9
      have hr9 := row_other HR8.out hd8.ev (by decide) hu9
      have HD9 := Lib.hid hd9
      have HH9 := Lib.hid H9
      have HR9 := Lib.hid hr9
      clear hd8 hd9 H9 hr9 hu9
      have hset := set5 (v0 := .int .i64 kind) (v1 := .string pub) (v2 := .slice A8 n c8) (v3 := .string body) (v4 := .string sg) HD9.out.brc
      refine bodyPost_ret (results_cell_row2 rfl _ _ (w.heap.size + 1) _ _ _ _ rfl hset Tryz.underlying50 rfl (by kernel_rfl)) rfl ?_
      rw [← FIN.out]
      unfold SignP
      rw [HFIN.out, HFIU.out]
      refine ⟨HH9.out.ev HD9.out.brc unch_set5, HD9.out.u.step unch_set5 (fun k hk e => by have := HD9.out.hrc; omega), .inr ⟨_, rfl, A8, c8, by simp only [evV]; rw [HPN.out]; rfl, ?_, fun g o e => ?_⟩⟩
      · simp only []
        rw [HPN.out]
        exact row_other HR9.out HD9.out.brc (by decide) unch_set5
      · rcases HAT8.out with h8 | ⟨g8, h8, hl8⟩
        · rw [e] at h8; cases h8
        · rw [e] at h8
          have hg : g = g8 := by simpa [Value.ownBlock] using h8
          have h1 := HD7.out.u.size
          omega
    · rw [if_neg (fun e => hul e.2)] at hfin hfiu
      have hks := fun W (H : KeyAt K Z W b seed h u) => kspent_ok K Z b seed h u hh (by omega) hu100 ct W H
      have HFIN := Lib.hid hfin
      have HFIU := Lib.hid hfiu
      have HKS := Lib.hid hks
      clear hfin hfiu hcsz hR hks hul
      go_wp2_with (go_at_call 74; refine HCT.out.mono ?_; rintro _ w5 ⟨rfl, hu5⟩; have hd5 := HD4.out.step hu5 (fun _ h => h.elim); have HD5 := Lib.hid hd5; have HU5 := Lib.hid hu5; clear hd5 hu5)
      refine (HKS.out _ (HH4.out.unch HU5.out)).mono ?_
      rintro _ w6 ⟨rfl, rfl⟩
      have hd6 := HD5.out.set 4 (.string ⟨#[]⟩)
      rw [(agg5_eq _ _ _ _ _ _).2.2.2] at hd6
      have c64 : w5.cell? ⟨w.heap.size, 4, none⟩ = some (.string sig) := (evCells HD5.out.ev).2.2.2.2
      have q64 : w5.frozen? ⟨w.heap.size, 4, none⟩ = false := blk_free HD5.out.ev 4
      have H6 := (HH4.out.unch HU5.out).ev HD5.out.ev ((Unch.refl (fun k => k = w.heap.size) w5).setCell (p := ⟨w.heap.size, 4, none⟩) (.string ⟨#[]⟩) (fun _ => rfl))
      obtain ⟨⟨z0, z1, z2, z3, z4⟩, zf⟩ := zCells hd6.brc
      have HD6 := Lib.hid hd6
      have HH6 := Lib.hid H6
      clear hd6 H6 hz0
      go_wp2_with fail
      have hset := set5 (v0 := .int .i64 0) (v1 := .string ⟨#[]⟩) (v2 := .slice none 0 0) (v3 := .string ⟨#[]⟩) (v4 := .string ⟨#[]⟩) HD6.out.brc
      refine bodyPost_ret (results_cell_row2 rfl _ _ (w.heap.size + 1) _ _ _ _ rfl hset Tryz.underlying50 rfl (by kernel_rfl)) rfl ?_
      rw [← FIN.out]
      unfold SignP
      rw [HFIN.out, HFIU.out]
      exact ⟨HH6.out.ev HD6.out.brc unch_set5, HD6.out.zero, .inl ⟨rfl, 5, rfl, rfl⟩⟩
end Go.Proofs.YtgcpoppinnnciaaGreatDoor
