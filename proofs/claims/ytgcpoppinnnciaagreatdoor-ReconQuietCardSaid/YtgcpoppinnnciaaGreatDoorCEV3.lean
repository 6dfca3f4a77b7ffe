/-
  event: Decode.
-/
import Derived.Test.YtgcpoppinnnciaaGreatDoorCEV2
import Derived.Test.YtgcpoppinnnciaaGreatDoorCPlanQ
import Derived.Laws.ResultCell
/- event: Decode. -/
set_option linter.unusedVariables false
set_option linter.unusedSimpArgs false
set_option maxRecDepth 100000
namespace Go.Proofs.YtgcpoppinnnciaaGreatDoor
open Go Go.RowKit Go.Proofs.YtgcpoppinnnciaaGreatDoor.Pal Go.Proofs.YtgcpoppinnnciaaGreatDoor.Plan

/-- A reader. -/
structure Rd where
  s : ByteArray
  q : Bool
def Rd.bt (r : Rd) (n : Nat) : ByteArray := tkB r.s r.q n
def Rd.nx (r : Rd) (n : Nat) : Rd := ⟨tkR r.s r.q n, tkQ r.s r.q n⟩
def Rd.num (r : Rd) (n : Nat) : Nat := numI (r.bt n) (r.bt n).size
def Rd.txt (r : Rd) : ByteArray := (r.nx 2).bt (r.num 2)
def Rd.txtN (r : Rd) : Rd := (r.nx 2).nx (r.num 2)
theorem Rd.num1_lt (r : Rd) : r.num 1 < 256 := by
  have h := numI_lt (r.bt 1) (r.bt 1).size (Nat.le_refl _)
  have h2 := tkB_size r.s r.q 1
  have h3 : 256 ^ (r.bt 1).size ≤ 256 ^ 1 := Nat.pow_le_pow_right (by decide) h2
  have h4 : (256 : Nat) ^ 1 = 256 := rfl
  unfold Rd.num
  omega
def psR : Nat → Rd → List ByteArray
  | 0, _ => []
  | n + 1, r => if r.q = true then [] else r.bt 32 :: psR n (r.nx 32)
def psN : Nat → Rd → Rd
  | 0, r => r
  | n + 1, r => if r.q = true then r else psN n (r.nx 32)
theorem psR_len : ∀ (n : Nat) (r : Rd), (psR n r).length ≤ n
  | 0, _ => Nat.le_refl _
  | n + 1, r => by
    unfold psR
    split
    · exact Nat.zero_le _
    · rw [List.length_cons]
      have := psR_len n (r.nx 32)
      omega
def rd1 (s : ByteArray) : Rd := Rd.nx ⟨s, false⟩ 1
def rd2 (s : ByteArray) : Rd := (rd1 s).txtN
def rd4 (s : ByteArray) : Rd := psN ((rd2 s).num 1) ((rd2 s).nx 1)
def rd6 (s : ByteArray) : Rd := (rd4 s).txtN.txtN
def rawE (s : ByteArray) : Ev := ⟨((Rd.num ⟨s, false⟩ 1 : Nat) : Int), (rd1 s).txt, psR ((rd2 s).num 1) ((rd2 s).nx 1), (rd4 s).txt, (rd4 s).txtN.txt⟩
/-- Whether bytes are an event's; it. -/
def decB (s : ByteArray) : Bool := (!(rd6 s).q && decide ((rd6 s).s.size = 0)) && rightF (rawE s)
def RdW (W : World) (g : Nat) (r : Rd) : Prop := RdO W g r.s r.q
theorem rByte_ok (g : Nat) (r : Rd) (w : World) (h : RdW w g r) : Calls Tryz.prog 120 #[.pointer (some ⟨g, 0, none⟩)] w fun e w' => e = .returned (.int .i64 (r.num 1 : Nat)) ∧ RdW w' g (r.nx 1) ∧ Unch (fun k => k = g) w w' := octRByte_ok g r.s r.q w h
theorem rText_ok (g : Nat) (r : Rd) (w : World) (h : RdW w g r) : Calls Tryz.prog 121 #[.pointer (some ⟨g, 0, none⟩)] w fun e w' => e = .returned (.string r.txt) ∧ RdW w' g r.txtN ∧ Unch (fun k => k = g) w w' := octRText_ok g r.s r.q w h rfl
theorem rTake_ok (g : Nat) (r : Rd) (n : Nat) (w : World) (h : RdW w g r) : Calls Tryz.prog 123 #[.pointer (some ⟨g, 0, none⟩), .int .i64 (n : Int)] w fun e w' => e = .returned (.string (r.bt n)) ∧ RdW w' g (r.nx n) ∧ Unch (fun k => k = g) w w' := octTk_ok g n r.s r.q w h
theorem rGood_ok (g : Nat) (r : Rd) (w : World) (h : RdW w g r) : Calls Tryz.prog 122 #[.pointer (some ⟨g, 0, none⟩)] w fun e w' => e = .returned (.bool (!r.q)) ∧ w = w' := octGood_ok g r.s r.q w h
theorem rEnd_ok (g : Nat) (r : Rd) (w : World) (h : RdW w g r) : Calls Tryz.prog 124 #[.pointer (some ⟨g, 0, none⟩)] w fun e w' => e = .returned (.bool (!r.q && decide (r.s.size = 0))) ∧ w = w' := octEnd_ok g r.s r.q w h
theorem results_cell_row2 {P : Program} {fn : Func} {p u : Tmp} {ty : TypeId} (h : fn.results = #[.cell p ty, .tmp u]) (tmps : Array Value) (w : World) (g : Nat) (t : TypeId) (cs : Array Value) (fr : Nat × Nat) (d : TypeDesc)
    (hp : tmps.getD p undef = .pointer (some ⟨g, 0, none⟩)) (hg : w.heap[g]? = some (.cells cs t fr))
    (hu : P.underlying ty = some d) (hd : (match d with | .struct _ | .array _ _ => true | _ => false) = true) (hi : (P.info? ty).map (·.size) = some cs.size) :
    (results fn tmps).run P w = .ok (.tuple #[.agg cs, tmps.getD u undef]) w := by
  rw [results_cell_tmp h, hp]
  simp [asAddr, run_loadVar_row w g t ty cs fr d hg hu hd hi]
def zEv : Array Value := #[.int .i64 0, .string ⟨#[]⟩, .slice none 0 0, .string ⟨#[]⟩, .string ⟨#[]⟩]
/-- What Decode has laid. -/
structure DeW (w : World) (rc g eb : Nat) (r : Rd) (cs : Array Value) (W : World) : Prop where
  u : Unch none_ w W
  brc : W.heap[rc]? = some (.cells zEv 50 (0, 0))
  rd : RdW W g r
  ev : W.heap[eb]? = some (.cells cs 50 (0, 0))
  hrc : w.heap.size ≤ rc
  hg : w.heap.size ≤ g
  heb : w.heap.size ≤ eb
  ne : rc ≠ eb
section
variable {w W W' : World} {rc g eb : Nat} {r r' : Rd} {cs : Array Value}
theorem RdW.ne {b : Nat} {cs : Array Value} {t : TypeId} {fr : Nat × Nat} (h : RdW W g r) (hb : W.heap[b]? = some (.cells cs t fr)) (ht : t ≠ 190) : b ≠ g := fun e => by
  subst e
  unfold RdW RdO at h
  rw [h] at hb
  injection hb with hb
  injection hb with _ hb
  exact ht hb.symm
theorem DeW.read (h : DeW w rc g eb r cs W) (hr : RdW W' g r') (hu : Unch (fun k => k = g) W W') : DeW w rc g eb r' cs W' :=
  ⟨h.u.step hu (fun k hk e => by have := h.hg; omega), hu.heap h.brc (h.rd.ne h.brc (by decide)), hr, hu.heap h.ev (h.rd.ne h.ev (by decide)), h.hrc, h.hg, h.heb, h.ne⟩
theorem DeW.unch (h : DeW w rc g eb r cs W) (hu : Unch none_ W W') : DeW w rc g eb r cs W' :=
  ⟨h.u.trans hu, hu.heap h.brc (fun h => h), hu.heap h.rd (fun h => h), hu.heap h.ev (fun h => h), h.hrc, h.hg, h.heb, h.ne⟩
theorem DeW.set (h : DeW w rc g eb r cs W) (j : Nat) (v : Value) : DeW w rc g eb r (cs.setIfInBounds j v) (W.setCell ⟨eb, j, none⟩ v) := by
  have hu : Unch (fun k => k = eb) W (W.setCell ⟨eb, j, none⟩ v) := (Unch.refl _ _).setCell _ (fun _ => rfl)
  exact ⟨h.u.step hu (fun k hk e => by have := h.heb; omega), hu.heap h.brc h.ne, hu.heap h.rd (fun e => h.rd.ne h.ev (by decide) e.symm), blk_set h.ev j v, h.hrc, h.hg, h.heb, h.ne⟩
theorem DeW.app (h : DeW w rc g eb r cs W) {v : Value} {n : Nat} {xs : List Value} (hr : Row W 9 1 v n xs) (hv : ∀ b, v.ownBlock = some b → w.heap.size ≤ b) (hu : Unch (fun k => v.ownBlock = some k) W W') : DeW w rc g eb r cs W' := by
  have hne : ∀ b cs t fr, W.heap[b]? = some (.cells cs t fr) → t ≠ 9 → ¬ v.ownBlock = some b := fun b cs t fr hb ht e => by
    obtain ⟨cur, hc⟩ := hr.blk e
    rw [hc] at hb
    injection hb with hb
    injection hb with _ hb
    exact ht hb.symm
  have hrd := h.rd
  exact ⟨h.u.step hu (fun k hk e => by have := hv k e; omega), hu.heap h.brc (hne _ _ _ _ h.brc (by decide)), hu.heap hrd (hne _ _ _ _ hrd (by decide)), hu.heap h.ev (hne _ _ _ _ h.ev (by decide)), h.hrc, h.hg, h.heb, h.ne⟩
end
theorem SMid.other {w W W' : World} {v : Value} {m b : Nat} {ys : List ByteArray} {cs : Array Value} {t : TypeId} {fr : Nat × Nat} (h : SMid w W v m ys) (hb : W.heap[b]? = some (.cells cs t fr)) (ht : t ≠ 9) (hl : w.heap.size ≤ b) (hu : Unch (fun k => k = b) W W') : SMid w W' v m ys :=
  ⟨h.hu.step hu (fun k hk e => by omega), h.own, row_other h.row hb ht hu⟩
theorem agg5_eq (a b c d e x : Value) : (#[a, b, c, d, e] : Array Value).setIfInBounds 1 x = #[a, x, c, d, e] ∧ (#[a, b, c, d, e] : Array Value).setIfInBounds 2 x = #[a, b, x, d, e] ∧ (#[a, b, c, d, e] : Array Value).setIfInBounds 3 x = #[a, b, c, x, e] ∧ (#[a, b, c, d, e] : Array Value).setIfInBounds 4 x = #[a, b, c, d, x] := ⟨rfl, rfl, rfl, rfl⟩
theorem set5 {W : World} {g : Nat} {t : TypeId} {a b c d e v0 v1 v2 v3 v4 : Value} (h : W.heap[g]? = some (.cells #[a, b, c, d, e] t (0, 0))) :
    (((((W.setCell ⟨g, 0, none⟩ v0).setCell ⟨g, 1, none⟩ v1).setCell ⟨g, 2, none⟩ v2).setCell ⟨g, 3, none⟩ v3).setCell ⟨g, 4, none⟩ v4).heap[g]? = some (.cells #[v0, v1, v2, v3, v4] t (0, 0)) :=
  blk_set (blk_set (blk_set (blk_set (blk_set h 0 v0) 1 v1) 2 v2) 3 v3) 4 v4
theorem unch_set5 {W : World} {g : Nat} {v0 v1 v2 v3 v4 : Value} : Unch (fun k => k = g) W (((((W.setCell ⟨g, 0, none⟩ v0).setCell ⟨g, 1, none⟩ v1).setCell ⟨g, 2, none⟩ v2).setCell ⟨g, 3, none⟩ v3).setCell ⟨g, 4, none⟩ v4) :=
  (((((Unch.refl (fun k => k = g) W).setCell (p := ⟨g, 0, none⟩) _ (fun _ => rfl)).setCell (p := ⟨g, 1, none⟩) _ (fun _ => rfl)).setCell (p := ⟨g, 2, none⟩) _ (fun _ => rfl)).setCell (p := ⟨g, 3, none⟩) _ (fun _ => rfl)).setCell (p := ⟨g, 4, none⟩) _ (fun _ => rfl)
/-- What Decode answers. -/
def DecP (w : World) (re : Ev) (res : Bool) (x : Ending) (w' : World) : Prop :=
  Unch none_ w w' ∧ ((res = false ∧ x = .returned (.tuple #[.agg zEv, .int .i64 2])) ∨ (res = true ∧ ∃ A c, x = .returned (.tuple #[.agg (evV re A c), .int .i64 0]) ∧ Row w' 9 1 (.slice A re.ps.length c) re.ps.length (sv re.ps) ∧ re.ps.length ≤ c))
set_option maxHeartbeats 2000000 in
theorem decode_ok (s : ByteArray) (w : World) : Calls Tryz.prog 81 #[.string s] w fun x w' => DecP w (rawE s) (decB s) x w' := by
  obtain ⟨res, hres⟩ : ∃ b, decB s = b := ⟨_, rfl⟩
  obtain ⟨re, hre⟩ : ∃ e, rawE s = e := ⟨_, rfl⟩
  rw [hres, hre]
  have hres2 := hres
  unfold decB at hres2
  rw [hre] at hres2
  have hre2 := hre
  unfold rawE at hre2
  have HRES := Lib.hid hres2
  have HRE := Lib.hid hre2
  clear hres hre hres2 hre2
  have hz : ∀ W : World, (W.alloc (.cells zEv 50)).heap[W.heap.size]? = some (.cells zEv 50 (0, 0)) := fun W => blk_new W _
  have hu0 := (Unch.refl none_ w).alloc (.cells zEv 50)
  have hz0 := hz w
  have hsz : (w.alloc (.cells zEv 50)).heap.size = w.heap.size + 1 := by simp
  unfold zEv at hu0 hz0 hsz
  generalize hw1 : w.alloc (.cells #[.int .i64 0, .string ⟨#[]⟩, .slice none 0 0, .string ⟨#[]⟩, .string ⟨#[]⟩] 50) = w1 at *
  have HRD := Lib.hid (octRead_ok s w1)
  go_enter Tryz.func81, Tryz.ntmps81
  go_wp2_with fail
  refine HRD.out.mono ?_
  rintro _ w2 ⟨rfl, hr2, hu2⟩
  have hrc2 := hu2.heap hz0 (fun h => h)
  have hu02 := hu0.trans hu2
  have hgs := hr2
  have hgs := lt_of_heap hgs
  have hrg : w.heap.size ≠ w1.heap.size := by omega
  have hlg : w.heap.size ≤ w1.heap.size := by omega
  generalize w1.heap.size = g at *
  have hB := rByte_ok g ⟨s, false⟩ w2 hr2
  generalize hrc : w.heap.size = rc at *
  have HRC := Lib.hid hrc
  have HU02 := Lib.hid hu02
  have HRC2 := Lib.hid hrc2
  have HB := Lib.hid hB
  clear hrc hu02 hrc2 hB hu2 hr2 HRD hu0 hz0 hsz hw1 hz
  go_wp2_with fail
  refine HB.out.mono ?_
  rintro _ w3 ⟨rfl, hr3, hu3⟩
  have e3 : (Rd.nx ⟨s, false⟩ 1) = rd1 s := rfl
  rw [e3] at hr3
  generalize hkk : Rd.num ⟨s, false⟩ 1 = kk at *
  have hrc3 := hu3.heap HRC2.out hrg
  have hu03 := HU02.out.step hu3 (fun k hk e => by have := HRC.out; omega)
  have hd : DeW w rc g w3.heap.size (rd1 s) #[.int .i64 (kk : Int), .string ⟨#[]⟩, .slice none 0 0, .string ⟨#[]⟩, .string ⟨#[]⟩] (w3.alloc (.cells #[.int .i64 (kk : Int), .string ⟨#[]⟩, .slice none 0 0, .string ⟨#[]⟩, .string ⟨#[]⟩] 50)) := by
    have hua := (Unch.refl none_ w3).alloc (.cells #[.int .i64 (kk : Int), .string ⟨#[]⟩, .slice none 0 0, .string ⟨#[]⟩, .string ⟨#[]⟩] 50)
    have h1 := hu03.size
    have h2 := lt_of_heap hrc3
    have h3 := HRC.out
    exact ⟨hu03.trans hua, hua.heap hrc3 (fun h => h), hua.heap hr3 (fun h => h), blk_new _ _, by omega, by omega, h1, by omega⟩
  have HT := Lib.hid (rText_ok g (rd1 s) _ hd.rd)
  have HD := Lib.hid hd
  clear hd hrc3 hu03 e3 hr3 hu3 HB HU02 HRC2
  go_wp2_with fail
  generalize hw4 : w3.alloc (.cells #[.int .i64 (kk : Int), .string ⟨#[]⟩, .slice none 0 0, .string ⟨#[]⟩, .string ⟨#[]⟩] 50) = w4 at *
  generalize w3.heap.size = eb at *
  clear hw4
  refine HT.out.mono ?_
  rintro _ w5 ⟨rfl, hr5, hu5⟩
  have hd5 := HD.out.read hr5 hu5
  rw [show (rd1 s).txtN = rd2 s from rfl] at hd5
  clear HD HT hr5 hu5
  generalize (rd1 s).txt = au at *
  have hd6 := hd5.set 1 (.string au)
  rw [(agg5_eq _ _ _ _ _ _).1] at hd6
  have hc5 : w5.cell? ⟨eb, 1, none⟩ = some (.string ⟨#[]⟩) := blk_cell hd5.ev (j := 1) rfl
  have hf5 : w5.frozen? ⟨eb, 1, none⟩ = false := blk_free hd5.ev 1
  have HD6 := Lib.hid hd6
  have HB := Lib.hid (rByte_ok g (rd2 s) _ hd6.rd)
  clear hd5 hd6
  have hn8 := Rd.num1_lt (rd2 s)
  have HR4 := Lib.hid (show psN ((rd2 s).num 1) ((rd2 s).nx 1) = rd4 s from rfl)
  have hpl := psR_len ((rd2 s).num 1) ((rd2 s).nx 1)
  generalize hP : psR ((rd2 s).num 1) ((rd2 s).nx 1) = PS at *
  have HP := Lib.hid hP
  clear hP
  generalize hN : (rd2 s).num 1 = n at *
  clear hN hkk hgs
  go_wp2_with (go_at_call 120; refine HB.out.mono ?_; rintro _ w7 ⟨rfl, hr7, hu7⟩; have HD7 := Lib.hid (HD6.out.read hr7 hu7); clear hr7 hu7)
  generalize (rd2 s).nx 1 = r0 at *
  clear hc5 hf5 HB HD6
  go_loopg [6] n (fun gk i6 wr => ∃ (j : Nat) (r : Rd) (ps : List ByteArray) (v : Value), j = gk ∧ i6 = .int .i64 (j : Int) ∧ ps.length + j ≤ n ∧ ps ++ psR j r = PS ∧ psN j r = rd4 s ∧ DeW w rc g eb r #[.int .i64 (kk : Int), .string au, v, .string ⟨#[]⟩, .string ⟨#[]⟩] wr ∧ SMid w wr v ps.length ps)
  case atStart => exact ⟨n, r0, [], .slice none 0 0, rfl, rfl, by simp, HP.out, HR4.out, HD7.out, HD7.out.u, (fun b hb => by cases hb), Row.nil _ _ _⟩
  case round =>
    clear HD7 HP HR4
    obtain ⟨j, r, ps, v, rfl, rfl, hjn, hps, hpn, hd, hm⟩ := hrel
    obtain ⟨w8, rfl⟩ : ∃ w8, w8 = wr := ⟨_, rfl⟩
    have HD := Lib.hid hd
    have HM := Lib.hid hm
    have hG := rGood_ok g r w8 hd.rd
    have HPS := Lib.hid hps
    have HPN := Lib.hid hpn
    by_cases hc : 0 < j ∧ r.q = false
    · obtain ⟨hj0, hq⟩ := hc
      obtain ⟨j, rfl⟩ : ∃ i, j = i + 1 := ⟨j - 1, by omega⟩
      rw [hq] at hG
      have z1 : (0 : Int) < ((j + 1 : Nat) : Int) := by omega
      have hps' := hps
      have hpn' := hpn
      unfold psR at hps'
      unfold psN at hpn'
      rw [if_neg (by rw [hq]; decide)] at hps' hpn'
      have HPS' := Lib.hid hps'
      have HPN' := Lib.hid hpn'
      clear hps hpn hps' hpn' hd hm HPS HPN
      have HG := Lib.hid hG
      clear hG
      go_wp2_with (go_at_call 122; refine HG.out.mono ?_; rintro _ w9 ⟨rfl, rfl⟩)
      refine wp_planC (fun W => W.heap[eb]? = w8.heap[eb]?) [0, 1, 2] [3, 4, 5, 6, 7] 2 (by kernel_rfl) (by kernel_rfl) rfl rfl (fun c a d v w h => by cases d <;> exact h) (rfl) ?_
      intro S HS _
      have f0 : ∀ G2 : In S, G2.w.cell? ⟨eb, 2, none⟩ = some v := fun G2 => blk_cell (((HS.out _).1 G2.h).trans HD.out.ev) (j := 2) rfl
      simp only [pickIn, List.getElem?_toArray, List.getElem?_cons_succ, List.getElem?_cons_zero]
      repeat (go_big_quiet_step (fail))
      refine wpQuiet_nil ?_
      clear f0
      have hdr : Unch (fun k => k = g) w8 w8.drew := (Unch.refl _ _).drew
      have hrd := HD.out.rd
      have hrd9 : RdW w8.drew g r := hrd
      have HT := Lib.hid (rTake_ok g r 32 w8.drew hrd9)
      clear hrd hrd9
      refine tail_step ?_
      go_wp2_with fail
      refine HT.out.mono ?_
      rintro _ w10 ⟨rfl, hr10, hu10⟩
      have hd10 := HD.out.read hr10 (hdr.trans hu10)
      have hm10 := HM.out.other HD.out.rd (by decide) HD.out.hg (hdr.trans hu10)
      have HU10 := Lib.hid (hdr.trans hu10)
      have HD10 := Lib.hid hd10
      have HM10 := Lib.hid hm10
      clear hd10 hm10 hdr hu10 hr10
      generalize hx : r.bt 32 = x at *
      go_wp2_with fail
      refine tail_midS ((HS.out _).2 (HD10.out.ev.trans HD.out.ev.symm)) (tail_step ?_)
      go_wp2_with fail
      refine tail_midS ((HS.out _).2 ((HD10.out.unch ((Unch.refl _ _).alloc _)).ev.trans HD.out.ev.symm)) (tail_all ?_)
      have hl255 : ps.length ≤ 255 := by omega
      have HX := Lib.hid hx
      clear hx
      go_wp2_with (at_builtin; refine wpList_append1 w10 rfl (.tmp 26) (.tmp 29) 25 9 _ 1 16 rfl Tryz.underlying25 info_str rfl (by omega) v ps.length (sv ps) (by rfl) HM10.out.row [.string x] rfl (by intro u hu; simp at hu; subst hu; rfl) (by rfl) (by simp only [maxLen]; omega) (by omega) ?_; intro v6 w6 hr6 hu6 hat6; obtain ⟨A6, cc6, rfl, hcc6⟩ := hr6.slice; have hs6 := HM10.out.app1 hr6 hu6 hat6; have hd6 := HD10.out.app HM10.out.row HM10.out.own hu6; have c6 : w6.cell? ⟨eb, 2, none⟩ = some v := blk_cell hd6.ev (j := 2) rfl; have q6 : w6.frozen? ⟨eb, 2, none⟩ = false := blk_free hd6.ev 2; have HS6 := Lib.hid hs6; have HD6 := Lib.hid hd6; clear hr6 hu6 hat6 hs6 hd6)
      go_roundg j
      case measure => omega
      case rel =>
        have hd6 := HD6.out.set 2 (.slice A6 (ps.length + 1) cc6)
        rw [(agg5_eq _ _ _ _ _ _).2.1] at hd6
        refine ⟨j, r.nx 32, ps ++ [x], _, rfl, by go_num, by simp; omega, by rw [← HPS'.out, List.append_assoc]; rfl, HPN'.out, hd6, ?_⟩
        rw [List.length_append]
        exact HS6.out.other HD6.out.ev (by decide) HD6.out.heb ((Unch.refl _ _).setCell _ (fun _ => rfl))
    · have hfin : ps = PS ∧ r = rd4 s := by
        cases j with
        | zero => exact ⟨by simpa [psR] using hps, hpn⟩
        | succ j =>
          have hq : r.q = true := by
            cases hq : r.q with
            | true => rfl
            | false => exact absurd ⟨by omega, hq⟩ hc
          unfold psR at hps
          unfold psN at hpn
          rw [if_pos hq] at hps hpn
          exact ⟨by simpa using hps, hpn⟩
      obtain ⟨rfl, hr4⟩ := hfin
      rw [hr4] at hd hG
      clear HPS HPN HD hps hpn
      have HD := Lib.hid hd
      have hpsl : ps.length ≤ 255 := by omega
      have hgo : j = 0 ∨ (0 < j ∧ (rd4 s).q = true) := by
        rcases Nat.eq_zero_or_pos j with h | h
        · exact .inl h
        · refine .inr ⟨h, ?_⟩
          rw [← hr4]
          cases hq : r.q with
          | true => rfl
          | false => exact absurd ⟨h, hq⟩ hc
      have hT1 := rText_ok g (rd4 s) w8 hd.rd
      generalize hbo : (rd4 s).txt = bo at *
      generalize hsi : (rd4 s).txtN.txt = si at *
      have hE := fun W (h : RdW W g (rd6 s)) => rEnd_ok g (rd6 s) W h
      generalize (!(rd6 s).q && decide ((rd6 s).s.size = 0)) = b1 at *
      have HT1 := Lib.hid hT1
      have HG := Lib.hid hG
      obtain ⟨A, c, rfl, hcc⟩ := hm.row.slice
      obtain ⟨⟩ := HRE.out
      clear hm hd hG hT1 hc hr4 hjn
      have HRE2 := Lib.hid (show (rd4 s).txtN.txtN = rd6 s from rfl)
      rcases hgo with rfl | ⟨hj, hq⟩
      · go_wp2_with fail
        refine HT1.out.mono ?_
        rintro _ w9 ⟨rfl, hr9, hu9⟩
        have hd9 := HD.out.read hr9 hu9
        have hm9 := HM.out.other HD.out.rd (by decide) HD.out.hg hu9
        have c9 : w9.cell? ⟨eb, 3, none⟩ = some (.string ⟨#[]⟩) := blk_cell hd9.ev (j := 3) rfl
        have q9 : w9.frozen? ⟨eb, 3, none⟩ = false := blk_free hd9.ev 3
        have hd10 := hd9.set 3 (.string bo)
        have hm10 := hm9.other hd9.ev (by decide) hd9.heb ((Unch.refl (fun k => k = eb) w9).setCell (p := ⟨eb, 3, none⟩) (.string bo) (fun _ => rfl))
        rw [(agg5_eq _ _ _ _ _ _).2.2.1] at hd10
        have HT2 := Lib.hid (rText_ok g (rd4 s).txtN _ hd10.rd)
        have HD10 := Lib.hid hd10
        have HM10 := Lib.hid hm10
        clear hr9 hu9 hd9 hm9 hd10 hm10 HT1 HD HM
        go_wp2_with fail
        refine HT2.out.mono ?_
        rintro _ w11 ⟨rfl, hr11, hu11⟩
        have hd11 := HD10.out.read hr11 hu11
        have hm11 := HM10.out.other HD10.out.rd (by decide) HD10.out.hg hu11
        rw [HRE2.out] at hd11
        have c11 : w11.cell? ⟨eb, 4, none⟩ = some (.string ⟨#[]⟩) := blk_cell hd11.ev (j := 4) rfl
        have q11 : w11.frozen? ⟨eb, 4, none⟩ = false := blk_free hd11.ev 4
        have hd12 := hd11.set 4 (.string si)
        have hm12 := hm11.other hd11.ev (by decide) hd11.heb ((Unch.refl (fun k => k = eb) w11).setCell (p := ⟨eb, 4, none⟩) (.string si) (fun _ => rfl))
        rw [(agg5_eq _ _ _ _ _ _).2.2.2] at hd12
        rw [hsi] at *
        have HE := Lib.hid (hE _ hd12.rd)
        have HD12 := Lib.hid hd12
        have HM12 := Lib.hid hm12
        clear hr11 hu11 hd11 hm11 hd12 hm12 HT2 HD10 HM10 c9 q9
        go_wp2_with fail
        generalize w11.setCell ⟨eb, 4, none⟩ (.string si) = w12 at *
        clear c11 q11
        have z0 : w12.cell? ⟨rc, 0, none⟩ = some (.int .i64 0) := blk_cell HD12.out.brc (j := 0) rfl
        have z1 : w12.cell? ⟨rc, 1, none⟩ = some (.string ⟨#[]⟩) := blk_cell HD12.out.brc (j := 1) rfl
        have z2 : w12.cell? ⟨rc, 2, none⟩ = some (.slice none 0 0) := blk_cell HD12.out.brc (j := 2) rfl
        have z3 : w12.cell? ⟨rc, 3, none⟩ = some (.string ⟨#[]⟩) := blk_cell HD12.out.brc (j := 3) rfl
        have z4 : w12.cell? ⟨rc, 4, none⟩ = some (.string ⟨#[]⟩) := blk_cell HD12.out.brc (j := 4) rfl
        have f0 := blk_free HD12.out.brc 0
        have f1 := blk_free HD12.out.brc 1
        have f2 := blk_free HD12.out.brc 2
        have f3 := blk_free HD12.out.brc 3
        have f4 := blk_free HD12.out.brc 4
        have e0 : w12.cell? ⟨eb, 0, none⟩ = some (.int .i64 (kk : Int)) := blk_cell HD12.out.ev (j := 0) rfl
        have e1 : w12.cell? ⟨eb, 1, none⟩ = some (.string au) := blk_cell HD12.out.ev (j := 1) rfl
        have e2 : w12.cell? ⟨eb, 2, none⟩ = some (.slice A ps.length c) := blk_cell HD12.out.ev (j := 2) rfl
        have e3 : w12.cell? ⟨eb, 3, none⟩ = some (.string bo) := blk_cell HD12.out.ev (j := 3) rfl
        have e4 : w12.cell? ⟨eb, 4, none⟩ = some (.string si) := blk_cell HD12.out.ev (j := 4) rfl
        have hrt := right_ok ⟨(kk : Int), au, ps, bo, si⟩ A c w12 (srow_rds HM12.out.row) (by simp only []; omega)
        simp only [evV] at hrt ⊢
        have HRT := Lib.hid hrt
        clear hrt
        have hno : ∀ W : World, W = (((((w12.setCell ⟨rc, 0, none⟩ (.int .i64 0)).setCell ⟨rc, 1, none⟩ (.string ⟨#[]⟩)).setCell ⟨rc, 2, none⟩ (.slice none 0 0)).setCell ⟨rc, 3, none⟩ (.string ⟨#[]⟩)).setCell ⟨rc, 4, none⟩ (.string ⟨#[]⟩)) → W.heap[rc]? = some (.cells zEv 50 (0, 0)) ∧ Unch none_ w W := fun W e => by
          rw [e]
          exact ⟨set5 HD12.out.brc, HD12.out.u.step unch_set5 (fun k hk e => by have := HD12.out.hrc; omega)⟩
        have hyes : ∀ w13 W : World, Unch none_ w12 w13 → W = (((((w13.setCell ⟨rc, 0, none⟩ (.int .i64 (kk : Int))).setCell ⟨rc, 1, none⟩ (.string au)).setCell ⟨rc, 2, none⟩ (.slice A ps.length c)).setCell ⟨rc, 3, none⟩ (.string bo)).setCell ⟨rc, 4, none⟩ (.string si)) → W.heap[rc]? = some (.cells #[.int .i64 (kk : Int), .string au, .slice A ps.length c, .string bo, .string si] 50 (0, 0)) ∧ Unch none_ w W ∧ Row W 9 1 (.slice A ps.length c) ps.length (sv ps) := fun w13 W hu e => by
          rw [e]
          have hd13 := HD12.out.unch hu
          exact ⟨set5 hd13.brc, hd13.u.step unch_set5 (fun k hk e => by have := hd13.hrc; omega), ((HM12.out.fresh hu).other hd13.brc (by decide) hd13.hrc unch_set5).row⟩
        have hz : ∀ w13, Unch none_ w12 w13 → (w13.cell? ⟨rc, 0, none⟩ = some (.int .i64 0) ∧ w13.cell? ⟨rc, 1, none⟩ = some (.string ⟨#[]⟩) ∧ w13.cell? ⟨rc, 2, none⟩ = some (.slice none 0 0) ∧ w13.cell? ⟨rc, 3, none⟩ = some (.string ⟨#[]⟩) ∧ w13.cell? ⟨rc, 4, none⟩ = some (.string ⟨#[]⟩)) ∧ (∀ j, w13.frozen? ⟨rc, j, none⟩ = false) ∧ (w13.cell? ⟨eb, 0, none⟩ = some (.int .i64 (kk : Int)) ∧ w13.cell? ⟨eb, 1, none⟩ = some (.string au) ∧ w13.cell? ⟨eb, 2, none⟩ = some (.slice A ps.length c) ∧ w13.cell? ⟨eb, 3, none⟩ = some (.string bo) ∧ w13.cell? ⟨eb, 4, none⟩ = some (.string si)) := fun w13 hu => by
          have hd13 := HD12.out.unch hu
          exact ⟨⟨blk_cell hd13.brc (j := 0) rfl, blk_cell hd13.brc (j := 1) rfl, blk_cell hd13.brc (j := 2) rfl, blk_cell hd13.brc (j := 3) rfl, blk_cell hd13.brc (j := 4) rfl⟩, blk_free hd13.brc, ⟨blk_cell hd13.ev (j := 0) rfl, blk_cell hd13.ev (j := 1) rfl, blk_cell hd13.ev (j := 2) rfl, blk_cell hd13.ev (j := 3) rfl, blk_cell hd13.ev (j := 4) rfl⟩⟩
        cases b1 with
        | false =>
          obtain rfl : false = res := HRES.out
          go_wp2_with (go_at_call 124; refine HE.out.mono ?_; rintro _ w13 ⟨rfl, rfl⟩)
          obtain ⟨g1, g2⟩ := hno _ rfl
          exact bodyPost_ret (results_cell_row2 rfl _ _ rc _ _ _ _ rfl g1 Tryz.underlying50 rfl (by kernel_rfl)) rfl ⟨g2, .inl ⟨rfl, rfl⟩⟩
        | true =>
          cases hR : rightF ⟨(kk : Int), au, ps, bo, si⟩ with
          | false =>
            rw [hR] at HRT
            obtain rfl : false = res := by rw [← HRES.out, hR]; rfl
            have hno' : ∀ w13 W : World, Unch none_ w12 w13 → W = (((((w13.setCell ⟨rc, 0, none⟩ (.int .i64 0)).setCell ⟨rc, 1, none⟩ (.string ⟨#[]⟩)).setCell ⟨rc, 2, none⟩ (.slice none 0 0)).setCell ⟨rc, 3, none⟩ (.string ⟨#[]⟩)).setCell ⟨rc, 4, none⟩ (.string ⟨#[]⟩)) → W.heap[rc]? = some (.cells zEv 50 (0, 0)) ∧ Unch none_ w W := fun w13 W hu e => by
              rw [e]
              have hd13 := HD12.out.unch hu
              exact ⟨set5 hd13.brc, hd13.u.step unch_set5 (fun k hk e => by have := hd13.hrc; omega)⟩
            go_wp2_with (first
              | (go_at_call 124; refine HE.out.mono ?_; rintro _ w13 ⟨rfl, rfl⟩)
              | (go_at_call 76; refine HRT.out.mono ?_; rintro _ w14 ⟨rfl, hu14⟩; obtain ⟨⟨z0, z1, z2, z3, z4⟩, hf, ⟨y0, y1, y2, y3, y4⟩⟩ := hz _ hu14))
            obtain ⟨g1, g2⟩ := hno' _ _ hu14 rfl
            exact bodyPost_ret (results_cell_row2 rfl _ _ rc _ _ _ _ rfl g1 Tryz.underlying50 rfl (by kernel_rfl)) rfl ⟨g2, .inl ⟨rfl, rfl⟩⟩
          | true =>
            rw [hR] at HRT
            obtain rfl : true = res := by rw [← HRES.out, hR]; rfl
            go_wp2_with (first
              | (go_at_call 124; refine HE.out.mono ?_; rintro _ w13 ⟨rfl, rfl⟩)
              | (go_at_call 76; refine HRT.out.mono ?_; rintro _ w14 ⟨rfl, hu14⟩; obtain ⟨⟨z0, z1, z2, z3, z4⟩, hf, ⟨y0, y1, y2, y3, y4⟩⟩ := hz _ hu14))
            obtain ⟨g1, g2, g3⟩ := hyes _ _ hu14 rfl
            exact bodyPost_ret (results_cell_row2 rfl _ _ rc _ _ _ _ rfl g1 Tryz.underlying50 rfl (by kernel_rfl)) rfl ⟨g2, .inr ⟨rfl, A, c, rfl, g3, hcc⟩⟩
      · rw [hq] at HG
        have z1 : (0 : Int) < (j : Int) := by omega
        go_wp2_with (go_at_call 122; refine HG.out.mono ?_; rintro _ w9 ⟨rfl, rfl⟩)
        refine HT1.out.mono ?_
        rintro _ w9 ⟨rfl, hr9, hu9⟩
        have hd9 := HD.out.read hr9 hu9
        have hm9 := HM.out.other HD.out.rd (by decide) HD.out.hg hu9
        have c9 : w9.cell? ⟨eb, 3, none⟩ = some (.string ⟨#[]⟩) := blk_cell hd9.ev (j := 3) rfl
        have q9 : w9.frozen? ⟨eb, 3, none⟩ = false := blk_free hd9.ev 3
        have hd10 := hd9.set 3 (.string bo)
        have hm10 := hm9.other hd9.ev (by decide) hd9.heb ((Unch.refl (fun k => k = eb) w9).setCell (p := ⟨eb, 3, none⟩) (.string bo) (fun _ => rfl))
        rw [(agg5_eq _ _ _ _ _ _).2.2.1] at hd10
        have HT2 := Lib.hid (rText_ok g (rd4 s).txtN _ hd10.rd)
        have HD10 := Lib.hid hd10
        have HM10 := Lib.hid hm10
        clear hr9 hu9 hd9 hm9 hd10 hm10 HT1 HD HM
        go_wp2_with fail
        refine HT2.out.mono ?_
        rintro _ w11 ⟨rfl, hr11, hu11⟩
        have hd11 := HD10.out.read hr11 hu11
        have hm11 := HM10.out.other HD10.out.rd (by decide) HD10.out.hg hu11
        rw [HRE2.out] at hd11
        have c11 : w11.cell? ⟨eb, 4, none⟩ = some (.string ⟨#[]⟩) := blk_cell hd11.ev (j := 4) rfl
        have q11 : w11.frozen? ⟨eb, 4, none⟩ = false := blk_free hd11.ev 4
        have hd12 := hd11.set 4 (.string si)
        have hm12 := hm11.other hd11.ev (by decide) hd11.heb ((Unch.refl (fun k => k = eb) w11).setCell (p := ⟨eb, 4, none⟩) (.string si) (fun _ => rfl))
        rw [(agg5_eq _ _ _ _ _ _).2.2.2] at hd12
        rw [hsi] at *
        have HE := Lib.hid (hE _ hd12.rd)
        have HD12 := Lib.hid hd12
        have HM12 := Lib.hid hm12
        clear hr11 hu11 hd11 hm11 hd12 hm12 HT2 HD10 HM10 c9 q9
        go_wp2_with fail
        generalize w11.setCell ⟨eb, 4, none⟩ (.string si) = w12 at *
        clear c11 q11
        have z0 : w12.cell? ⟨rc, 0, none⟩ = some (.int .i64 0) := blk_cell HD12.out.brc (j := 0) rfl
        have z1 : w12.cell? ⟨rc, 1, none⟩ = some (.string ⟨#[]⟩) := blk_cell HD12.out.brc (j := 1) rfl
        have z2 : w12.cell? ⟨rc, 2, none⟩ = some (.slice none 0 0) := blk_cell HD12.out.brc (j := 2) rfl
        have z3 : w12.cell? ⟨rc, 3, none⟩ = some (.string ⟨#[]⟩) := blk_cell HD12.out.brc (j := 3) rfl
        have z4 : w12.cell? ⟨rc, 4, none⟩ = some (.string ⟨#[]⟩) := blk_cell HD12.out.brc (j := 4) rfl
        have f0 := blk_free HD12.out.brc 0
        have f1 := blk_free HD12.out.brc 1
        have f2 := blk_free HD12.out.brc 2
        have f3 := blk_free HD12.out.brc 3
        have f4 := blk_free HD12.out.brc 4
        have e0 : w12.cell? ⟨eb, 0, none⟩ = some (.int .i64 (kk : Int)) := blk_cell HD12.out.ev (j := 0) rfl
        have e1 : w12.cell? ⟨eb, 1, none⟩ = some (.string au) := blk_cell HD12.out.ev (j := 1) rfl
        have e2 : w12.cell? ⟨eb, 2, none⟩ = some (.slice A ps.length c) := blk_cell HD12.out.ev (j := 2) rfl
        have e3 : w12.cell? ⟨eb, 3, none⟩ = some (.string bo) := blk_cell HD12.out.ev (j := 3) rfl
        have e4 : w12.cell? ⟨eb, 4, none⟩ = some (.string si) := blk_cell HD12.out.ev (j := 4) rfl
        have hrt := right_ok ⟨(kk : Int), au, ps, bo, si⟩ A c w12 (srow_rds HM12.out.row) (by simp only []; omega)
        simp only [evV] at hrt ⊢
        have HRT := Lib.hid hrt
        clear hrt
        have hno : ∀ W : World, W = (((((w12.setCell ⟨rc, 0, none⟩ (.int .i64 0)).setCell ⟨rc, 1, none⟩ (.string ⟨#[]⟩)).setCell ⟨rc, 2, none⟩ (.slice none 0 0)).setCell ⟨rc, 3, none⟩ (.string ⟨#[]⟩)).setCell ⟨rc, 4, none⟩ (.string ⟨#[]⟩)) → W.heap[rc]? = some (.cells zEv 50 (0, 0)) ∧ Unch none_ w W := fun W e => by
          rw [e]
          exact ⟨set5 HD12.out.brc, HD12.out.u.step unch_set5 (fun k hk e => by have := HD12.out.hrc; omega)⟩
        have hyes : ∀ w13 W : World, Unch none_ w12 w13 → W = (((((w13.setCell ⟨rc, 0, none⟩ (.int .i64 (kk : Int))).setCell ⟨rc, 1, none⟩ (.string au)).setCell ⟨rc, 2, none⟩ (.slice A ps.length c)).setCell ⟨rc, 3, none⟩ (.string bo)).setCell ⟨rc, 4, none⟩ (.string si)) → W.heap[rc]? = some (.cells #[.int .i64 (kk : Int), .string au, .slice A ps.length c, .string bo, .string si] 50 (0, 0)) ∧ Unch none_ w W ∧ Row W 9 1 (.slice A ps.length c) ps.length (sv ps) := fun w13 W hu e => by
          rw [e]
          have hd13 := HD12.out.unch hu
          exact ⟨set5 hd13.brc, hd13.u.step unch_set5 (fun k hk e => by have := hd13.hrc; omega), ((HM12.out.fresh hu).other hd13.brc (by decide) hd13.hrc unch_set5).row⟩
        have hz : ∀ w13, Unch none_ w12 w13 → (w13.cell? ⟨rc, 0, none⟩ = some (.int .i64 0) ∧ w13.cell? ⟨rc, 1, none⟩ = some (.string ⟨#[]⟩) ∧ w13.cell? ⟨rc, 2, none⟩ = some (.slice none 0 0) ∧ w13.cell? ⟨rc, 3, none⟩ = some (.string ⟨#[]⟩) ∧ w13.cell? ⟨rc, 4, none⟩ = some (.string ⟨#[]⟩)) ∧ (∀ j, w13.frozen? ⟨rc, j, none⟩ = false) ∧ (w13.cell? ⟨eb, 0, none⟩ = some (.int .i64 (kk : Int)) ∧ w13.cell? ⟨eb, 1, none⟩ = some (.string au) ∧ w13.cell? ⟨eb, 2, none⟩ = some (.slice A ps.length c) ∧ w13.cell? ⟨eb, 3, none⟩ = some (.string bo) ∧ w13.cell? ⟨eb, 4, none⟩ = some (.string si)) := fun w13 hu => by
          have hd13 := HD12.out.unch hu
          exact ⟨⟨blk_cell hd13.brc (j := 0) rfl, blk_cell hd13.brc (j := 1) rfl, blk_cell hd13.brc (j := 2) rfl, blk_cell hd13.brc (j := 3) rfl, blk_cell hd13.brc (j := 4) rfl⟩, blk_free hd13.brc, ⟨blk_cell hd13.ev (j := 0) rfl, blk_cell hd13.ev (j := 1) rfl, blk_cell hd13.ev (j := 2) rfl, blk_cell hd13.ev (j := 3) rfl, blk_cell hd13.ev (j := 4) rfl⟩⟩
        cases b1 with
        | false =>
          obtain rfl : false = res := HRES.out
          go_wp2_with (go_at_call 124; refine HE.out.mono ?_; rintro _ w13 ⟨rfl, rfl⟩)
          obtain ⟨g1, g2⟩ := hno _ rfl
          exact bodyPost_ret (results_cell_row2 rfl _ _ rc _ _ _ _ rfl g1 Tryz.underlying50 rfl (by kernel_rfl)) rfl ⟨g2, .inl ⟨rfl, rfl⟩⟩
        | true =>
          cases hR : rightF ⟨(kk : Int), au, ps, bo, si⟩ with
          | false =>
            rw [hR] at HRT
            obtain rfl : false = res := by rw [← HRES.out, hR]; rfl
            have hno' : ∀ w13 W : World, Unch none_ w12 w13 → W = (((((w13.setCell ⟨rc, 0, none⟩ (.int .i64 0)).setCell ⟨rc, 1, none⟩ (.string ⟨#[]⟩)).setCell ⟨rc, 2, none⟩ (.slice none 0 0)).setCell ⟨rc, 3, none⟩ (.string ⟨#[]⟩)).setCell ⟨rc, 4, none⟩ (.string ⟨#[]⟩)) → W.heap[rc]? = some (.cells zEv 50 (0, 0)) ∧ Unch none_ w W := fun w13 W hu e => by
              rw [e]
              have hd13 := HD12.out.unch hu
              exact ⟨set5 hd13.brc, hd13.u.step unch_set5 (fun k hk e => by have := hd13.hrc; omega)⟩
            go_wp2_with (first
              | (go_at_call 124; refine HE.out.mono ?_; rintro _ w13 ⟨rfl, rfl⟩)
              | (go_at_call 76; refine HRT.out.mono ?_; rintro _ w14 ⟨rfl, hu14⟩; obtain ⟨⟨z0, z1, z2, z3, z4⟩, hf, ⟨y0, y1, y2, y3, y4⟩⟩ := hz _ hu14))
            obtain ⟨g1, g2⟩ := hno' _ _ hu14 rfl
            exact bodyPost_ret (results_cell_row2 rfl _ _ rc _ _ _ _ rfl g1 Tryz.underlying50 rfl (by kernel_rfl)) rfl ⟨g2, .inl ⟨rfl, rfl⟩⟩
          | true =>
            rw [hR] at HRT
            obtain rfl : true = res := by rw [← HRES.out, hR]; rfl
            go_wp2_with (first
              | (go_at_call 124; refine HE.out.mono ?_; rintro _ w13 ⟨rfl, rfl⟩)
              | (go_at_call 76; refine HRT.out.mono ?_; rintro _ w14 ⟨rfl, hu14⟩; obtain ⟨⟨z0, z1, z2, z3, z4⟩, hf, ⟨y0, y1, y2, y3, y4⟩⟩ := hz _ hu14))
            obtain ⟨g1, g2, g3⟩ := hyes _ _ hu14 rfl
            exact bodyPost_ret (results_cell_row2 rfl _ _ rc _ _ _ _ rfl g1 Tryz.underlying50 rfl (by kernel_rfl)) rfl ⟨g2, .inr ⟨rfl, A, c, rfl, g3, hcc⟩⟩
end Go.Proofs.YtgcpoppinnnciaaGreatDoor
