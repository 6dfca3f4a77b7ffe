/-
  event: content, Content, Encode, Id.
-/
import Derived.Test.YtgcpoppinnnciaaGreatDoorCEV1
import Derived.Test.YtgcpoppinnnciaaGreatDoorCPlanQ
/- event: content, Content, Encode, Id. -/
set_option linter.unusedVariables false
set_option linter.unusedSimpArgs false
set_option maxRecDepth 100000
namespace Go.Proofs.YtgcpoppinnnciaaGreatDoor
open Go Go.RowKit Go.Proofs.YtgcpoppinnnciaaGreatDoor.Pal Go.Proofs.YtgcpoppinnnciaaGreatDoor.Plan

def textL (s : ByteArray) : List UInt8 := numB 2 s.size ++ s.data.toList
theorem textL_len (s : ByteArray) : (textL s).length = 2 + s.size := by rw [textL, List.length_append, numB_len, ← Lib.size_eq]
def psL (ps : List ByteArray) : List UInt8 := ps.flatMap (·.data.toList)
theorem psL_take {ps : List ByteArray} {k : Nat} {p : ByteArray} (h : ps[k]? = some p) : psL (ps.take (k + 1)) = psL (ps.take k) ++ p.data.toList := by
  unfold psL
  rw [List.take_add_one, h]
  simp
theorem psL_len {ps : List ByteArray} (h : ∀ p ∈ ps, p.size = 32) : (psL ps).length = ps.length * 32 := by
  induction ps with
  | nil => rfl
  | cons p r ih =>
    unfold psL at *
    rw [List.flatMap_cons, List.length_append, ih (fun q hq => h q (List.mem_cons_of_mem _ hq)), ← Lib.size_eq, h p (List.mem_cons_self ..), List.length_cons, Nat.add_mul]
    omega
/-- What of an event is signed. -/
def evHdL (e : Ev) : List UInt8 := UInt8.ofNat e.kind.toNat :: textL e.author ++ [UInt8.ofNat e.ps.length]
def contentL (e : Ev) : List UInt8 := evHdL e ++ psL e.ps ++ textL e.body
def contentF (e : Ev) : ByteArray := ⟨(contentL e).toArray⟩
theorem evText_ok (w0 W : World) (b : Nat) (l : List UInt8) (s : ByteArray) (hs : s.size ≤ 65535) (hl : l.length ≤ 1000000000) (h : Bd w0 b l W) :
    Calls Tryz.prog 115 #[.string s, .pointer (some ⟨b, 0, none⟩)] W fun e W' => e = .returned (.tuple #[]) ∧ Bd w0 b (l ++ textL s) W' := by
  have htx := octText_ok s hs
  have hd : (⟨(numB 2 s.size).toArray⟩ ++ s : ByteArray).data.toList = textL s := by simp [textL]
  have hz : (⟨(numB 2 s.size).toArray⟩ ++ s : ByteArray).size = 2 + s.size := by rw [Lib.size_eq, hd, textL_len]
  generalize (⟨(numB 2 s.size).toArray⟩ ++ s : ByteArray) = t at *
  have hws := fun (W' : World) (hu : Unch none_ W W') => bStr_ok w0 W' b l t (h.unch hu) (by omega)
  rw [hd] at hws
  have HWS := Lib.hid hws
  clear hws hd hz
  go_enter Tryz.func115, Tryz.ntmps115
  go_wp2_with (first
    | (go_at_call 77; refine (htx _).mono ?_; rintro _ w1 ⟨rfl, hu1⟩)
    | (go_at_call 98; refine (HWS.out _ hu1).mono ?_; rintro _ w2 ⟨rfl, hd2⟩))
  go_end0
  exact ⟨rfl, hd2⟩
theorem bByteN_ok (w0 w : World) (b : Nat) (l : List UInt8) (n : Nat) (hn : n < 256) (h : Bd w0 b l w) (hl : l.length + 1 ≤ 140737488355328) :
    Calls Tryz.prog 96 #[.pointer (some ⟨b, 0, none⟩), .int .u8 (n : Int)] w fun e w' => e = .returned .nilIface ∧ Bd w0 b (l ++ [UInt8.ofNat n]) w' := by
  have := bByte_ok w0 w b l (UInt8.ofNat n) h hl
  rw [UInt8.toNat_ofNat', show n % 2 ^ 8 = n by omega] at this
  exact this
/-- A small event. -/
structure EvS (e : Ev) : Prop where
  k0 : 0 ≤ e.kind
  k1 : e.kind < 256
  au : e.author.size ≤ 65535
  ps : e.ps.length ≤ 8
  p32 : ∀ p ∈ e.ps, p.size = 32
  bo : e.body.size ≤ 65535
set_option maxHeartbeats 1000000 in
theorem content_ok (e : Ev) (hE : EvS e) (A : Option Addr) (c : Nat) (w : World) (hr : RdS w 1 StrR A e.ps.length e.ps) :
    Calls Tryz.prog 78 #[.agg (evV e A c)] w fun x w' => x = .returned (.string (contentF e)) ∧ Unch none_ w w' := by
  obtain ⟨res, hres⟩ : ∃ r, contentF e = r := ⟨_, rfl⟩
  rw [hres]
  obtain ⟨kind, author, ps, body, sig⟩ := e
  obtain ⟨k0, k1, ha, hn8, h32, hbo⟩ := hE
  simp only [] at k0 k1 ha hn8 h32 hbo hr
  obtain ⟨kd, rfl⟩ : ∃ kd : Nat, kind = (kd : Int) := ⟨kind.toNat, by omega⟩
  obtain ⟨n, hpn⟩ : ∃ n, ps.length = n := ⟨_, rfl⟩
  have hhl : evHdL ⟨(kd : Int), author, ps, body, sig⟩ = [UInt8.ofNat kd] ++ textL author ++ [UInt8.ofNat n] := by simp [evHdL, hpn]
  have hres' : (⟨(evHdL ⟨(kd : Int), author, ps, body, sig⟩ ++ psL ps ++ textL body).toArray⟩ : ByteArray) = res := hres
  rw [hhl] at hres'
  have hal := textL_len author
  have hbl := textL_len body
  have hpl := psL_len h32
  have hu := (Unch.refl none_ w).alloc (.cells (evV ⟨(kd : Int), author, ps, body, sig⟩ A c) 50)
  have hb : (w.alloc (.cells (evV ⟨(kd : Int), author, ps, body, sig⟩ A c) 50)).heap[w.heap.size]? = _ := blk_new w _
  have hrw := RdS.fresh hr hu
  simp only [evV] at hu hb hrw hr ⊢
  rw [hpn] at hu hb hrw hr hpl hn8 ⊢
  have HRES := Lib.hid hres'
  have HPN := Lib.hid hpn
  have HU := Lib.hid hu
  have HRW := Lib.hid hrw
  have HB := Lib.hid hb
  clear hres' hpn hres hhl
  have z0 : (0 : Int) ≤ (kd : Int) := by omega
  have z1 : (kd : Int) < 256 := by omega
  have z2 : (0 : Int) ≤ (n : Int) := by omega
  have z3 : (n : Int) < 256 := by omega
  clear hu hb hrw hr
  have hsz1 : (w.alloc (.cells #[.int .i64 (kd : Int), .string author, .slice A n c, .string body, .string sig] 50)).heap.size = w.heap.size + 1 := by simp
  obtain ⟨w1, hw1⟩ : ∃ w1, w.alloc (.cells #[.int .i64 (kd : Int), .string author, .slice A n c, .string body, .string sig] 50) = w1 := ⟨_, rfl⟩
  rw [hw1] at HU HRW HB hsz1
  have hcells : ∀ W, Unch none_ w1 W → W.cell? ⟨w.heap.size, 0, none⟩ = some (.int .i64 (kd : Int)) ∧ W.cell? ⟨w.heap.size, 1, none⟩ = some (.string author) ∧ W.cell? ⟨w.heap.size, 2, none⟩ = some (.slice A n c) ∧ W.cell? ⟨w.heap.size, 3, none⟩ = some (.string body) := fun W hu => by
    have := hu.heap HB.out (fun h => h)
    exact ⟨blk_cell this (j := 0) rfl, blk_cell this (j := 1) rfl, blk_cell this (j := 2) rfl, blk_cell this (j := 3) rfl⟩
  have hd0 := Bd.fresh w1
  rw [hsz1] at hd0
  obtain ⟨c0, c1, c2, c3⟩ := hcells _ hd0.u
  have hwb := bByteN_ok w1 _ _ [] kd (by omega) hd0 (by simp)
  rw [← hw1] at c0 hwb
  have HW1 := Lib.hid hw1
  clear hw1 hd0 c1 c2 c3 hsz1
  go_enter Tryz.func78, Tryz.ntmps78
  go_wp2_with (first
    | (go_at_call 96; (with_reducible refine hwb.mono ?_); rintro _ w2 ⟨rfl, hd2⟩; rw [HW1.out] at hd2; obtain ⟨-, c1, c2, c3⟩ := hcells _ hd2.u; have HD2 := Lib.hid hd2; clear hd2)
    | (go_at_call 115; (with_reducible refine (evText_ok w1 w2 _ _ author ha (by simp) HD2.out).mono ?_); rintro _ w3 ⟨rfl, hd3⟩; obtain ⟨-, -, c2, c3⟩ := hcells _ hd3.u; have HD3 := Lib.hid hd3; clear hd3)
    | (go_at_call 96; (with_reducible refine (bByteN_ok w1 w3 _ _ n (by omega) HD3.out (by simp [hal]; omega)).mono ?_); rintro _ w4 ⟨rfl, hd4⟩; obtain ⟨-, -, c2, c3⟩ := hcells _ hd4.u; have HD4 := Lib.hid hd4; clear hd4))
  have hH : [] ++ [UInt8.ofNat kd] ++ textL author ++ [UInt8.ofNat n] = [UInt8.ofNat kd] ++ textL author ++ [UInt8.ofNat n] := rfl
  have hd4 := HD4.out
  rw [hH] at hd4
  have hHl : ([UInt8.ofNat kd] ++ textL author ++ [UInt8.ofNat n]).length = 4 + author.size := by simp [hal]; omega
  generalize hHL : [UInt8.ofNat kd] ++ textL author ++ [UInt8.ofNat n] = hdL at *
  have HHL := Lib.hid hHL
  clear hHL hH HD4 HD3 HD2 c0 c1 c2 c3 hwb
  generalize hb : w.heap.size + 1 = b at *
  have HBB := Lib.hid hb
  clear hb
  go_loopg [6, 24] n (fun gk _ i wr => ∃ (k : Nat), gk = n - k ∧ k ≤ n ∧ i = .int .i64 (k : Int) ∧ Bd w1 b (hdL ++ psL (ps.take k)) wr)
  case atStart => exact ⟨0, rfl, by omega, rfl, by simp [psL]; exact hd4⟩
  case round =>
    clear hd4
    obtain ⟨k, rfl, hk, rfl, hd⟩ := hrel
    obtain ⟨w5, rfl⟩ : ∃ w5, w5 = wr := ⟨_, rfl⟩
    by_cases hkn : k < n
    · have y0 : (0 : Int) ≤ (k : Int) := by omega
      have y1 : (k : Int) < (n : Int) := by omega
      obtain ⟨p, hpk⟩ := get_some HPN.out hkn
      obtain ⟨bb, o, hA, _, x0⟩ := RdS.str (RdS.fresh HRW.out hd.u) hpk
      subst hA
      have hp32 := h32 p (List.mem_of_getElem? hpk)
      have htk := psL_take hpk
      have hlt := psL_len (ps := ps.take k) (fun q hq => h32 q (List.mem_of_mem_take hq))
      have hlk : (ps.take k).length ≤ k := List.length_take_le ..
      have hll : (hdL ++ psL (ps.take k)).length ≤ 1000000 := by rw [List.length_append]; omega
      have hws := bStr_ok w1 w5 b _ p hd (by omega)
      have HWS := Lib.hid hws
      clear hws
      go_wp2_with (go_at_call 98; refine HWS.out.mono ?_; rintro _ w6 ⟨rfl, hd6⟩)
      go_roundg (n - (k + 1))
      case measure => omega
      case rel =>
        refine ⟨k + 1, rfl, by omega, by go_num, ?_⟩
        rw [htk, ← List.append_assoc]
        exact hd6
    · obtain rfl : k = n := by omega
      rw [List.take_of_length_le (by rw [HPN.out]; exact Nat.le_refl _)] at hd
      obtain ⟨-, -, -, c3⟩ := hcells _ hd.u
      have hll : (hdL ++ psL ps).length ≤ 1000000 := by rw [List.length_append]; omega
      have htx := evText_ok w1 w5 b _ body hbo (by omega) hd
      have HTX := Lib.hid htx
      have hR := HRES.out
      go_wp2_with (first
        | (go_at_call 115; refine HTX.out.mono ?_; rintro _ w7 ⟨rfl, hd7⟩; have HD7 := Lib.hid hd7; clear hd7)
        | (go_at_call 100; refine (bOut_ok w1 _ b _ HD7.out).mono ?_; rintro _ w8 ⟨rfl, hu8⟩))
      go_ret
      exact ⟨by rw [← hR, List.append_assoc]; rfl, HU.out.trans hu8⟩
theorem right_parts {e : Ev} (h : rightF e = true) : (∀ k, k < e.ps.length → okP e.ps k = true) ∧ kindF e = true ∧ e.author.size = 32 ∧ e.ps.length ≤ 8 ∧ e.body.size ≤ 200 ∧ e.sig.size ≤ 65535 := by
  simp only [rightF, Bool.and_eq_true, List.all_eq_true, List.mem_range, decide_eq_true_eq] at h
  exact h
theorem kindF_cases {e : Ev} (h : kindF e = true) : e.kind = 1 ∨ e.kind = 2 ∨ e.kind = 3 ∨ e.kind = 4 ∨ e.kind = 5 := by
  unfold kindF at h
  split at h
  · omega
  · split at h
    · omega
    · split at h
      · omega
      · cases h
theorem right_small {e : Ev} (h : rightF e = true) : EvS e := by
  obtain ⟨h1, h2, h3, h4, h5, h6⟩ := right_parts h
  have hk := kindF_cases h2
  refine ⟨by omega, by omega, by omega, h4, fun p hp => ?_, by omega⟩
  obtain ⟨k, hk, hkp⟩ := List.getElem_of_mem hp
  have := h1 k hk
  simp only [okP, Bool.and_eq_true, decide_eq_true_eq] at this
  have h7 := this.1
  rw [List.getD_eq_getElem?_getD, List.getElem?_eq_getElem hk] at h7
  rw [← hkp]
  exact h7
def noSig (e : Ev) : Ev := { e with sig := ⟨#[]⟩ }
theorem ev_cells {w W : World} {k : Int} {au bo si : ByteArray} {pv : Value} (h : Unch none_ (w.alloc (.cells #[.int .i64 k, .string au, pv, .string bo, .string si] 50)) W) :
    W.cell? ⟨w.heap.size, 0, none⟩ = some (.int .i64 k) ∧ W.cell? ⟨w.heap.size, 1, none⟩ = some (.string au) ∧ W.cell? ⟨w.heap.size, 2, none⟩ = some pv ∧ W.cell? ⟨w.heap.size, 3, none⟩ = some (.string bo) ∧ W.cell? ⟨w.heap.size, 4, none⟩ = some (.string si) := by
  have := h.heap (blk_new w _) (fun h => h)
  exact ⟨blk_cell this (j := 0) rfl, blk_cell this (j := 1) rfl, blk_cell this (j := 2) rfl, blk_cell this (j := 3) rfl, blk_cell this (j := 4) rfl⟩
set_option maxHeartbeats 1000000 in
theorem evContent_ok (e : Ev) (A : Option Addr) (c : Nat) (w : World) (hr : RdS w 1 StrR A e.ps.length e.ps) (hn : e.ps.length ≤ 1000000) :
    Calls Tryz.prog 74 #[.agg (evV e A c)] w fun x w' => x = .returned (if rightF (noSig e) = true then .tuple #[.string (contentF (noSig e)), .int .i64 0] else .tuple #[.string ⟨#[]⟩, .int .i64 2]) ∧ Unch none_ w w' := by
  have hrt := fun (W : World) (hu : Unch none_ w W) => right_ok (noSig e) A c W (RdS.fresh hr hu) hn
  have hu := (Unch.refl none_ w).alloc (.cells (evV (noSig e) A c) 50)
  cases hR : rightF (noSig e) with
  | true =>
    have hct := fun (W : World) (hu : Unch none_ w W) => content_ok (noSig e) (right_small hR) A c W (RdS.fresh hr hu)
    rw [hR] at hrt
    rw [if_pos rfl]
    generalize contentF (noSig e) = res at *
    simp only [evV, noSig] at hrt hct hu ⊢
    have HRT := Lib.hid hrt
    have HCT := Lib.hid hct
    clear hrt hct
    go_enter Tryz.func74, Tryz.ntmps74
    go_wp2_with (first
      | (go_at_call 76; refine (HRT.out _ hu).mono ?_; rintro _ w2 ⟨rfl, hu2⟩; obtain ⟨c0, c1, c2, c3, c4⟩ := ev_cells hu2; have HU2 := Lib.hid hu2; clear hu2)
      | (go_at_call 78; refine (HCT.out _ (hu.trans HU2.out)).mono ?_; rintro _ w3 ⟨rfl, hu3⟩; have HU3 := Lib.hid hu3; clear hu3))
    refine bodyPost_ret (results_tmp2 rfl _ _ _) rfl ⟨rfl, hu.trans (HU2.out.trans HU3.out)⟩
  | false =>
    rw [hR] at hrt
    rw [if_neg (by decide)]
    simp only [evV, noSig] at hrt hu ⊢
    have HRT := Lib.hid hrt
    clear hrt
    go_enter Tryz.func74, Tryz.ntmps74
    go_wp2_with (go_at_call 76; refine (HRT.out _ hu).mono ?_; rintro _ w2 ⟨rfl, hu2⟩; have HU2 := Lib.hid hu2; clear hu2)
    refine bodyPost_ret (results_tmp2 rfl _ _ _) rfl ⟨rfl, hu.trans HU2.out⟩
/-- An event's bytes. -/
def encodeF (e : Ev) : ByteArray := contentF e ++ (⟨(numB 2 e.sig.size).toArray⟩ ++ e.sig)
theorem contentF_size {e : Ev} (h : EvS e) : (contentF e).size ≤ 1000000 := by
  have h1 : (contentF e).size = (contentL e).length := by show (contentL e).toArray.size = _; rw [List.size_toArray]
  have h2 := psL_len h.p32
  have h3 := h.ps
  have h4 := h.au
  have h5 := h.bo
  rw [h1]
  simp only [contentL, evHdL, List.length_append, List.length_cons, List.length_nil, textL_len, h2]
  omega
set_option maxHeartbeats 1000000 in
theorem encode_ok (e : Ev) (A : Option Addr) (c : Nat) (w : World) (hr : RdS w 1 StrR A e.ps.length e.ps) (hn : e.ps.length ≤ 1000000) :
    Calls Tryz.prog 46 #[.agg (evV e A c)] w fun x w' => x = .returned (if rightF e = true then .tuple #[.string (encodeF e), .int .i64 0] else .tuple #[.string ⟨#[]⟩, .int .i64 2]) ∧ Unch none_ w w' := by
  have hrt := fun (W : World) (hu : Unch none_ w W) => right_ok e A c W (RdS.fresh hr hu) hn
  have hu := (Unch.refl none_ w).alloc (.cells (evV e A c) 50)
  cases hR : rightF e with
  | true =>
    have hsm := right_small hR
    have hct := fun (W : World) (hu : Unch none_ w W) => content_ok e hsm A c W (RdS.fresh hr hu)
    have hcs := contentF_size hsm
    have htx := octText_ok e.sig (right_parts hR).2.2.2.2.2
    have hts : (⟨(numB 2 e.sig.size).toArray⟩ ++ e.sig : ByteArray).size = 2 + e.sig.size := by
      rw [ByteArray.size_append]
      congr 1
    have hss := (right_parts hR).2.2.2.2.2
    have hres : encodeF e = contentF e ++ (⟨(numB 2 e.sig.size).toArray⟩ ++ e.sig) := rfl
    rw [hR] at hrt
    rw [if_pos rfl]
    generalize (⟨(numB 2 e.sig.size).toArray⟩ ++ e.sig : ByteArray) = ts at *
    generalize contentF e = ct at *
    generalize encodeF e = res at *
    simp only [evV] at hrt hct hu ⊢
    have HRT := Lib.hid hrt
    have HCT := Lib.hid hct
    have HRES := Lib.hid hres
    have b1 : ¬ 9223372036854775807 < ct.size + ts.size := by omega
    clear hrt hct hres hts hcs hss
    obtain ⟨c0, c1, c2, c3, c4⟩ := ev_cells (Unch.refl none_ (w.alloc (.cells #[.int .i64 e.kind, .string e.author, .slice A e.ps.length c, .string e.body, .string e.sig] 50)))
    go_enter Tryz.func46, Tryz.ntmps46
    go_wp2_with (first
      | (go_at_call 76; refine (HRT.out _ hu).mono ?_; rintro _ w2 ⟨rfl, hu2⟩; obtain ⟨c0, c1, c2, c3, c4⟩ := ev_cells hu2; have HU2 := Lib.hid hu2; clear hu2)
      | (go_at_call 77; refine (htx _).mono ?_; rintro _ w3 ⟨rfl, hu3⟩; obtain ⟨c0, c1, c2, c3, c4⟩ := ev_cells (HU2.out.trans hu3); have HU3 := Lib.hid (HU2.out.trans hu3); clear hu3)
      | (go_at_call 78; refine (HCT.out _ (hu.trans HU3.out)).mono ?_; rintro _ w4 ⟨rfl, hu4⟩; have HU4 := Lib.hid hu4; clear hu4))
    refine bodyPost_ret (results_tmp2 rfl _ _ _) rfl ⟨by rw [HRES.out]; rfl, hu.trans (HU3.out.trans HU4.out)⟩
  | false =>
    rw [hR] at hrt
    rw [if_neg (by decide)]
    simp only [evV] at hrt hu ⊢
    have HRT := Lib.hid hrt
    clear hrt
    obtain ⟨c0, c1, c2, c3, c4⟩ := ev_cells (Unch.refl none_ (w.alloc (.cells #[.int .i64 e.kind, .string e.author, .slice A e.ps.length c, .string e.body, .string e.sig] 50)))
    go_enter Tryz.func46, Tryz.ntmps46
    go_wp2_with (go_at_call 76; refine (HRT.out _ hu).mono ?_; rintro _ w2 ⟨rfl, hu2⟩; have HU2 := Lib.hid hu2; clear hu2)
    refine bodyPost_ret (results_tmp2 rfl _ _ _) rfl ⟨rfl, hu.trans HU2.out⟩
/-- The name of bytes. -/
def idF (K : Nat → Int) (s : ByteArray) : ByteArray := tagF K 7 [s]
theorem idF_size (K : Nat → Int) (s : ByteArray) : (idF K s).size = 32 := tagF_size K 7 _
theorem id_ok (K : Nat → Int) (s : ByteArray) (hs : s.size ≤ 1000000000) (w : World) (hK : Kys K w) :
    Calls Tryz.prog 17 #[.string s] w fun e w' => e = .returned (.string (idF K s)) ∧ Unch none_ w w' := by
  have htg := tag1_ok K 7 (by omega) s hs w hK _ rfl
  rw [show tagF K 7 [s] = idF K s from rfl] at htg
  generalize idF K s = res at *
  go_enter Tryz.func17, Tryz.ntmps17
  go_wp2_with (go_at_call 47; refine htg.mono ?_; rintro _ w1 ⟨rfl, hu1⟩)
  go_ret
  exact ⟨rfl, hu1⟩
end Go.Proofs.YtgcpoppinnnciaaGreatDoor
