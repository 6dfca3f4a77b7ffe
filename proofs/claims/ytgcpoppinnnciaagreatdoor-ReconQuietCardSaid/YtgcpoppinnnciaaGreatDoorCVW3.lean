/-
  view: a set as it lies; New, entry, missing, Len, Heads.
  view: New, entry, missing, good.
-/
import Derived.Test.YtgcpoppinnnciaaGreatDoorCEV4
import Derived.Test.YtgcpoppinnnciaaGreatDoorCVW1
import Derived.Test.YtgcpoppinnnciaaGreatDoorCMRef10
import Derived.Test.YtgcpoppinnnciaaGreatDoorCMY1
import Derived.Test.YtgcpoppinnnciaaGreatDoorCBase
/- view: a set as it lies; New, entry, missing, Len, Heads. -/
set_option linter.unusedVariables false
set_option linter.unusedSimpArgs false
set_option maxRecDepth 100000
namespace Go.Proofs.YtgcpoppinnnciaaGreatDoor
open Go Go.RowKit Go.Proofs.YtgcpoppinnnciaaGreatDoor.Pal Go.Proofs.YtgcpoppinnnciaaGreatDoor.Plan

/-- Where a set's parts lie. -/
structure Plc where
  bd : Nat
  bp : Nat
  bk : Nat
  bm : Nat
  lk : Nat
  ev : Value
  pv : Nat → Value
/-- How often each is a parent. -/
def kidN (es : List Ent) (s : ByteArray) : Nat := ((List.range es.length).map fun i => ind (parsL es i) s).sum
theorem ind_le (L : List ByteArray) (s : ByteArray) : ind L s ≤ 1 := by
  unfold ind
  split <;> omega
theorem kidN_le (es : List Ent) (s : ByteArray) : kidN es s ≤ es.length := by
  unfold kidN
  have : ∀ (l : List Nat) (g : Nat → Nat), (∀ i, g i ≤ 1) → (l.map g).sum ≤ l.length := fun l g hg => by
    induction l with
    | nil => exact Nat.le_refl _
    | cons a t ih =>
      rw [List.map_cons, List.sum_cons, List.length_cons]
      have := hg a
      omega
  have := this (List.range es.length) (fun i => ind (parsL es i) s) (fun i => ind_le _ _)
  rwa [List.length_range] at this
theorem kidN_app (es : List Ent) (x : Ent) (s : ByteArray) : kidN (es ++ [x]) s = kidN es s + ind (parsL (es ++ [x]) es.length) s := by
  unfold kidN
  rw [List.length_append, List.length_singleton, List.range_succ, List.map_append, List.sum_append]
  have h1 : (List.range es.length).map (fun i => ind (parsL (es ++ [x]) i) s) = (List.range es.length).map (fun i => ind (parsL es i) s) := by
    apply List.map_congr_left
    intro i hi
    rw [List.mem_range] at hi
    unfold parsL
    rw [ent_app_lt hi]
  rw [h1, List.map_singleton, List.sum_singleton]
/-- A set as it lies, from n0 on. -/
structure VS (n0 : Nat) (w : World) (b : Nat) (room : ByteArray) (es : List Ent) (bs : Asc) (p : Plc) : Prop where
  blk : w.heap[b]? = some (.cells #[.string room, .pointer (some ⟨p.bd, 0, none⟩), .map (some p.bm), p.ev, .pointer (some ⟨p.lk, 0, none⟩)] 95 (0, 0))
  dg : Dg w p.bd p.bp p.bk es es.length p.pv
  dty : ∀ i, i < es.length → ∃ m, Row w 9 1 (p.pv i) m (sv (parsL es i))
  bys : Sm w p.bm bs
  row : Row w 114 5 p.ev es.length (ecells es)
  ents : ∀ e ∈ es, EntS w e
  cl : Closed es
  rt : es = [] ∨ ∃ r, rootN room es = some r
  rm : room.size = 32
  n1 : p.bm ≠ p.bp
  n2 : p.bm ≠ p.bk
  l0 : n0 ≤ b
  l1 : n0 ≤ p.bd
  l2 : n0 ≤ p.bp
  l3 : n0 ≤ p.bk
  l4 : n0 ≤ p.bm
  l5 : ∀ g, p.ev.ownBlock = some g → n0 ≤ g
  kd : ∃ mk, Sm w p.bk mk ∧ KidV mk (kidN es)
section
variable {n0 : Nat} {w w1 : World} {b : Nat} {room : ByteArray} {es : List Ent} {bs : Asc} {p : Plc}
theorem VS.fresh (h : VS n0 w b room es bs p) (hu : Unch none_ w w1) : VS n0 w1 b room es bs p :=
  ⟨hu.heap h.blk (fun h => h), h.dg.fresh hu, fun i hi => by obtain ⟨m, hr⟩ := h.dty i hi; exact ⟨m, hr.unch hu (fun _ _ h => h)⟩, h.bys.unch hu (fun h => h), h.row.unch hu (fun _ _ h => h), fun e he => (h.ents e he).fresh hu, h.cl, h.rt, h.rm, h.n1, h.n2, h.l0, h.l1, h.l2, h.l3, h.l4, h.l5, by obtain ⟨mk, a, b⟩ := h.kd; exact ⟨mk, a.unch hu (fun h => h), b⟩⟩
theorem VS.slice (h : VS n0 w b room es bs p) : ∃ A c, p.ev = .slice A es.length c ∧ es.length ≤ c ∧ Ents w A es.length es := by
  obtain ⟨A, c, hv, hc⟩ := h.row.slice
  have hr := h.row
  rw [hv] at hr
  have : LMid w w (.slice A es.length c) es ∨ True := .inr trivial
  refine ⟨A, c, hv, hc, ⟨⟨rfl, h.row.max, fun hn => ?_⟩, fun e he => (h.ents e he).ok⟩⟩
  obtain ⟨g, o, cap, cur, hv2, hh, _⟩ := hr.form hn
  injection hv2 with h1 h2 h3
  refine ⟨g, o, h1, lt_of_heap hh, fun i x hx => ⟨x.cells, rfl, rfl, fun j u hj => ?_⟩⟩
  have := hr.at (by rw [h1]) (ecells_get es i j x u hx hj)
  rw [← Nat.add_assoc] at this
  exact this
theorem inE_map (hC : Closed es) {pv : Nat → Value} (s : ByteArray) : (mget (idA es allT pv es.length) s).isSome = (findN es s).isSome := by
  cases hf : findN es s with
  | some i =>
    obtain ⟨e, he, hid, _⟩ := findN_some hf
    have hi := (List.getElem?_eq_some_iff.1 he).1
    rw [← hid, ← ent_of he, idA_get hC allT pv (Nat.le_refl _) hi, if_pos ⟨hi, rfl⟩]
    rfl
  | none =>
    rw [findN_none] at hf
    cases hm : mget (idA es allT pv es.length) s with
    | none => rfl
    | some v =>
      have := mget_mem hm
      unfold idA at this
      obtain ⟨i, hi, he⟩ := List.mem_map.1 this
      have hi2 := (List.mem_filter.1 hi).1
      rw [List.mem_range] at hi2
      injection he with h1 h2
      exact absurd h1 (hf _ (List.mem_of_getElem? (ent_get hi2)))
/-- Whether an id is there. -/
def inE (es : List Ent) (s : ByteArray) : Bool := (findN es s).isSome
theorem vhas_ok (h : VS n0 w b room es bs p) (s : ByteArray) (hs : s.size ≤ maxLen) : Calls Tryz.prog 54 #[.pointer (some ⟨p.bd, 0, none⟩), .string s] w fun e w' => e = .returned (.bool (inE es s)) ∧ w = w' := by
  have := dhas_ok h.dg s hs
  rw [inE_map h.cl] at this
  exact this
set_option maxHeartbeats 1000000 in
theorem vlen_ok (h : VS n0 w b room es bs p) : Calls Tryz.prog 85 #[.pointer (some ⟨b, 0, none⟩)] w fun e w' => e = .returned (.int .i64 (es.length : Int)) ∧ w = w' := by
  obtain ⟨A, c, hv, hc, _⟩ := h.slice
  have c3 := blk_cell h.blk (j := 3) rfl
  simp only [List.getElem_toArray, List.getElem_cons_succ, List.getElem_cons_zero] at c3
  rw [hv] at c3
  clear h hv hc
  generalize es.length = n at *
  go_enter Tryz.func85, Tryz.ntmps85
  go_wp2
  go_ret
  exact ⟨rfl, rfl⟩
set_option maxHeartbeats 1000000 in
theorem vheads_ok (h : VS n0 w b room es bs p) : ∃ L : List ByteArray, L.length ≤ es.length ∧ ∀ W, Unch none_ w W → Calls Tryz.prog 26 #[.pointer (some ⟨b, 0, none⟩)] W fun e w' => ∃ v, e = .returned v ∧ SMid W w' v L.length L := by
  obtain ⟨mk, hmk, hint⟩ := h.dg.kid
  refine ⟨hdF (idA es allT p.pv es.length) mk, ?_, fun W hu => ?_⟩
  · refine Nat.le_trans (hdF_len _ _) ?_
    unfold idA
    rw [List.length_map, show (List.range es.length).filter allT = List.range es.length from List.filter_eq_self.2 (fun _ _ => rfl), List.length_range]
    exact Nat.le_refl _
  have hlen : (idA es allT p.pv es.length).length ≤ 1000000 := by
    unfold idA
    rw [List.length_map, show (List.range es.length).filter allT = List.range es.length from List.filter_eq_self.2 (fun _ _ => rfl), List.length_range]
    have := h.cl.len
    omega
  have h1 := h.fresh hu
  have hd := dheads_ok h1.dg.blk h1.dg.par (hmk.unch hu (fun h => h)) hint hlen
  have c1 := blk_cell h1.blk (j := 1) rfl
  simp only [List.getElem_toArray, List.getElem_cons_succ, List.getElem_cons_zero] at c1
  have HD := Lib.hid hd
  clear h h1 hd hlen hmk hint
  go_enter Tryz.func26, Tryz.ntmps26
  go_wp2_with (go_at_call 58; refine HD.out.mono ?_; rintro _ w2 ⟨v, rfl, hs⟩; obtain ⟨A2, c2, rfl, hc2⟩ := hs.row.slice)
  go_ret
  exact ⟨_, rfl, hs⟩
end
end Go.Proofs.YtgcpoppinnnciaaGreatDoor
/- view: New, entry, missing, good. -/
set_option linter.unusedVariables false
set_option linter.unusedSimpArgs false
set_option maxRecDepth 100000
namespace Go.Proofs.YtgcpoppinnnciaaGreatDoor
open Go Go.RowKit Go.Proofs.YtgcpoppinnnciaaGreatDoor.Pal Go.Proofs.YtgcpoppinnnciaaGreatDoor.Plan

theorem new2_ok (es : List Ent) (w : World) : Calls Tryz.prog 35 #[] w fun e w' => ∃ bd bp bk pv, e = .returned (.pointer (some ⟨bd, 0, none⟩)) ∧ (Dg w' bd bp bk es 0 pv ∧ Sm w' bk []) ∧ Unch none_ w w' ∧ w.heap.size ≤ bd ∧ w.heap.size ≤ bp ∧ w.heap.size ≤ bk := by
  have hmm := @run_makeMap Tryz.prog
  go_enter Tryz.func35, Tryz.ntmps35
  go_wp2
  go_ret
  have m1 := Sm.made w
  have m2 := Sm.made (w.alloc (.map #[] 0))
  have b3 := blk_new ((w.alloc (.map #[] 0)).alloc (.map #[] 0)) (.cells #[.map (some w.heap.size), .map (some (w.heap.size + 1))] 129)
  simp only [World.size_alloc] at m2 b3
  refine ⟨w.heap.size + 1 + 1, w.heap.size, w.heap.size + 1, fun _ => .slice none 0 0, rfl, ⟨⟨b3, (m1.unch ((Unch.refl none_ _).alloc _) (fun h => h)).unch ((Unch.refl none_ _).alloc _) (fun h => h), ⟨[], m2.unch ((Unch.refl none_ _).alloc _) (fun h => h), fun s v h => by cases h⟩, fun i hi => by omega, by omega⟩, m2.unch ((Unch.refl none_ _).alloc _) (fun h => h)⟩, (((Unch.refl none_ w).alloc _).alloc _).alloc _, by omega, by omega, by omega⟩
set_option maxHeartbeats 1000000 in
theorem vnew_ok (room : ByteArray) (hr : room.size = 32) (w : World) : Calls Tryz.prog 10 #[.string room] w fun e w' => ∃ b p, e = .returned (.pointer (some ⟨b, 0, none⟩)) ∧ VS w.heap.size w' b room [] [] p ∧ Unch none_ w w' := by
  have h32 : ((room.size : Int) != 32) = false := by rw [hr]; rfl
  have hmm := @run_makeMap Tryz.prog
  have HN := Lib.hid (new2_ok [] w)
  go_enter Tryz.func10, Tryz.ntmps10
  go_wp2_with (go_at_call 35; refine HN.out.mono ?_; rintro _ w1 ⟨bd, bp, bk, pv, rfl, ⟨hd, hkd⟩, hu1, h1, h2, h3⟩; have HD := Lib.hid hd; have HKD := Lib.hid hkd; clear hkd; have HU1 := Lib.hid hu1; clear hd hu1)
  go_ret
  have ha : Unch none_ w1 (((w1.alloc (.map #[] 0)).alloc (.cells #[.int .u32 0, .int .i32 0, .int .u32 0, .string ⟨#[]⟩, .string ⟨#[]⟩, .slice none 0 0, .slice none 0 0] 92)).alloc (.cells #[.string room, .pointer (some ⟨bd, 0, none⟩), .map (some w1.heap.size), .slice none 0 0, .pointer (some ⟨w1.heap.size + 1, 0, none⟩)] 95)) := (((Unch.refl none_ w1).alloc _).alloc _).alloc _
  have hb := blk_new ((w1.alloc (.map #[] 0)).alloc (.cells #[.int .u32 0, .int .i32 0, .int .u32 0, .string ⟨#[]⟩, .string ⟨#[]⟩, .slice none 0 0, .slice none 0 0] 92)) (.cells #[.string room, .pointer (some ⟨bd, 0, none⟩), .map (some w1.heap.size), .slice none 0 0, .pointer (some ⟨w1.heap.size + 1, 0, none⟩)] 95)
  have hm1 := Sm.made w1
  have hm : Sm _ w1.heap.size [] := hm1.unch (((Unch.refl none_ (w1.alloc (.map #[] 0))).alloc (.cells #[.int .u32 0, .int .i32 0, .int .u32 0, .string ⟨#[]⟩, .string ⟨#[]⟩, .slice none 0 0, .slice none 0 0] 92)).alloc (.cells #[.string room, .pointer (some ⟨bd, 0, none⟩), .map (some w1.heap.size), .slice none 0 0, .pointer (some ⟨w1.heap.size + 1, 0, none⟩)] 95)) (fun h => h)
  simp only [World.size_alloc] at hb
  have hs1 := HU1.out.size
  have l2 := HD.out.par.lt
  obtain ⟨mk, hmk, _⟩ := HD.out.kid
  have l3 := hmk.lt
  exact ⟨w1.heap.size + 1 + 1, ⟨bd, bp, bk, w1.heap.size, w1.heap.size + 1, .slice none 0 0, pv⟩, rfl,
    ⟨hb, HD.out.fresh ha, fun i hi => by simp at hi, hm, Row.nil _ _ _, fun e he => by simp at he, ⟨by simp, fun i hi => by simp at hi, fun i hi => by simp at hi, fun i j hi => by simp at hi, fun i s hi => by simp at hi⟩, .inl rfl, hr, by show w1.heap.size ≠ bp; omega, by show w1.heap.size ≠ bk; omega, by omega, h1, h2, h3, hs1, (fun g hg => by cases hg), [], HKD.out.unch ha (fun h => h), fun s => rfl⟩, HU1.out.trans ha⟩
set_option maxHeartbeats 1000000 in
theorem entry_ok (id : ByteArray) (e : Ev) (A : Option Addr) (c : Nat) (w : World) : Calls Tryz.prog 82 #[.string id, .agg (evV e A c)] w fun x w' => x = .returned (.agg #[.string id, .int .i64 e.kind, .string e.author, .slice A e.ps.length c, .string e.body]) ∧ Unch none_ w w' := by
  simp only [evV]
  generalize e.ps.length = n
  go_enter Tryz.func82, Tryz.ntmps82
  go_wp2
  have hb := blk_new (w.alloc (.cells #[.int .i64 e.kind, .string e.author, .slice A n c, .string e.body, .string e.sig] 50)) (.cells #[.string id, .int .i64 e.kind, .string e.author, .slice A n c, .string e.body] 114)
  simp only [World.size_alloc] at hb
  exact bodyPost_ret (results_cell_row rfl _ _ (w.heap.size + 1) _ _ _ _ rfl hb Tryz.underlying114 rfl (by kernel_rfl)) rfl ⟨rfl, ((Unch.refl none_ w).alloc _).alloc _⟩
section
variable {n0 : Nat} {w w1 : World} {b : Nat} {room : ByteArray} {es : List Ent} {bs : Asc} {p : Plc}
def missF (es : List Ent) (ps : List ByteArray) : List ByteArray := ps.filter fun s => !inE es s
theorem missF_t {es : List Ent} {ps : List ByteArray} {k : Nat} {s : ByteArray} (h : ps[k]? = some s) (hi : inE es s = true) : missF es (ps.take (k + 1)) = missF es (ps.take k) := by
  unfold missF
  rw [List.take_add_one, h]
  simp [hi]
theorem missF_f {es : List Ent} {ps : List ByteArray} {k : Nat} {s : ByteArray} (h : ps[k]? = some s) (hi : inE es s = false) : missF es (ps.take (k + 1)) = missF es (ps.take k) ++ [s] := by
  unfold missF
  rw [List.take_add_one, h]
  simp [hi]
set_option maxHeartbeats 1000000 in
theorem missing_ok (h : VS n0 w b room es bs p) (e : Ev) (A : Option Addr) (c : Nat) (hr : RdS w 1 StrR A e.ps.length e.ps) (hn : e.ps.length ≤ 1000) (hsz : ∀ s ∈ e.ps, s.size ≤ maxLen) :
    Calls Tryz.prog 84 #[.pointer (some ⟨b, 0, none⟩), .agg (evV e A c)] w fun x w' => ∃ v, x = .returned v ∧ SMid w w' v (missF es e.ps).length (missF es e.ps) := by
  obtain ⟨kind, author, ps, body, sig⟩ := e
  simp only [evV] at hr hn hsz ⊢
  obtain ⟨n, hpn⟩ : ∃ n, ps.length = n := ⟨_, rfl⟩
  rw [hpn] at hr hn ⊢
  have HV := Lib.hid h
  have HR := Lib.hid hr
  have HPN := Lib.hid hpn
  have HSZ := Lib.hid hsz
  have hu0 : Unch none_ w (w.alloc (.cells #[.int .i64 kind, .string author, .slice A n c, .string body, .string sig] 50)) := (Unch.refl none_ w).alloc _
  clear h hr hpn hsz
  go_enter Tryz.func84, Tryz.ntmps84
  go_wp2_with fail
  go_loopg [5, 7, 11] n (fun gk v5 _ i wr => ∃ (k : Nat), gk = n - k ∧ k ≤ n ∧ i = .int .i64 (k : Int) ∧ SMid w wr v5 (missF es (ps.take k)).length (missF es (ps.take k)))
  case atStart => exact ⟨0, rfl, by omega, rfl, hu0, (fun b hb => by cases hb), by rw [show missF es (ps.take 0) = [] from rfl]; exact Row.nil _ _ _⟩
  case round =>
    obtain ⟨k, rfl, hk, rfl, hs⟩ := hrel
    obtain ⟨w2, rfl⟩ : ∃ w2, w2 = wr := ⟨_, rfl⟩
    obtain ⟨A5, c5, rfl, hc5⟩ := hs.row.slice
    have HS := Lib.hid hs
    clear hs
    by_cases hkn : k < n
    · obtain ⟨s, hs⟩ := get_some HPN.out hkn
      have z0 : (0 : Int) ≤ (k : Int) := by omega
      have z1 : (k : Int) < (n : Int) := by omega
      obtain ⟨bb, o, hA, _, x0⟩ := RdS.str (RdS.fresh HR.out HS.out.hu) hs
      subst hA
      have hv2 := HV.out.fresh HS.out.hu
      have c1 := blk_cell hv2.blk (j := 1) rfl
      simp only [List.getElem_toArray, List.getElem_cons_succ, List.getElem_cons_zero] at c1
      have hh := vhas_ok hv2 s (HSZ.out s (List.mem_of_getElem? hs))
      have hml : (missF es (ps.take k)).length ≤ n := by
        unfold missF
        refine Nat.le_trans (List.length_filter_le _ _) ?_
        rw [List.length_take]; omega
      cases hi : inE es s with
      | true =>
        rw [hi] at hh
        have ht := missF_t hs hi
        have HT := Lib.hid ht
        have HH := Lib.hid hh
        clear hh ht hv2 hi hs
        go_wp2_with (go_at_call 54; refine HH.out.mono ?_; rintro _ w3 ⟨rfl, rfl⟩)
        go_roundg (n - (k + 1))
        case measure => omega
        case rel => exact ⟨k + 1, rfl, by omega, by go_num, by rw [HT.out]; exact HS.out⟩
      | false =>
        rw [hi] at hh
        have ht := missF_f hs hi
        have HT := Lib.hid ht
        have HH := Lib.hid hh
        clear hh ht hv2 hi hs
        generalize missF es (ps.take k) = ms at *
        go_wp2_with (first
          | (go_at_call 54; refine HH.out.mono ?_; rintro _ w3 ⟨rfl, rfl⟩)
          | (at_builtin; refine wpList_append1 w2 rfl (.tmp 22) (.tmp 24) 25 9 _ 1 16 rfl Tryz.underlying25 info_str rfl (by omega) (.slice A5 ms.length c5) ms.length (sv ms) (by rfl) HS.out.row [.string s] rfl (by intro u hu; simp at hu; subst hu; rfl) (by rfl) (by simp only [maxLen]; omega) (by omega) ?_; intro v6 w6 hr6 hu6 hat6; have hs6 := HS.out.app1 hr6 hu6 hat6; have HS6 := Lib.hid hs6; clear hr6 hu6 hat6 hs6))
        go_roundg (n - (k + 1))
        case measure => omega
        case rel => exact ⟨k + 1, rfl, by omega, by go_num, by rw [HT.out, List.length_append]; exact HS6.out⟩
    · obtain rfl : k = n := by omega
      have ht : ps.take k = ps := List.take_of_length_le (by rw [HPN.out]; exact Nat.le_refl _)
      rw [ht] at HS ⊢
      go_wp2_with fail
      go_ret
      exact ⟨_, rfl, HS.out⟩
/-- Whether an entry is the root, or good behind what is there. -/
def goodV (room : ByteArray) (es : List Ent) (x : Ent) : Bool := if x.kind = 1 then decide (x.id = room) else match rootN room (es ++ [x]) with | some r => goodL (es ++ [x]) r es.length | none => false
theorem rootN_app {r : Nat} (hr : rootN room es = some r) (x : Ent) : rootN room (es ++ [x]) = some r := by
  obtain ⟨h1, h2, h3⟩ := rootN_some hr
  have hf : findN es room = some r := by
    unfold rootN at hr
    split at hr
    · rename_i i hi
      split at hr
      · injection hr with hr; rw [← hr]; exact hi
      · cases hr
    · cases hr
  have hf2 : findN (es ++ [x]) room = some r := by
    obtain ⟨e, he, hid, hlt⟩ := findN_some hf
    refine findN_of (e := e) (by rw [List.getElem?_append_left h1]; exact he) hid fun j e' hj he' => ?_
    rw [List.getElem?_append_left (by omega)] at he'
    exact hlt j e' hj he'
  unfold rootN
  rw [hf2]
  simp only []
  rw [ent_app_lt h1, if_pos h3]
theorem rootN_new {x : Ent} (hn : findN es x.id = none) (hk : x.kind = 1) (hid : x.id = room) : rootN room (es ++ [x]) = some es.length := by
  have hf2 : findN (es ++ [x]) room = some es.length := by
    refine findN_of (e := x) (by simp) hid fun j e' hj he' => ?_
    rw [List.getElem?_append_left hj] at he'
    rw [findN_none] at hn
    rw [← hid]
    exact hn _ (List.mem_of_getElem? he')
  unfold rootN
  rw [hf2]
  simp only []
  rw [ent_app_at, if_pos hk]
set_option maxHeartbeats 2000000 in
theorem vgood_ok (h : VS n0 w b room es bs p) (x : Ent) (hx : EntS w x) (hcl : closedB (es ++ [x]) = true) (hk : x.kind ≠ 1 → es ≠ []) {v : Value} (hv : v = x.val) :
    Calls Tryz.prog 86 #[.pointer (some ⟨b, 0, none⟩), v] w fun e w' => e = .returned (.bool (goodV room es x)) ∧ Unch none_ w w' := by
  obtain ⟨res, hres⟩ : ∃ r, goodV room es x = r := ⟨_, rfl⟩
  rw [hres]
  obtain ⟨A, c, hpv, hc, _⟩ := hx.ok.ps
  have hv2 : v = .agg #[.string x.id, .int .i64 x.kind, .string x.author, .slice A x.ps.length c, .string x.body] := by rw [hv]; unfold Ent.val; rw [hpv]
  have hu : Unch none_ w (w.alloc (.cells #[.string x.id, .int .i64 x.kind, .string x.author, .slice A x.ps.length c, .string x.body] 114)) := (Unch.refl none_ w).alloc _
  have hbx := blk_new w (.cells #[.string x.id, .int .i64 x.kind, .string x.author, .slice A x.ps.length c, .string x.body] 114)
  obtain ⟨A3, c3, hev, hc3, hents⟩ := h.slice
  have hblk := hu.heap h.blk (fun h => h)
  rw [hev] at hblk
  have x0 : (w.alloc (.cells #[.string x.id, .int .i64 x.kind, .string x.author, .slice A x.ps.length c, .string x.body] 114)).cell? ⟨b, 0, none⟩ = some (.string room) := blk_cell hblk (j := 0) rfl
  have x3 : (w.alloc (.cells #[.string x.id, .int .i64 x.kind, .string x.author, .slice A x.ps.length c, .string x.body] 114)).cell? ⟨b, 3, none⟩ = some (.slice A3 es.length c3) := blk_cell hblk (j := 3) rfl
  have y0 : (w.alloc (.cells #[.string x.id, .int .i64 x.kind, .string x.author, .slice A x.ps.length c, .string x.body] 114)).cell? ⟨w.heap.size, 0, none⟩ = some (.string x.id) := blk_cell hbx (j := 0) rfl
  have y1 : (w.alloc (.cells #[.string x.id, .int .i64 x.kind, .string x.author, .slice A x.ps.length c, .string x.body] 114)).cell? ⟨w.heap.size, 1, none⟩ = some (.int .i64 x.kind) := blk_cell hbx (j := 1) rfl
  have y2 : (w.alloc (.cells #[.string x.id, .int .i64 x.kind, .string x.author, .slice A x.ps.length c, .string x.body] 114)).cell? ⟨w.heap.size, 2, none⟩ = some (.string x.author) := blk_cell hbx (j := 2) rfl
  have y3 : (w.alloc (.cells #[.string x.id, .int .i64 x.kind, .string x.author, .slice A x.ps.length c, .string x.body] 114)).cell? ⟨w.heap.size, 3, none⟩ = some (.slice A x.ps.length c) := blk_cell hbx (j := 3) rfl
  have y4 : (w.alloc (.cells #[.string x.id, .int .i64 x.kind, .string x.author, .slice A x.ps.length c, .string x.body] 114)).cell? ⟨w.heap.size, 4, none⟩ = some (.string x.body) := blk_cell hbx (j := 4) rfl
  have hmay : x.kind ≠ 1 → QC Tryz.prog 126 #[.string room, .slice A3 es.length c3, .agg #[.string x.id, .int .i64 x.kind, .string x.author, .slice A x.ps.length c, .string x.body]] (.bool res) (w.alloc (.cells #[.string x.id, .int .i64 x.kind, .string x.author, .slice A x.ps.length c, .string x.body] 114)) := fun hk1 W hW => by
    obtain ⟨r, hr⟩ : ∃ r, rootN room es = some r := h.rt.resolve_left (hk hk1)
    have hr2 := rootN_app hr x
    have h0 : 0 < es.length := by
      have := (rootN_some hr).1
      omega
    have hm := may_ok (hents.fresh (hu.trans hW)) h0 hc3 room (by rw [h.rm]; decide) (hx.fresh (hu.trans hW)).ok hcl hr2 (v := .agg #[.string x.id, .int .i64 x.kind, .string x.author, .slice A x.ps.length c, .string x.body]) (by rw [← hv2, hv])
    have : goodL (es ++ [x]) r es.length = res := by
      rw [← hres]
      unfold goodV
      rw [if_neg hk1, hr2]
    rw [this] at hm
    exact hm
  have HMAY := Lib.hid hmay
  have HU := Lib.hid hu
  have hroot : x.kind = 1 → decide (x.id = room) = res := fun h1 => by rw [← hres]; unfold goodV; rw [if_pos h1]
  have hb := str_beq (s := x.id) (t := room)
  rw [hv2]
  clear hmay hbx hblk hv hv2 hpv hents hev hcl hk hx h hu hres
  generalize x.ps.length = np at *
  generalize x.kind = kd at *
  generalize x.id = xid at *
  generalize x.author = xau at *
  generalize x.body = xbo at *
  generalize es.length = ne at *
  by_cases h1 : kd = 1
  · subst h1
    have hr := hroot rfl
    rw [← hb] at hr
    clear hroot hb HMAY y1 y2 y3 y4
    have x0 := cellU x0
    have y0 := cellU y0
    go_enter Tryz.func86, Tryz.ntmps86
    go_wp2
    refine wp_region_quiet_u (by kernel_rfl) (by kernel_rfl) (fun _ => ?_)
    repeat (go_big_quiet_step (fail))
    refine wpQuiet_nil ?_
    intro wq hw'
    obtain ⟨⟨wqq, huq⟩, hw''⟩ := hw'
    subst hw''
    go_wp2
    go_ret
    exact ⟨by first | (rw [← hr]; rfl) | (simp only [hr]; rfl) | trace_state, HU.out.trans huq⟩
  · have hb1 : (kd == 1) = false := by rw [beq_eq_false_iff_ne]; exact h1
    have HQ := Lib.hid (HMAY.out h1)
    clear hroot hb HMAY h1
    go_enter Tryz.func86, Tryz.ntmps86
    go_wp2
    have x0 := cellU x0
    have y0 := cellU y0
    have x3 := cellU x3
    have y1 := cellU y1
    have y2 := cellU y2
    have y3 := cellU y3
    have y4 := cellU y4
    refine wp_region_quiet_u (by kernel_rfl) (by kernel_rfl) (fun _ => ?_)
    repeat (go_big_quiet_step ((go_at_call 126; with_reducible exact HQ.out.u _)))
    refine wpQuiet_nil ?_
    intro wq hw'
    obtain ⟨⟨wqq, huq⟩, hw''⟩ := hw'
    subst hw''
    go_wp2
    go_ret
    exact ⟨rfl, HU.out.trans huq⟩
end
end Go.Proofs.YtgcpoppinnnciaaGreatDoor
