/-
  member.Members.
  Rows that grow: of strings, of entries.
  What is said, as it comes in; what Laid hands over.
  Laid, with all that is known of its entries.
-/
import Derived.RangeFuncBox
import Derived.Test.YtgalnnmeamldhaaGreatCKM1
import Derived.Test.YtgalnnmeamldhaaGreatCMRef17
/- member.Members. -/
set_option linter.unusedVariables false
set_option linter.unusedSimpArgs false
namespace Go.Proofs.YtgalnnmeamldhaaGreat
open Go Go.RowKit Go.Proofs.YtgalnnmeamldhaaGreat.Pal Go.Proofs.YtgalnnmeamldhaaGreat.Plan
attribute [local go_sem] Oper.semAt_some

set_option maxRecDepth 100000 in
set_option maxHeartbeats 4000000 in
theorem pMembers_ok {w : World} {A : Option Addr} {n c : Nat} {l : List Ent} (h : Ents w A n l) (hc : n ≤ c) (room : ByteArray) (hmax : room.size ≤ maxLen) (hb : closedB l = true) {r : Nat} (hr : rootN room l = some r) :
    Calls Tryz.prog 25 #[.string room, .slice A n c] w fun e w' => ∃ v L, e = .returned v ∧ MemL (goodS l r) L ∧ SMid w w' v L.length L := by
  have HOF := Lib.hid (of_some h hc room hmax hb hr)
  have hC := closed_iff.1 hb
  have HC := Lib.hid hC
  obtain ⟨hrl, hrid, hrk⟩ := rootN_some hr
  have hOk : (goodS l r).Ok := ⟨hC, hrl, hrk⟩
  have HOK := Lib.hid hOk
  have HRL := Lib.hid hrl
  clear h hb hr hC hrid hrk hOk hrl
  refine (callsIn_wide (n := 6)).1 ?_
  refine callsIn_of_wp_marks Tryz.func25 rfl trivial ?_ rfl
  simp only [Tryz.ntmps25, List.size_toArray, List.length_cons, List.length_nil, Nat.reduceAdd, Nat.reduceSub, Array.replicate_succ, Array.replicate_zero, List.push_toArray, List.append_toArray, List.nil_append, List.cons_append]
  gi_wp2_with (refine ⟨trivial, ?_⟩; gi_at_call 35; refine (callsIn_wide.2 HOF.out).mono ?_; rintro e w1 ⟨q, rfl, hps, hu1⟩; have HAM := Lib.hid (amongAll hps); have HU1 := Lib.hid hu1; clear hps hu1)
  gi_wp2_with (refine ⟨trivial, ?_⟩; gi_at_call 36; refine (callsIn_wide.2 HAM.out).mono ?_; rintro e w2 ⟨k0, Lm, rfl, hpc, hT, _, hrd, hu2⟩; have hua : Unch none_ w2 ((w2.alloc (.cells #[.pointer (some ⟨k0.bc, 0, none⟩)] 74)).alloc (.cells #[.slice none 0 0] 27)) := ((Unch.refl none_ w2).alloc _).alloc _; have y2 := hua.cell (circ2 hpc.blk) (fun h => h); have HPC := Lib.hid hpc; have HT := Lib.hid hT; have HRD := Lib.hid hrd; have HU2 := Lib.hid (HU1.out.trans hu2); clear hpc hT hrd hu2)
  gi_wp2_with (refine ⟨trivial, ?_⟩; gi_at_call 42; refine (callsIn_wide.2 (mapsKeys_ok _ _)).mono ?_; rintro e w3 ⟨rfl, rfl⟩)
  clear y2 hua HOF HAM HU1
  obtain ⟨w5, hw5⟩ : ∃ w5, w5 = ((w2.alloc (.cells #[.pointer (some ⟨k0.bc, 0, none⟩)] 74)).alloc (.cells #[.slice none 0 0] 27)).alloc (.cells #[.map (some k0.brk)] 61) := ⟨_, rfl⟩
  obtain ⟨hu25, hbx, hbo, hbm, hsz5⟩ := km_start w2 k0.bc k0.brk hw5
  rw [← hw5]
  clear hw5
  have hpc5 := HPC.out.fresh hu25
  have hrd5 := RdS.fresh HRD.out hu25
  have hu5 := HU2.out.trans hu25
  obtain ⟨bx, hbxe⟩ : ∃ b, w2.heap.size = b := ⟨_, rfl⟩
  rw [hbxe] at hbx hbo hbm hsz5 ⊢
  obtain ⟨bo, hboe⟩ : ∃ b, bx + 1 = b := ⟨_, rfl⟩
  rw [hboe] at hbo hbm hsz5 ⊢
  obtain ⟨bm, hbme⟩ : ∃ b, bo + 1 = b := ⟨_, rfl⟩
  rw [hbme] at hbm hsz5 ⊢
  have n1 : bx ≠ bo := by omega
  have n2 : bo < w5.heap.size := by omega
  have n3 : bm < w5.heap.size := by omega
  obtain ⟨mr, hmr, hmg⟩ := rankM_some hpc5.rk
  have hml := ranks_len (s := goodS l r) HOK.out HC.out.len hmr hmg
  have hwo : w.heap.size ≤ bo := by have := HU2.out.size; omega
  have HPC5 := Lib.hid hpc5
  have HRD5 := Lib.hid hrd5
  have HU5 := Lib.hid hu5
  have HBX := Lib.hid hbx
  have HBO := Lib.hid hbo
  have HBM := Lib.hid hbm
  have HMR := Lib.hid hmr
  have HMG := Lib.hid hmg
  have n4 : w2.heap.size ≤ bo := by omega
  have n5 : w.heap.size ≤ w5.heap.size := by have := hu5.size; omega
  have HU25 := Lib.hid hu25
  clear hpc5 hrd5 hu5 hbx hbo hbm hmr hmg hboe hbxe hbme hsz5 hu25 HPC HU2
  refine wpIn_rangeFunc_ownG (F := Fence.wide) (n := 6) rfl (by omega) (gf := 66) (lb := #[.pointer (some ⟨bm, 0, none⟩)]) rfl trivial (enters_of Tryz.func66 (by kernel_rfl) rfl)
    (encs := fun x => #[Value.string x]) (keys_stops Fence.wide (6 - 1) trivial rfl (by omega) bm k0.brk mr w5 n3 HBM.out HMR.out) walksK_t walksK_b (Below.refl _ _) (fun _ => rfl)
    (MI w5 bo (goodS l r).member) (fun _ _ _ => False) (MI.own w5 bo _) (fun _ _ _ _ _ hs _ _ => hs)
    ⟨Unch.refl _ _, _, HBO.out, (fun b hb => by cases hb), Row.nil _ _ _⟩
    (fun x => { tmps := #[.string room, .slice A n c, undef, undef, .slice none 0 0, .pointer (some ⟨q.bs, 0, none⟩), .pointer (some ⟨bx, 0, none⟩), .pointer (some ⟨bo, 0, none⟩), .string x, .string room, .slice A n c, .pointer (some ⟨q.bs, 0, none⟩), .pointer (some ⟨q.bs, 0, none⟩), .bool false, .pointer (some ⟨q.bs, 0, none⟩), .pointer (some ⟨k0.bc, 0, none⟩), .pointer (some ⟨k0.bc, 0, none⟩), .pointer (some ⟨k0.bc, 0, none⟩), .pointer (some ⟨k0.bc, 2, none⟩), .map (some k0.brk), .func (.func 66) #[] #[.pointer (some ⟨bm, 0, none⟩)], .string x, undef, undef, undef, undef, undef, undef, undef, undef, undef, undef, undef], defers := [] }) ?assign ?body ?done ?stop
  case assign =>
    intro l x W K hK
    gi_wp2
    exact hK
  case body =>
    rintro lr pre x W hI hlt
    have hu := hI.u
    obtain ⟨v, h1, h2, h3⟩ := hI.out
    have hpcW := HPC5.out.other HBO.out (by decide) (by decide) hu
    have hrdW : RdS W 5 EntR k0.A k0.m (Lm.map (ent l)) := HRD.out.unch ((HU25.out.mono (fun _ _ h => h.elim)).step hu (fun i hi e => e)) (fun k hk e => by have e : k = bo := e; omega) (fun _ _ h => h)
    have hxW : W.cell? ⟨bx, 0, none⟩ = some (.pointer (some ⟨k0.bc, 0, none⟩)) := hu.cell (blk_cell HBX.out (j := 0) rfl) n1
    have hmem := member_ok hpcW (fun j hj => ((HT.out.mem j).1 hj).1) hrdW x
    rw [memB_member HT.out hpcW.set.kr (fun i hi hg hk => goodL_create hi hg hk)] at hmem
    have hmem : Calls Tryz.prog 43 #[.pointer (some ⟨k0.bc, 0, none⟩), .string x] W fun e w' => e = .returned (.bool ((goodS l r).member x)) ∧ Unch none_ W w' := hmem
    have hfl : (pre.filter (goodS l r).member).length ≤ pre.length := List.length_filter_le _ _
    have HI := Lib.hid hI
    have HU := Lib.hid hu
    have H1 := Lib.hid h1
    have H2 := Lib.hid h2
    have H3 := Lib.hid h3
    clear hI hu h1 h2 h3 hpcW hrdW
    cases hmx : (goodS l r).member x with
    | false =>
      rw [hmx] at hmem
      have HMEM := Lib.hid hmem
      have HMX := Lib.hid hmx
      clear hmem hmx
      gi_wp2_with (refine ⟨trivial, ?_⟩; gi_at_call 43; refine (CallsIn.inRound lr (callsIn_wide.2 HMEM.out)).mono ?_; rintro e w6 ⟨rfl, hu6⟩; have HU6 := Lib.hid hu6; clear hu6)
      exact ⟨(keeps_of_unch HU6.out (fun _ h => h.elim)).from _, (keeps_of_unch HU6.out (fun _ h => h.elim)).walks, HI.out.pass HMX.out HU6.out⟩
    | true =>
      rw [hmx] at hmem
      have HMEM := Lib.hid hmem
      have HMX := Lib.hid hmx
      clear hmem hmx
      gi_wp2_with (first | (refine ⟨trivial, ?_⟩; gi_at_call 43; refine (CallsIn.inRound lr (callsIn_wide.2 HMEM.out)).mono ?_; rintro e w6 ⟨rfl, hu6⟩; have ho6 : w6.cell? ⟨bo, 0, none⟩ = some v := hu6.cell (blk_cell H1.out (j := 0) rfl) (fun h => h); have HU6 := Lib.hid hu6; clear hu6) | (gi_at_builtin; refine wpListIn_append1 w6 rfl (.tmp 25) (.tmp 27) 27 9 (.string ⟨#[]⟩) 1 16 rfl Tryz.underlying27 info_str rfl (by decide) v _ _ rfl (H3.out.unch HU6.out (fun _ _ h => h)) [.string x] rfl (by simp [Value.oneCell']) rfl (by unfold maxLen; omega) (by omega) ?_; rintro v' w7 hr7 hu7 hat7 ⟨A7, c7, rfl⟩; obtain ⟨hmi, hko, hc7, hf7⟩ := MI.put n2 HU.out H1.out H2.out H3.out HMX.out HU6.out hr7 hu7 hat7; have HMI := Lib.hid hmi; have HKO := Lib.hid hko; clear hr7 hu7 hat7 hmi hko))
      exact ⟨HKO.out.from _, HKO.out.walks, HMI.out⟩
  case done =>
    rintro D xs W hD ⟨hnd, hmem⟩ hI hK
    have hu := hI.u
    obtain ⟨v, h1, h2, h3⟩ := hI.out
    have hpcW := HPC5.out.other HBO.out (by decide) (by decide) hu
    have hxW := hu.heap HBX.out n1
    have hmem' : ∀ x, x ∈ xs ↔ (rkO (goodS l r) x).isSome = true := fun x => by rw [hmem x]; exact iff_of_eq (by rw [HMG.out x]; rfl)
    have hlen : xs.length = mr.length := by
      have := (nodup_perm hnd HMR.out.one (fun x => by rw [hmem x, mget_isSome])).length_eq
      simpa using this
    have hfl : (xs.filter (goodS l r).member).length ≤ xs.length := List.length_filter_le _ _
    have hso := sortK_ok hpcW hxW (L0 := xs.filter (goodS l r).member) (fun s hs => by
      have := (hmem s).1 (List.mem_filter.1 hs).1
      rw [mget_isSome] at this
      obtain ⟨p, hp, rfl⟩ := List.mem_map.1 this
      exact HMR.out.small p hp) (by omega) h3
    have y0 : W.cell? ⟨bo, 0, none⟩ = some v := blk_cell h1 (j := 0) rfl
    have HSO := Lib.hid hso
    have HKD := Lib.hid hK
    have HU := Lib.hid hu
    have H1 := Lib.hid h1
    have H2 := Lib.hid h2
    have H3 := Lib.hid h3
    have HND := Lib.hid hnd
    have HMEM := Lib.hid hmem'
    clear hso hK hu h1 h2 h3 hnd hmem hmem' hpcW hxW hI
    gi_wp2_with (refine ⟨trivial, ?_⟩; gi_at_call 44; refine (callsIn_wide.2 HSO.out).mono ?_; rintro e w7 ⟨rfl, L, hp, hs, hr7, hu7⟩; have hne : ¬ v.ownBlock = some bo := fun e => by { have := H2.out _ e; omega }; have y7 : w7.cell? ⟨bo, 0, none⟩ = some v := blk_cell (hu7.heap H1.out hne) (j := 0) rfl; have HP := Lib.hid hp; have HS := Lib.hid hs; have HR7 := Lib.hid hr7; have HU7 := Lib.hid hu7; clear hp hs hr7 hu7 hne)
    have hneD : ¬ v.ownBlock = some D := fun e => by
      obtain ⟨cur, hc⟩ := H3.out.blk e
      rw [HKD.out] at hc
      cases hc
    have hK7 := HU7.out.heap HKD.out hneD
    have hup := unch_of_grown (grownBy_putObj' w7 D (.deferred none))
    have hll : L.length = (xs.filter (goodS l r).member).length := HP.out.length_eq
    refine ⟨by simp, .inl ⟨_, _, rfl, run_takeDeferred hK7, ?_⟩⟩
    refine ⟨_, results_tmp rfl _ _ _, v, L, rfl, memL_of HOK.out HND.out HMEM.out HP.out HS.out, ?_, fun b hb => ?_, ?_⟩
    · refine ((HU5.out.step HU.out (fun i hi e => by have e : i = bo := e; omega)).step HU7.out (fun i hi e => by have := H2.out i e; omega)).step hup (fun i hi e => by injection e with e; omega)
    · have := H2.out b hb; omega
    · rw [hll]
      exact HR7.out.unch hup (fun b hb e => hneD (by rw [hb]; exact e.symm))
  case stop =>
    rintro D c pre W _ _ h _
    exact h.elim
end Go.Proofs.YtgalnnmeamldhaaGreat
/- Rows that grow: of strings, of entries. -/
set_option linter.unusedVariables false
set_option linter.unusedSimpArgs false
namespace Go.Proofs.YtgalnnmeamldhaaGreat
open Go Go.RowKit Go.Proofs.YtgalnnmeamldhaaGreat.Pal Go.Proofs.YtgalnnmeamldhaaGreat.Plan

theorem SMid.app1 {w wr w2 : World} {v v2 : Value} {m : Nat} {ys : List ByteArray} {x : ByteArray} (h : SMid w wr v m ys) (hr : Row w2 9 1 v2 (m + 1) (sv ys ++ [.string x])) (hu : Unch (fun k => v.ownBlock = some k) wr w2)
    (hat : v2.ownBlock = v.ownBlock ∨ ∃ b, v2.ownBlock = some b ∧ wr.heap.size ≤ b) : SMid w w2 v2 (m + 1) (ys ++ [x]) := by
  have := h.app hr hu hat
  rw [show gapS ys m x = ys ++ [x] by rw [← h.len]; exact gapS_end ys x] at this
  exact this
structure EMid (w wr : World) (v : Value) (es : List Ent) : Prop where
  hu : Unch none_ w wr
  own : ∀ b, v.ownBlock = some b → w.heap.size ≤ b
  row : Row wr 35 5 v es.length (ecells es)
theorem EMid.rd {w wr : World} {A : Option Addr} {n c : Nat} {es : List Ent} (h : EMid w wr (.slice A n c) es) (hn : n = es.length) (hE : ∀ e ∈ es, EntOk wr e) : Ents wr A n es := by
  subst hn
  refine ⟨⟨rfl, h.row.max, fun hn => ?_⟩, hE⟩
  obtain ⟨g, o, cap, cur, hv, hh, _⟩ := h.row.form hn
  injection hv with h1 h2 h3
  refine ⟨g, o, h1, lt_of_heap hh, fun i x hx => ⟨x.cells, rfl, rfl, fun j u hj => ?_⟩⟩
  have := h.row.at (by rw [h1]) (ecells_get es i j x u hx hj)
  rw [← Nat.add_assoc] at this
  exact this
theorem EMid.fresh {w wr w2 : World} {v : Value} {es : List Ent} (h : EMid w wr v es) (hu : Unch none_ wr w2) : EMid w w2 v es := ⟨h.hu.trans hu, h.own, h.row.unch hu (fun _ _ h => h)⟩
theorem EMid.app {w wr w2 : World} {v v2 : Value} {es : List Ent} {e : Ent} (h : EMid w wr v es) (hr : Row w2 35 5 v2 (es.length + 1) (ecells es ++ e.cells)) (hu : Unch (fun k => v.ownBlock = some k) wr w2)
    (hat : v2.ownBlock = v.ownBlock ∨ ∃ b, v2.ownBlock = some b ∧ wr.heap.size ≤ b) : EMid w w2 v2 (es ++ [e]) := by
  refine ⟨h.hu.step hu (fun k hk hb => absurd (h.own k hb) (by omega)), fun b hb => ?_, ?_⟩
  · rcases hat with h1 | ⟨b', h1, h2⟩
    · exact h.own b (h1 ▸ hb)
    · rw [h1] at hb; injection hb with hb; have := h.hu.size; omega
  · rw [ecells_app, List.length_append, List.length_singleton]
    exact hr
theorem at_ix (x : Int) (n : Nat) (h0 : 0 < n) (hn : n ≤ 100) : ∃ k : Nat, k < n ∧ wrap64 ((IntKind.u64.wrap x).tmod (n : Int)) = (k : Int) := by
  have h0' : 0 ≤ IntKind.u64.wrap x := by rw [IntKind.wrap_u64]; omega
  have h1 : 0 ≤ (IntKind.u64.wrap x).tmod (n : Int) := Int.tmod_nonneg _ h0'
  have h2 : (IntKind.u64.wrap x).tmod (n : Int) < n := Int.tmod_lt_of_pos _ (by omega)
  generalize (IntKind.u64.wrap x).tmod (n : Int) = z at h1 h2
  refine ⟨z.toNat, by omega, ?_⟩
  unfold wrap64
  omega
end Go.Proofs.YtgalnnmeamldhaaGreat
/- What is said, as it comes in; what Laid hands over. -/
set_option linter.unusedVariables false
set_option linter.unusedSimpArgs false
namespace Go.Proofs.YtgalnnmeamldhaaGreat
open Go Go.RowKit Go.Proofs.YtgalnnmeamldhaaGreat.Pal Go.Proofs.YtgalnnmeamldhaaGreat.Plan

def SayRW (w : World) (x : Say) (c : List Value) : Prop := SayR x c ∧ SayOk w x
theorem open_intr {H : Type} {enc : TypeId × Value → H} {w : World} {base : Nat} {spare : Nat → Bool} {held : Bool} (fuel : Nat) (cs : List Value) (y : DataW H × List MemPlace)
    (h : DataW.trod enc Tryz.prog w base spare held fuel 3 cs = some y) : ∃ z : Int, IntR z cs := by
  obtain ⟨m0, h0, _, w0⟩ := DataW.trod_int Tryz.underlying3 h
  exact ⟨m0, h0, i64_wf w0⟩
set_option maxRecDepth 100000 in
theorem open_say {H : Type} {enc : TypeId × Value → H} {w : World} {base : Nat} {spare : Nat → Bool} {held : Bool} (fuel : Nat) (cs : List Value) (y : DataW H × List MemPlace)
    (h : DataW.trod enc Tryz.prog w base spare held fuel 42 cs = some y) : ∃ z : Say, SayRW w z cs := by
  obtain ⟨xs, n, rfl, _, hl, hxl, hf⟩ := DataW.trod_struct Tryz.underlying42 h
  obtain ⟨c0, c1, c2, c3, c4, rfl⟩ := list5 (show cs.length = 5 from hl)
  obtain ⟨x0, e0⟩ := get_some (n := 5) hxl (i := 0) (by decide)
  obtain ⟨x1, e1⟩ := get_some (n := 5) hxl (i := 1) (by decide)
  obtain ⟨x2, e2⟩ := get_some (n := 5) hxl (i := 2) (by decide)
  obtain ⟨x3, e3⟩ := get_some (n := 5) hxl (i := 3) (by decide)
  obtain ⟨x4, e4⟩ := get_some (n := 5) hxl (i := 4) (by decide)
  obtain ⟨m0, h0, _, w0⟩ := DataW.trod_int Tryz.underlying3 ((hf 0 _ rfl).trans e0)
  obtain ⟨m1, h1, _, w1⟩ := DataW.trod_int Tryz.underlying3 ((hf 1 _ rfl).trans e1)
  obtain ⟨m2, h2, _, w2⟩ := DataW.trod_int Tryz.underlying3 ((hf 2 _ rfl).trans e2)
  obtain ⟨A, len, cap, ys, h3, hlc, _, hrd⟩ := open_slice Tryz.underlying40 (by kernel_rfl) (by decide : 0 < 1) IntR open_intr ((hf 3 _ rfl).trans e3)
  obtain ⟨m4, h4, _, w4⟩ := DataW.trod_int Tryz.underlying5 ((hf 4 _ rfl).trans e4)
  have h0' : [c0] = [.int .i64 m0] := h0
  have h1' : [c1] = [.int .i64 m1] := h1
  have h2' : [c2] = [.int .i64 m2] := h2
  have h3' : [c3] = [.slice A len cap] := h3
  have h4' : [c4] = [.int .u8 m4] := h4
  injection h0' with h0'
  injection h1' with h1'
  injection h2' with h2'
  injection h3' with h3'
  injection h4' with h4'
  subst h0'; subst h1'; subst h2'; subst h3'; subst h4'
  have hlen := hrd.len
  subst hlen
  exact ⟨⟨m0, m1, m2, .slice A ys.length cap, ys, m4⟩, rfl, ⟨A, cap, rfl, hlc, hrd⟩, i64_wf w0, i64_wf w1, i64_wf w2, u8_wf w4⟩
theorem says_of {w : World} {A : Option Addr} {n : Nat} {l : List Say} (h : RdS w 5 (SayRW w) A n l) : Says w A n l :=
  ⟨h.unch (Unch.refl none_ w) (fun _ _ h => h) (fun _ _ h => h.1), fun x hx => by
    obtain ⟨i, hi⟩ := List.mem_iff_getElem?.1 hx
    obtain ⟨b, o, c, _, _, _, hr, _⟩ := h.at hi
    exact hr.2⟩
/-! ### What Laid hands over -/
structure Lds (w : World) (A : Option Addr) (n c : Nat) (l : List Ent) : Prop where
  ents : Ents w A n l
  hc : n ≤ c
  clB : closedB l = true
  root : rootN rootB l = some 0
  rootA : (ent l 0).author = keyB 0
  pos : 0 < l.length
theorem lds_of {w w' : World} {A : Option Addr} {n c : Nat} {es : List Ent} {k : Nat} (h : LMid w w' (.slice A n c) es) (hl : LdOk es k) (hn : n = es.length) (hc : n ≤ c) : Lds w' A n c es := by
  obtain ⟨b, hb⟩ := hl.root
  have he := ent_of hb
  have hpos : 0 < es.length := by have := hl.len; omega
  have hid : (ent es 0).id = rootB := by rw [he]
  have hk : (ent es 0).kind = 1 := by rw [he]
  refine ⟨h.rd hn, hc, closed_iff.2 hl.cl, ?_, by rw [he], hpos⟩
  unfold rootN
  rw [← hid, hl.cl.find hpos]
  simp [hk]
theorem Lds.fresh {w w' : World} {A : Option Addr} {n c : Nat} {l : List Ent} (h : Lds w A n c l) (hu : Unch none_ w w') : Lds w' A n c l := ⟨h.ents.fresh hu, h.hc, h.clB, h.root, h.rootA, h.pos⟩
theorem Lds.cl {w : World} {A : Option Addr} {n c : Nat} {l : List Ent} (h : Lds w A n c l) : Closed l := closed_iff.1 h.clB
theorem Lds.len {w : World} {A : Option Addr} {n c : Nat} {l : List Ent} (h : Lds w A n c l) : l.length = n := h.ents.len
theorem Lds.n3 {w : World} {A : Option Addr} {n c : Nat} {l : List Ent} (h : Lds w A n c l) : n ≤ 300 := by rw [← h.len]; exact h.cl.len
theorem Lds.ok {w : World} {A : Option Addr} {n c : Nat} {l : List Ent} (h : Lds w A n c l) : (goodS l 0).Ok := ⟨h.cl, h.pos, (rootN_some h.root).2.2⟩
theorem Lds.good {w : World} {A : Option Addr} {n c : Nat} {l : List Ent} (h : Lds w A n c l) : Calls Tryz.prog 34 #[.string rootB, .slice A n c] w (MadeB w n (goodL l 0)) := good_ok h.ents h.hc rootB (by decide) h.clB h.root
theorem Lds.holds {w : World} {A : Option Addr} {n c : Nat} {l : List Ent} (h : Lds w A n c l) : Calls Tryz.prog 22 #[.string rootB, .slice A n c] w (MadeB w n (goodS l 0).holding) := pHolds_ok h.ents h.hc rootB (by decide) h.clB h.root
theorem Lds.members {w : World} {A : Option Addr} {n c : Nat} {l : List Ent} (h : Lds w A n c l) : Calls Tryz.prog 25 #[.string rootB, .slice A n c] w fun e w' => ∃ v L, e = .returned v ∧ MemL (goodS l 0) L ∧ SMid w w' v L.length L := pMembers_ok h.ents h.hc rootB (by decide) h.clB h.root
theorem Lds.of {w : World} {A : Option Addr} {n c : Nat} {l : List Ent} (h : Lds w A n c l) : Calls Tryz.prog 16 #[.string rootB, .slice A n c] w fun e w' => (∃ p, e = .returned (setV p (goodS l 0)) ∧ p.AL = A ∧ p.n = n ∧ SetOk w' p (goodS l 0)) ∧ Unch none_ w w' := of_ok h.ents h.hc h.cl rootB h.root
/-- Laid, as the laws call it. -/
theorem laidL {w : World} {A : Option Addr} {n c : Nat} {xs : List Say} (h : Says w A n xs) (hn : n ≤ 24) :
    Calls Tryz.prog 8 #[.slice A n c] w fun e w' => ∃ A' n' c' es, e = .returned (.slice A' n' c') ∧ Lds w' A' n' c' es ∧ n' ≤ 25 ∧ Unch none_ w w' :=
  (laid_ok h (Nat.le_refl _) (by omega) (.inl rfl)).mono fun e w' ⟨v, es, he, hm, hl⟩ => by
    obtain ⟨A', c', hv, hc'⟩ := hm.row.slice
    rw [hv] at hm he
    exact ⟨A', es.length, c', es, he, lds_of hm hl rfl hc', by have := hl.len; omega, hm.hu⟩
end Go.Proofs.YtgalnnmeamldhaaGreat
/- Laid, with all that is known of its entries. -/
set_option linter.unusedVariables false
set_option linter.unusedSimpArgs false
namespace Go.Proofs.YtgalnnmeamldhaaGreat
open Go Go.RowKit Go.Proofs.YtgalnnmeamldhaaGreat.Pal Go.Proofs.YtgalnnmeamldhaaGreat.Plan

theorem laidX {w : World} {A : Option Addr} {n c : Nat} {xs : List Say} (h : Says w A n xs) {N : Nat} (hN1 : N ≤ n) (hN2 : N ≤ 40) (hN3 : N = n ∨ N = 40) :
    Calls Tryz.prog 8 #[.slice A n c] w fun e w' => ∃ A' n' c' es, e = .returned (.slice A' n' c') ∧ Lds w' A' n' c' es ∧ LdOk es N ∧ n' = N + 1 ∧ Unch none_ w w' :=
  (laid_ok h hN1 hN2 hN3).mono fun e w' ⟨v, es, he, hm, hl⟩ => by
    obtain ⟨A', c', hv, hc'⟩ := hm.row.slice
    rw [hv] at hm he
    exact ⟨A', es.length, c', es, he, lds_of hm hl rfl hc', hl, hl.len, hm.hu⟩
theorem LdOk.hps {es : List Ent} {k : Nat} (h : LdOk es k) : ∀ e ∈ es, e.ps.length ≤ 1048576 := fun e he => by have := h.psl e he; omega
end Go.Proofs.YtgalnnmeamldhaaGreat
