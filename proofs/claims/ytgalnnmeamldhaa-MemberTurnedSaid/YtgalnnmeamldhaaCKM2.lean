/-
  member.Members.
  The document's example: its entries, what holds, the members (plain).
  awake: the document's example answers.
  The laws of layer 15: what is said, as it comes in; MemberHolds, MemberGood.
-/
import Derived.RangeFuncBox
import Derived.Test.YtgalnnmeamldhaaCKM1
import Derived.Test.YtgalnnmeamldhaaCMRef17
/- member.Members. -/
set_option linter.unusedVariables false
set_option linter.unusedSimpArgs false
namespace Go.Proofs.Ytgalnnmeamldhaa
open Go Go.RowKit Go.Proofs.Ytgalnnmeamldhaa.Pal Go.Proofs.Ytgalnnmeamldhaa.Plan
attribute [local go_sem] Oper.semAt_some

set_option maxRecDepth 100000 in
set_option maxHeartbeats 4000000 in
theorem pMembers_ok {w : World} {A : Option Addr} {n c : Nat} {l : List Ent} (h : Ents w A n l) (hc : n ≤ c) (room : ByteArray) (hmax : room.size ≤ maxLen) (hb : closedB l = true) {r : Nat} (hr : rootN room l = some r) :
    Calls Try.prog 19 #[.string room, .slice A n c] w fun e w' => ∃ v L, e = .returned v ∧ MemL (goodS l r) L ∧ SMid w w' v L.length L := by
  have HOF := Lib.hid (of_some h hc room hmax hb hr)
  have hC := closed_iff.1 hb
  have HC := Lib.hid hC
  obtain ⟨hrl, hrid, hrk⟩ := rootN_some hr
  have hOk : (goodS l r).Ok := ⟨hC, hrl, hrk⟩
  have HOK := Lib.hid hOk
  have HRL := Lib.hid hrl
  clear h hb hr hC hrid hrk hOk hrl
  refine (callsIn_wide (n := 6)).1 ?_
  refine callsIn_of_wp_marks Try.func19 rfl trivial ?_ rfl
  simp only [Try.ntmps19, List.size_toArray, List.length_cons, List.length_nil, Nat.reduceAdd, Nat.reduceSub, Array.replicate_succ, Array.replicate_zero, List.push_toArray, List.append_toArray, List.nil_append, List.cons_append]
  gi_wp2_with (refine ⟨trivial, ?_⟩; gi_at_call 31; refine (callsIn_wide.2 HOF.out).mono ?_; rintro e w1 ⟨q, rfl, hps, hu1⟩; have HAM := Lib.hid (amongAll hps); have HU1 := Lib.hid hu1; clear hps hu1)
  gi_wp2_with (refine ⟨trivial, ?_⟩; gi_at_call 32; refine (callsIn_wide.2 HAM.out).mono ?_; rintro e w2 ⟨k0, Lm, rfl, hpc, hT, _, hrd, hu2⟩; have hua : Unch none_ w2 ((w2.alloc (.cells #[.pointer (some ⟨k0.bc, 0, none⟩)] 61)).alloc (.cells #[.slice none 0 0] 36)) := ((Unch.refl none_ w2).alloc _).alloc _; have y2 := hua.cell (circ2 hpc.blk) (fun h => h); have HPC := Lib.hid hpc; have HT := Lib.hid hT; have HRD := Lib.hid hrd; have HU2 := Lib.hid (HU1.out.trans hu2); clear hpc hT hrd hu2)
  gi_wp2_with (refine ⟨trivial, ?_⟩; gi_at_call 35; refine (callsIn_wide.2 (mapsKeys_ok _ _)).mono ?_; rintro e w3 ⟨rfl, rfl⟩)
  clear y2 hua HOF HAM HU1
  obtain ⟨w5, hw5⟩ : ∃ w5, w5 = ((w2.alloc (.cells #[.pointer (some ⟨k0.bc, 0, none⟩)] 61)).alloc (.cells #[.slice none 0 0] 36)).alloc (.cells #[.map (some k0.brk)] 63) := ⟨_, rfl⟩
  obtain ⟨hu25, hbx, hbo, hbm, hsz5⟩ := km_start w2 k0.bc k0.brk hw5
  rw [← hw5]
  clear hw5
  have hpc5 := HPC.out.fresh hu25
  have hrd5 := RdS.fresh HRD.out hu25
  have hu5 := HU2.out.trans hu25
  obtain ⟨bx, hbxe⟩ : ∃ b, w2.heap.size = b := ⟨_, rfl⟩
  rw [hbxe] at hbx hbo hbm hsz5 ⊢
  obtain ⟨bo, hboe⟩ : ∃ b, bx + 1 = b := ⟨_, rfl⟩
  rw [hboe] at hbo hbm hsz5 ⊢
  obtain ⟨bm, hbme⟩ : ∃ b, bo + 1 = b := ⟨_, rfl⟩
  rw [hbme] at hbm hsz5 ⊢
  have n1 : bx ≠ bo := by omega
  have n2 : bo < w5.heap.size := by omega
  have n3 : bm < w5.heap.size := by omega
  obtain ⟨mr, hmr, hmg⟩ := rankM_some hpc5.rk
  have hml := ranks_len (s := goodS l r) HOK.out HC.out.len hmr hmg
  have hwo : w.heap.size ≤ bo := by have := HU2.out.size; omega
  have HPC5 := Lib.hid hpc5
  have HRD5 := Lib.hid hrd5
  have HU5 := Lib.hid hu5
  have HBX := Lib.hid hbx
  have HBO := Lib.hid hbo
  have HBM := Lib.hid hbm
  have HMR := Lib.hid hmr
  have HMG := Lib.hid hmg
  have n4 : w2.heap.size ≤ bo := by omega
  have n5 : w.heap.size ≤ w5.heap.size := by have := hu5.size; omega
  have HU25 := Lib.hid hu25
  clear hpc5 hrd5 hu5 hbx hbo hbm hmr hmg hboe hbxe hbme hsz5 hu25 HPC HU2
  refine wpIn_rangeFunc_ownG (F := Fence.wide) (n := 6) rfl (by omega) (gf := 53) (lb := #[.pointer (some ⟨bm, 0, none⟩)]) rfl trivial (enters_of Try.func53 (by kernel_rfl) rfl)
    (encs := fun x => #[Value.string x]) (keys_stops Fence.wide (6 - 1) trivial rfl (by omega) bm k0.brk mr w5 n3 HBM.out HMR.out) walksK_t walksK_b (Below.refl _ _) (fun _ => rfl)
    (MI w5 bo (goodS l r).member) (fun _ _ _ => False) (MI.own w5 bo _) (fun _ _ _ _ _ hs _ _ => hs)
    ⟨Unch.refl _ _, _, HBO.out, (fun b hb => by cases hb), Row.nil _ _ _⟩
    (fun x => { tmps := #[.string room, .slice A n c, undef, undef, .slice none 0 0, .pointer (some ⟨q.bs, 0, none⟩), .pointer (some ⟨bx, 0, none⟩), .pointer (some ⟨bo, 0, none⟩), .string x, .string room, .slice A n c, .pointer (some ⟨q.bs, 0, none⟩), .pointer (some ⟨q.bs, 0, none⟩), .bool false, .pointer (some ⟨q.bs, 0, none⟩), .pointer (some ⟨k0.bc, 0, none⟩), .pointer (some ⟨k0.bc, 0, none⟩), .pointer (some ⟨k0.bc, 0, none⟩), .pointer (some ⟨k0.bc, 2, none⟩), .map (some k0.brk), .func (.func 53) #[] #[.pointer (some ⟨bm, 0, none⟩)], .string x, undef, undef, undef, undef, undef, undef, undef, undef, undef, undef, undef], defers := [] }) ?assign ?body ?done ?stop
  case assign =>
    intro l x W K hK
    gi_wp2
    exact hK
  case body =>
    rintro lr pre x W hI hlt
    have hu := hI.u
    obtain ⟨v, h1, h2, h3⟩ := hI.out
    have hpcW := HPC5.out.other HBO.out (by decide) (by decide) hu
    have hrdW : RdS W 5 EntR k0.A k0.m (Lm.map (ent l)) := HRD.out.unch ((HU25.out.mono (fun _ _ h => h.elim)).step hu (fun i hi e => e)) (fun k hk e => by have e : k = bo := e; omega) (fun _ _ h => h)
    have hxW : W.cell? ⟨bx, 0, none⟩ = some (.pointer (some ⟨k0.bc, 0, none⟩)) := hu.cell (blk_cell HBX.out (j := 0) rfl) n1
    have hmem := member_ok hpcW (fun j hj => ((HT.out.mem j).1 hj).1) hrdW x
    rw [memB_member HT.out hpcW.set.kr (fun i hi hg hk => goodL_create hi hg hk)] at hmem
    have hmem : Calls Try.prog 36 #[.pointer (some ⟨k0.bc, 0, none⟩), .string x] W fun e w' => e = .returned (.bool ((goodS l r).member x)) ∧ Unch none_ W w' := hmem
    have hfl : (pre.filter (goodS l r).member).length ≤ pre.length := List.length_filter_le _ _
    have HI := Lib.hid hI
    have HU := Lib.hid hu
    have H1 := Lib.hid h1
    have H2 := Lib.hid h2
    have H3 := Lib.hid h3
    clear hI hu h1 h2 h3 hpcW hrdW
    cases hmx : (goodS l r).member x with
    | false =>
      rw [hmx] at hmem
      have HMEM := Lib.hid hmem
      have HMX := Lib.hid hmx
      clear hmem hmx
      gi_wp2_with (refine ⟨trivial, ?_⟩; gi_at_call 36; refine (CallsIn.inRound lr (callsIn_wide.2 HMEM.out)).mono ?_; rintro e w6 ⟨rfl, hu6⟩; have HU6 := Lib.hid hu6; clear hu6)
      exact ⟨(keeps_of_unch HU6.out (fun _ h => h.elim)).from _, (keeps_of_unch HU6.out (fun _ h => h.elim)).walks, HI.out.pass HMX.out HU6.out⟩
    | true =>
      rw [hmx] at hmem
      have HMEM := Lib.hid hmem
      have HMX := Lib.hid hmx
      clear hmem hmx
      gi_wp2_with (first | (refine ⟨trivial, ?_⟩; gi_at_call 36; refine (CallsIn.inRound lr (callsIn_wide.2 HMEM.out)).mono ?_; rintro e w6 ⟨rfl, hu6⟩; have ho6 : w6.cell? ⟨bo, 0, none⟩ = some v := hu6.cell (blk_cell H1.out (j := 0) rfl) (fun h => h); have HU6 := Lib.hid hu6; clear hu6) | (gi_at_builtin; refine wpListIn_append1 w6 rfl (.tmp 25) (.tmp 27) 36 9 (.string ⟨#[]⟩) 1 16 rfl Try.underlying36 info_str rfl (by decide) v _ _ rfl (H3.out.unch HU6.out (fun _ _ h => h)) [.string x] rfl (by simp [Value.oneCell']) rfl (by unfold maxLen; omega) (by omega) ?_; rintro v' w7 hr7 hu7 hat7 ⟨A7, c7, rfl⟩; obtain ⟨hmi, hko, hc7, hf7⟩ := MI.put n2 HU.out H1.out H2.out H3.out HMX.out HU6.out hr7 hu7 hat7; have HMI := Lib.hid hmi; have HKO := Lib.hid hko; clear hr7 hu7 hat7 hmi hko))
      exact ⟨HKO.out.from _, HKO.out.walks, HMI.out⟩
  case done =>
    rintro D xs W hD ⟨hnd, hmem⟩ hI hK
    have hu := hI.u
    obtain ⟨v, h1, h2, h3⟩ := hI.out
    have hpcW := HPC5.out.other HBO.out (by decide) (by decide) hu
    have hxW := hu.heap HBX.out n1
    have hmem' : ∀ x, x ∈ xs ↔ (rkO (goodS l r) x).isSome = true := fun x => by rw [hmem x]; exact iff_of_eq (by rw [HMG.out x]; rfl)
    have hlen : xs.length = mr.length := by
      have := (nodup_perm hnd HMR.out.one (fun x => by rw [hmem x, mget_isSome])).length_eq
      simpa using this
    have hfl : (xs.filter (goodS l r).member).length ≤ xs.length := List.length_filter_le _ _
    have hso := sortK_ok hpcW hxW (L0 := xs.filter (goodS l r).member) (fun s hs => by
      have := (hmem s).1 (List.mem_filter.1 hs).1
      rw [mget_isSome] at this
      obtain ⟨p, hp, rfl⟩ := List.mem_map.1 this
      exact HMR.out.small p hp) (by omega) h3
    have y0 : W.cell? ⟨bo, 0, none⟩ = some v := blk_cell h1 (j := 0) rfl
    have HSO := Lib.hid hso
    have HKD := Lib.hid hK
    have HU := Lib.hid hu
    have H1 := Lib.hid h1
    have H2 := Lib.hid h2
    have H3 := Lib.hid h3
    have HND := Lib.hid hnd
    have HMEM := Lib.hid hmem'
    clear hso hK hu h1 h2 h3 hnd hmem hmem' hpcW hxW hI
    gi_wp2_with (refine ⟨trivial, ?_⟩; gi_at_call 37; refine (callsIn_wide.2 HSO.out).mono ?_; rintro e w7 ⟨rfl, L, hp, hs, hr7, hu7⟩; have hne : ¬ v.ownBlock = some bo := fun e => by { have := H2.out _ e; omega }; have y7 : w7.cell? ⟨bo, 0, none⟩ = some v := blk_cell (hu7.heap H1.out hne) (j := 0) rfl; have HP := Lib.hid hp; have HS := Lib.hid hs; have HR7 := Lib.hid hr7; have HU7 := Lib.hid hu7; clear hp hs hr7 hu7 hne)
    have hneD : ¬ v.ownBlock = some D := fun e => by
      obtain ⟨cur, hc⟩ := H3.out.blk e
      rw [HKD.out] at hc
      cases hc
    have hK7 := HU7.out.heap HKD.out hneD
    have hup := unch_of_grown (grownBy_putObj' w7 D (.deferred none))
    have hll : L.length = (xs.filter (goodS l r).member).length := HP.out.length_eq
    refine ⟨by simp, .inl ⟨_, _, rfl, run_takeDeferred hK7, ?_⟩⟩
    refine ⟨_, results_tmp rfl _ _ _, v, L, rfl, memL_of HOK.out HND.out HMEM.out HP.out HS.out, ?_, fun b hb => ?_, ?_⟩
    · refine ((HU5.out.step HU.out (fun i hi e => by have e : i = bo := e; omega)).step HU7.out (fun i hi e => by have := H2.out i e; omega)).step hup (fun i hi e => by injection e with e; omega)
    · have := H2.out b hb; omega
    · rw [hll]
      exact HR7.out.unch hup (fun b hb e => hneD (by rw [hb]; exact e.symm))
  case stop =>
    rintro D c pre W _ _ h _
    exact h.elim
end Go.Proofs.Ytgalnnmeamldhaa
/- The document's example: its entries, what holds, the members (plain). -/
set_option linter.unusedVariables false
set_option linter.unusedSimpArgs false
namespace Go.Proofs.Ytgalnnmeamldhaa
open Go Go.RowKit Go.Proofs.Ytgalnnmeamldhaa.Pal Go.Proofs.Ytgalnnmeamldhaa.Plan

def exL (g1 g2 g3 : Nat) : List Ent := [
  ⟨⟨#[114]⟩, 1, ⟨#[97]⟩, .slice none 0 0, [], ⟨#[]⟩⟩,
  ⟨⟨#[120]⟩, 4, ⟨#[97]⟩, .slice (some ⟨g1, 0, none⟩) 1 1, [⟨#[114]⟩], ⟨#[98]⟩⟩,
  ⟨⟨#[121]⟩, 5, ⟨#[97]⟩, .slice (some ⟨g2, 0, none⟩) 1 1, [⟨#[120]⟩], ⟨#[98]⟩⟩,
  ⟨⟨#[122]⟩, 5, ⟨#[98]⟩, .slice (some ⟨g3, 0, none⟩) 1 1, [⟨#[120]⟩], ⟨#[97]⟩⟩]
theorem ex_closed (g1 g2 g3 : Nat) : closedB (exL g1 g2 g3) = true := by kernel_rfl
theorem ex_root (g1 g2 g3 : Nat) : rootN ⟨#[114]⟩ (exL g1 g2 g3) = some 0 := by kernel_rfl
theorem ex_h2 (g1 g2 g3 : Nat) : (goodS (exL g1 g2 g3) 0).holding 2 = true := by kernel_rfl
theorem ex_h3 (g1 g2 g3 : Nat) : (goodS (exL g1 g2 g3) 0).holding 3 = false := by kernel_rfl
theorem ex_ma (g1 g2 g3 : Nat) : (goodS (exL g1 g2 g3) 0).member ⟨#[97]⟩ = true := by kernel_rfl
theorem ex_mb (g1 g2 g3 : Nat) : (goodS (exL g1 g2 g3) 0).member ⟨#[98]⟩ = false := by kernel_rfl
theorem ex_mem (g1 g2 g3 : Nat) : MemL (goodS (exL g1 g2 g3) 0) [⟨#[97]⟩] := by
  refine ⟨List.pairwise_singleton _ _, fun key => ?_⟩
  constructor
  · intro h
    have h : key = ⟨#[97]⟩ := by simpa using h
    rw [h]; exact ex_ma g1 g2 g3
  · intro h
    rcases member_added h with e | ⟨x, h1, h2, h3, h4⟩
    · rw [e]; exact List.mem_singleton.2 rfl
    · have h1 : x < 4 := h1
      have hx : x = 0 ∨ x = 1 ∨ x = 2 ∨ x = 3 := by omega
      rcases hx with rfl | rfl | rfl | rfl
      · exact absurd h3 (by show ¬ (1 : Int) = 4; decide)
      · have h4 : (⟨#[98]⟩ : ByteArray) = key := h4
        rw [← h4, ex_mb] at h
        cases h
      · exact absurd h3 (by show ¬ (5 : Int) = 4; decide)
      · exact absurd h3 (by show ¬ (5 : Int) = 4; decide)
def exC (g1 g2 g3 : Nat) : List Value := ecells (exL g1 g2 g3)
theorem str1_row {w : World} {g : Nat} {s : ByteArray} (h : w.heap[g]? = some (.cells #[.string s] 9 (0, 0))) : Row w 9 1 (.slice (some ⟨g, 0, none⟩) 1 1) 1 (sv [s]) :=
  row_of_cells h (Nat.le_refl _) (by decide) (by show 1 ≤ 1; exact Nat.le_refl _) rfl (fun t ht => by
    have : t = 0 := by omega
    subst this; rfl)
theorem aw_start (w : World) {w4 : World} (h : w4 = (((w.alloc (.cells #[.string ⟨#[114]⟩] 9)).alloc (.cells #[.string ⟨#[120]⟩] 9)).alloc (.cells #[.string ⟨#[120]⟩] 9)).alloc (.cells (exC w.heap.size (w.heap.size + 1) (w.heap.size + 1 + 1)).toArray 40)) :
    Ents w4 (some ⟨w.heap.size + 1 + 1 + 1, 0, none⟩) 4 (exL w.heap.size (w.heap.size + 1) (w.heap.size + 1 + 1)) ∧ Unch none_ w w4 := by
  subst h
  have b1 := blk_new w (.cells #[.string ⟨#[114]⟩] 9)
  have b2 := blk_new (w.alloc (.cells #[.string ⟨#[114]⟩] 9)) (.cells #[.string ⟨#[120]⟩] 9)
  have b3 := blk_new ((w.alloc (.cells #[.string ⟨#[114]⟩] 9)).alloc (.cells #[.string ⟨#[120]⟩] 9)) (.cells #[.string ⟨#[120]⟩] 9)
  have b4 := blk_new (((w.alloc (.cells #[.string ⟨#[114]⟩] 9)).alloc (.cells #[.string ⟨#[120]⟩] 9)).alloc (.cells #[.string ⟨#[120]⟩] 9)) (.cells (exC w.heap.size (w.heap.size + 1) (w.heap.size + 1 + 1)).toArray 40)
  simp only [World.size_alloc] at b2 b3 b4
  have c1 := blk_alloc (blk_alloc (blk_alloc b1 (.cells #[.string ⟨#[120]⟩] 9)) (.cells #[.string ⟨#[120]⟩] 9)) (.cells (exC w.heap.size (w.heap.size + 1) (w.heap.size + 1 + 1)).toArray 40)
  have c2 := blk_alloc (blk_alloc b2 (.cells #[.string ⟨#[120]⟩] 9)) (.cells (exC w.heap.size (w.heap.size + 1) (w.heap.size + 1 + 1)).toArray 40)
  have c3 := blk_alloc b3 (.cells (exC w.heap.size (w.heap.size + 1) (w.heap.size + 1 + 1)).toArray 40)
  generalize hW : (((w.alloc (.cells #[.string ⟨#[114]⟩] 9)).alloc (.cells #[.string ⟨#[120]⟩] 9)).alloc (.cells #[.string ⟨#[120]⟩] 9)).alloc (.cells (exC w.heap.size (w.heap.size + 1) (w.heap.size + 1 + 1)).toArray 40) = W at *
  have hu : Unch none_ w W := hW ▸ ((((Unch.refl none_ w).alloc _).alloc _).alloc _).alloc _
  obtain ⟨g, hg⟩ : ∃ g, w.heap.size = g := ⟨_, rfl⟩
  rw [hg] at c1 c2 c3 b4 ⊢
  have hE : ∀ e ∈ exL g (g + 1) (g + 1 + 1), EntS W e := by
    intro e he
    unfold exL at he
    simp only [List.mem_cons, List.not_mem_nil, or_false] at he
    rcases he with rfl | rfl | rfl | rfl
    · exact ⟨Row.nil _ _ _, by show 1 ≤ maxLen; decide, by show 1 ≤ maxLen; decide, by show 0 ≤ maxLen; decide, fun p hp => by cases hp⟩
    · exact ⟨str1_row c1, by show 1 ≤ maxLen; decide, by show 1 ≤ maxLen; decide, by show 1 ≤ maxLen; decide, fun p hp => by obtain rfl := List.mem_singleton.1 hp; show 1 ≤ maxLen; decide⟩
    · exact ⟨str1_row c2, by show 1 ≤ maxLen; decide, by show 1 ≤ maxLen; decide, by show 1 ≤ maxLen; decide, fun p hp => by obtain rfl := List.mem_singleton.1 hp; show 1 ≤ maxLen; decide⟩
    · exact ⟨str1_row c3, by show 1 ≤ maxLen; decide, by show 1 ≤ maxLen; decide, by show 1 ≤ maxLen; decide, fun p hp => by obtain rfl := List.mem_singleton.1 hp; show 1 ≤ maxLen; decide⟩
  have hR : Row W 40 5 (.slice (some ⟨g + 1 + 1 + 1, 0, none⟩) 4 4) 4 (ecells (exL g (g + 1) (g + 1 + 1))) :=
    row_of_cells b4 (Nat.le_refl _) (by decide) (by show 20 ≤ 20; exact Nat.le_refl _) rfl (fun t ht => by rw [Nat.zero_add, List.getElem?_toArray]; rfl)
  have hL : LMid w W (.slice (some ⟨g + 1 + 1 + 1, 0, none⟩) 4 4) (exL g (g + 1) (g + 1 + 1)) := ⟨hu, fun b hb => by have hb : some (g + 1 + 1 + 1) = some b := hb; injection hb with hb; omega, hR, hE⟩
  exact ⟨hL.rd rfl, hu⟩
end Go.Proofs.Ytgalnnmeamldhaa
/- awake: the document's example answers. -/
set_option linter.unusedVariables false
set_option linter.unusedSimpArgs false
namespace Go.Proofs.Ytgalnnmeamldhaa
open Go Go.RowKit Go.Proofs.Ytgalnnmeamldhaa.Pal Go.Proofs.Ytgalnnmeamldhaa.Plan

set_option maxRecDepth 100000 in
set_option maxHeartbeats 2000000 in
theorem awake_ok (w : World) : Calls Try.prog 12 #[] w fun e w' => e = .returned (.bool true) ∧ Unch none_ w w' := by
  obtain ⟨w4, hw4⟩ : ∃ w4, w4 = (((w.alloc (.cells #[.string ⟨#[114]⟩] 9)).alloc (.cells #[.string ⟨#[120]⟩] 9)).alloc (.cells #[.string ⟨#[120]⟩] 9)).alloc (.cells #[.string ⟨#[114]⟩, .int .i64 1, .string ⟨#[97]⟩, .slice none 0 0, .string ⟨#[]⟩, .string ⟨#[120]⟩, .int .i64 4, .string ⟨#[97]⟩, .slice (some ⟨w.heap.size, 0, none⟩) 1 1, .string ⟨#[98]⟩,
    .string ⟨#[121]⟩, .int .i64 5, .string ⟨#[97]⟩, .slice (some ⟨w.heap.size + 1, 0, none⟩) 1 1, .string ⟨#[98]⟩, .string ⟨#[122]⟩, .int .i64 5, .string ⟨#[98]⟩, .slice (some ⟨w.heap.size + 1 + 1, 0, none⟩) 1 1, .string ⟨#[97]⟩] 40) := ⟨_, rfl⟩
  obtain ⟨hE, hu4⟩ := aw_start w hw4
  have HE := Lib.hid hE
  have HU4 := Lib.hid hu4
  have HH := Lib.hid (pHolds_ok hE (Nat.le_refl 4) ⟨#[114]⟩ (by decide) (ex_closed _ _ _) (ex_root _ _ _))
  have HW4 := Lib.hid hw4
  clear hE hu4 hw4
  go_enter Try.func12, Try.ntmps12
  go_upto_region 2 with fail
  rw [← HW4.out]
  clear HW4
  obtain ⟨e1, he1⟩ : ∃ e1, exL w.heap.size (w.heap.size + 1) (w.heap.size + 1 + 1) = e1 := ⟨_, rfl⟩
  have hc1 : closedB e1 = true := by rw [← he1]; exact ex_closed _ _ _
  have hr1 : rootN ⟨#[114]⟩ e1 = some 0 := by rw [← he1]; exact ex_root _ _ _
  have h2 : (goodS e1 0).holding 2 = true := by rw [← he1]; exact ex_h2 _ _ _
  have h3 : (goodS e1 0).holding 3 = false := by rw [← he1]; exact ex_h3 _ _ _
  have hm1 : MemL (goodS e1 0) [⟨#[97]⟩] := by rw [← he1]; exact ex_mem _ _ _
  rw [he1] at HH HE
  have HC1 := Lib.hid hc1
  have HR1 := Lib.hid hr1
  have H2 := Lib.hid h2
  have H3 := Lib.hid h3
  have HM1 := Lib.hid hm1
  clear he1 hc1 hr1 h2 h3 hm1
  go_wp2_with fail
  refine HH.out.mono ?_
  rintro e w5 ⟨g, rfl, hb, hg, hu5⟩
  have y2 := hb.at (j := 2) (by omega)
  have y3 := hb.at (j := 3) (by omega)
  rw [H2.out] at y2
  rw [H3.out] at y3
  have HM := Lib.hid (pMembers_ok (HE.out.fresh hu5) (Nat.le_refl 4) ⟨#[114]⟩ (by decide) HC1.out HR1.out)
  have HU5 := Lib.hid (HU4.out.trans hu5)
  clear hb hg hu5 HH
  go_wp2_with fail
  refine HM.out.mono ?_
  rintro e w6 ⟨v, L, rfl, hml, hsm⟩
  obtain rfl := hml.uniq HM1.out
  obtain ⟨A6, c6, hv, hc6⟩ := hsm.row.slice
  have hrow := hsm.row
  rw [hv] at hrow ⊢
  have hu6 : Unch none_ w6 (w6.alloc (.cells #[.string ⟨#[97]⟩] 9)) := (Unch.refl none_ w6).alloc _
  have hsame := refsame_ok (c := c6) (d := 1) (RdS.fresh (srow_rds hrow) hu6) (srow_rds (str1_row (blk_new w6 (.cells #[.string ⟨#[97]⟩] 9))))
  rw [decide_eq_true rfl] at hsame
  have HS := Lib.hid hsame
  have HU6 := Lib.hid ((HU5.out.trans hsm.hu).trans hu6)
  clear hsame hrow hsm hu6 hml hv hc6 HM
  go_wp2_with fail
  refine HS.out.mono ?_
  rintro e w7 ⟨rfl, hu7⟩
  go_wp2
  go_ret
  exact ⟨rfl, HU6.out.trans hu7⟩
end Go.Proofs.Ytgalnnmeamldhaa
/- The laws of layer 15: what is said, as it comes in; MemberHolds, MemberGood. -/
set_option linter.unusedVariables false
set_option linter.unusedSimpArgs false
namespace Go.Proofs.Ytgalnnmeamldhaa
open Go Go.RowKit Go.Proofs.Ytgalnnmeamldhaa.Pal Go.Proofs.Ytgalnnmeamldhaa.Plan

def SayRW (w : World) (x : Say) (c : List Value) : Prop := SayR x c ∧ SayOk w x
theorem open_intr {H : Type} {enc : TypeId × Value → H} {w : World} {base : Nat} {spare : Nat → Bool} {held : Bool} (fuel : Nat) (cs : List Value) (y : DataW H × List MemPlace)
    (h : DataW.trod enc Try.prog w base spare held fuel 3 cs = some y) : ∃ z : Int, IntR z cs := by
  obtain ⟨m0, h0, _, w0⟩ := DataW.trod_int Try.underlying3 h
  exact ⟨m0, h0, i64_wf w0⟩
set_option maxRecDepth 100000 in
theorem open_say {H : Type} {enc : TypeId × Value → H} {w : World} {base : Nat} {spare : Nat → Bool} {held : Bool} (fuel : Nat) (cs : List Value) (y : DataW H × List MemPlace)
    (h : DataW.trod enc Try.prog w base spare held fuel 56 cs = some y) : ∃ z : Say, SayRW w z cs := by
  obtain ⟨xs, n, rfl, _, hl, hxl, hf⟩ := DataW.trod_struct Try.underlying56 h
  obtain ⟨c0, c1, c2, c3, c4, rfl⟩ := list5 (show cs.length = 5 from hl)
  obtain ⟨x0, e0⟩ := get_some (n := 5) hxl (i := 0) (by decide)
  obtain ⟨x1, e1⟩ := get_some (n := 5) hxl (i := 1) (by decide)
  obtain ⟨x2, e2⟩ := get_some (n := 5) hxl (i := 2) (by decide)
  obtain ⟨x3, e3⟩ := get_some (n := 5) hxl (i := 3) (by decide)
  obtain ⟨x4, e4⟩ := get_some (n := 5) hxl (i := 4) (by decide)
  obtain ⟨m0, h0, _, w0⟩ := DataW.trod_int Try.underlying3 ((hf 0 _ rfl).trans e0)
  obtain ⟨m1, h1, _, w1⟩ := DataW.trod_int Try.underlying3 ((hf 1 _ rfl).trans e1)
  obtain ⟨m2, h2, _, w2⟩ := DataW.trod_int Try.underlying3 ((hf 2 _ rfl).trans e2)
  obtain ⟨A, len, cap, ys, h3, hlc, _, hrd⟩ := open_slice Try.underlying54 (by kernel_rfl) (by decide : 0 < 1) IntR open_intr ((hf 3 _ rfl).trans e3)
  obtain ⟨m4, h4, _, w4⟩ := DataW.trod_int Try.underlying5 ((hf 4 _ rfl).trans e4)
  have h0' : [c0] = [.int .i64 m0] := h0
  have h1' : [c1] = [.int .i64 m1] := h1
  have h2' : [c2] = [.int .i64 m2] := h2
  have h3' : [c3] = [.slice A len cap] := h3
  have h4' : [c4] = [.int .u8 m4] := h4
  injection h0' with h0'
  injection h1' with h1'
  injection h2' with h2'
  injection h3' with h3'
  injection h4' with h4'
  subst h0'; subst h1'; subst h2'; subst h3'; subst h4'
  have hlen := hrd.len
  subst hlen
  exact ⟨⟨m0, m1, m2, .slice A ys.length cap, ys, m4⟩, rfl, ⟨A, cap, rfl, hlc, hrd⟩, i64_wf w0, i64_wf w1, i64_wf w2, u8_wf w4⟩
theorem says_of {w : World} {A : Option Addr} {n : Nat} {l : List Say} (h : RdS w 5 (SayRW w) A n l) : Says w A n l :=
  ⟨h.unch (Unch.refl none_ w) (fun _ _ h => h) (fun _ _ h => h.1), fun x hx => by
    obtain ⟨i, hi⟩ := List.mem_iff_getElem?.1 hx
    obtain ⟨b, o, c, _, _, _, hr, _⟩ := h.at hi
    exact hr.2⟩
/-! ### What Laid hands over -/
structure Lds (w : World) (A : Option Addr) (n c : Nat) (l : List Ent) : Prop where
  ents : Ents w A n l
  hc : n ≤ c
  clB : closedB l = true
  root : rootN rootB l = some 0
  rootA : (ent l 0).author = keyB 0
  pos : 0 < l.length
theorem lds_of {w w' : World} {A : Option Addr} {n c : Nat} {es : List Ent} {k : Nat} (h : LMid w w' (.slice A n c) es) (hl : LdOk es k) (hn : n = es.length) (hc : n ≤ c) : Lds w' A n c es := by
  obtain ⟨b, hb⟩ := hl.root
  have he := ent_of hb
  have hpos : 0 < es.length := by have := hl.len; omega
  have hid : (ent es 0).id = rootB := by rw [he]
  have hk : (ent es 0).kind = 1 := by rw [he]
  refine ⟨h.rd hn, hc, closed_iff.2 hl.cl, ?_, by rw [he], hpos⟩
  unfold rootN
  rw [← hid, hl.cl.find hpos]
  simp [hk]
theorem Lds.fresh {w w' : World} {A : Option Addr} {n c : Nat} {l : List Ent} (h : Lds w A n c l) (hu : Unch none_ w w') : Lds w' A n c l := ⟨h.ents.fresh hu, h.hc, h.clB, h.root, h.rootA, h.pos⟩
theorem Lds.cl {w : World} {A : Option Addr} {n c : Nat} {l : List Ent} (h : Lds w A n c l) : Closed l := closed_iff.1 h.clB
theorem Lds.len {w : World} {A : Option Addr} {n c : Nat} {l : List Ent} (h : Lds w A n c l) : l.length = n := h.ents.len
theorem Lds.n3 {w : World} {A : Option Addr} {n c : Nat} {l : List Ent} (h : Lds w A n c l) : n ≤ 300 := by rw [← h.len]; exact h.cl.len
theorem Lds.ok {w : World} {A : Option Addr} {n c : Nat} {l : List Ent} (h : Lds w A n c l) : (goodS l 0).Ok := ⟨h.cl, h.pos, (rootN_some h.root).2.2⟩
theorem Lds.good {w : World} {A : Option Addr} {n c : Nat} {l : List Ent} (h : Lds w A n c l) : Calls Try.prog 21 #[.string rootB, .slice A n c] w (MadeB w n (goodL l 0)) := good_ok h.ents h.hc rootB (by decide) h.clB h.root
theorem Lds.holds {w : World} {A : Option Addr} {n c : Nat} {l : List Ent} (h : Lds w A n c l) : Calls Try.prog 15 #[.string rootB, .slice A n c] w (MadeB w n (goodS l 0).holding) := pHolds_ok h.ents h.hc rootB (by decide) h.clB h.root
theorem Lds.members {w : World} {A : Option Addr} {n c : Nat} {l : List Ent} (h : Lds w A n c l) : Calls Try.prog 19 #[.string rootB, .slice A n c] w fun e w' => ∃ v L, e = .returned v ∧ MemL (goodS l 0) L ∧ SMid w w' v L.length L := pMembers_ok h.ents h.hc rootB (by decide) h.clB h.root
theorem Lds.of {w : World} {A : Option Addr} {n c : Nat} {l : List Ent} (h : Lds w A n c l) : Calls Try.prog 16 #[.string rootB, .slice A n c] w fun e w' => (∃ p, e = .returned (setV p (goodS l 0)) ∧ p.AL = A ∧ p.n = n ∧ SetOk w' p (goodS l 0)) ∧ Unch none_ w w' := of_ok h.ents h.hc h.cl rootB h.root
/-- Laid, as the laws call it. -/
theorem laidL {w : World} {A : Option Addr} {n c : Nat} {xs : List Say} (h : Says w A n xs) (hn : n ≤ 24) :
    Calls Try.prog 13 #[.slice A n c] w fun e w' => ∃ A' n' c' es, e = .returned (.slice A' n' c') ∧ Lds w' A' n' c' es ∧ n' ≤ 25 ∧ Unch none_ w w' :=
  (laid_ok h hn).mono fun e w' ⟨v, es, he, hm, hl⟩ => by
    obtain ⟨A', c', hv, hc'⟩ := hm.row.slice
    rw [hv] at hm he
    exact ⟨A', es.length, c', es, he, lds_of hm hl rfl hc', by have := hl.len; omega, hm.hu⟩
set_option maxRecDepth 100000 in
set_option maxHeartbeats 2000000 in
theorem memberHolds_walk (A : Option Addr) (n c : Nat) (l : List Say) (w : World) (h : RdS w 5 (SayRW w) A n l) (hc : n ≤ c) :
    Calls Try.prog 3 #[.slice A n c] w fun e w' => e = .returned (.bool true) ∧ Unch none_ w w' := by
  have hs := says_of h
  have hmax := h.max
  have hfew := few_ok (w := w) (A := A) (c := c) hmax
  by_cases hn : n ≤ 24
  · rw [decide_eq_true hn] at hfew
    have HF := Lib.hid hfew
    have HL := Lib.hid (laidL (c := c) hs hn)
    clear hs h hfew hmax
    go_enter Try.func3, Try.ntmps3
    go_wp2_with fail
    refine HF.out.mono ?_
    rintro e w0 ⟨rfl, rfl⟩
    go_wp2_with fail
    refine HL.out.mono ?_
    rintro e w1 ⟨A1, n1, c1, es, rfl, hld, hn1, hu1⟩
    have HH := Lib.hid hld.holds
    have HLD := Lib.hid hld
    have HU1 := Lib.hid hu1
    clear hld hu1 HF HL
    go_wp2_with fail
    refine HH.out.mono ?_
    rintro e w2 ⟨g, rfl, hb, hg, hu2⟩
    have HO := Lib.hid (HLD.out.fresh hu2).of
    have HB := Lib.hid (hb.rds (Nat.le_trans HLD.out.n3 (by decide)))
    have HU2 := Lib.hid (HU1.out.trans hu2)
    clear hb hg hu2
    go_wp2_with fail
    refine HO.out.mono ?_
    rintro e w3 ⟨⟨p, rfl, hpA, hpn, hset⟩, hu3⟩
    have HR := Lib.hid (rHolding_ok hset)
    have HU3 := Lib.hid (HU2.out.trans hu3)
    have HB3 := Lib.hid (RdS.fresh HB.out hu3)
    have HPN := Lib.hid hpn
    clear hset hu3 hpA hpn
    unfold setV setC at *
    go_wp2_with fail
    refine HR.out.mono ?_
    rintro e w4 ⟨g4, rfl, hb4, _, hu4⟩
    rw [HPN.out] at hb4 ⊢
    have hsame := lawsame_ok (c := n1) (d := n1) (RdS.fresh HB3.out hu4) (hb4.rds (Nat.le_trans HLD.out.n3 (by decide)))
    rw [decide_eq_true rfl] at hsame
    have HS := Lib.hid hsame
    have HU4 := Lib.hid (HU3.out.trans hu4)
    clear hsame hb4 hu4
    go_wp2_with fail
    refine HS.out.mono ?_
    rintro e w5 ⟨rfl, hu5⟩
    go_wp2_with fail
    refine (awake_ok w5).mono ?_
    rintro e w6 ⟨rfl, hu6⟩
    go_wp2
    go_ret
    exact ⟨rfl, (HU4.out.trans hu5).trans hu6⟩
  · rw [decide_eq_false hn] at hfew
    have HF := Lib.hid hfew
    clear hs h hfew hmax
    go_enter Try.func3, Try.ntmps3
    go_wp2_with fail
    refine HF.out.mono ?_
    rintro e w0 ⟨rfl, rfl⟩
    go_wp2_with fail
    refine (awake_ok w).mono ?_
    rintro e w6 ⟨rfl, hu6⟩
    go_wp2
    go_ret
    exact ⟨rfl, hu6⟩
end Go.Proofs.Ytgalnnmeamldhaa
