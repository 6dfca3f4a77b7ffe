/-
  member.Good, member.Holds.
  member.Holds.
  maps.Keys over a map keyed by strings, for every loop body: its iterator, in a fence.
  slices.SortFunc over keys, by Members' closure.
  member.Members: its state, maps.Keys.
-/
import Derived.Test.YtgcpoppinnnciaaGreatDoorCMO4
import Derived.Test.YtgcpoppinnnciaaGreatDoorCMRd
import Derived.RangeFuncNested
import Derived.RangeFuncBound
import Derived.RangeFuncCalls
import Derived.RangeFuncLeaves
import Derived.WalkKit
import Derived.OwnWalkIn
import Derived.TacticsInMore
import Derived.LoopNIn
import Derived.LoopIn
import Derived.Sort.LoopGhostIn
import Derived.Sort.MapsRangeIn
import Derived.Shelf.SlSortCmp.NoneTotal
/- member.Good, member.Holds. -/
set_option linter.unusedVariables false
set_option linter.unusedSimpArgs false
namespace Go.Proofs.YtgcpoppinnnciaaGreatDoor
open Go Go.RowKit Go.Proofs.YtgcpoppinnnciaaGreatDoor.Pal Go.Proofs.YtgcpoppinnnciaaGreatDoor.Plan

theorem of_nil {w : World} {A : Option Addr} {n c : Nat} {l : List Ent} (h : Ents w A n l) (hc : n ≤ c) (room : ByteArray) (hb : closedB l = true → rootN room l = none) :
    Calls Tryz.prog 181 #[.string room, .slice A n c] w fun e w' => e = .returned (.pointer none) ∧ Unch none_ w w' := by
  cases hcl : closedB l with
  | false => exact of_open h hc room hcl
  | true => exact of_rootless h hc room hcl (hb hcl)
structure GSt (w wr : World) (l : List Ent) (r : Nat) (q : PB) (g n k : Nat) (F : Nat → Bool) : Prop where
  u : Unch none_ w wr
  ps : PSet wr l r q (goodL l r)
  row : Brow wr g n (fun j => decide (j < k) && F j)
  ge : w.heap.size ≤ g
section
variable {w wr w1 : World} {l : List Ent} {r : Nat} {q : PB} {g n k : Nat} {F : Nat → Bool}
theorem GSt.fresh (h : GSt w wr l r q g n k F) (hu : Unch none_ wr w1) : GSt w w1 l r q g n k F := ⟨h.u.trans hu, h.ps.fresh hu, h.row.unch hu (fun h => h), h.ge⟩
theorem GSt.set (h : GSt w wr l r q g n k F) {b : Bool} (hb : F k = b) : GSt w (wr.setCell ⟨g, k, none⟩ (.bool b)) l r q g n (k + 1) F := by
  have hu : Unch (fun j => j = g) wr (wr.setCell ⟨g, k, none⟩ (.bool b)) := (Unch.refl _ _).setCell _ (fun _ => rfl)
  refine ⟨h.u.step hu (fun i hi e => by have := h.ge; omega), h.ps.other h.row (by decide) hu, ?_, h.ge⟩
  refine (h.row.set k b).congr fun j _ => ?_
  by_cases hj : j = k
  · subst hj; simp [hb]
  · by_cases h1 : j < k
    · have : j < k + 1 := by omega
      simp [hj, h1, this]
    · have : ¬ j < k + 1 := by omega
      simp [hj, h1, this]
end
set_option maxRecDepth 100000 in
set_option maxHeartbeats 2000000 in
theorem good_nil {w : World} {A : Option Addr} {n c : Nat} {l : List Ent} (h : Ents w A n l) (hc : n ≤ c) (room : ByteArray) (hb : closedB l = true → rootN room l = none) :
    Calls Tryz.prog 163 #[.string room, .slice A n c] w fun e w' => e = .returned (.slice none 0 0) ∧ Unch none_ w w' := by
  have HOF := Lib.hid (of_nil h hc room hb)
  clear h hb
  go_enter Tryz.func163, Tryz.ntmps163
  go_wp2_with fail
  refine HOF.out.mono ?_
  rintro e w2 ⟨rfl, hu2⟩
  go_wp2
  go_ret
  exact ⟨rfl, hu2⟩
set_option maxRecDepth 100000 in
set_option maxHeartbeats 4000000 in
theorem good_ok {w : World} {A : Option Addr} {n c : Nat} {l : List Ent} (h : Ents w A n l) (hc : n ≤ c) (room : ByteArray) (hmax : room.size ≤ maxLen) (hb : closedB l = true) {r : Nat} (hr : rootN room l = some r) :
    Calls Tryz.prog 163 #[.string room, .slice A n c] w (MadeB w n (goodL l r)) := by
  have HOF := Lib.hid (of_some h hc room hmax hb hr)
  have hC := closed_iff.1 hb
  have hl := h.len
  have n3 : n ≤ 300 := by rw [← hl]; exact hC.len
  have HSZ := Lib.hid (ents_sized h)
  have HH := Lib.hid h
  have HC := Lib.hid hC
  have HL := Lib.hid hl
  clear h hb hr hC hl
  have hmk := run_make_bool n (by omega)
  go_enter Tryz.func163, Tryz.ntmps163
  go_wp2_with fail
  refine HOF.out.mono ?_
  rintro e w2 ⟨q, rfl, hps, hu2⟩
  have HPS := Lib.hid hps
  have HU2 := Lib.hid hu2
  clear hps hu2
  go_wp2_with fail
  have hmade := Brow.made w2 n
  have hu3 : Unch none_ w2 (w2.alloc (.cells (madeCells #[.bool false] n) 4)) := (Unch.refl none_ _).alloc _
  have hge := HU2.out.size
  generalize w2.heap.size = g at *
  generalize w2.alloc _ = w3 at *
  have H0 : Hid (GSt w w3 l r q g n 0 (goodL l r)) := Lib.hid ⟨HU2.out.trans hu3, HPS.out.fresh hu3, hmade.congr (fun i _ => by simp), hge⟩
  clear hmade hu3 HU2 HPS HOF
  go_loopg [7, 8, 19] n (fun gk _ _ i wr => ∃ k : Nat, gk = n - k ∧ k ≤ n ∧ i = .int .i64 (k : Int) ∧ GSt w wr l r q g n k (goodL l r))
  case atStart => exact ⟨0, rfl, Nat.zero_le _, rfl, H0.out⟩
  case round =>
    clear H0
    obtain ⟨k, rfl, hk, rfl, hs⟩ := hrel
    obtain ⟨w4, rfl⟩ : ∃ w4, w4 = wr := ⟨_, rfl⟩
    by_cases hkn : k < n
    · have hkl : k < l.length := by rw [HL.out]; exact hkn
      have z1 : (k : Int) < (n : Int) := by omega
      have z2 : (0 : Int) ≤ (k : Int) := by omega
      have h4 := HH.out.fresh hs.u
      obtain ⟨bA, oA, rfl, _, x0, x1, x2, x3, x4⟩ := h4.at (ent_get hkl)
      obtain ⟨A2, m2, c2, hpv⟩ := HSZ.out.pv k hkl
      rw [hpv] at x3
      have HSS := Lib.hid hs
      clear h4 hpv hs
      go_upto_region 8 with fail
      have hu5 : Unch none_ w4 (w4.alloc (.cells #[.string (ent l k).id, .int .i64 (ent l k).kind, .string (ent l k).author, .slice A2 m2 c2, .string (ent l k).body] 114)) := (Unch.refl none_ w4).alloc _
      have bE := blk_new w4 (.cells #[.string (ent l k).id, .int .i64 (ent l k).kind, .string (ent l k).author, .slice A2 m2 c2, .string (ent l k).body] 114)
      generalize w4.heap.size = ge at *
      generalize w4.alloc _ = w5 at *
      clear x0 x1 x2 x3 x4
      have HS5 := Lib.hid (HSS.out.fresh hu5)
      have HBE := Lib.hid bE
      clear hu5 bE HSS
      refine wp_planC (fun W => Unch none_ w5 W) [0, 1, 2, 3, 4, 5, 6, 7, 8, 9] [10] 0 (by kernel_rfl) (by kernel_rfl) rfl rfl (fun c a d v w h => by cases d <;> exact h) ((Unch.refl _ _).drew) ?_
      intro S HS _
      have f7 : ∀ G2 : In S, G2.w.cell? ⟨q.bs, 7, none⟩ = some (.map (some q.bgood)) := fun G2 => (HS5.out.ps.fresh ((HS.out _).1 G2.h)).c7
      have g0 : ∀ G2 : In S, G2.w.cell? ⟨ge, 0, none⟩ = some (.string (ent l k).id) := fun G2 => blk_cell (((HS.out _).1 G2.h).heap HBE.out (fun h => h)) (j := 0) rfl
      have fl : ∀ G2 : In S, (Instr.lookup 148 (.map (some q.bgood)) (.string (ent l k).id) false).run Tryz.prog G2.w = .ok (.bool (goodL l r k)) G2.w := fun G2 => (HS5.out.ps.fresh ((HS.out _).1 G2.h)).lookGood hkl
      simp only [pickIn, List.getElem?_toArray, List.getElem?_cons_succ, List.getElem?_cons_zero]
      repeat (go_big_quiet_step (fail))
      refine wpQuiet_nil ?_
      clear f7 g0 fl
      refine tail_all ?_
      have hsd := HS5.out.fresh ((Unch.refl none_ w5).drew)
      have fb := hsd.row.free k
      have bk := hsd.row.at (j := k) hkn
      have HN := Lib.hid (hsd.set (b := goodL l r k) rfl)
      clear hsd
      go_wp2
      go_roundg (n - (k + 1))
      case measure => omega
      case rel => exact ⟨k + 1, rfl, by omega, by go_num, HN.out⟩
    · obtain rfl : k = n := by omega
      have hfin := hs.row.congr (f' := goodL l r) (fun j hj => by simp [hj])
      have HFIN := Lib.hid hfin
      have HU := Lib.hid hs.u
      have HGE := Lib.hid hs.ge
      clear hfin hs
      go_wp2
      go_ret
      exact ⟨g, rfl, HFIN.out, HGE.out, HU.out⟩
end Go.Proofs.YtgcpoppinnnciaaGreatDoor
/- member.Holds. -/
set_option linter.unusedVariables false
set_option linter.unusedSimpArgs false
namespace Go.Proofs.YtgcpoppinnnciaaGreatDoor
open Go Go.RowKit Go.Proofs.YtgcpoppinnnciaaGreatDoor.Pal Go.Proofs.YtgcpoppinnnciaaGreatDoor.Plan

structure HSt (w wr : World) (l : List Ent) (r : Nat) (q : PB) (k0 : CB) (g n k : Nat) (F : Nat → Bool) : Prop where
  u : Unch none_ w wr
  pc : PCir wr l r q (goodL l r) k0 (goodL l r) (holdAll l r (goodL l r))
  row : Brow wr g n (fun j => decide (j < k) && F j)
  ge : w.heap.size ≤ g
section
variable {w wr w1 : World} {l : List Ent} {r : Nat} {q : PB} {k0 : CB} {g n k : Nat} {F : Nat → Bool}
theorem HSt.fresh (h : HSt w wr l r q k0 g n k F) (hu : Unch none_ wr w1) : HSt w w1 l r q k0 g n k F := ⟨h.u.trans hu, h.pc.fresh hu, h.row.unch hu (fun h => h), h.ge⟩
theorem HSt.set (h : HSt w wr l r q k0 g n k F) {b : Bool} (hb : F k = b) : HSt w (wr.setCell ⟨g, k, none⟩ (.bool b)) l r q k0 g n (k + 1) F := by
  have hu : Unch (fun j => j = g) wr (wr.setCell ⟨g, k, none⟩ (.bool b)) := (Unch.refl _ _).setCell _ (fun _ => rfl)
  refine ⟨h.u.step hu (fun i hi e => by have := h.ge; omega), h.pc.other h.row (by decide) (by decide) hu, ?_, h.ge⟩
  refine (h.row.set k b).congr fun j _ => ?_
  by_cases hj : j = k
  · subst hj; simp [hb]
  · by_cases h1 : j < k
    · have : j < k + 1 := by omega
      simp [hj, h1, this]
    · have : ¬ j < k + 1 := by omega
      simp [hj, h1, this]
end
theorem amongAll {w : World} {l : List Ent} {r : Nat} {q : PB} (h : PSet w l r q (goodL l r)) : Calls Tryz.prog 203 #[.pointer (some ⟨q.bs, 0, none⟩), .map none] w (AmPost w l r q (goodL l r) (goodL l r)) :=
  among_ok h (Kf := fun _ => true) (.inl ⟨rfl, rfl⟩) (fun i _ => by simp) ⟨r, h.hr, goodU_self h.hr⟩
end Go.Proofs.YtgcpoppinnnciaaGreatDoor
/- maps.Keys over a map keyed by strings, for every loop body: its iterator, in a fence. -/
set_option linter.unusedVariables false
set_option linter.unusedSimpArgs false
namespace Go.Proofs.YtgcpoppinnnciaaGreatDoor
open Go Go.RowKit Go.Proofs.YtgcpoppinnnciaaGreatDoor.Pal Go.Proofs.YtgcpoppinnnciaaGreatDoor.Plan
attribute [local go_sem] Oper.semAt_some

section
variable {F : Fence} {n : Nat} {P : Program} {ops : Array Oper} {rest : List Oper} {o : Oper} {a : Act} {Q : Exit → Act → World → Prop}
theorem wpListIn_sm_range (w : World) (hg : o.guard = none) (x : Operand) (t : TypeId) (hop : o.op = Op.range t x) (k e : TypeId) (ht : P.underlying t = some (.map k e))
    (b : Nat) (m : Asc) (hx : a.eval x = .map (some b)) (h : Sm w b m)
    (hK : ∀ w', Sit w' b w.heap.size m m → Unch none_ w w' → w'.heap.size = w.heap.size + 1 → wpListIn F n P ops Q rest (a.put o.dst (.pointer (some ⟨w.heap.size, 0, none⟩))) w') : wpListIn F n P ops Q (o :: rest) a w := by
  refine wpListIn_plain hg fun K' hK' => ?_
  obtain ⟨w', hrun, r1, r2, r3⟩ := sm_range h ht
  unfold Oper.wpIn
  refine ⟨?_, ?_⟩
  · simp [Oper.about, hop]
  · rw [Oper.semAt_plain F _ _ (by rw [hop]; intro c hc'; cases hc')]
    simp [execOp, hop, hx, hrun, Result.andThen]
    exact hK' _ _ (hK w' r1 r2 r3)
theorem wpListIn_sit_next (w : World) (hg : o.guard = none) (it : Operand) (hop : o.op = Op.next it false) (b r : Nat) (m left : Asc) (hit : a.eval it = .pointer (some ⟨r, 0, none⟩)) (h : Sit w b r m left)
    (hDone : left = [] → wpListIn F n P ops Q rest (a.put o.dst (.tuple #[.bool false])) w)
    (hMore : ∀ x : Nxt P w b r m left, wpListIn F n P ops Q rest (a.put o.dst (.tuple #[.bool true, .string x.k, x.v])) x.w') : wpListIn F n P ops Q (o :: rest) a w := by
  refine wpListIn_plain hg fun K' hK' => ?_
  unfold Oper.wpIn
  refine ⟨by simp [Oper.about, hop], ?_⟩
  rw [Oper.semAt_plain F _ _ (by rw [hop]; intro c hc'; cases hc')]
  rcases sit_next (P := P) h o.type with ⟨h0, hrun⟩ | ⟨p, hp, w', hrun, r1, r2, r3, r4⟩
  · simp [execOp, hop, hit, hrun, Result.andThen]
    exact hK' _ _ (hDone h0)
  · simp [execOp, hop, hit, hrun, Result.andThen]
    exact hK' _ _ (hMore ⟨p.1, p.2, w', hp, r1, r2, r3, r4⟩)
end
theorem sit_walks {w w' : World} {b r : Nat} {m left : Asc} (h : Sit w b r m left) (hk : KeepsWalks w w') : Sit w' b r m left := by
  obtain ⟨es, clock, since, seen, c0, h1, h2, h3⟩ := h
  exact ⟨es, clock, since, seen, c0, hk.same b _ h1 rfl, hk.same r _ h2 rfl, h3⟩
theorem sit_walk {w : World} {b r : Nat} {m left : Asc} (h : Sit w b r m left) : ∃ o : Obj, w.heap[r]? = some o ∧ o.isWalk = true := by
  obtain ⟨es, clock, since, seen, c0, h1, h2, h3⟩ := h
  exact ⟨_, h2, rfl⟩
theorem unch_grownBy {w w' : World} {r : Nat} (h : Unch (fun j => j = r) w w') : w.grownBy w' (some r) := ⟨h.os, h.tape, h.output, h.size, fun k hk hne => h.block k hk (fun e => hne (by rw [e]))⟩
theorem unch_grownBy0 {w w' : World} (h : Unch none_ w w') : w.grownBy w' none := ⟨h.os, h.tape, h.output, h.size, fun k hk hne => h.block k hk (fun e => e)⟩
/-- Of a map's keys those that have come. -/
structure KCol (m left : Asc) (ss : List ByteArray) : Prop where
  nd : ss.Nodup
  mem : ∀ x, x ∈ ss ↔ (mget m x).isSome = true ∧ ∀ p ∈ left, p.1 ≠ x
  len : ss.length + left.length ≤ m.length
theorem KCol.start (m : Asc) : KCol m m [] := ⟨List.nodup_nil, fun x => by
  constructor
  · intro h; cases h
  · rintro ⟨h1, h2⟩
    rw [mget_isSome] at h1
    obtain ⟨p, hp, e⟩ := List.mem_map.1 h1
    exact absurd e (h2 p hp), by simp⟩
theorem KCol.step {m left : Asc} {ss : List ByteArray} (h : KCol m left ss) {p : ByteArray × Value} (hp : p ∈ left) (hm : p ∈ m) : KCol m (left.filter fun q => decide (q.1 ≠ p.1)) (ss ++ [p.1]) := by
  refine ⟨?_, fun x => ?_, ?_⟩
  · rw [List.nodup_append]
    refine ⟨h.nd, by simp, fun a ha b hb => ?_⟩
    have hb : b = p.1 := by simpa using hb
    subst hb
    exact fun e => ((h.mem a).1 ha).2 p hp e.symm
  · rw [List.mem_append, h.mem]
    constructor
    · rintro (⟨h1, h2⟩ | h1)
      · exact ⟨h1, fun q hq => h2 q (List.mem_filter.1 hq).1⟩
      · have h1 : x = p.1 := by simpa using h1
        subst h1
        refine ⟨mget_isSome_of hm, fun q hq => ?_⟩
        have := (List.mem_filter.1 hq).2
        simpa using this
    · rintro ⟨h1, h2⟩
      by_cases e : x = p.1
      · exact .inr (by simp [e])
      · refine .inl ⟨h1, fun q hq eq => ?_⟩
        exact h2 q (List.mem_filter.2 ⟨hq, by rw [decide_eq_true_eq, eq]; exact e⟩) eq
  · have := left_less hp
    have := h.len
    simp only [List.length_append, List.length_singleton]
    omega
end Go.Proofs.YtgcpoppinnnciaaGreatDoor
/- slices.SortFunc over keys, by Members' closure. -/
set_option linter.unusedVariables false
set_option linter.unusedSimpArgs false
namespace Go.Proofs.YtgcpoppinnnciaaGreatDoor
open Go Go.RowKit Go.Proofs.YtgcpoppinnnciaaGreatDoor.Pal Go.Proofs.YtgcpoppinnnciaaGreatDoor.Plan

section
variable {w : World} {l : List Ent} {r : Nat} {q : PB} {G : Nat → Bool} {k : CB} {S : Nat → Bool} {Hf : Nat → Option Bool}
theorem PCir.rankD (h : PCir w l r q G k S Hf) {key : ByteArray} (hk : key.size ≤ maxLen) {v : Nat} (hv : (Ms.mk l r S).rk key = v) (m : Nat) :
    Calls Tryz.prog 219 #[.pointer (some ⟨k.bc, 0, none⟩), .string key] (w.drewN m) fun e w'' => e = .returned (.int .i64 (v : Int)) ∧ ∃ j, w'' = w.drewN j := by
  have h' := h.fresh ((Unch.refl none_ w).drewN m)
  rw [← hv]
  exact (rank_ok h'.blk h'.mc h'.m3 h'.rk key hk).mono fun e w'' ⟨h1, h2⟩ => ⟨h1, m, h2.symm⟩
theorem compareD (w : World) (a b : Int) (m : Nat) : Calls Tryz.prog 208 #[.int .i64 a, .int .i64 b] (w.drewN m) fun e w'' => e = .returned (.int .i64 (cmpI a b)) ∧ ∃ j, w'' = w.drewN j :=
  (compareI a b).mono fun e w'' ⟨h1, h2⟩ => ⟨h1, m, h2.symm⟩
end
abbrev KeyT := { s : ByteArray // s.size ≤ maxLen }
def encK (x : KeyT) : Value := .string x.1
theorem rk_swo (s : Ms) : Sort.SWO (ltOf fun x y : KeyT => cmpI (s.rk x.1) (s.rk y.1)) where
  irrefl x := by unfold ltOf; rw [decide_eq_false]; rw [cmpI_neg]; omega
  trans x y z h1 h2 := by
    unfold ltOf at *
    rw [decide_eq_true_eq, cmpI_neg] at *
    omega
  ntrans x y z h1 h2 := by
    unfold ltOf at *
    rw [decide_eq_false_iff_not, cmpI_neg] at *
    omega
theorem put_heap' {α : Type} [Inhabited α] (enc : α → Value) (w : World) (blk off n : Nat) (F : Array α) (os : Array Obj) {cur : Array Value} {e : TypeId} {fr : Nat × Nat} (h : w.heap[blk]? = some (.cells cur e fr)) :
    (Sort.grow (Sort.putRow enc (Sort.ahead w n) blk off F) os).heap[blk]? = some (.cells (Sort.putCells enc off F cur) e fr) := by
  have hlt := lt_of_heap h
  have h1 : (Sort.putRow enc (Sort.ahead w n) blk off F).heap[blk]? = some (.cells (Sort.putCells enc off F cur) e fr) := by
    show ((Sort.ahead w n).heap.modify blk _)[blk]? = _
    rw [Array.getElem?_modify]
    have : (Sort.ahead w n).heap[blk]? = some (.cells cur e fr) := h
    rw [this]
    simp [Sort.onCells]
  rw [Sort.heap_grow_old _ _ (by simpa using hlt)]
  exact h1
theorem put_unch' {α : Type} [Inhabited α] (enc : α → Value) (w : World) (blk off n : Nat) (F : Array α) (os : Array Obj) : Unch (fun k => k = blk) w (Sort.grow (Sort.putRow enc (Sort.ahead w n) blk off F) os) := by
  refine ⟨rfl, rfl, rfl, by simp [Sort.putRow, Sort.mapBlock, Sort.ahead], fun k hk hne => ?_⟩
  rw [Sort.heap_grow_old _ _ (by simpa using hk)]
  show ((Sort.ahead w n).heap.modify blk _)[k]? = _
  rw [Array.getElem?_modify]
  have : blk ≠ k := fun e => hne e.symm
  simp [this, Sort.ahead]
theorem putCells_get' {α : Type} [Inhabited α] (enc : α → Value) (off : Nat) (F : Array α) (cur : Array Value) {t : Nat} (ht : t < F.size) (hc : off + t < cur.size) : (Sort.putCells enc off F cur)[off + t]? = some (enc F[t]!) := by
  unfold Sort.putCells
  rw [Array.getElem?_mapIdx, Array.getElem?_eq_getElem hc]
  simp [ht]
section
variable {w : World} {l : List Ent} {r : Nat} {q : PB} {G : Nat → Bool} {k : CB} {S : Nat → Bool} {Hf : Nat → Option Bool}
theorem PCir.strs (h : PCir w l r q G k S Hf) {b : Nat} {cs : Array Value} {fr : Nat × Nat} {w1 : World} (hb : w.heap[b]? = some (.cells cs 9 fr)) (hu : Unch (fun j => j = b) w w1) : PCir w1 l r q G k S Hf := h.other hb (by decide) (by decide) hu
end
end Go.Proofs.YtgcpoppinnnciaaGreatDoor
/- member.Members: its state, maps.Keys. -/
set_option linter.unusedVariables false
set_option linter.unusedSimpArgs false
namespace Go.Proofs.YtgcpoppinnnciaaGreatDoor
open Go Go.RowKit Go.Proofs.YtgcpoppinnnciaaGreatDoor.Pal Go.Proofs.YtgcpoppinnnciaaGreatDoor.Plan

/-- Between two rounds: the keys that are members, of those that came. -/
structure MI (w5 : World) (bo : Nat) (f : ByteArray → Bool) (pre : List ByteArray) (W : World) : Prop where
  u : Unch (fun j => j = bo) w5 W
  out : ∃ v, W.heap[bo]? = some (.cells #[v] 25 (0, 0)) ∧ (∀ b, v.ownBlock = some b → w5.heap.size ≤ b) ∧ Row W 9 1 v (pre.filter f).length (sv (pre.filter f))
theorem unch_of_grown {W W' : World} {row : Option Nat} (h : W.grownBy W' row) : Unch (fun k => row = some k) W W' := ⟨h.os, h.tape, h.output, h.size, fun k hk hne => h.block k hk (fun e => hne e.symm)⟩
theorem MI.own (w5 : World) (bo : Nat) (f : ByteArray → Bool) : OwnFrom w5.heap.size (MI w5 bo f) := by
  intro pre W W' row hs hg hr
  obtain ⟨hu, v, h1, h2, h3⟩ := hs
  have hu' := unch_of_grown hg
  have hcells : ∀ {k : Nat} {cs : Array Value} {e : TypeId} {fr : Nat × Nat}, W.heap[k]? = some (.cells cs e fr) → ¬ row = some k := fun hk e => by
    obtain ⟨_, o, ho, hc⟩ := hr _ e
    rw [hk] at ho
    injection ho with ho
    subst ho
    cases hc
  refine ⟨hu.step hu' (fun i hi e => by have := (hr i e).1; omega), v, hu'.heap h1 (hcells h1), h2, h3.unch hu' (fun b hb => ?_)⟩
  obtain ⟨cur, hc⟩ := h3.blk hb
  exact hcells hc
theorem rkO_inj {s : Ms} (h : s.Ok) {a b : ByteArray} (ha : (rkO s a).isSome = true) (hb : (rkO s b).isSome = true) (e : s.rk a = s.rk b) : a = b := by
  rw [rk_of, rk_of] at e
  unfold rkO at *
  by_cases c1 : a = s.aut s.r
  · by_cases c2 : b = s.aut s.r
    · rw [c1, c2]
    · rw [if_pos c1, if_neg c2] at e
      rw [if_neg c2] at hb
      cases hy : s.firstU b s.n with
      | none => rw [hy] at hb; cases hb
      | some y => rw [hy] at e; simp at e
  · rw [if_neg c1] at e ha
    cases hx : s.firstU a s.n with
    | none => rw [hx] at ha; cases ha
    | some x =>
      rw [hx] at e
      by_cases c2 : b = s.aut s.r
      · rw [if_pos c2] at e; simp at e
      · rw [if_neg c2] at e hb
        cases hy : s.firstU b s.n with
        | none => rw [hy] at hb; cases hb
        | some y =>
          rw [hy] at e
          simp only [Option.getD_some, Nat.add_right_cancel_iff] at e
          obtain ⟨x1, x2, _⟩ := Ms.firstU_some hx
          obtain ⟨y1, y2, _⟩ := Ms.firstU_some hy
          have hxy : x = y := by
            cases h1 : lessE s.l x y with
            | true => have := Ms.below_lt x1 (Ms.addOf_inn x2) h1; omega
            | false =>
              cases h2 : lessE s.l y x with
              | true => have := Ms.below_lt y1 (Ms.addOf_inn y2) h2; omega
              | false => exact h.cl.lessE_total x1 y1 h1 h2
          subst hxy
          unfold Ms.addOf at x2 y2
          simp only [Bool.and_eq_true, decide_eq_true_eq] at x2 y2
          rw [← x2.2.2, ← y2.2.2]
theorem member_rkO {s : Ms} {key : ByteArray} (h : s.member key = true) : (rkO s key).isSome = true := by
  unfold rkO
  split
  · rfl
  · rename_i hne
    rcases member_added h with e | ⟨x, h1, h2, h3, h4⟩
    · exact absurd e hne
    · cases hf : s.firstU key s.n with
      | some y => rfl
      | none =>
        have := Ms.firstU_none hf x h1
        unfold Ms.addOf at this
        rw [h2, decide_eq_true h3, decide_eq_true h4] at this
        cases this
/-- All keys that have a rank, each once; those of them that are members, sorted. -/
theorem memL_of {s : Ms} (h : s.Ok) {ss L : List ByteArray} (hn : ss.Nodup) (hm : ∀ x, x ∈ ss ↔ (rkO s x).isSome = true) (hp : L.Perm (ss.filter s.member)) (hs : L.Pairwise fun a b => s.rk a ≤ s.rk b) : MemL s L := by
  have hmem : ∀ key, key ∈ L ↔ s.member key = true := fun key => by
    rw [hp.mem_iff, List.mem_filter, hm]
    exact ⟨fun h => h.2, fun h => ⟨member_rkO h, h⟩⟩
  refine ⟨?_, hmem⟩
  have hnd : L.Nodup := hp.nodup_iff.2 (List.Nodup.sublist List.filter_sublist hn)
  unfold List.Nodup at hnd
  have := List.pairwise_and_iff.2 ⟨hs, hnd⟩
  refine List.Pairwise.imp_of_mem ?_ this
  rintro a b ha hb ⟨h1, h2⟩
  rcases Nat.lt_or_ge (s.rk a) (s.rk b) with h3 | h3
  · exact h3
  · exact absurd (rkO_inj h (member_rkO ((hmem a).1 ha)) (member_rkO ((hmem b).1 hb)) (by omega)) h2
theorem wpListIn_append1 {F : Fence} {nF : Nat} {P : Program} {ops : Array Oper} {rest : List Oper} {op : Oper} {a : Act} {Q : Exit → Act → World → Prop} (w : World) (hgd : op.guard = none) (s x : Operand) (t e : TypeId) (z : Value) (size bytes : Nat)
    (hop : op.op = .call { callee := .builtin .append, args := #[s, x], argTypes := #[t, t] }) (ht : P.underlying t = some (.slice e)) (hinfo : (P.info? e).map (fun i => (i.zero, i.size, i.bytes)) = some (some z, size, bytes)) (hzs : z.cells.size = size) (hsz : 0 < size)
    (v : Value) (n : Nat) (xs : List Value) (hs : a.eval s = v) (hr : Row w e size v n xs) (cs : List Value) (hcs : cs.length = size) (h1 : ∀ u ∈ cs, u.oneCell' = true)
    (hx : a.eval x = .slice (some ⟨w.heap.size, 0, none⟩) 1 1) (h63 : n + 1 ≤ maxLen) (hbytes : (n + 1) * bytes ≤ 140737488355328)
    (h : ∀ v' w', Row w' e size v' (n + 1) (xs ++ cs) → Unch (fun k => v.ownBlock = some k) w w' → (v'.ownBlock = v.ownBlock ∨ ∃ b, v'.ownBlock = some b ∧ w.heap.size ≤ b) → (∃ A c, v' = .slice A (n + 1) c) → wpListIn F nF P ops Q rest (a.put op.dst v') w') :
    wpListIn F nF P ops Q (op :: rest) a (w.alloc (.cells cs.toArray e)) := by
  have hu : Unch none_ w (w.alloc (.cells cs.toArray e)) := (Unch.refl _ _).alloc _
  obtain ⟨i0, hi, hzz⟩ := Option.map_eq_some_iff.1 hinfo
  simp only [Prod.mk.injEq] at hzz
  obtain ⟨hz0, hz1, hz2⟩ := hzz
  obtain ⟨v1, w1, hrun, h2, h3, h4⟩ := run_append (P := P) (w.alloc (.cells cs.toArray e)) t op.type e i0 z size bytes ht hi hz0 hz1 hz2 hzs hsz v n xs (hr.unch hu (fun _ _ h => h)) (some ⟨w.heap.size, 0, none⟩) 1 1 cs (by omega)
    (fun _ => ⟨_, rfl, World.news_of_block (heap_alloc_new w _)⟩) (fun h => by cases h) h1 h63 hbytes
  refine wpListIn_plain hgd fun K hK => ?_
  unfold Oper.wpIn
  refine ⟨by simp [Oper.about, hop, resolve, Target.leads, Sem.run_pure], ?_⟩
  rw [Oper.semAt_plain F _ _ (by rw [hop]; intro c hc'; cases hc')]
  simp [execOp, hop, resolve, invoke, builtin, hs, hx, hrun, Result.andThen]
  refine hK _ _ (h v1 w1 h2 ?_ ?_ ?_)
  · refine ⟨h3.os, h3.tape, h3.output, Nat.le_trans (by simp) h3.size, fun k hk hX => ?_⟩
    exact (h3.block k (by simp; omega) hX).trans (Below.heap_alloc w _ k hk)
  · rcases h4 with h4 | ⟨b, hb, hlt⟩
    · exact .inl h4
    · exact .inr ⟨b, hb, by simp at hlt; omega⟩
  · obtain ⟨B, cc, hv, _⟩ := h2.slice
    exact ⟨B, cc, hv⟩
theorem keeps_of_unch {X : Nat → Prop} {W W' : World} (h : Unch X W W') (hX : ∀ k, X k → ∃ cs e fr, W.heap[k]? = some (.cells cs e fr)) : KeepsOthers W W' :=
  ⟨h.size, fun k o hk ho => h.heap hk fun hx => by
    obtain ⟨cs, e, fr, hc⟩ := hX k hx
    rw [hk] at hc
    injection hc with hc
    subst hc
    cases ho⟩
/-- A round that takes its key. -/
theorem MI.put {w5 W W6 W7 : World} {bo : Nat} {f : ByteArray → Bool} {pre : List ByteArray} {v v' : Value} {x : ByteArray} (hb5 : bo < w5.heap.size) (hu : Unch (fun j => j = bo) w5 W) (h1 : W.heap[bo]? = some (.cells #[v] 25 (0, 0))) (h2 : ∀ b, v.ownBlock = some b → w5.heap.size ≤ b)
    (h3 : Row W 9 1 v (pre.filter f).length (sv (pre.filter f))) (hf : f x = true) (hu6 : Unch none_ W W6) (hr : Row W7 9 1 v' ((pre.filter f).length + 1) (sv (pre.filter f) ++ [.string x])) (hu7 : Unch (fun k => v.ownBlock = some k) W6 W7)
    (hat : v'.ownBlock = v.ownBlock ∨ ∃ b, v'.ownBlock = some b ∧ W6.heap.size ≤ b) :
    MI w5 bo f (pre ++ [x]) (W7.setCell ⟨bo, 0, none⟩ v') ∧ KeepsOthers W (W7.setCell ⟨bo, 0, none⟩ v') ∧ W7.cell? ⟨bo, 0, none⟩ = some v ∧ W7.frozen? ⟨bo, 0, none⟩ = false := by
  have hne : ¬ v.ownBlock = some bo := fun e => by have := h2 _ e; omega
  have b7 := hu7.heap (hu6.heap h1 (fun h => h)) hne
  have huc : Unch (fun j => j = bo) W7 (W7.setCell ⟨bo, 0, none⟩ v') := (Unch.refl _ _).setCell _ (fun _ => rfl)
  have e1 : (pre ++ [x]).filter f = pre.filter f ++ [x] := by simp [hf]
  have hs5 := hu.size
  have hs6 := hu6.size
  have hown : ∀ b, v'.ownBlock = some b → w5.heap.size ≤ b := fun b hb => by
    rcases hat with h | ⟨b', h, hlt⟩
    · exact h2 b (h ▸ hb)
    · rw [h] at hb; injection hb with hb; omega
  refine ⟨⟨?_, v', ?_, hown, ?_⟩, ?_, blk_cell b7 rfl, blk_free b7 0⟩
  · refine ((hu.step hu6 (fun _ _ h => h.elim)).step hu7 (fun i hi e => ?_)).step huc (fun i hi e => e)
    have := h2 i e; omega
  · have := blk_set b7 0 v'
    simpa using this
  · rw [e1, sv_app, List.length_append, List.length_singleton]
    exact hr.unch huc (fun b hb e => by have := hown b hb; omega)
  · refine keeps_of_unch (X := fun k => k = bo ∨ v.ownBlock = some k) ?_ ?_
    · exact ((hu6.mono (fun _ _ h => h.elim)).step hu7 (fun i hi e => .inr e)).step huc (fun i hi e => .inl e)
    · rintro k (rfl | hk)
      · exact ⟨_, _, _, h1⟩
      · obtain ⟨cur, hc⟩ := h3.blk hk
        exact ⟨_, _, _, hc⟩
theorem MI.pass {w5 W W6 : World} {bo : Nat} {f : ByteArray → Bool} {pre : List ByteArray} {x : ByteArray} (h : MI w5 bo f pre W) (hf : f x = false) (hu6 : Unch none_ W W6) : MI w5 bo f (pre ++ [x]) W6 := by
  obtain ⟨hu, v, h1, h2, h3⟩ := h
  have e1 : (pre ++ [x]).filter f = pre.filter f := by simp [hf]
  exact ⟨hu.step hu6 (fun _ _ h => h.elim), v, hu6.heap h1 (fun h => h), h2, by rw [e1]; exact h3.unch hu6 (fun _ _ h => h)⟩
theorem km_start (w2 : World) (bc brk : Nat) {w5 : World} (h : w5 = ((w2.alloc (.cells #[.pointer (some ⟨bc, 0, none⟩)] 254)).alloc (.cells #[.slice none 0 0] 25)).alloc (.cells #[.map (some brk)] 127)) :
    Unch none_ w2 w5 ∧ w5.heap[w2.heap.size]? = some (.cells #[.pointer (some ⟨bc, 0, none⟩)] 254 (0, 0)) ∧ w5.heap[w2.heap.size + 1]? = some (.cells #[.slice none 0 0] 25 (0, 0)) ∧ w5.cell? ⟨w2.heap.size + 1 + 1, 0, none⟩ = some (.map (some brk)) ∧ w5.heap.size = w2.heap.size + 1 + 1 + 1 := by
  subst h
  have b1 := blk_new w2 (.cells #[.pointer (some ⟨bc, 0, none⟩)] 254)
  have b2 := blk_new (w2.alloc (.cells #[.pointer (some ⟨bc, 0, none⟩)] 254)) (.cells #[.slice none 0 0] 25)
  have b3 := blk_new ((w2.alloc (.cells #[.pointer (some ⟨bc, 0, none⟩)] 254)).alloc (.cells #[.slice none 0 0] 25)) (.cells #[.map (some brk)] 127)
  simp only [World.size_alloc] at b2 b3
  exact ⟨(((Unch.refl none_ w2).alloc _).alloc _).alloc _, blk_alloc (blk_alloc b1 _) _, blk_alloc b2 _, blk_cell b3 rfl, by simp [World.size_alloc]⟩
theorem rankM_some {w : World} {brk : Nat} {s : Ms} (h : RankM w brk s) : ∃ m, Sm w brk m ∧ ∀ key, (mget m key).isSome = (rkO s key).isSome := by
  obtain ⟨m, a, b⟩ := h
  refine ⟨m, a, fun key => ?_⟩
  rw [b key]
  cases rkO s key <;> rfl
theorem ranks_len {w : World} {brk : Nat} {s : Ms} (h : s.Ok) (hC : s.n ≤ 300) {m : Asc} (hs : Sm w brk m) (hg : ∀ key, (mget m key).isSome = (rkO s key).isSome) : m.length ≤ 302 := by
  have hk : ∀ key ∈ m.map (·.1), (rkO s key).isSome = true := fun key hk => by
    have := mget_isSome.2 hk
    rw [hg] at this
    exact this
  have hnd : ((m.map (·.1)).map s.rk).Nodup := by
    unfold List.Nodup
    rw [List.pairwise_map]
    refine List.Pairwise.imp_of_mem ?_ hs.one
    intro a b ha hb hne e
    exact hne (rkO_inj h (hk a ha) (hk b hb) e)
  have hlt : ∀ j ∈ (m.map (·.1)).map s.rk, j < 302 := fun j hj => by
    obtain ⟨key, hkey, rfl⟩ := List.mem_map.1 hj
    have hc := card_le s
    unfold Ms.rk
    split
    · omega
    · cases hf : s.firstU key s.n with
      | none => simp only; omega
      | some x =>
        obtain ⟨x1, x2, _⟩ := Ms.firstU_some hf
        have := Ms.below_card x1 (Ms.addOf_inn x2)
        unfold Ms.below at this
        simp only
        omega
  have := nd_len hnd hlt
  simpa using this
end Go.Proofs.YtgcpoppinnnciaaGreatDoor
