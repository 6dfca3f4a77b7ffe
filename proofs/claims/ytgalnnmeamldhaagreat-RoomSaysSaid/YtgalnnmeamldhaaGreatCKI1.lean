/-
  maps.Keys over a map keyed by strings, for every loop body: its iterator, in a fence.
-/
import Derived.RangeFuncNested
import Derived.RangeFuncBound
import Derived.RangeFuncCalls
import Derived.RangeFuncLeaves
import Derived.WalkKit
import Derived.OwnWalkIn
import Derived.TacticsInMore
import Derived.LoopNIn
import Derived.LoopIn
import Derived.Sort.LoopGhostIn
import Derived.Sort.MapsRangeIn
import Derived.Test.YtgalnnmeamldhaaGreatCMG1
/- maps.Keys over a map keyed by strings, for every loop body: its iterator, in a fence. -/
set_option linter.unusedVariables false
set_option linter.unusedSimpArgs false
namespace Go.Proofs.YtgalnnmeamldhaaGreat
open Go Go.RowKit Go.Proofs.YtgalnnmeamldhaaGreat.Pal Go.Proofs.YtgalnnmeamldhaaGreat.Plan
attribute [local go_sem] Oper.semAt_some

section
variable {F : Fence} {n : Nat} {P : Program} {ops : Array Oper} {rest : List Oper} {o : Oper} {a : Act} {Q : Exit → Act → World → Prop}
theorem wpListIn_sm_range (w : World) (hg : o.guard = none) (x : Operand) (t : TypeId) (hop : o.op = Op.range t x) (k e : TypeId) (ht : P.underlying t = some (.map k e))
    (b : Nat) (m : Asc) (hx : a.eval x = .map (some b)) (h : Sm w b m)
    (hK : ∀ w', Sit w' b w.heap.size m m → Unch none_ w w' → w'.heap.size = w.heap.size + 1 → wpListIn F n P ops Q rest (a.put o.dst (.pointer (some ⟨w.heap.size, 0, none⟩))) w') : wpListIn F n P ops Q (o :: rest) a w := by
  refine wpListIn_plain hg fun K' hK' => ?_
  obtain ⟨w', hrun, r1, r2, r3⟩ := sm_range h ht
  unfold Oper.wpIn
  refine ⟨?_, ?_⟩
  · simp [Oper.about, hop]
  · rw [Oper.semAt_plain F _ _ (by rw [hop]; intro c hc'; cases hc')]
    simp [execOp, hop, hx, hrun, Result.andThen]
    exact hK' _ _ (hK w' r1 r2 r3)
theorem wpListIn_sit_next (w : World) (hg : o.guard = none) (it : Operand) (hop : o.op = Op.next it false) (b r : Nat) (m left : Asc) (hit : a.eval it = .pointer (some ⟨r, 0, none⟩)) (h : Sit w b r m left)
    (hDone : left = [] → wpListIn F n P ops Q rest (a.put o.dst (.tuple #[.bool false])) w)
    (hMore : ∀ x : Nxt P w b r m left, wpListIn F n P ops Q rest (a.put o.dst (.tuple #[.bool true, .string x.k, x.v])) x.w') : wpListIn F n P ops Q (o :: rest) a w := by
  refine wpListIn_plain hg fun K' hK' => ?_
  unfold Oper.wpIn
  refine ⟨by simp [Oper.about, hop], ?_⟩
  rw [Oper.semAt_plain F _ _ (by rw [hop]; intro c hc'; cases hc')]
  rcases sit_next (P := P) h o.type with ⟨h0, hrun⟩ | ⟨p, hp, w', hrun, r1, r2, r3, r4⟩
  · simp [execOp, hop, hit, hrun, Result.andThen]
    exact hK' _ _ (hDone h0)
  · simp [execOp, hop, hit, hrun, Result.andThen]
    exact hK' _ _ (hMore ⟨p.1, p.2, w', hp, r1, r2, r3, r4⟩)
end
theorem sit_walks {w w' : World} {b r : Nat} {m left : Asc} (h : Sit w b r m left) (hk : KeepsWalks w w') : Sit w' b r m left := by
  obtain ⟨es, clock, since, seen, c0, h1, h2, h3⟩ := h
  exact ⟨es, clock, since, seen, c0, hk.same b _ h1 rfl, hk.same r _ h2 rfl, h3⟩
theorem sit_walk {w : World} {b r : Nat} {m left : Asc} (h : Sit w b r m left) : ∃ o : Obj, w.heap[r]? = some o ∧ o.isWalk = true := by
  obtain ⟨es, clock, since, seen, c0, h1, h2, h3⟩ := h
  exact ⟨_, h2, rfl⟩
theorem unch_grownBy {w w' : World} {r : Nat} (h : Unch (fun j => j = r) w w') : w.grownBy w' (some r) := ⟨h.os, h.tape, h.output, h.size, fun k hk hne => h.block k hk (fun e => hne (by rw [e]))⟩
theorem unch_grownBy0 {w w' : World} (h : Unch none_ w w') : w.grownBy w' none := ⟨h.os, h.tape, h.output, h.size, fun k hk hne => h.block k hk (fun e => e)⟩
/-- Of a map's keys those that have come. -/
structure KCol (m left : Asc) (ss : List ByteArray) : Prop where
  nd : ss.Nodup
  mem : ∀ x, x ∈ ss ↔ (mget m x).isSome = true ∧ ∀ p ∈ left, p.1 ≠ x
  len : ss.length + left.length ≤ m.length
theorem KCol.start (m : Asc) : KCol m m [] := ⟨List.nodup_nil, fun x => by
  constructor
  · intro h; cases h
  · rintro ⟨h1, h2⟩
    rw [mget_isSome] at h1
    obtain ⟨p, hp, e⟩ := List.mem_map.1 h1
    exact absurd e (h2 p hp), by simp⟩
theorem KCol.step {m left : Asc} {ss : List ByteArray} (h : KCol m left ss) {p : ByteArray × Value} (hp : p ∈ left) (hm : p ∈ m) : KCol m (left.filter fun q => decide (q.1 ≠ p.1)) (ss ++ [p.1]) := by
  refine ⟨?_, fun x => ?_, ?_⟩
  · rw [List.nodup_append]
    refine ⟨h.nd, by simp, fun a ha b hb => ?_⟩
    have hb : b = p.1 := by simpa using hb
    subst hb
    exact fun e => ((h.mem a).1 ha).2 p hp e.symm
  · rw [List.mem_append, h.mem]
    constructor
    · rintro (⟨h1, h2⟩ | h1)
      · exact ⟨h1, fun q hq => h2 q (List.mem_filter.1 hq).1⟩
      · have h1 : x = p.1 := by simpa using h1
        subst h1
        refine ⟨mget_isSome_of hm, fun q hq => ?_⟩
        have := (List.mem_filter.1 hq).2
        simpa using this
    · rintro ⟨h1, h2⟩
      by_cases e : x = p.1
      · exact .inr (by simp [e])
      · refine .inl ⟨h1, fun q hq eq => ?_⟩
        exact h2 q (List.mem_filter.2 ⟨hq, by rw [decide_eq_true_eq, eq]; exact e⟩) eq
  · have := left_less hp
    have := h.len
    simp only [List.length_append, List.length_singleton]
    omega
set_option maxRecDepth 100000 in
set_option maxHeartbeats 1000000 in
theorem keys1_in (F : Fence) (n : Nat) (hf : F.fn 66) (hro : F.round = none) (hn : 1 ≤ n) (l Bm b : Nat) (m : Asc) (J Jx : List ByteArray → World → Prop)
    (hY : ∀ pre x W, J pre W → pre.length < m.length → YieldAt F (n - 1) Tryz.prog l #[.string x] W fun e W' =>
      (e = .returned (.bool true) ∧ J (pre ++ [x]) W' ∧ KeepsWalks W W') ∨ (e = .returned (.bool false) ∧ Jx (pre ++ [x]) W'))
    (W : World) (hJ : AbidesFrom W.heap.size J) (hm : W.cell? ⟨Bm, 0, none⟩ = some (.map (some b))) (hs : Sm W b m) (h0 : J [] W) :
    CallsIn F n Tryz.prog 66 #[.func (.yield l) #[] #[], .pointer (some ⟨Bm, 0, none⟩)] W fun e W' => (∃ v, e = .returned v) ∧
      ((∃ ss : List ByteArray, (ss.Nodup ∧ ∀ x, x ∈ ss ↔ (mget m x).isSome = true) ∧ J ss W') ∨ (∃ pre : List ByteArray, True ∧ Jx pre W')) := by
  refine callsIn_of_wp Tryz.func66 rfl hf ?_ hro
  simp only [Tryz.ntmps66, List.size_toArray, List.length_cons, List.length_nil, Nat.reduceAdd, Nat.reduceSub, Array.replicate_succ, Array.replicate_zero, List.push_toArray, List.append_toArray, List.nil_append, List.cons_append]
  gi_wp2_with (gi_at_range; refine wpListIn_sm_range W rfl (.tmp 4) 61 rfl 9 3 Tryz.underlying61 b m rfl hs ?_; intro w0 hsit hu0 hsz; have HSIT := Lib.hid hsit; have HU0 := Lib.hid hu0; clear hsit hu0 hsz)
  go_simp
  gi_loopg [3] m.length (fun gk _ wr => ∃ (left : Asc) (ss : List ByteArray), gk = left.length ∧ Sit wr b W.heap.size m left ∧ KCol m left ss ∧ J ss wr)
  case atStart => exact ⟨m, [], rfl, HSIT.out, KCol.start m, hJ [] W w0 none h0 (unch_grownBy0 HU0.out) (fun r e => by cases e)⟩
  case round =>
    obtain ⟨left, ss, rfl, hsit, hC, hJs⟩ := hrel
    obtain ⟨w1, rfl⟩ : ∃ w1, w1 = wr := ⟨_, rfl⟩
    have HS := Lib.hid hsit
    have HC := Lib.hid hC
    have HJS := Lib.hid hJs
    clear hsit hC hJs HSIT HU0
    gi_wp2_with (gi_at_next; refine wpListIn_sit_next w1 rfl (.tmp 5) rfl b W.heap.size m left rfl HS.out ?c1 ?c2)
    case c1 =>
      intro hl
      subst hl
      go_simp
      gi_wp2
      go_end0
      exact ⟨⟨_, rfl⟩, .inl ⟨ss, ⟨HC.out.nd, fun x => by rw [HC.out.mem x]; simp⟩, HJS.out⟩⟩
    case c2 =>
      rintro ⟨p1, p2, w3, hp, hsit3, hu3, hsz3, hent⟩
      dsimp only
      have hJ2 : J ss w3 := hJ ss w1 w3 (some W.heap.size) HJS.out (unch_grownBy hu3) (fun r e => by cases e; exact ⟨Nat.le_refl _, sit_walk HS.out⟩)
      have hlen := HC.out.len
      have hpos : 0 < left.length := List.length_pos_of_mem hp
      obtain ⟨fn, tmps, assign, body, hy, hR⟩ := hY ss p1 w3 hJ2 (by omega)
      have HC2 := Lib.hid (HC.out.step hp (HS.out.mem (p1, p2) hp))
      have HLT := Lib.hid (left_less hp)
      have HS3 := Lib.hid hsit3
      have HR := Lib.hid hR
      clear hsz3 hR hsit3 hlen hpos
      go_simp
      gi_wp2
      refine HR.out.mono ?_
      rintro e W3 (⟨rfl, hJ3, hk3⟩ | ⟨rfl, hJx3⟩)
      · have HS4 := Lib.hid (sit_walks HS3.out hk3)
        gi_wp2
        gi_roundg ((left.filter fun q => decide (q.1 ≠ p1)).length)
        case rel => exact ⟨_, ss ++ [p1], rfl, HS4.out, HC2.out, hJ3⟩
        case measure => exact HLT.out
      · gi_wp2
        refine bodyPost_ret (results_none rfl _ _ _) rfl ?_
        exact ⟨⟨_, rfl⟩, .inr ⟨ss ++ [p1], trivial, hJx3⟩⟩
theorem keys_stops (F : Fence) (n : Nat) (hf : F.fn 66) (hro : F.round = none) (hn : 1 ≤ n) (Bm b : Nat) (m : Asc) (w : World) (hBm : Bm < w.heap.size)
    (hm : w.cell? ⟨Bm, 0, none⟩ = some (.map (some b))) (hs : Sm w b m) :
    SeqStops F n Tryz.prog 66 #[.pointer (some ⟨Bm, 0, none⟩)] Value.string (fun ss => ss.Nodup ∧ ∀ x, x ∈ ss ↔ (mget m x).isSome = true) (fun _ => True) m.length w := fun l J Jx W hW hJ _ hY h0 =>
  keys1_in F n hf hro hn l Bm b m J Jx hY W hJ ((hW.cell (p := ⟨Bm, 0, none⟩) hBm).trans hm) (hs.unch (X := none_) (Unch.ofBelow hW) (fun h => h)) h0
end Go.Proofs.YtgalnnmeamldhaaGreat
