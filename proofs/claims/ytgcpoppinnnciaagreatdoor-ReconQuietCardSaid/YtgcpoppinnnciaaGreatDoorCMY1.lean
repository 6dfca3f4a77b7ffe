/-
  room.May.
-/
import Derived.Test.YtgcpoppinnnciaaGreatDoorCKM2
import Derived.Test.YtgcpoppinnnciaaGreatDoorCPlan
import Derived.Test.YtgcpoppinnnciaaGreatDoorCMP3
import Derived.ArgAppend
/- room.May. -/
set_option linter.unusedVariables false
set_option linter.unusedSimpArgs false
namespace Go.Proofs.YtgcpoppinnnciaaGreatDoor.Pal
open Go Go.RowKit
/-- append to a slice that has no room: nothing that was there is written. -/
theorem wpList_append_grow {P : Program} {ops : Array Oper} {rest : List Oper} {op : Oper} {a : Act} {Q : Exit → Act → World → Prop} (w : World) (hgd : op.guard = none) (s x : Operand) (t e : TypeId) (z : Value) (size bytes : Nat)
    (hop : op.op = .call { callee := .builtin .append, args := #[s, x], argTypes := #[t, t] }) (ht : P.underlying t = some (.slice e)) (hinfo : (P.info? e).map (fun i => (i.zero, i.size, i.bytes)) = some (some z, size, bytes)) (hzs : z.cells.size = size) (hsz : 0 < size)
    (b : Addr) (n cap : Nat) (xs : List Value) (hs : a.eval s = .slice (some b) n cap) (hlo : xs.length = n * size) (holds : ∀ j u, xs[j]? = some u → w.cell? (b.add j) = some u)
    (ad : Addr) (m c : Nat) (news : List Value) (hx : a.eval x = .slice (some ad) m c) (hl : news.length = m * size) (hA : ∀ j u, news[j]? = some u → w.cell? (ad.add j) = some u)
    (hg : cap < n + m) (h63 : n + m ≤ maxLen) (hbytes : (n + m) * bytes ≤ 140737488355328)
    (h : ∀ v' w', Row w' e size v' (n + m) (xs ++ news) → Unch none_ w w' → (∀ b, v'.ownBlock = some b → w.heap.size ≤ b) → wpList P ops Q rest (a.put op.dst v') w') :
    wpList P ops Q (op :: rest) a w := by
  obtain ⟨i0, hi, hzz⟩ := Option.map_eq_some_iff.1 hinfo
  simp only [Prod.mk.injEq] at hzz
  obtain ⟨hz0, hz1, hz2⟩ := hzz
  obtain ⟨v1, w1, hrun, ho, hgr⟩ := run_append_arg_grows (P := P) (w := w) t op.type e i0 z size bytes ht hi hz0 hz1 hz2 hzs hsz b n cap xs hlo holds ad m c news hl hA hg h63 hbytes
  refine wpList_plain hgd fun K hK => ?_
  unfold Oper.wp execOp
  simp only [hop, resolve, invoke, builtin, Sem.run_bind, Sem.run_pure, Result.andThen_ok, List.map_toArray, List.map_cons, List.map_nil, hs, hx, hrun]
  refine hK _ _ (h v1 w1 (Row.of_own ho) ((Unch.refl _ _).grown hgr (fun k _ h => by cases h)) fun b' hb' => ?_)
  rcases ho.2 with ⟨hv, h0⟩ | ⟨g, cap', cur, hv, hge, _⟩
  · rw [hv] at hb'; cases hb'
  · rw [hv] at hb'
    have : g = b' := by simpa [Value.ownBlock] using hb'
    omega
theorem wpList_append1_grow {P : Program} {ops : Array Oper} {rest : List Oper} {op : Oper} {a : Act} {Q : Exit → Act → World → Prop} (w : World) (hgd : op.guard = none) (s x : Operand) (t e : TypeId) (z : Value) (size bytes : Nat)
    (hop : op.op = .call { callee := .builtin .append, args := #[s, x], argTypes := #[t, t] }) (ht : P.underlying t = some (.slice e)) (hinfo : (P.info? e).map (fun i => (i.zero, i.size, i.bytes)) = some (some z, size, bytes)) (hzs : z.cells.size = size) (hsz : 0 < size)
    (b : Addr) (n cap : Nat) (xs : List Value) (hs : a.eval s = .slice (some b) n cap) (hlo : xs.length = n * size) (holds : ∀ j u, xs[j]? = some u → w.cell? (b.add j) = some u)
    (cs : List Value) (hcs : cs.length = size) (hx : a.eval x = .slice (some ⟨w.heap.size, 0, none⟩) 1 1)
    (hg : cap < n + 1) (h63 : n + 1 ≤ maxLen) (hbytes : (n + 1) * bytes ≤ 140737488355328)
    (h : ∀ v' w', Row w' e size v' (n + 1) (xs ++ cs) → Unch none_ w w' → (∀ b, v'.ownBlock = some b → w.heap.size ≤ b) → wpList P ops Q rest (a.put op.dst v') w') :
    wpList P ops Q (op :: rest) a (w.alloc (.cells cs.toArray e)) := by
  have hu : Unch none_ w (w.alloc (.cells cs.toArray e)) := (Unch.refl _ _).alloc _
  refine wpList_append_grow _ hgd s x t e z size bytes hop ht hinfo hzs hsz b n cap xs hs hlo (fun j u hj => hu.cell (holds j u hj) (fun h => h)) ⟨w.heap.size, 0, none⟩ 1 1 cs hx (by omega) (World.news_of_block (heap_alloc_new w _)) hg h63 hbytes ?_
  intro v' w' h2 h3 h4
  exact h v' w' h2 (hu.trans h3) (fun b hb => by have := h4 b hb; simp at this; omega)
end Go.Proofs.YtgcpoppinnnciaaGreatDoor.Pal
namespace Go.Proofs.YtgcpoppinnnciaaGreatDoor
open Go Go.RowKit Go.Proofs.YtgcpoppinnnciaaGreatDoor.Pal Go.Proofs.YtgcpoppinnnciaaGreatDoor.Plan

theorem ents_row {w : World} {A : Option Addr} {n c : Nat} {es : List Ent} (h : Row w 114 5 (.slice A n c) n (ecells es)) (hn : n = es.length) (ok : ∀ e ∈ es, EntOk w e) : Ents w A n es := by
  subst hn
  refine ⟨⟨rfl, h.max, fun hn => ?_⟩, ok⟩
  obtain ⟨g, o, cap, cur, hv, hh, _⟩ := h.form hn
  injection hv with h1 h2 h3
  refine ⟨g, o, h1, lt_of_heap hh, fun i x hx => ⟨x.cells, rfl, rfl, fun j u hj => ?_⟩⟩
  have := h.at (by rw [h1]) (ecells_get es i j x u hx hj)
  rw [← Nat.add_assoc] at this
  exact this
theorem Ents.place {w : World} {A : Option Addr} {n : Nat} {es : List Ent} (h : Ents w A n es) (h0 : 0 < n) : ∃ b, A = some b ∧ RdS w 5 EntR (some b) n es := by
  obtain ⟨e, he⟩ := get_some h.len h0
  obtain ⟨g, o, hA, _⟩ := h.at he
  exact ⟨_, hA, hA ▸ h.rd⟩
theorem Ents.one {w : World} {A : Option Addr} {n : Nat} {es : List Ent} (h : Ents w A n es) : OneC es := fun e he => by
  obtain ⟨A2, c2, hpv, _⟩ := (h.ok e he).ps
  rw [hpv]; rfl
set_option maxRecDepth 100000 in
set_option maxHeartbeats 4000000 in
theorem may_ok {w : World} {A : Option Addr} {n c : Nat} {l : List Ent} (h : Ents w A n l) (h0 : 0 < n) (hc : n ≤ c) (room : ByteArray) (hmax : room.size ≤ maxLen) {x : Ent} (hx : EntOk w x) {r : Nat} (hcl : closedB (l ++ [x]) = true) (hr : rootN room (l ++ [x]) = some r) {v : Value} (hv : v = x.val) :
    Calls Tryz.prog 126 #[.string room, .slice A n c, v] w fun e w' => e = .returned (.bool (goodL (l ++ [x]) r n)) ∧ Unch none_ w w' := by
  obtain ⟨bA, rfl, hrd⟩ := h.place h0
  obtain ⟨A2, c2, hpv, hc2, hps⟩ := hx.ps
  obtain ⟨m2, hm2⟩ : ∃ m2, x.ps.length = m2 := ⟨_, rfl⟩
  have hlen := h.len
  have hll : (l ++ [x]).length = n + 1 := by rw [List.length_append, hlen]; rfl
  have n3 : n + 1 ≤ 300 := by rw [← hll]; exact (closed_iff.1 hcl).len
  rw [hm2] at hpv
  have hxc : x.cells = [.string x.id, .int .i64 x.kind, .string x.author, .slice A2 m2 c2, .string x.body] := by unfold Ent.cells; rw [hpv]
  have hv2 : v = .agg #[.string x.id, .int .i64 x.kind, .string x.author, .slice A2 m2 c2, .string x.body] := by rw [hv]; unfold Ent.val; rw [hpv]
  subst hv2
  have bE := blk_new w (.cells #[.string x.id, .int .i64 x.kind, .string x.author, .slice A2 m2 c2, .string x.body] 114)
  have hu1 : Unch none_ w (w.alloc (.cells #[.string x.id, .int .i64 x.kind, .string x.author, .slice A2 m2 c2, .string x.body] 114)) := (Unch.refl none_ w).alloc _
  have x0 := blk_cell bE (j := 0) rfl
  have x1 := blk_cell bE (j := 1) rfl
  have x2 := blk_cell bE (j := 2) rfl
  have x3 := blk_cell bE (j := 3) rfl
  have x4 := blk_cell bE (j := 4) rfl
  have hone : ∀ u ∈ [Value.string x.id, .int .i64 x.kind, .string x.author, .slice A2 m2 c2, .string x.body], u.oneCell' = true := by
    intro u hu
    simp only [List.mem_cons, List.not_mem_nil, or_false] at hu
    rcases hu with rfl | rfl | rfl | rfl | rfl <;> rfl
  have hole : (ecells l).length = n * 5 := by rw [ecells_len, hlen]
  have hold : ∀ W, Unch none_ w W → ∀ j u, (ecells l)[j]? = some u → W.cell? (bA.add j) = some u := fun W hW j u hu => hW.cell (rds_news hrd hu) (fun h => h)
  have hent : ∀ W A' c', Unch none_ w W → Row W 114 5 (.slice A' (n + 1) c') (n + 1) (ecells l ++ [.string x.id, .int .i64 x.kind, .string x.author, .slice A2 m2 c2, .string x.body]) → Ents W A' (n + 1) (l ++ [x]) := fun W A' c' hW hR => by
    refine ents_row (c := c') ?_ hll.symm (fun e he => ?_)
    · rw [ecells_app, hxc]; exact hR
    · rcases List.mem_append.1 he with h1 | h1
      · exact (h.ok e h1).fresh hW
      · rw [List.mem_singleton.1 h1]; exact hx.fresh hW
  have HOLE := Lib.hid hole
  have HOLD := Lib.hid hold
  have HENT := Lib.hid hent
  have HONE := Lib.hid hone
  have HCL := Lib.hid hcl
  have HR := Lib.hid hr
  have HU1 := Lib.hid hu1
  obtain ⟨gb, hgb⟩ : ∃ gb, goodL (l ++ [x]) r n = gb := ⟨_, rfl⟩
  rw [hgb]
  have HGB := Lib.hid hgb
  clear hgb
  have zl : (0 : Int) ≤ (n : Int) := by omega
  have zn : (n : Int) < ((n + 1 : Nat) : Int) := by omega
  clear h hx hrd hv hxc hone hole hold hent hcl hr hu1 bE hpv hm2 hps hll hlen
  go_enter Tryz.func126, Tryz.ntmps126
  go_upto_region 1 with fail
  generalize w.alloc (.cells #[.string x.id, .int .i64 x.kind, .string x.author, .slice A2 m2 c2, .string x.body] 114) = w1 at *
  generalize w.heap.size = gX at *
  refine wp_planP (fun W => Unch none_ w1 W) [0, 1, 2, 3, 4, 5, 6] [7] [8, 9, 10, 11] 0 (by kernel_rfl) (by kernel_rfl) rfl rfl rfl (fun c a d v w h => by cases d <;> exact h) ((Unch.refl _ _).drew) ?_
  intro S S0 HS _ _
  simp only [pickIn, List.getElem?_toArray, List.getElem?_cons_succ, List.getElem?_cons_zero]
  repeat (go_big_quiet_step (fail))
  refine wpQuiet_nil ?_
  have f0 : ∀ G2 : In S, G2.w.cell? ⟨gX, 0, none⟩ = some (.string x.id) := fun G2 => ((HS.out _).1 G2.h).cell x0 (fun h => h)
  have f1 : ∀ G2 : In S, G2.w.cell? ⟨gX, 1, none⟩ = some (.int .i64 x.kind) := fun G2 => ((HS.out _).1 G2.h).cell x1 (fun h => h)
  have f2 : ∀ G2 : In S, G2.w.cell? ⟨gX, 2, none⟩ = some (.string x.author) := fun G2 => ((HS.out _).1 G2.h).cell x2 (fun h => h)
  have f3 : ∀ G2 : In S, G2.w.cell? ⟨gX, 3, none⟩ = some (.slice A2 m2 c2) := fun G2 => ((HS.out _).1 G2.h).cell x3 (fun h => h)
  have f4 : ∀ G2 : In S, G2.w.cell? ⟨gX, 4, none⟩ = some (.string x.body) := fun G2 => ((HS.out _).1 G2.h).cell x4 (fun h => h)
  repeat (go_big_quiet_step (fail))
  refine wpQuiet_nil ?_
  clear f0 f1 f2 f3 f4 x0 x1 x2 x3 x4
  refine tail_all ?_
  have hd : Unch none_ w w1.drew := HU1.out.drew
  have HD := Lib.hid hd
  clear hd
  go_wp2_with (at_builtin; refine wpList_append1_grow w1.drew rfl (.tmp 14) (.tmp 16) 93 114 _ 5 80 rfl Tryz.underlying93 info_ent rfl (by omega) bA n n (ecells l) (by rfl) HOLE.out (HOLD.out _ HD.out) [.string x.id, .int .i64 x.kind, .string x.author, .slice A2 m2 c2, .string x.body] rfl (by rfl) (by omega) (by simp only [maxLen]; omega) (by omega) ?_; intro v5 w5 hr5 hu5 hat5; obtain ⟨A5, c5, rfl, hc5⟩ := hr5.slice; have hw5 := HD.out.trans hu5; have hg5 := good_ok (HENT.out _ _ _ hw5 hr5) hc5 room hmax HCL.out HR.out; have HG5 := Lib.hid hg5; have HU5 := Lib.hid hw5; clear hr5 hu5 hat5 hw5 hg5)
  refine HG5.out.mono ?_
  rintro e w6 ⟨g, rfl, hb, _, hu6⟩
  have y := hb.at (j := n) (by omega)
  have HU6 := Lib.hid (HU5.out.trans hu6)
  clear hb hu6 HG5 HU5
  rw [HGB.out] at y
  go_wp2
  go_ret
  exact ⟨rfl, HU6.out⟩
end Go.Proofs.YtgcpoppinnnciaaGreatDoor
