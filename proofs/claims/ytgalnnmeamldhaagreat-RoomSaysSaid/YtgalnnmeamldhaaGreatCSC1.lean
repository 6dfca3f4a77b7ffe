/-
  What is said, as a row of cells.
  room.May.
-/
import Derived.Test.YtgalnnmeamldhaaGreatCKM2
import Derived.Test.YtgalnnmeamldhaaGreatCPlan
import Derived.Test.YtgalnnmeamldhaaGreatCMP3
import Derived.ArgAppend
/- What is said, as a row of cells. -/
set_option linter.unusedVariables false
set_option linter.unusedSimpArgs false
namespace Go.Proofs.YtgalnnmeamldhaaGreat
open Go Go.RowKit Go.Proofs.YtgalnnmeamldhaaGreat.Pal Go.Proofs.YtgalnnmeamldhaaGreat.Plan

def scells (l : List Say) : List Value := l.flatMap Say.cells
theorem scell5 (x : Say) : x.cells.length = 5 := rfl
theorem scells_len : ∀ l : List Say, (scells l).length = l.length * 5
  | [] => rfl
  | x :: l => by
    have ih := scells_len l
    show (x.cells ++ scells l).length = (l.length + 1) * 5
    rw [List.length_append, ih, scell5]; omega
theorem scells_get : ∀ (l : List Say) (i j : Nat) (x : Say) (u : Value), l[i]? = some x → x.cells[j]? = some u → (scells l)[i * 5 + j]? = some u
  | [], i, j, e, u, h, _ => by cases i <;> cases h
  | a :: es, 0, j, e, u, h, hu => by
    obtain rfl : a = e := by simpa using h
    have hj := (List.getElem?_eq_some_iff.1 hu).1
    show (a.cells ++ scells es)[0 * 5 + j]? = some u
    rw [List.getElem?_append_left (by omega), Nat.zero_mul, Nat.zero_add]
    exact hu
  | a :: es, i + 1, j, e, u, h, hu => by
    have h' : es[i]? = some e := by simpa using h
    have := scells_get es i j e u h' hu
    show (a.cells ++ scells es)[(i + 1) * 5 + j]? = some u
    rw [List.getElem?_append_right (by rw [scell5]; omega), scell5, show (i + 1) * 5 + j - 5 = i * 5 + j by omega]
    exact this
theorem scells_at {l : List Say} {j : Nat} {u : Value} (h : (scells l)[j]? = some u) : ∃ x, l[j / 5]? = some x ∧ x.cells[j % 5]? = some u := by
  have hj := (List.getElem?_eq_some_iff.1 h).1
  rw [scells_len] at hj
  have hi : j / 5 < l.length := by omega
  refine ⟨l[j / 5], List.getElem?_eq_getElem hi, ?_⟩
  have hm : j % 5 < (l[j / 5]).cells.length := by rw [scell5]; omega
  have := scells_get l (j / 5) (j % 5) _ _ (List.getElem?_eq_getElem hi) (List.getElem?_eq_getElem hm)
  rw [show j / 5 * 5 + j % 5 = j by omega, h] at this
  rw [List.getElem?_eq_getElem hm]
  exact this.symm
theorem Says.news {w : World} {A : Option Addr} {n : Nat} {l : List Say} (h : Says w A n l) : 0 < n → ∃ ad, A = some ad ∧ ∀ j u, (scells l)[j]? = some u → w.cell? (ad.add j) = some u := fun h0 => by
  obtain ⟨x0, hx0⟩ := get_some h.len h0
  obtain ⟨b, o, c, hA, _⟩ := h.rd.at hx0
  refine ⟨_, hA, fun j u hu => ?_⟩
  obtain ⟨x, hx, hc⟩ := scells_at hu
  obtain ⟨b', o', c', hA', _, _, hr, hcell⟩ := h.rd.at hx
  rw [hA] at hA'
  injection hA' with hA'
  injection hA' with e1 e2
  subst e1; subst e2
  unfold SayR at hr
  subst hr
  rw [Addr.add_lit]
  have := hcell (j % 5) u hc
  rw [show o + j / 5 * 5 + j % 5 = o + j by omega] at this
  exact this
theorem SayOk.one {w : World} {x : Say} (h : SayOk w x) : ∀ u ∈ x.cells, u.oneCell' = true := by
  obtain ⟨A, c, hv, _⟩ := h.bs
  intro u hu
  unfold Say.cells at hu
  simp only [List.mem_cons, List.not_mem_nil, or_false] at hu
  rcases hu with rfl | rfl | rfl | rfl | rfl <;> first | rfl | (rw [hv]; rfl)
theorem Says.one {w : World} {A : Option Addr} {n : Nat} {l : List Say} (h : Says w A n l) : ∀ u ∈ scells l, u.oneCell' = true := fun u hu => by
  obtain ⟨x, hx, hu⟩ := List.mem_flatMap.1 hu
  exact (h.ok x hx).one u hu
theorem scells_app (l : List Say) (x : Say) : scells (l ++ [x]) = scells l ++ x.cells := by simp [scells]
theorem says_row {w : World} {A : Option Addr} {n c : Nat} {l : List Say} (h : Row w 42 5 (.slice A n c) n (scells l)) (hn : n = l.length) (ok : ∀ x ∈ l, SayOk w x) : Says w A n l := by
  subst hn
  refine ⟨⟨rfl, h.max, fun hn => ?_⟩, ok⟩
  obtain ⟨g, o, cap, cur, hv, hh, _⟩ := h.form hn
  injection hv with h1 h2 h3
  refine ⟨g, o, h1, lt_of_heap hh, fun i x hx => ⟨x.cells, rfl, rfl, fun j u hj => ?_⟩⟩
  have := h.at (by rw [h1]) (scells_get l i j x u hx hj)
  rw [← Nat.add_assoc] at this
  exact this
theorem info_say : (Tryz.prog.info? 42).map (fun i => (i.zero, i.size, i.bytes)) = some (some (.agg #[.int .i64 0, .int .i64 0, .int .i64 0, .slice none 0 0, .int .u8 0]), 5, 56) := by kernel_rfl
theorem say_arr {H : Type} {enc : TypeId × Value → H} {w : World} {base : Nat} {spare : Nat → Bool} {held : Bool} {fuel : Nat} {cs : Array Value} {y : DataW H × List MemPlace}
    (h : DataW.trod enc Tryz.prog w base spare held fuel 42 cs.toList = some y) : ∃ z : Say, SayOk w z ∧ cs = z.cells.toArray := by
  obtain ⟨z, hz, hok⟩ := open_say fuel _ _ h
  exact ⟨z, hok, by apply Array.toList_inj.1; rw [hz]⟩
end Go.Proofs.YtgalnnmeamldhaaGreat
/- room.May. -/
set_option linter.unusedVariables false
set_option linter.unusedSimpArgs false
namespace Go.Proofs.YtgalnnmeamldhaaGreat.Pal
open Go Go.RowKit
/-- append to a slice that has no room: nothing that was there is written. -/
theorem wpList_append_grow {P : Program} {ops : Array Oper} {rest : List Oper} {op : Oper} {a : Act} {Q : Exit → Act → World → Prop} (w : World) (hgd : op.guard = none) (s x : Operand) (t e : TypeId) (z : Value) (size bytes : Nat)
    (hop : op.op = .call { callee := .builtin .append, args := #[s, x], argTypes := #[t, t] }) (ht : P.underlying t = some (.slice e)) (hinfo : (P.info? e).map (fun i => (i.zero, i.size, i.bytes)) = some (some z, size, bytes)) (hzs : z.cells.size = size) (hsz : 0 < size)
    (b : Addr) (n cap : Nat) (xs : List Value) (hs : a.eval s = .slice (some b) n cap) (hlo : xs.length = n * size) (holds : ∀ j u, xs[j]? = some u → w.cell? (b.add j) = some u)
    (ad : Addr) (m c : Nat) (news : List Value) (hx : a.eval x = .slice (some ad) m c) (hl : news.length = m * size) (hA : ∀ j u, news[j]? = some u → w.cell? (ad.add j) = some u)
    (hg : cap < n + m) (h63 : n + m ≤ maxLen) (hbytes : (n + m) * bytes ≤ 140737488355328)
    (h : ∀ v' w', Row w' e size v' (n + m) (xs ++ news) → Unch none_ w w' → (∀ b, v'.ownBlock = some b → w.heap.size ≤ b) → wpList P ops Q rest (a.put op.dst v') w') :
    wpList P ops Q (op :: rest) a w := by
  obtain ⟨i0, hi, hzz⟩ := Option.map_eq_some_iff.1 hinfo
  simp only [Prod.mk.injEq] at hzz
  obtain ⟨hz0, hz1, hz2⟩ := hzz
  obtain ⟨v1, w1, hrun, ho, hgr⟩ := run_append_arg_grows (P := P) (w := w) t op.type e i0 z size bytes ht hi hz0 hz1 hz2 hzs hsz b n cap xs hlo holds ad m c news hl hA hg h63 hbytes
  refine wpList_plain hgd fun K hK => ?_
  unfold Oper.wp execOp
  simp only [hop, resolve, invoke, builtin, Sem.run_bind, Sem.run_pure, Result.andThen_ok, List.map_toArray, List.map_cons, List.map_nil, hs, hx, hrun]
  refine hK _ _ (h v1 w1 (Row.of_own ho) ((Unch.refl _ _).grown hgr (fun k _ h => by cases h)) fun b' hb' => ?_)
  rcases ho.2 with ⟨hv, h0⟩ | ⟨g, cap', cur, hv, hge, _⟩
  · rw [hv] at hb'; cases hb'
  · rw [hv] at hb'
    have : g = b' := by simpa [Value.ownBlock] using hb'
    omega
theorem wpList_append1_grow {P : Program} {ops : Array Oper} {rest : List Oper} {op : Oper} {a : Act} {Q : Exit → Act → World → Prop} (w : World) (hgd : op.guard = none) (s x : Operand) (t e : TypeId) (z : Value) (size bytes : Nat)
    (hop : op.op = .call { callee := .builtin .append, args := #[s, x], argTypes := #[t, t] }) (ht : P.underlying t = some (.slice e)) (hinfo : (P.info? e).map (fun i => (i.zero, i.size, i.bytes)) = some (some z, size, bytes)) (hzs : z.cells.size = size) (hsz : 0 < size)
    (b : Addr) (n cap : Nat) (xs : List Value) (hs : a.eval s = .slice (some b) n cap) (hlo : xs.length = n * size) (holds : ∀ j u, xs[j]? = some u → w.cell? (b.add j) = some u)
    (cs : List Value) (hcs : cs.length = size) (hx : a.eval x = .slice (some ⟨w.heap.size, 0, none⟩) 1 1)
    (hg : cap < n + 1) (h63 : n + 1 ≤ maxLen) (hbytes : (n + 1) * bytes ≤ 140737488355328)
    (h : ∀ v' w', Row w' e size v' (n + 1) (xs ++ cs) → Unch none_ w w' → (∀ b, v'.ownBlock = some b → w.heap.size ≤ b) → wpList P ops Q rest (a.put op.dst v') w') :
    wpList P ops Q (op :: rest) a (w.alloc (.cells cs.toArray e)) := by
  have hu : Unch none_ w (w.alloc (.cells cs.toArray e)) := (Unch.refl _ _).alloc _
  refine wpList_append_grow _ hgd s x t e z size bytes hop ht hinfo hzs hsz b n cap xs hs hlo (fun j u hj => hu.cell (holds j u hj) (fun h => h)) ⟨w.heap.size, 0, none⟩ 1 1 cs hx (by omega) (World.news_of_block (heap_alloc_new w _)) hg h63 hbytes ?_
  intro v' w' h2 h3 h4
  exact h v' w' h2 (hu.trans h3) (fun b hb => by have := h4 b hb; simp at this; omega)
end Go.Proofs.YtgalnnmeamldhaaGreat.Pal
namespace Go.Proofs.YtgalnnmeamldhaaGreat
open Go Go.RowKit Go.Proofs.YtgalnnmeamldhaaGreat.Pal Go.Proofs.YtgalnnmeamldhaaGreat.Plan

theorem ents_row {w : World} {A : Option Addr} {n c : Nat} {es : List Ent} (h : Row w 35 5 (.slice A n c) n (ecells es)) (hn : n = es.length) (ok : ∀ e ∈ es, EntOk w e) : Ents w A n es := by
  subst hn
  refine ⟨⟨rfl, h.max, fun hn => ?_⟩, ok⟩
  obtain ⟨g, o, cap, cur, hv, hh, _⟩ := h.form hn
  injection hv with h1 h2 h3
  refine ⟨g, o, h1, lt_of_heap hh, fun i x hx => ⟨x.cells, rfl, rfl, fun j u hj => ?_⟩⟩
  have := h.at (by rw [h1]) (ecells_get es i j x u hx hj)
  rw [← Nat.add_assoc] at this
  exact this
theorem Ents.place {w : World} {A : Option Addr} {n : Nat} {es : List Ent} (h : Ents w A n es) (h0 : 0 < n) : ∃ b, A = some b ∧ RdS w 5 EntR (some b) n es := by
  obtain ⟨e, he⟩ := get_some h.len h0
  obtain ⟨g, o, hA, _⟩ := h.at he
  exact ⟨_, hA, hA ▸ h.rd⟩
theorem Ents.one {w : World} {A : Option Addr} {n : Nat} {es : List Ent} (h : Ents w A n es) : OneC es := fun e he => by
  obtain ⟨A2, c2, hpv, _⟩ := (h.ok e he).ps
  rw [hpv]; rfl
set_option maxRecDepth 100000 in
set_option maxHeartbeats 4000000 in
theorem may_ok {w : World} {A : Option Addr} {n c : Nat} {l : List Ent} (h : Ents w A n l) (h0 : 0 < n) (hc : n ≤ c) (room : ByteArray) (hmax : room.size ≤ maxLen) {x : Ent} (hx : EntOk w x) {r : Nat} (hcl : closedB (l ++ [x]) = true) (hr : rootN room (l ++ [x]) = some r) {v : Value} (hv : v = x.val) :
    Calls Tryz.prog 17 #[.string room, .slice A n c, v] w fun e w' => e = .returned (.bool (goodL (l ++ [x]) r n)) ∧ Unch none_ w w' := by
  obtain ⟨bA, rfl, hrd⟩ := h.place h0
  obtain ⟨A2, c2, hpv, hc2, hps⟩ := hx.ps
  obtain ⟨m2, hm2⟩ : ∃ m2, x.ps.length = m2 := ⟨_, rfl⟩
  have hlen := h.len
  have hll : (l ++ [x]).length = n + 1 := by rw [List.length_append, hlen]; rfl
  have n3 : n + 1 ≤ 300 := by rw [← hll]; exact (closed_iff.1 hcl).len
  rw [hm2] at hpv
  have hxc : x.cells = [.string x.id, .int .i64 x.kind, .string x.author, .slice A2 m2 c2, .string x.body] := by unfold Ent.cells; rw [hpv]
  have hv2 : v = .agg #[.string x.id, .int .i64 x.kind, .string x.author, .slice A2 m2 c2, .string x.body] := by rw [hv]; unfold Ent.val; rw [hpv]
  subst hv2
  have bE := blk_new w (.cells #[.string x.id, .int .i64 x.kind, .string x.author, .slice A2 m2 c2, .string x.body] 35)
  have hu1 : Unch none_ w (w.alloc (.cells #[.string x.id, .int .i64 x.kind, .string x.author, .slice A2 m2 c2, .string x.body] 35)) := (Unch.refl none_ w).alloc _
  have x0 := blk_cell bE (j := 0) rfl
  have x1 := blk_cell bE (j := 1) rfl
  have x2 := blk_cell bE (j := 2) rfl
  have x3 := blk_cell bE (j := 3) rfl
  have x4 := blk_cell bE (j := 4) rfl
  have hone : ∀ u ∈ [Value.string x.id, .int .i64 x.kind, .string x.author, .slice A2 m2 c2, .string x.body], u.oneCell' = true := by
    intro u hu
    simp only [List.mem_cons, List.not_mem_nil, or_false] at hu
    rcases hu with rfl | rfl | rfl | rfl | rfl <;> rfl
  have hole : (ecells l).length = n * 5 := by rw [ecells_len, hlen]
  have hold : ∀ W, Unch none_ w W → ∀ j u, (ecells l)[j]? = some u → W.cell? (bA.add j) = some u := fun W hW j u hu => hW.cell (rds_news hrd hu) (fun h => h)
  have hent : ∀ W A' c', Unch none_ w W → Row W 35 5 (.slice A' (n + 1) c') (n + 1) (ecells l ++ [.string x.id, .int .i64 x.kind, .string x.author, .slice A2 m2 c2, .string x.body]) → Ents W A' (n + 1) (l ++ [x]) := fun W A' c' hW hR => by
    refine ents_row (c := c') ?_ hll.symm (fun e he => ?_)
    · rw [ecells_app, hxc]; exact hR
    · rcases List.mem_append.1 he with h1 | h1
      · exact (h.ok e h1).fresh hW
      · rw [List.mem_singleton.1 h1]; exact hx.fresh hW
  have HOLE := Lib.hid hole
  have HOLD := Lib.hid hold
  have HENT := Lib.hid hent
  have HONE := Lib.hid hone
  have HCL := Lib.hid hcl
  have HR := Lib.hid hr
  have HU1 := Lib.hid hu1
  obtain ⟨gb, hgb⟩ : ∃ gb, goodL (l ++ [x]) r n = gb := ⟨_, rfl⟩
  rw [hgb]
  have HGB := Lib.hid hgb
  clear hgb
  have zl : (0 : Int) ≤ (n : Int) := by omega
  have zn : (n : Int) < ((n + 1 : Nat) : Int) := by omega
  clear h hx hrd hv hxc hone hole hold hent hcl hr hu1 bE hpv hm2 hps hll hlen
  go_enter Tryz.func17, Tryz.ntmps17
  go_upto_region 1 with fail
  generalize w.alloc (.cells #[.string x.id, .int .i64 x.kind, .string x.author, .slice A2 m2 c2, .string x.body] 35) = w1 at *
  generalize w.heap.size = gX at *
  refine wp_planP (fun W => Unch none_ w1 W) [0, 1, 2, 3, 4, 5, 6] [7] [8, 9, 10, 11] 0 (by kernel_rfl) (by kernel_rfl) rfl rfl rfl (fun c a d v w h => by cases d <;> exact h) ((Unch.refl _ _).drew) ?_
  intro S S0 HS _ _
  simp only [pickIn, List.getElem?_toArray, List.getElem?_cons_succ, List.getElem?_cons_zero]
  repeat (go_big_quiet_step (fail))
  refine wpQuiet_nil ?_
  have f0 : ∀ G2 : In S, G2.w.cell? ⟨gX, 0, none⟩ = some (.string x.id) := fun G2 => ((HS.out _).1 G2.h).cell x0 (fun h => h)
  have f1 : ∀ G2 : In S, G2.w.cell? ⟨gX, 1, none⟩ = some (.int .i64 x.kind) := fun G2 => ((HS.out _).1 G2.h).cell x1 (fun h => h)
  have f2 : ∀ G2 : In S, G2.w.cell? ⟨gX, 2, none⟩ = some (.string x.author) := fun G2 => ((HS.out _).1 G2.h).cell x2 (fun h => h)
  have f3 : ∀ G2 : In S, G2.w.cell? ⟨gX, 3, none⟩ = some (.slice A2 m2 c2) := fun G2 => ((HS.out _).1 G2.h).cell x3 (fun h => h)
  have f4 : ∀ G2 : In S, G2.w.cell? ⟨gX, 4, none⟩ = some (.string x.body) := fun G2 => ((HS.out _).1 G2.h).cell x4 (fun h => h)
  repeat (go_big_quiet_step (fail))
  refine wpQuiet_nil ?_
  clear f0 f1 f2 f3 f4 x0 x1 x2 x3 x4
  refine tail_all ?_
  have hd : Unch none_ w w1.drew := HU1.out.drew
  have HD := Lib.hid hd
  clear hd
  go_wp2_with (at_builtin; refine wpList_append1_grow w1.drew rfl (.tmp 14) (.tmp 16) 23 35 _ 5 80 rfl Tryz.underlying23 info_ent rfl (by omega) bA n n (ecells l) (by rfl) HOLE.out (HOLD.out _ HD.out) [.string x.id, .int .i64 x.kind, .string x.author, .slice A2 m2 c2, .string x.body] rfl (by rfl) (by omega) (by simp only [maxLen]; omega) (by omega) ?_; intro v5 w5 hr5 hu5 hat5; obtain ⟨A5, c5, rfl, hc5⟩ := hr5.slice; have hw5 := HD.out.trans hu5; have hg5 := good_ok (HENT.out _ _ _ hw5 hr5) hc5 room hmax HCL.out HR.out; have HG5 := Lib.hid hg5; have HU5 := Lib.hid hw5; clear hr5 hu5 hat5 hw5 hg5)
  refine HG5.out.mono ?_
  rintro e w6 ⟨g, rfl, hb, _, hu6⟩
  have y := hb.at (j := n) (by omega)
  have HU6 := Lib.hid (HU5.out.trans hu6)
  clear hb hu6 HG5 HU5
  rw [HGB.out] at y
  go_wp2
  go_ret
  exact ⟨rfl, HU6.out⟩
end Go.Proofs.YtgalnnmeamldhaaGreat
