/-
  slices.Clone of entries; maps.Copy of sets of strings.
  member.set and member.circle, as they lie in memory; rank and beside.
  member: the closures of judge.
  member: the closures of member, and member.
-/
import Derived.Test.YtgcpoppinnnciaaGreatDoorCMRef17
import Derived.Test.YtgcpoppinnnciaaGreatDoorCBase
import Derived.WalkSpells
/- slices.Clone of entries; maps.Copy of sets of strings. -/
set_option linter.unusedVariables false
set_option linter.unusedSimpArgs false
namespace Go.Proofs.YtgcpoppinnnciaaGreatDoor
open Go Go.RowKit Go.Proofs.YtgcpoppinnnciaaGreatDoor.Pal Go.Proofs.YtgcpoppinnnciaaGreatDoor.Plan

theorem ecells_len (es : List Ent) : (ecells es).length = es.length * 5 := by
  induction es with
  | nil => rfl
  | cons a es ih =>
    show (a.cells ++ ecells es).length = _
    rw [List.length_append, ih, cells_len, List.length_cons]; omega
theorem ecells_at {es : List Ent} {j : Nat} {u : Value} (h : (ecells es)[j]? = some u) : ∃ e, es[j / 5]? = some e ∧ e.cells[j % 5]? = some u := by
  have hj := (List.getElem?_eq_some_iff.1 h).1
  rw [ecells_len] at hj
  have hk : j / 5 < es.length := by omega
  refine ⟨es[j / 5], List.getElem?_eq_getElem hk, ?_⟩
  have hm : j % 5 < es[j / 5].cells.length := by rw [cells_len]; omega
  have := ecells_get es (j / 5) (j % 5) _ _ (List.getElem?_eq_getElem hk) (List.getElem?_eq_getElem hm)
  rw [show j / 5 * 5 + j % 5 = j by omega, h] at this
  rw [List.getElem?_eq_getElem hm, ← Option.some.inj this]
theorem rds_news {w : World} {A : Addr} {n : Nat} {l : List Ent} (h : RdS w 5 EntR (some A) n l) {j : Nat} {u : Value} (hu : (ecells l)[j]? = some u) : w.cell? (A.add j) = some u := by
  obtain ⟨e, he, hc⟩ := ecells_at hu
  obtain ⟨b, o, c, hA, hb, _, hr, hcell⟩ := h.at he
  injection hA with hA
  subst hA
  unfold EntR at hr
  subst hr
  rw [Addr.add_lit]
  have := hcell (j % 5) u hc
  rw [show o + j / 5 * 5 + j % 5 = o + j by omega] at this
  exact this
def OneC (l : List Ent) : Prop := ∀ e ∈ l, e.pv.oneCell' = true
theorem OneC.cells {l : List Ent} (h : OneC l) : ∀ u ∈ ecells l, u.oneCell' = true := by
  intro u hu
  unfold ecells at hu
  obtain ⟨e, he, hu⟩ := List.mem_flatMap.1 hu
  have := h e he
  unfold Ent.cells at hu
  simp at hu
  rcases hu with rfl | rfl | rfl | rfl | rfl <;> first | rfl | exact this
set_option maxRecDepth 100000 in
set_option maxHeartbeats 1000000 in
theorem clone_ok {w : World} {A : Addr} {n c : Nat} {l : List Ent} (h : RdS w 5 EntR (some A) n l) (hn : n ≤ 300) (h1 : OneC l) :
    Calls Tryz.prog 216 #[.slice (some A) n c] w fun e w' => ∃ v, e = .returned v ∧ Row w' 114 5 v n (ecells l) ∧ (∀ b, v.ownBlock = some b → w.heap.size ≤ b) ∧ Unch none_ w w' := by
  have hl : (ecells l).length = n * 5 := by rw [ecells_len, h.len]
  have hnews : ∀ j u, (ecells l)[j]? = some u → w.cell? (A.add j) = some u := fun j u hu => rds_news h hu
  have ha : Unch none_ w (w.alloc (.cells #[] 114)) := (Unch.refl none_ w).alloc _
  have hrow : Row (w.alloc (.cells #[] 114)) 114 5 (.slice (some ⟨w.heap.size, 0, none⟩) 0 0) 0 [] := ⟨rfl, .inr ⟨w.heap.size, 0, 0, #[], rfl, blk_new w _, Nat.le_refl _, Nat.zero_le _, by decide, rfl⟩⟩
  have HN := Lib.hid hnews
  have HL := Lib.hid hl
  have H1 := Lib.hid h1.cells
  clear hnews hl h h1
  have hnil := Lib.run_eql_slice_nil (P := Tryz.prog) w 93 114 (some A) n c 0 0 Tryz.underlying93
  go_enter Tryz.func216, Tryz.ntmps216
  go_wp2_with (at_builtin; refine wpList_append _ rfl (.tmp 5) (.tmp 6) 93 114 _ 5 80 rfl Tryz.underlying93 info_ent rfl (by omega) (.slice (some ⟨w.heap.size, 0, none⟩) 0 0) 0 [] (by rfl) hrow (some A) n c (ecells l) (by rfl) HL.out (fun _ => ⟨A, rfl, fun j u hu => ha.cell (HN.out j u hu) (fun h => h)⟩) (fun h => by cases h) H1.out (by simp only [maxLen]; omega) (by omega) ?_; intro v' w' hr hu hat; have HR := Lib.hid hr; have HU := Lib.hid hu; have HAT := Lib.hid hat; clear hr hu hat)
  go_ret
  have hr := HR.out
  rw [Nat.zero_add, List.nil_append] at hr
  refine ⟨v', rfl, hr, fun b hb => ?_, ha.step HU.out (fun i hi e => ?_)⟩
  · rcases HAT.out with h2 | ⟨b', h2, h3⟩
    · rw [h2] at hb
      have : w.heap.size = b := by simpa [Value.ownBlock] using hb
      omega
    · rw [h2] at hb
      injection hb with hb
      have h3' := Nat.le_trans ha.size h3
      omega
  · have : w.heap.size = i := by simpa [Value.ownBlock] using e
    omega
theorem mget_isSome_of {m : Asc} {p : ByteArray × Value} (hp : p ∈ m) : (mget m p.1).isSome = true := mget_isSome.2 (List.mem_map.2 ⟨p, hp, rfl⟩)
/-- What dst holds while the entries of left are still to come. -/
def Mrg (m1 m2 left m : Asc) : Prop := ∀ s, mget m s = if (mget m2 s).isSome = true ∧ ∀ p ∈ left, p.1 ≠ s then mget m2 s else mget m1 s
theorem Mrg.start (m1 m2 : Asc) : Mrg m1 m2 m2 m1 := fun s => by
  rw [if_neg]
  rintro ⟨h1, h2⟩
  obtain ⟨v, hv⟩ := Option.isSome_iff_exists.1 h1
  exact h2 _ (mget_mem hv) rfl
theorem Mrg.step {m1 m2 left m : Asc} (h : Mrg m1 m2 left m) (hn : (m2.map (·.1)).Nodup) {p : ByteArray × Value} (hp : p ∈ m2) : Mrg m1 m2 (left.filter fun q => decide (q.1 ≠ p.1)) (mput m p.1 p.2) := fun s => by
  rw [mget_mput]
  by_cases hs : s = p.1
  · subst hs
    rw [if_pos rfl, if_pos ⟨mget_isSome_of hp, fun q hq => by simpa using (List.mem_filter.1 hq).2⟩]
    exact (mget_of hn hp).symm
  · rw [if_neg hs, h s]
    congr 1
    apply propext
    constructor
    · rintro ⟨h1, h2⟩; exact ⟨h1, fun q hq => h2 q (List.mem_filter.1 hq).1⟩
    · rintro ⟨h1, h2⟩
      refine ⟨h1, fun q hq e => ?_⟩
      by_cases hqp : q.1 = p.1
      · exact hs (e ▸ hqp)
      · exact h2 q (List.mem_filter.2 ⟨hq, by simpa using hqp⟩) e
theorem Mrg.done {m1 m2 m : Asc} (h : Mrg m1 m2 [] m) (s : ByteArray) : mget m s = if (mget m2 s).isSome = true then mget m2 s else mget m1 s := by
  rw [h s]
  congr 1
  apply propext
  exact ⟨fun h => h.1, fun h => ⟨h, fun p hp => by cases hp⟩⟩
structure Nxt (P : Program) (w : World) (b r : Nat) (m left : Asc) where
  k : ByteArray
  v : Value
  w' : World
  mem : (k, v) ∈ left
  sit : Sit w' b r m (left.filter fun q => decide (q.1 ≠ k))
  u : Unch (fun j => j = r) w w'
  sz : w'.heap.size = w.heap.size
  ent : (Instr.entry (.pointer (some ⟨r, 0, none⟩))).run P w' = .ok (.tuple #[.string k, v]) w'
theorem wpList_sit_next2 {P : Program} {ops : Array Oper} {rest : List Oper} {o : Oper} {a : Act} {Q : Exit → Act → World → Prop} (w : World) (hg : o.guard = none) (it : Operand) (hop : o.op = Op.next it false) (b r : Nat) (m left : Asc) (hit : a.eval it = .pointer (some ⟨r, 0, none⟩)) (h : Sit w b r m left)
    (hDone : left = [] → wpList P ops Q rest (a.put o.dst (.tuple #[.bool false])) w)
    (hMore : ∀ x : Nxt P w b r m left, wpList P ops Q rest (a.put o.dst (.tuple #[.bool true, .string x.k, x.v])) x.w') : wpList P ops Q (o :: rest) a w :=
  wpList_sit_next w hg it hop b r m left hit h hDone fun p w' h1 h2 h3 h4 h5 => hMore ⟨p.1, p.2, w', h1, h2, h3, h4, h5⟩
set_option maxRecDepth 100000 in
set_option maxHeartbeats 1000000 in
theorem copy_ok {w : World} {b1 b2 : Nat} {m1 m2 : Asc} (h1 : Sm w b1 m1) (h2 : Sm w b2 m2) (hne : b1 ≠ b2) :
    Calls Tryz.prog 91 #[.map (some b1), .map (some b2)] w fun e w' => ∃ m, e = .returned (.tuple #[]) ∧ Sm w' b1 m ∧ Mrg m1 m2 [] m ∧ Unch (fun k => k = b1) w w' := by
  have hb1 := h1.lt
  have hone := Lib.hid h2.one
  have hsm := Lib.hid h2.small
  go_enter Tryz.func91, Tryz.ntmps91
  go_wp2_with (at_range; refine wpList_sm_range w rfl (.tmp 6) 148 rfl 9 4 Tryz.underlying148 b2 m2 rfl h2 ?_; intro w1 hsit hu1 hsz; have HSIT := Lib.hid hsit; have HU1 := Lib.hid hu1; have HSZ := Lib.hid hsz; clear hsit hu1 hsz)
  go_simp
  go_loopg [4, 5] (m2.length : Nat) (fun gk _ _ wr => ∃ left m, gk = left.length ∧ Sit wr b2 w.heap.size m2 left ∧ Sm wr b1 m ∧ Mrg m1 m2 left m ∧ Unch (fun k => k = b1) w wr)
  case atStart => exact ⟨m2, m1, rfl, HSIT.out, h1.unch HU1.out (fun h => h), Mrg.start _ _, HU1.out.mono (fun _ _ h => h.elim)⟩
  case round =>
    obtain ⟨left, m, rfl, hsit, hm, hmrg, hu⟩ := hrel
    obtain ⟨w2, rfl⟩ : ∃ w2, w2 = wr := ⟨_, rfl⟩
    have HSIT2 := Lib.hid hsit
    have HM := Lib.hid hm
    have HMRG := Lib.hid hmrg
    have HU := Lib.hid hu
    clear hsit hm hmrg hu
    go_wp2_with (at_next; refine wpList_sit_next2 w2 rfl (.tmp 7) rfl b2 w.heap.size m2 left rfl HSIT2.out ?c1 ?c2)
    case c1 =>
      intro hl
      subst hl
      go_simp
      go_wp2
      go_end0
      exact ⟨m, rfl, HM.out, HMRG.out, HU.out⟩
    case c2 =>
      rintro ⟨p1, p2, w3, hp, hsit3, hu3, hsz3, hent⟩
      dsimp only
      have hpm := HSIT2.out.mem (p1, p2) hp
      have hm3 := HM.out.unch hu3 (fun e => by omega)
      have hps := hsm.out (p1, p2) hpm
      have HSIT3 := Lib.hid hsit3
      have HU3 := Lib.hid hu3
      have HP := Lib.hid hp
      have HPM := Lib.hid hpm
      have HM3 := Lib.hid hm3
      have HPS := Lib.hid hps
      clear hsit3 hu3 hp hpm hm3 hsz3 hps
      go_simp
      go_wp2_with (at_mapUpdate; refine wpList_sm_put w3 rfl (.tmp 13) (.tmp 14) (.tmp 15) 148 rfl 9 4 Tryz.underlying148 Tryz.underlying9 b1 m rfl HM3.out p1 rfl HPS.out p2 rfl ?_; intro w4 hsm4 hu4; have HSM4 := Lib.hid hsm4; have HU4 := Lib.hid hu4; clear hsm4 hu4)
      go_simp
      go_roundg ((left.filter fun q => decide (q.1 ≠ p1)).length)
      case measure => exact left_less HP.out
      case rel => exact ⟨_, _, rfl, HSIT3.out.unch HU4.out (fun e => hne e.symm) (fun e => by omega), HSM4.out, HMRG.out.step hone.out HPM.out, (HU.out.step HU3.out (fun i hi e => by omega)).trans HU4.out⟩
end Go.Proofs.YtgcpoppinnnciaaGreatDoor
/- member.set and member.circle, as they lie in memory; rank and beside. -/
set_option linter.unusedVariables false
set_option linter.unusedSimpArgs false
namespace Go.Proofs.YtgcpoppinnnciaaGreatDoor
open Go Go.RowKit Go.Proofs.YtgcpoppinnnciaaGreatDoor.Pal Go.Proofs.YtgcpoppinnnciaaGreatDoor.Plan

/-! ### Reading maps, as equations -/
theorem zero_of (e : TypeId) (z : Value) (h : (Tryz.prog.info? e).map (fun i => i.zero) = some (some z)) (w : World) : (zeroValue e).run Tryz.prog w = .ok z w := by
  obtain ⟨i, hi, hz⟩ := Option.map_eq_some_iff.1 h
  simp [zeroValue, typeInfo, hi, hz]
theorem zb (w : World) : (zeroValue 4).run Tryz.prog w = .ok (.bool false) w := zero_of _ _ (by kernel_rfl) w
theorem zi (w : World) : (zeroValue 3).run Tryz.prog w = .ok (.int .i64 0) w := zero_of _ _ (by kernel_rfl) w
theorem zm (w : World) : (zeroValue 148).run Tryz.prog w = .ok (.map none) w := zero_of _ _ (by kernel_rfl) w
theorem ze (w : World) : (zeroValue 114).run Tryz.prog w = .ok (.agg #[.string ⟨#[]⟩, .int .i64 0, .string ⟨#[]⟩, .slice none 0 0, .string ⟨#[]⟩]) w := zero_of _ _ (by kernel_rfl) w
section
variable {w : World} {b : Nat} {m : Asc} {s : ByteArray}
/-- map[string]bool: one look. -/
theorem look_b (h : Sm w b m) (hs : s.size ≤ maxLen) {x : Bool} (hx : (mget m s).getD (.bool false) = .bool x) : (Instr.lookup 148 (.map (some b)) (.string s) false).run Tryz.prog w = .ok (.bool x) w := by
  have := sm_look (P := Tryz.prog) false h Tryz.underlying148 Tryz.underlying9 (zb w) s hs
  rw [this]
  simp [hx]
theorem look_m (h : Sm w b m) (hs : s.size ≤ maxLen) {x : Value} (hx : mget m s = some x) : (Instr.lookup 241 (.map (some b)) (.string s) false).run Tryz.prog w = .ok x w := by
  have := sm_look (P := Tryz.prog) false h Tryz.underlying241 Tryz.underlying9 (zm w) s hs
  rw [this]
  simp [hx]
theorem look_e (h : Sm w b m) (hs : s.size ≤ maxLen) {x : Value} (hx : mget m s = some x) : (Instr.lookup 240 (.map (some b)) (.string s) false).run Tryz.prog w = .ok x w := by
  have := sm_look (P := Tryz.prog) false h Tryz.underlying240 Tryz.underlying9 (ze w) s hs
  rw [this]
  simp [hx]
theorem look_i (h : Sm w b m) (hs : s.size ≤ maxLen) {x : Value} {ok : Bool} (hx : (mget m s).getD (.int .i64 0) = x) (hok : (mget m s).isSome = ok) : (Instr.lookup 127 (.map (some b)) (.string s) true).run Tryz.prog w = .ok (.tuple #[x, .bool ok]) w := by
  have := sm_look (P := Tryz.prog) true h Tryz.underlying127 Tryz.underlying9 (zi w) s hs
  rw [this]
  simp [hx, hok]
end
/-! ### Keys that are told by places -/
/-- Entries of a map: of the first m places those of which G holds, each with its value. -/
def idA (l : List Ent) (G : Nat → Bool) (f : Nat → Value) (m : Nat) : Asc := ((List.range m).filter G).map fun i => ((ent l i).id, f i)
theorem idA_keys (l : List Ent) (G : Nat → Bool) (f : Nat → Value) (m : Nat) : (idA l G f m).map (·.1) = ((List.range m).filter G).map fun i => (ent l i).id := by simp [idA, Function.comp_def]
theorem idA_nodup {l : List Ent} (h : Closed l) (G : Nat → Bool) (f : Nat → Value) {m : Nat} (hm : m ≤ l.length) : ((idA l G f m).map (·.1)).Nodup := by
  rw [idA_keys]
  unfold List.Nodup
  rw [List.pairwise_map]
  have hr : ((List.range m).filter G).Nodup := List.Nodup.sublist List.filter_sublist List.nodup_range
  refine List.Pairwise.imp_of_mem ?_ hr
  intro a b ha hb hne e
  have h1 : a < m := by have := (List.mem_filter.1 ha).1; simpa using this
  have h2 : b < m := by have := (List.mem_filter.1 hb).1; simpa using this
  exact hne (h.ids a b (by omega) (by omega) e)
theorem idA_get {l : List Ent} (h : Closed l) (G : Nat → Bool) (f : Nat → Value) {m : Nat} (hm : m ≤ l.length) {i : Nat} (hi : i < l.length) : mget (idA l G f m) (ent l i).id = if i < m ∧ G i = true then some (f i) else none := by
  split
  · rename_i hh
    exact mget_of (idA_nodup h G f hm) (List.mem_map.2 ⟨i, List.mem_filter.2 ⟨by simpa using hh.1, hh.2⟩, rfl⟩)
  · rename_i hh
    rw [mget_none]
    intro p hp e
    obtain ⟨j, hj, rfl⟩ := List.mem_map.1 hp
    obtain ⟨hj1, hj2⟩ := List.mem_filter.1 hj
    have hj1 : j < m := by simpa using hj1
    have := h.ids j i (by omega) hi e
    subst this
    exact hh ⟨hj1, hj2⟩
theorem idA_mem {l : List Ent} {G : Nat → Bool} {f : Nat → Value} {m : Nat} {p : ByteArray × Value} : p ∈ idA l G f m ↔ ∃ i, i < m ∧ G i = true ∧ p = ((ent l i).id, f i) := by
  unfold idA
  rw [List.mem_map]
  constructor
  · rintro ⟨i, hi, rfl⟩
    obtain ⟨h1, h2⟩ := List.mem_filter.1 hi
    exact ⟨i, by simpa using h1, h2, rfl⟩
  · rintro ⟨i, h1, h2, rfl⟩
    exact ⟨i, List.mem_filter.2 ⟨by simpa using h1, h2⟩, rfl⟩
theorem idA_succ_t {l : List Ent} {G : Nat → Bool} {f : Nat → Value} {m : Nat} (h : G m = true) : idA l G f (m + 1) = idA l G f m ++ [((ent l m).id, f m)] := by
  unfold idA
  rw [List.range_succ, List.filter_append, List.map_append]
  simp [h]
theorem idA_succ_f {l : List Ent} {G : Nat → Bool} {f : Nat → Value} {m : Nat} (h : G m = false) : idA l G f (m + 1) = idA l G f m := by
  unfold idA
  rw [List.range_succ, List.filter_append, List.map_append]
  simp [h]
theorem idA_put {l : List Ent} (hc : Closed l) (G : Nat → Bool) (f : Nat → Value) {m : Nat} (hm : m < l.length) : mput (idA l G f m) (ent l m).id (f m) = idA l G f m ++ [((ent l m).id, f m)] := by
  have := idA_get hc G f (Nat.le_of_lt hm) hm
  rw [if_neg (by omega)] at this
  unfold mput
  rw [this]
  rfl
def allT : Nat → Bool := fun _ => true
/-! ### A past, as a set of ids -/
def PastM (l : List Ent) (i : Nat) (m : Asc) : Prop := ∀ s v, (s, v) ∈ m ↔ v = .bool true ∧ ∃ j, past l i j = true ∧ (ent l j).id = s
theorem PastM.get {l : List Ent} {i : Nat} {m : Asc} (h : PastM l i m) (hc : Closed l) (hn : (m.map (·.1)).Nodup) (hi : i < l.length) {j : Nat} (hj : j < l.length) : mget m (ent l j).id = if past l i j = true then some (.bool true) else none := by
  split
  · rename_i hp
    exact mget_of hn ((h _ _).2 ⟨rfl, j, hp, rfl⟩)
  · rename_i hp
    rw [mget_none]
    rintro ⟨s, v⟩ hm e
    obtain ⟨_, j', hj', hid⟩ := (h s v).1 hm
    simp only at e
    have hlt := past_lt l i j' hj'
    have := hc.ids j' j (by omega) hj (by rw [hid, e])
    subst this
    exact hp hj'
theorem PastM.getb {l : List Ent} {i : Nat} {m : Asc} (h : PastM l i m) (hc : Closed l) (hn : (m.map (·.1)).Nodup) (hi : i < l.length) {j : Nat} (hj : j < l.length) : (mget m (ent l j).id).getD (.bool false) = .bool (past l i j) := by
  rw [h.get hc hn hi hj]
  cases past l i j <;> simp
theorem nodup_perm {α : Type} : ∀ {a b : List α}, a.Nodup → b.Nodup → (∀ x, x ∈ a ↔ x ∈ b) → a.Perm b := by
  classical
  intro a b ha hb h
  rw [List.perm_ext_iff_of_nodup ha hb]
  exact h
theorem PastM.len {l : List Ent} {i : Nat} {m : Asc} (h : PastM l i m) (hc : Closed l) (hn : (m.map (·.1)).Nodup) (hi : i < l.length) : m.length = cnt l i := by
  have h1 : (m.map (·.1)).Perm (((List.range l.length).filter (past l i)).map fun j => (ent l j).id) := by
    refine nodup_perm hn ?_ fun s => ?_
    · have := idA_nodup hc (past l i) (fun _ => .bool true) (Nat.le_refl _)
      rw [idA_keys] at this
      exact this
    · constructor
      · intro hs
        obtain ⟨⟨s', v⟩, hm, rfl⟩ := List.mem_map.1 hs
        obtain ⟨_, j, hj, hid⟩ := (h s' v).1 hm
        have hlt := past_lt l i j hj
        exact List.mem_map.2 ⟨j, List.mem_filter.2 ⟨by simp; omega, hj⟩, hid⟩
      · intro hs
        obtain ⟨j, hj, rfl⟩ := List.mem_map.1 hs
        exact List.mem_map.2 ⟨_, (h _ _).2 ⟨rfl, j, (List.mem_filter.1 hj).2, rfl⟩, rfl⟩
  have h2 := h1.length_eq
  rw [List.length_map, List.length_map] at h2
  rw [h2]
  unfold cnt countB prow
  rw [List.filter_map, List.length_map]
  rfl
/-! ### The set -/
structure PB where
  bs : Nat
  bby : Nat
  bpast : Nat
  bgood : Nat
  pb : Nat → Nat
def setA (l : List Ent) (r : Nat) (q : PB) : Array Value := #[.string (ent l r).id, .int .i64 (ent l r).kind, .string (ent l r).author, (ent l r).pv, .string (ent l r).body, .map (some q.bby), .map (some q.bpast), .map (some q.bgood)]
/-- What an entry may hold. -/
structure Sized (l : List Ent) : Prop where
  aut : ∀ i, i < l.length → (ent l i).author.size ≤ maxLen
  body : ∀ i, i < l.length → (ent l i).body.size ≤ maxLen
  pv : ∀ i, i < l.length → ∃ A m c, (ent l i).pv = .slice A m c
structure PSet (w : World) (l : List Ent) (r : Nat) (q : PB) (G : Nat → Bool) : Prop where
  cl : Closed l
  sz : Sized l
  hr : r < l.length
  kr : (ent l r).kind = 1
  blk : w.heap[q.bs]? = some (.cells (setA l r q) 243 (0, 0))
  by_ : Sm w q.bby (idA l allT (fun i => (ent l i).val) l.length)
  past : Sm w q.bpast (idA l allT (fun i => .map (some (q.pb i))) l.length)
  rows : ∀ i, i < l.length → ∃ m, Sm w (q.pb i) m ∧ PastM l i m
  good : Sm w q.bgood (idA l G (fun _ => .bool true) l.length)
section
variable {w w1 : World} {l : List Ent} {r : Nat} {q : PB} {G : Nat → Bool}
theorem PSet.unch {X : Nat → Prop} (h : PSet w l r q G) (hu : Unch X w w1) (h1 : ¬ X q.bs) (h2 : ¬ X q.bby) (h3 : ¬ X q.bpast) (h4 : ∀ i, i < l.length → ¬ X (q.pb i)) (h5 : ¬ X q.bgood) : PSet w1 l r q G :=
  ⟨h.cl, h.sz, h.hr, h.kr, hu.heap h.blk h1, h.by_.unch hu h2, h.past.unch hu h3, fun i hi => by obtain ⟨m, a, b⟩ := h.rows i hi; exact ⟨m, a.unch hu (h4 i hi), b⟩, h.good.unch hu h5⟩
theorem PSet.fresh (h : PSet w l r q G) (hu : Unch none_ w w1) : PSet w1 l r q G := h.unch hu (fun h => h) (fun h => h) (fun h => h) (fun _ _ h => h) (fun h => h)
theorem sm_ne_cells {b k : Nat} {m : Asc} {cs : Array Value} {e : TypeId} {fr : Nat × Nat} (h : Sm w b m) (hk : w.heap[k]? = some (.cells cs e fr)) : b ≠ k := by
  rintro rfl
  obtain ⟨es, clock, h1, _⟩ := h
  rw [h1] at hk
  cases hk
/-- What was written lay in a block of cells of another type. -/
theorem PSet.other (h : PSet w l r q G) {k : Nat} {cs : Array Value} {e : TypeId} {fr : Nat × Nat} (hk : w.heap[k]? = some (.cells cs e fr)) (he : e ≠ 243) (hu : Unch (fun j => j = k) w w1) : PSet w1 l r q G :=
  h.unch hu (fun e1 => by rw [← e1, h.blk] at hk; injection hk with hk; injection hk with _ hk; exact he hk.symm) (sm_ne_cells h.by_ hk) (sm_ne_cells h.past hk) (fun i hi => by obtain ⟨m, a, _⟩ := h.rows i hi; exact sm_ne_cells a hk) (sm_ne_cells h.good hk)
theorem id_max (h : PSet w l r q G) {i : Nat} (hi : i < l.length) : (ent l i).id.size ≤ maxLen := by have := h.cl.hi i hi; unfold maxLen; omega
/-- s.past[id]: its map. -/
theorem PSet.lookPast (h : PSet w l r q G) {i : Nat} (hi : i < l.length) : (Instr.lookup 241 (.map (some q.bpast)) (.string (ent l i).id) false).run Tryz.prog w = .ok (.map (some (q.pb i))) w :=
  look_m h.past (id_max h hi) (by rw [idA_get h.cl _ _ (Nat.le_refl _) hi, if_pos ⟨hi, rfl⟩])
theorem PSet.lookRow (h : PSet w l r q G) {i j : Nat} (hi : i < l.length) (hj : j < l.length) : (Instr.lookup 148 (.map (some (q.pb i))) (.string (ent l j).id) false).run Tryz.prog w = .ok (.bool (Go.Proofs.YtgcpoppinnnciaaGreatDoor.past l i j)) w := by
  obtain ⟨m, a, b⟩ := h.rows i hi
  exact look_b a (id_max h hj) (b.getb h.cl a.one hi hj)
theorem PSet.lookBy (h : PSet w l r q G) {i : Nat} (hi : i < l.length) : (Instr.lookup 240 (.map (some q.bby)) (.string (ent l i).id) false).run Tryz.prog w = .ok (ent l i).val w :=
  look_e h.by_ (id_max h hi) (by rw [idA_get h.cl _ _ (Nat.le_refl _) hi, if_pos ⟨hi, rfl⟩])
theorem PSet.lookGood (h : PSet w l r q G) {i : Nat} (hi : i < l.length) : (Instr.lookup 148 (.map (some q.bgood)) (.string (ent l i).id) false).run Tryz.prog w = .ok (.bool (G i)) w :=
  look_b h.good (id_max h hi) (by rw [idA_get h.cl _ _ (Nat.le_refl _) hi]; cases hg : G i <;> simp [hi])
theorem PSet.lenRow (h : PSet w l r q G) {i : Nat} (hi : i < l.length) (ty : TypeId) : (Builtin.len_ #[148] ty #[.map (some (q.pb i))]).run Tryz.prog w = .ok (.int .i64 (cnt l i : Int)) w := by
  obtain ⟨m, a, b⟩ := h.rows i hi
  rw [sm_len a Tryz.underlying148 ty, b.len h.cl a.one hi]
end
/-! ### The circle -/
def circA (bs : Nat) (A : Option Addr) (m c brk bho : Nat) : Array Value := #[.pointer (some ⟨bs, 0, none⟩), .slice A m c, .map (some brk), .map (some bho)]
section
variable {w : World} {bc bs : Nat} {A : Option Addr} {m c brk bho : Nat} {fr : Nat × Nat} {e : TypeId}
theorem circ0 (h : w.heap[bc]? = some (.cells (circA bs A m c brk bho) e fr)) : w.cell? ⟨bc, 0, none⟩ = some (.pointer (some ⟨bs, 0, none⟩)) := blk_cell h rfl
theorem circ1 (h : w.heap[bc]? = some (.cells (circA bs A m c brk bho) e fr)) : w.cell? ⟨bc, 1, none⟩ = some (.slice A m c) := blk_cell h rfl
theorem circ2 (h : w.heap[bc]? = some (.cells (circA bs A m c brk bho) e fr)) : w.cell? ⟨bc, 2, none⟩ = some (.map (some brk)) := blk_cell h rfl
theorem circ3 (h : w.heap[bc]? = some (.cells (circA bs A m c brk bho) e fr)) : w.cell? ⟨bc, 3, none⟩ = some (.map (some bho)) := blk_cell h rfl
end
theorem PSet.c2 {w : World} {l : List Ent} {r : Nat} {q : PB} {G : Nat → Bool} (h : PSet w l r q G) : w.cell? ⟨q.bs, 2, none⟩ = some (.string (ent l r).author) := blk_cell h.blk rfl
theorem PSet.c5 {w : World} {l : List Ent} {r : Nat} {q : PB} {G : Nat → Bool} (h : PSet w l r q G) : w.cell? ⟨q.bs, 5, none⟩ = some (.map (some q.bby)) := blk_cell h.blk rfl
theorem PSet.c6 {w : World} {l : List Ent} {r : Nat} {q : PB} {G : Nat → Bool} (h : PSet w l r q G) : w.cell? ⟨q.bs, 6, none⟩ = some (.map (some q.bpast)) := blk_cell h.blk rfl
theorem PSet.c7 {w : World} {l : List Ent} {r : Nat} {q : PB} {G : Nat → Bool} (h : PSet w l r q G) : w.cell? ⟨q.bs, 7, none⟩ = some (.map (some q.bgood)) := blk_cell h.blk rfl
/-- The ranks that are told. -/
def rkO (s : Ms) (key : ByteArray) : Option Nat := if key = s.aut s.r then some 0 else match s.firstU key s.n with | none => none | some x => some (s.below x + 1)
theorem rk_of (s : Ms) (key : ByteArray) : s.rk key = (rkO s key).getD (s.card + 1) := by
  unfold Ms.rk rkO
  split
  · rfl
  · cases s.firstU key s.n <;> rfl
def RankM (w : World) (brk : Nat) (s : Ms) : Prop := ∃ m, Sm w brk m ∧ ∀ key, mget m key = (rkO s key).map fun x => Value.int .i64 (x : Int)
theorem RankM.fresh {w w1 : World} {brk : Nat} {s : Ms} {X : Nat → Prop} (h : RankM w brk s) (hu : Unch X w w1) (hx : ¬ X brk) : RankM w1 brk s := by
  obtain ⟨m, a, b⟩ := h
  exact ⟨m, a.unch hu hx, b⟩
set_option maxRecDepth 100000 in
theorem rank_ok {w : World} {bc bs : Nat} {A : Option Addr} {m c brk bho : Nat} {s : Ms} (hb : w.heap[bc]? = some (.cells (circA bs A m c brk bho) 257 (0, 0))) (hm : m = s.card) (hm3 : m ≤ 300) (hr : RankM w brk s) (key : ByteArray) (hk : key.size ≤ maxLen) :
    Calls Tryz.prog 219 #[.pointer (some ⟨bc, 0, none⟩), .string key] w fun e w' => e = .returned (.int .i64 (s.rk key : Int)) ∧ w = w' := by
  obtain ⟨mr, hsm, hget⟩ := hr
  have hrk := rk_of s key
  have hg := hget key
  have c1 := circ1 hb
  have c2 := circ2 hb
  clear hget hb
  cases ho : rkO s key with
  | none =>
    rw [ho] at hrk hg
    have hlk := look_i (x := .int .i64 0) (ok := false) hsm hk (by rw [hg]; rfl) (by rw [hg]; rfl)
    rw [hrk, ← hm]
    simp only [Option.getD_none]
    clear hrk hg ho hm
    go_enter Tryz.func219, Tryz.ntmps219
    go_wp2
    go_ret
    exact ⟨by go_num, rfl⟩
  | some x =>
    rw [ho] at hrk hg
    have hlk := look_i (x := .int .i64 (x : Int)) (ok := true) hsm hk (by rw [hg]; rfl) (by rw [hg]; rfl)
    rw [hrk]
    simp only [Option.getD_some]
    clear hrk hg ho hm
    go_enter Tryz.func219, Tryz.ntmps219
    go_wp2
    go_ret
    exact ⟨rfl, rfl⟩
/-- Are two beside one another? -/
def besideB (l : List Ent) (i j : Nat) : Bool := !decide (i = j) && (!past l i j && !past l j i)
set_option maxRecDepth 100000 in
theorem beside_ok {w : World} {bc : Nat} {A : Option Addr} {m c brk bho : Nat} {l : List Ent} {r : Nat} {q : PB} {G : Nat → Bool} (hb : w.heap[bc]? = some (.cells (circA q.bs A m c brk bho) 257 (0, 0))) (h : PSet w l r q G) {i j : Nat} (hi : i < l.length) (hj : j < l.length) :
    Calls Tryz.prog 221 #[.pointer (some ⟨bc, 0, none⟩), .string (ent l i).id, .string (ent l j).id] w fun e w' => e = .returned (.bool (besideB l i j)) ∧ w = w' := by
  have c0 := circ0 hb
  have s6 := h.c6
  obtain ⟨res, hres⟩ : ∃ res, besideB l i j = res := ⟨_, rfl⟩
  unfold besideB at hres
  rw [show besideB l i j = res from hres]
  by_cases hij : i = j
  · subst hij
    have hr : res = false := by rw [← hres]; simp
    subst hr
    clear hres h hb
    go_enter Tryz.func221, Tryz.ntmps221
    go_wp2
    go_ret
    exact ⟨rfl, rfl⟩
  · have hne : (ent l i).id ≠ (ent l j).id := fun e => hij (h.cl.ids i j hi hj e)
    have d1 := str_ne hne
    have d2 := str_bne hne
    have l1 := h.lookPast hi
    have l2 := h.lookPast hj
    have l3 := h.lookRow hi hj
    have l4 := h.lookRow hj hi
    rw [decide_eq_false hij, Bool.not_false, Bool.true_and] at hres
    cases hp : past l i j with
    | true =>
      rw [hp] at hres l3
      have hr : res = false := by rw [← hres]; simp
      subst hr
      clear hres h hb hij hne hp
      go_enter Tryz.func221, Tryz.ntmps221
      go_wp2
      go_ret
      exact ⟨rfl, rfl⟩
    | false =>
      rw [hp] at hres l3
      cases hp2 : past l j i with
      | true =>
        rw [hp2] at hres l4
        have hr : res = false := by rw [← hres]; simp
        subst hr
        clear hres h hb hij hne hp hp2
        go_enter Tryz.func221, Tryz.ntmps221
        go_wp2
        go_ret
        exact ⟨rfl, rfl⟩
      | false =>
        rw [hp2] at hres l4
        have hr : res = true := by rw [← hres]; simp
        subst hr
        clear hres h hb hij hne hp hp2
        go_enter Tryz.func221, Tryz.ntmps221
        go_wp2
        go_ret
        exact ⟨rfl, rfl⟩
end Go.Proofs.YtgcpoppinnnciaaGreatDoor
/- member: the closures of judge. -/
set_option linter.unusedVariables false
set_option linter.unusedSimpArgs false
namespace Go.Proofs.YtgcpoppinnnciaaGreatDoor
open Go Go.RowKit Go.Proofs.YtgcpoppinnnciaaGreatDoor.Pal Go.Proofs.YtgcpoppinnnciaaGreatDoor.Plan

def HoldM (w : World) (bho : Nat) (l : List Ent) (Hf : Nat → Option Bool) : Prop := ∃ m, Sm w bho m ∧ ∀ i, i < l.length → mget m (ent l i).id = (Hf i).map Value.bool
structure CB where
  bc : Nat
  A : Option Addr
  m : Nat
  c : Nat
  brk : Nat
  bho : Nat
structure PCir (w : World) (l : List Ent) (r : Nat) (q : PB) (G : Nat → Bool) (k : CB) (S : Nat → Bool) (Hf : Nat → Option Bool) : Prop where
  set : PSet w l r q G
  blk : w.heap[k.bc]? = some (.cells (circA q.bs k.A k.m k.c k.brk k.bho) 257 (0, 0))
  mc : k.m = (Ms.mk l r S).card
  rk : RankM w k.brk (Ms.mk l r S)
  ho : HoldM w k.bho l Hf
section
variable {w w1 : World} {l : List Ent} {r : Nat} {q : PB} {G : Nat → Bool} {k : CB} {S : Nat → Bool} {Hf : Nat → Option Bool}
theorem HoldM.unch {X : Nat → Prop} {b : Nat} (h : HoldM w b l Hf) (hu : Unch X w w1) (hx : ¬ X b) : HoldM w1 b l Hf := by
  obtain ⟨m, a, c⟩ := h
  exact ⟨m, a.unch hu hx, c⟩
theorem PCir.unch {X : Nat → Prop} (h : PCir w l r q G k S Hf) (hs : PSet w1 l r q G) (hu : Unch X w w1) (h1 : ¬ X k.bc) (h2 : ¬ X k.brk) (h3 : ¬ X k.bho) : PCir w1 l r q G k S Hf :=
  ⟨hs, hu.heap h.blk h1, h.mc, h.rk.fresh hu h2, h.ho.unch hu h3⟩
theorem PCir.fresh (h : PCir w l r q G k S Hf) (hu : Unch none_ w w1) : PCir w1 l r q G k S Hf := h.unch (h.set.fresh hu) hu (fun h => h) (fun h => h) (fun h => h)
theorem card_le (s : Ms) : s.card ≤ s.n := by
  unfold Ms.card
  have := List.length_filter_le s.inn (List.range s.n)
  simpa using this
theorem PCir.m3 (h : PCir w l r q G k S Hf) : k.m ≤ 300 := by
  have h1 := card_le (Ms.mk l r S)
  have h2 : (Ms.mk l r S).n = l.length := rfl
  have h3 := h.set.cl.len
  have h4 := h.mc
  omega
theorem PCir.rankQ (h : PCir w l r q G k S Hf) {key : ByteArray} (hk : key.size ≤ maxLen) {v : Nat} (hv : (Ms.mk l r S).rk key = v) : QC Tryz.prog 219 #[.pointer (some ⟨k.bc, 0, none⟩), .string key] (.int .i64 (v : Int)) w :=
  fun w' hu => by
    have h' := h.fresh hu
    rw [← hv]
    exact (rank_ok h'.blk h'.mc h'.m3 h'.rk key hk).mono fun e w'' ⟨h1, h2⟩ => ⟨h1, h2 ▸ Unch.refl _ _⟩
theorem compareQ (a b : Int) : QC Tryz.prog 208 #[.int .i64 a, .int .i64 b] (.int .i64 (cmpI a b)) w :=
  fun w' hu => (compareI a b).mono fun e w'' ⟨h1, h2⟩ => ⟨h1, h2 ▸ Unch.refl _ _⟩
set_option maxRecDepth 100000 in
set_option maxHeartbeats 1000000 in
theorem judge1_ok (h : PCir w l r q G k S Hf) {bx : Nat} (hx : w.cell? ⟨bx, 0, none⟩ = some (.pointer (some ⟨k.bc, 0, none⟩))) {i j : Nat} (hi : i < l.length) (hj : j < l.length) :
    Calls Tryz.prog 218 #[(ent l i).val, (ent l j).val, .pointer (some ⟨bx, 0, none⟩)] w fun e w' => e = .returned (.int .i64 (cmpI ((Ms.mk l r S).rk (ent l i).author) ((Ms.mk l r S).rk (ent l j).author))) ∧ Unch none_ w w' := by
  obtain ⟨x, hxx⟩ : ∃ x, (Ms.mk l r S).rk (ent l i).author = x := ⟨_, rfl⟩
  obtain ⟨y, hyy⟩ : ∃ y, (Ms.mk l r S).rk (ent l j).author = y := ⟨_, rfl⟩
  rw [hxx, hyy]
  have hu1 : Unch none_ w ((w.alloc (Obj.cells (ent l i).cells.toArray 114)).alloc (Obj.cells (ent l j).cells.toArray 114)) := ((Unch.refl none_ w).alloc _).alloc _
  have bA := blk_alloc (blk_new w (Obj.cells (ent l i).cells.toArray 114)) (Obj.cells (ent l j).cells.toArray 114)
  have bB := blk_new (w.alloc (Obj.cells (ent l i).cells.toArray 114)) (Obj.cells (ent l j).cells.toArray 114)
  have R1 := Lib.hid ((h.rankQ (h.set.sz.aut i hi) hxx).next hu1)
  have R2 := Lib.hid ((h.rankQ (h.set.sz.aut j hj) hyy).next hu1)
  have hx1 := hu1.cell hx (fun h => h)
  unfold Ent.cells at *
  clear hxx hyy h hx
  unfold Ent.val
  go_enter Tryz.func218, Tryz.ntmps218
  go_upto_region 1 with fail
  simp only [World.size_alloc] at bB
  generalize w.heap.size = g at *
  generalize (w.alloc _).alloc _ = w2 at *
  have f0 := cellU hx1
  have f1 := cellU (blk_cell bA (j := 2) rfl)
  have f2 := cellU (blk_cell bB (j := 2) rfl)
  clear hx1 bA bB
  refine wp_region_quiet_u (by kernel_rfl) (by kernel_rfl) (fun _ => ?_)
  repeat (go_big_quiet_step ((first | (go_at_call 219; first | (with_reducible exact R1.out.u _) | (with_reducible exact R2.out.u _)) | (go_at_call 208; with_reducible exact (compareQ _ _).u _))))
  refine wpQuiet_nil ?_
  intro wq hw'
  obtain ⟨⟨wqq, huq⟩, hw''⟩ := hw'
  subst hw''
  clear f0 f1 f2
  go_wp2
  go_ret
  exact ⟨rfl, hu1.trans huq⟩
theorem PCir.lookHold (h : PCir w l r q G k S Hf) {i : Nat} (hi : i < l.length) : (Instr.lookup 148 (.map (some k.bho)) (.string (ent l i).id) false).run Tryz.prog w = .ok (.bool ((Hf i).getD false)) w := by
  obtain ⟨m, a, b⟩ := h.ho
  exact look_b a (id_max h.set hi) (by rw [b i hi]; cases Hf i <;> rfl)
theorem PCir.besideQ (h : PCir w l r q G k S Hf) {i j : Nat} (hi : i < l.length) (hj : j < l.length) {v : Bool} (hv : besideB l i j = v) : QC Tryz.prog 221 #[.pointer (some ⟨k.bc, 0, none⟩), .string (ent l i).id, .string (ent l j).id] (.bool v) w :=
  fun w' hu => by
    have h' := h.fresh hu
    rw [← hv]
    exact (beside_ok h'.blk h'.set hi hj).mono fun e w'' ⟨h1, h2⟩ => ⟨h1, h2 ▸ Unch.refl _ _⟩
end
/-- Does what k says strike i, told by what holds so far? -/
def judgeB (l : List Ent) (r : Nat) (S : Nat → Bool) (Hf : Nat → Option Bool) (i k : Nat) : Bool :=
  decide ((ent l k).kind = 5) && (decide ((ent l k).body = (ent l i).author) && ((Hf k).getD false && (decide ((Ms.mk l r S).rk (ent l k).author < (Ms.mk l r S).rk (ent l i).author) && besideB l k i)))
section
variable {w w1 : World} {l : List Ent} {r : Nat} {q : PB} {G : Nat → Bool} {k : CB} {S : Nat → Bool} {Hf : Nat → Option Bool}
set_option maxRecDepth 100000 in
set_option maxHeartbeats 4000000 in
theorem judge2_ok (h : PCir w l r q G k S Hf) {bx ge : Nat} (hx : w.cell? ⟨bx, 0, none⟩ = some (.pointer (some ⟨k.bc, 0, none⟩))) {i j : Nat} (hi : i < l.length) (he : w.heap[ge]? = some (.cells (ent l i).cells.toArray 114 (0, 0))) (hj : j < l.length) :
    Calls Tryz.prog 220 #[(ent l j).val, .pointer (some ⟨ge, 0, none⟩), .pointer (some ⟨bx, 0, none⟩)] w fun e w' => e = .returned (.bool (judgeB l r S Hf i j)) ∧ Unch none_ w w' := by
  obtain ⟨res, hres⟩ : ∃ res, judgeB l r S Hf i j = res := ⟨_, rfl⟩
  rw [hres]
  unfold judgeB at hres
  have hu1 : Unch none_ w (w.alloc (Obj.cells (ent l j).cells.toArray 114)) := (Unch.refl none_ w).alloc _
  have bA := blk_new w (Obj.cells (ent l j).cells.toArray 114)
  have he1 := hu1.heap he (fun h => h)
  have hx1 := hu1.cell hx (fun h => h)
  have h1 := h.fresh hu1
  have HRES := Lib.hid hres
  clear hres h hx he
  unfold Ent.cells at *
  unfold Ent.val
  go_enter Tryz.func220, Tryz.ntmps220
  go_upto_region 1 with fail
  generalize w.heap.size = g at *
  generalize w.alloc _ = w2 at *
  have fx := cellU hx1
  have g0 := cellU (blk_cell bA (j := 0) rfl)
  have g1 := cellU (blk_cell bA (j := 1) rfl)
  have g2 := cellU (blk_cell bA (j := 2) rfl)
  have g4 := cellU (blk_cell bA (j := 4) rfl)
  have e0 := cellU (blk_cell he1 (j := 0) rfl)
  have e2 := cellU (blk_cell he1 (j := 2) rfl)
  have fc := cellU (circ3 h1.blk)
  have fl : ∀ G2 : UW w2, (Instr.lookup 148 (.map (some k.bho)) (.string (ent l j).id) false).run Tryz.prog G2.w' = .ok (.bool ((Hf j).getD false)) G2.w' := fun G2 => (h1.fresh G2.h).lookHold hj
  clear hx1 bA he1
  refine wp_region_quiet_u (by kernel_rfl) (by kernel_rfl) (fun _ => ?_)
  by_cases c1 : (ent l j).kind = 5
  · by_cases c2 : (ent l j).body = (ent l i).author
    · cases c3 : (Hf j).getD false with
      | true =>
        by_cases c4 : (Ms.mk l r S).rk (ent l j).author < (Ms.mk l r S).rk (ent l i).author
        · obtain ⟨x, hxx⟩ : ∃ x, (Ms.mk l r S).rk (ent l j).author = x := ⟨_, rfl⟩
          obtain ⟨y, hyy⟩ : ∃ y, (Ms.mk l r S).rk (ent l i).author = y := ⟨_, rfl⟩
          have R1 := Lib.hid (h1.rankQ (h1.set.sz.aut j hj) hxx)
          have R2 := Lib.hid (h1.rankQ (h1.set.sz.aut i hi) hyy)
          have R3 := Lib.hid (h1.besideQ hj hi rfl)
          obtain ⟨z, hz⟩ : ∃ z, besideB l j i = z := ⟨_, rfl⟩
          rw [hz] at R3
          rw [c1] at g1
          rw [c2] at g4
          simp only [c3] at fl
          have hlt : x < y := by rw [← hxx, ← hyy]; exact c4
          have zlt : decide (x < y) = true := decide_eq_true hlt
          have zlt2 : decide ((x : Int) < (y : Int)) = true := decide_eq_true (by omega)
          have HR := Lib.hid (show res = z by rw [← HRES.out]; simp [c1, c2, c3, c4, hz])
          clear c1 c2 c3 c4 hxx hyy hz h1 hlt
          repeat (go_big_quiet_step ((first | (go_at_call 219; first | (with_reducible exact R1.out.u _) | (with_reducible exact R2.out.u _)) | (go_at_call 221; with_reducible exact R3.out.u _))))
          refine wpQuiet_nil ?_
          intro wq hw'
          obtain ⟨⟨wqq, huq⟩, hw''⟩ := hw'
          subst hw''
          clear fx g0 g1 g2 g4 e0 e2 fc fl
          go_wp2
          go_ret
          exact ⟨by rw [HR.out]; rfl, hu1.trans huq⟩
        · obtain ⟨x, hxx⟩ : ∃ x, (Ms.mk l r S).rk (ent l j).author = x := ⟨_, rfl⟩
          obtain ⟨y, hyy⟩ : ∃ y, (Ms.mk l r S).rk (ent l i).author = y := ⟨_, rfl⟩
          have R1 := Lib.hid (h1.rankQ (h1.set.sz.aut j hj) hxx)
          have R2 := Lib.hid (h1.rankQ (h1.set.sz.aut i hi) hyy)
          rw [c1] at g1
          rw [c2] at g4
          simp only [c3] at fl
          have hlt : ¬ x < y := by rw [← hxx, ← hyy]; exact c4
          have zlt : decide (x < y) = false := decide_eq_false hlt
          have zlt2 : decide ((x : Int) < (y : Int)) = false := decide_eq_false (by omega)
          have HR := Lib.hid (show res = false by rw [← HRES.out]; simp [c1, c2, c3, c4])
          clear c1 c2 c3 c4 hxx hyy h1 hlt
          repeat (go_big_quiet_step ((go_at_call 219; first | (with_reducible exact R1.out.u _) | (with_reducible exact R2.out.u _))))
          refine wpQuiet_nil ?_
          intro wq hw'
          obtain ⟨⟨wqq, huq⟩, hw''⟩ := hw'
          subst hw''
          clear fx g0 g1 g2 g4 e0 e2 fc fl
          go_wp2
          go_ret
          exact ⟨by rw [HR.out]; rfl, hu1.trans huq⟩
      | false =>
        rw [c1] at g1
        rw [c2] at g4
        simp only [c3] at fl
        have HR := Lib.hid (show res = false by rw [← HRES.out]; simp [c3])
        clear c1 c2 c3 h1
        repeat (go_big_quiet_step (fail))
        refine wpQuiet_nil ?_
        intro wq hw'
        obtain ⟨⟨wqq, huq⟩, hw''⟩ := hw'
        subst hw''
        clear fx g0 g1 g2 g4 e0 e2 fc fl
        go_wp2
        go_ret
        exact ⟨by rw [HR.out]; rfl, hu1.trans huq⟩
    · rw [c1] at g1
      have d1 := str_ne c2
      have HR := Lib.hid (show res = false by rw [← HRES.out]; simp [c2])
      clear c1 c2 h1
      repeat (go_big_quiet_step (fail))
      refine wpQuiet_nil ?_
      intro wq hw'
      obtain ⟨⟨wqq, huq⟩, hw''⟩ := hw'
      subst hw''
      clear fx g0 g1 g2 g4 e0 e2 fc fl
      go_wp2
      go_ret
      exact ⟨by rw [HR.out]; rfl, hu1.trans huq⟩
  · have d1 : ((ent l j).kind == 5) = false := by simpa using c1
    have HR := Lib.hid (show res = false by rw [← HRES.out]; simp [c1])
    clear c1 h1
    repeat (go_big_quiet_step (fail))
    refine wpQuiet_nil ?_
    intro wq hw'
    obtain ⟨⟨wqq, huq⟩, hw''⟩ := hw'
    subst hw''
    clear fx g0 g1 g2 g4 e0 e2 fc fl
    go_wp2
    go_ret
    exact ⟨by rw [HR.out]; rfl, hu1.trans huq⟩
end
end Go.Proofs.YtgcpoppinnnciaaGreatDoor
/- member: the closures of member, and member. -/
set_option linter.unusedVariables false
set_option linter.unusedSimpArgs false
namespace Go.Proofs.YtgcpoppinnnciaaGreatDoor
open Go Go.RowKit Go.Proofs.YtgcpoppinnnciaaGreatDoor.Pal Go.Proofs.YtgcpoppinnnciaaGreatDoor.Plan

def leaveB (l : List Ent) (Hf : Nat → Option Bool) (key : ByteArray) (i j : Nat) : Bool := decide ((ent l j).kind = 5) && (decide ((ent l j).body = key) && ((Hf j).getD false && !past l i j))
def foundB (l : List Ent) (key : ByteArray) (i : Nat) : Bool := decide ((ent l i).kind = 1) && decide ((ent l i).author = key)
def mayB (l : List Ent) (Hf : Nat → Option Bool) (key : ByteArray) (i : Nat) : Bool := foundB l key i || (decide ((ent l i).kind = 4) && (decide ((ent l i).body = key) && (Hf i).getD false))
def inB (l : List Ent) (Hf : Nat → Option Bool) (L : List Nat) (key : ByteArray) (i : Nat) : Bool := mayB l Hf key i && !(List.range L.length).any fun t => leaveB l Hf key i (L.getD t 0)
section
variable {w w1 : World} {l : List Ent} {r : Nat} {q : PB} {G : Nat → Bool} {k : CB} {S : Nat → Bool} {Hf : Nat → Option Bool}
set_option maxRecDepth 100000 in
set_option maxHeartbeats 4000000 in
theorem member11_ok (h : PCir w l r q G k S Hf) {bx kb gx : Nat} {key : ByteArray} (hx : w.cell? ⟨bx, 0, none⟩ = some (.pointer (some ⟨k.bc, 0, none⟩))) (hk : w.cell? ⟨kb, 0, none⟩ = some (.string key)) {i j : Nat} (hi : i < l.length) (he : w.heap[gx]? = some (.cells (ent l i).cells.toArray 114 (0, 0))) (hj : j < l.length) :
    Calls Tryz.prog 213 #[(ent l j).val, .pointer (some ⟨kb, 0, none⟩), .pointer (some ⟨bx, 0, none⟩), .pointer (some ⟨gx, 0, none⟩)] w fun e w' => e = .returned (.bool (leaveB l Hf key i j)) ∧ Unch none_ w w' := by
  obtain ⟨res, hres⟩ : ∃ res, leaveB l Hf key i j = res := ⟨_, rfl⟩
  rw [hres]
  unfold leaveB at hres
  have hu1 : Unch none_ w (w.alloc (Obj.cells (ent l j).cells.toArray 114)) := (Unch.refl none_ w).alloc _
  have bA := blk_new w (Obj.cells (ent l j).cells.toArray 114)
  have he1 := hu1.heap he (fun h => h)
  have hx1 := hu1.cell hx (fun h => h)
  have hk1 := hu1.cell hk (fun h => h)
  have h1 := h.fresh hu1
  have HRES := Lib.hid hres
  clear hres h hx he hk
  unfold Ent.cells at *
  unfold Ent.val
  go_enter Tryz.func213, Tryz.ntmps213
  go_upto_region 1 with fail
  generalize w.heap.size = g at *
  generalize w.alloc _ = w2 at *
  have fx := cellU hx1
  have fk := cellU hk1
  have g0 := cellU (blk_cell bA (j := 0) rfl)
  have g1 := cellU (blk_cell bA (j := 1) rfl)
  have g4 := cellU (blk_cell bA (j := 4) rfl)
  have e0 := cellU (blk_cell he1 (j := 0) rfl)
  have fc := cellU (circ3 h1.blk)
  have fs := cellU (circ0 h1.blk)
  have fp := cellU h1.set.c6
  have fl : ∀ G2 : UW w2, (Instr.lookup 148 (.map (some k.bho)) (.string (ent l j).id) false).run Tryz.prog G2.w' = .ok (.bool ((Hf j).getD false)) G2.w' := fun G2 => (h1.fresh G2.h).lookHold hj
  have fm : ∀ G2 : UW w2, (Instr.lookup 241 (.map (some q.bpast)) (.string (ent l i).id) false).run Tryz.prog G2.w' = .ok (.map (some (q.pb i))) G2.w' := fun G2 => (h1.set.fresh G2.h).lookPast hi
  have fr : ∀ G2 : UW w2, (Instr.lookup 148 (.map (some (q.pb i))) (.string (ent l j).id) false).run Tryz.prog G2.w' = .ok (.bool (past l i j)) G2.w' := fun G2 => (h1.set.fresh G2.h).lookRow hi hj
  clear hx1 bA he1 hk1 h1
  refine wp_region_quiet_u (by kernel_rfl) (by kernel_rfl) (fun _ => ?_)
  by_cases c1 : (ent l j).kind = 5
  · by_cases c2 : (ent l j).body = key
    · cases c3 : (Hf j).getD false with
      | true =>
        rw [c1] at g1
        rw [c2] at g4
        simp only [c3] at fl
        obtain ⟨z, hz⟩ : ∃ z, past l i j = z := ⟨_, rfl⟩
        simp only [hz] at fr
        have HR := Lib.hid (show res = !z by rw [← HRES.out]; simp [c1, c2, c3, hz])
        clear c1 c2 c3 hz
        repeat (go_big_quiet_step (fail))
        refine wpQuiet_nil ?_
        intro wq hw'
        obtain ⟨⟨wqq, huq⟩, hw''⟩ := hw'
        subst hw''
        clear fx fk g0 g1 g4 e0 fc fl fs fp fm fr
        go_wp2
        go_ret
        exact ⟨by rw [HR.out]; rfl, hu1.trans huq⟩
      | false =>
        rw [c1] at g1
        rw [c2] at g4
        simp only [c3] at fl
        have HR := Lib.hid (show res = false by rw [← HRES.out]; simp [c3])
        clear c1 c2 c3
        repeat (go_big_quiet_step (fail))
        refine wpQuiet_nil ?_
        intro wq hw'
        obtain ⟨⟨wqq, huq⟩, hw''⟩ := hw'
        subst hw''
        clear fx fk g0 g1 g4 e0 fc fl fs fp fm fr
        go_wp2
        go_ret
        exact ⟨by rw [HR.out]; rfl, hu1.trans huq⟩
    · rw [c1] at g1
      have d1 := str_ne c2
      have HR := Lib.hid (show res = false by rw [← HRES.out]; simp [c2])
      clear c1 c2
      repeat (go_big_quiet_step (fail))
      refine wpQuiet_nil ?_
      intro wq hw'
      obtain ⟨⟨wqq, huq⟩, hw''⟩ := hw'
      subst hw''
      clear fx fk g0 g1 g4 e0 fc fl fs fp fm fr
      go_wp2
      go_ret
      exact ⟨by rw [HR.out]; rfl, hu1.trans huq⟩
  · have d1 : ((ent l j).kind == 5) = false := by simpa using c1
    have HR := Lib.hid (show res = false by rw [← HRES.out]; simp [c1])
    clear c1
    repeat (go_big_quiet_step (fail))
    refine wpQuiet_nil ?_
    intro wq hw'
    obtain ⟨⟨wqq, huq⟩, hw''⟩ := hw'
    subst hw''
    clear fx fk g0 g1 g4 e0 fc fl fs fp fm fr
    go_wp2
    go_ret
    exact ⟨by rw [HR.out]; rfl, hu1.trans huq⟩
theorem ent_map {l : List Ent} {L : List Nat} {t : Nat} (ht : t < L.length) : ent (L.map (ent l)) t = ent l (L.getD t 0) := by
  apply ent_of
  rw [List.getElem?_map, List.getElem?_eq_getElem ht, List.getD_eq_getElem?_getD, List.getElem?_eq_getElem ht]
  rfl
theorem getD_mem {L : List Nat} {t : Nat} (ht : t < L.length) : L.getD t 0 ∈ L := by
  rw [List.getD_eq_getElem?_getD, List.getElem?_eq_getElem ht]
  exact List.getElem_mem ht
set_option maxRecDepth 100000 in
set_option maxHeartbeats 4000000 in
theorem member1_ok (h : PCir w l r q G k S Hf) {L : List Nat} (hL : ∀ j ∈ L, j < l.length) (hrd : RdS w 5 EntR k.A k.m (L.map (ent l))) {bx kb : Nat} {key : ByteArray} (hx : w.cell? ⟨bx, 0, none⟩ = some (.pointer (some ⟨k.bc, 0, none⟩))) (hk : w.cell? ⟨kb, 0, none⟩ = some (.string key)) {i : Nat} (hi : i < l.length) :
    Calls Tryz.prog 211 #[(ent l i).val, .pointer (some ⟨kb, 0, none⟩), .pointer (some ⟨bx, 0, none⟩)] w fun e w' => e = .returned (.bool (inB l Hf L key i)) ∧ Unch none_ w w' := by
  have hmL : L.length = k.m := by have := hrd.len; simpa using this
  have hcont : ∀ w3 g, Unch none_ w w3 → w3.heap[g]? = some (.cells (ent l i).cells.toArray 114 (0, 0)) → Calls Tryz.prog 212 #[.slice k.A k.m k.c, .func (.func 213) #[] #[.pointer (some ⟨kb, 0, none⟩), .pointer (some ⟨bx, 0, none⟩), .pointer (some ⟨g, 0, none⟩)]] w3 fun e w' => e = .returned (.bool ((List.range L.length).any fun t => leaveB l Hf key i (L.getD t 0))) ∧ Unch none_ w3 w' := fun w3 g hu hb => by
    have := containsFunc_ok (c := k.c) (w := w3) (RdS.fresh hrd hu) (g := 213) (lb := #[.pointer (some ⟨kb, 0, none⟩), .pointer (some ⟨bx, 0, none⟩), .pointer (some ⟨g, 0, none⟩)]) (enters_of Tryz.func213 (by kernel_rfl) rfl) (p := fun t => leaveB l Hf key i (L.getD t 0)) (fun W hW t ht => by
      have ht' : t < L.length := by simpa using ht
      rw [ent_map ht']
      exact member11_ok ((h.fresh hu).fresh hW) ((hu.trans hW).cell hx (fun h => h)) ((hu.trans hW).cell hk (fun h => h)) hi (hW.heap hb (fun h => h)) (hL _ (getD_mem ht')))
    rw [hmL]
    exact this
  have HC := Lib.hid hcont
  obtain ⟨res, hres⟩ : ∃ res, inB l Hf L key i = res := ⟨_, rfl⟩
  rw [hres]
  unfold inB mayB foundB at hres
  obtain ⟨an, han⟩ : ∃ an, (List.range L.length).any (fun t => leaveB l Hf key i (L.getD t 0)) = an := ⟨_, rfl⟩
  rw [han] at hres HC
  have hu1 : Unch none_ w (w.alloc (Obj.cells (ent l i).cells.toArray 114)) := (Unch.refl none_ w).alloc _
  have bA := blk_new w (Obj.cells (ent l i).cells.toArray 114)
  have hx1 := hu1.cell hx (fun h => h)
  have hk1 := hu1.cell hk (fun h => h)
  have h1 := h.fresh hu1
  have HRES := Lib.hid hres
  clear hres h hx hk hcont han hmL
  unfold Ent.cells at *
  unfold Ent.val
  go_enter Tryz.func211, Tryz.ntmps211
  go_upto_region 1 with fail
  generalize hg : w.heap.size = g at *
  generalize w.alloc _ = w2 at *
  clear hg
  have y1 := blk_cell bA (j := 1) rfl
  have y2 := blk_cell bA (j := 2) rfl
  have z0 := circ0 h1.blk
  go_cut [5] from 6 to 14 (fun v5 wx => v5 = .bool (foundB l key i) ∧ w2 = wx)
  case first =>
    obtain ⟨fB, hfB⟩ : ∃ fB, foundB l key i = fB := ⟨_, rfl⟩
    have HF := Lib.hid hfB
    unfold foundB at hfB
    by_cases c1 : (ent l i).kind = 1
    · rw [c1] at y1
      rw [decide_eq_true c1, Bool.true_and] at hfB
      by_cases c2 : (ent l i).author = key
      · rw [c2] at y2
        rw [decide_eq_true c2] at hfB
        subst hfB
        clear c1 c2
        go_wp2
        go_meet
        exact ⟨by rw [HF.out], rfl⟩
      · have d1 := str_ne c2
        rw [decide_eq_false c2] at hfB
        subst hfB
        clear c1 c2
        go_wp2
        go_meet
        exact ⟨by rw [HF.out], rfl⟩
    · have d1 : ((ent l i).kind == 1) = false := by simpa using c1
      rw [decide_eq_false c1, Bool.false_and] at hfB
      subst hfB
      clear c1
      go_wp2
      go_meet
      exact ⟨by rw [HF.out], rfl⟩
  case rest =>
    obtain ⟨rfl, rfl⟩ := hcut
    clear y1 y2 z0
    go_upto_region 2 with fail
    have fx := cellU hx1
    have fk := cellU hk1
    have g0 := cellU (blk_cell bA (j := 0) rfl)
    have g1 := cellU (blk_cell bA (j := 1) rfl)
    have g4 := cellU (blk_cell bA (j := 4) rfl)
    have fc := cellU (circ3 h1.blk)
    have fl : ∀ G2 : UW w2, (Instr.lookup 148 (.map (some k.bho)) (.string (ent l i).id) false).run Tryz.prog G2.w' = .ok (.bool ((Hf i).getD false)) G2.w' := fun G2 => (h1.fresh G2.h).lookHold hi
    refine wp_region_quiet_u (by kernel_rfl) (by kernel_rfl) (fun _ => ?_)
    cases c0 : foundB l key i with
    | true =>
      have c0' := c0
      unfold foundB at c0'
      have HR := Lib.hid (show res = !an by rw [← HRES.out]; simp [c0'])
      clear c0 c0'
      repeat (go_big_quiet_step (fail))
      refine wpQuiet_nil ?_
      intro wq hw'
      obtain ⟨⟨wqq, huq⟩, hw''⟩ := hw'
      subst hw''
      clear fx fk g0 g1 g4 fc fl
      have hc := HC.out wq g (hu1.trans huq) (huq.heap bA (fun h => h))
      have z1 := (huq.cell hx1 (fun h => h))
      have z2 := (huq.cell (circ1 h1.blk) (fun h => h))
      have HC2 := Lib.hid hc
      clear hc
      go_wp2_with fail
      refine HC2.out.mono ?_
      rintro e w5 ⟨rfl, hu5⟩
      go_wp2
      go_ret
      exact ⟨by rw [HR.out]; rfl, (hu1.trans huq).trans hu5⟩
    | false =>
      have c0' := c0
      unfold foundB at c0'
      by_cases c1 : (ent l i).kind = 4
      · rw [c1] at g1
        by_cases c2 : (ent l i).body = key
        · rw [c2] at g4
          cases c3 : (Hf i).getD false with
          | true =>
            simp only [c3] at fl
            have HR := Lib.hid (show res = !an by rw [← HRES.out]; simp [c1, c2, c3])
            clear c0 c0' c1 c2 c3
            repeat (go_big_quiet_step (fail))
            refine wpQuiet_nil ?_
            intro wq hw'
            obtain ⟨⟨wqq, huq⟩, hw''⟩ := hw'
            subst hw''
            clear fx fk g0 g1 g4 fc fl
            have hc := HC.out wq g (hu1.trans huq) (huq.heap bA (fun h => h))
            have z1 := (huq.cell hx1 (fun h => h))
            have z2 := (huq.cell (circ1 h1.blk) (fun h => h))
            have HC2 := Lib.hid hc
            clear hc
            go_wp2_with fail
            refine HC2.out.mono ?_
            rintro e w5 ⟨rfl, hu5⟩
            go_wp2
            go_ret
            exact ⟨by rw [HR.out]; rfl, (hu1.trans huq).trans hu5⟩
          | false =>
            simp only [c3] at fl
            have HR := Lib.hid (show res = false by rw [← HRES.out]; simp [c0', c1, c3])
            clear c0 c0' c1 c2 c3
            repeat (go_big_quiet_step (fail))
            refine wpQuiet_nil ?_
            intro wq hw'
            obtain ⟨⟨wqq, huq⟩, hw''⟩ := hw'
            subst hw''
            clear fx fk g0 g1 g4 fc fl
            go_wp2
            go_ret
            exact ⟨by rw [HR.out]; rfl, hu1.trans huq⟩
        · have d1 := str_ne c2
          have d2 := str_bne c2
          have HR := Lib.hid (show res = false by rw [← HRES.out]; simp [c0', c1, c2])
          clear c0 c0' c1 c2
          repeat (go_big_quiet_step (fail))
          refine wpQuiet_nil ?_
          intro wq hw'
          obtain ⟨⟨wqq, huq⟩, hw''⟩ := hw'
          subst hw''
          clear fx fk g0 g1 g4 fc fl
          go_wp2
          go_ret
          exact ⟨by rw [HR.out]; rfl, hu1.trans huq⟩
      · have d1 : ((ent l i).kind == 4) = false := by simpa using c1
        have d2 := int_bne c1
        have HR := Lib.hid (show res = false by rw [← HRES.out]; simp [c0', c1])
        clear c0 c0' c1
        repeat (go_big_quiet_step (fail))
        refine wpQuiet_nil ?_
        intro wq hw'
        obtain ⟨⟨wqq, huq⟩, hw''⟩ := hw'
        subst hw''
        clear fx fk g0 g1 g4 fc fl
        go_wp2
        go_ret
        exact ⟨by rw [HR.out]; rfl, hu1.trans huq⟩
end
end Go.Proofs.YtgcpoppinnnciaaGreatDoor
