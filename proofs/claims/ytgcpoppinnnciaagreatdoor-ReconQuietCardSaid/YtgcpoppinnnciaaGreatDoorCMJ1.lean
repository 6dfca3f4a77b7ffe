/-
  member.judge: the plain part: what holds, by ranks from the lowest on.
  member.judge: the walk.
  member.among: the plain part: the ranks.
  member.among: its first loop's state.
-/
import Derived.Test.YtgcpoppinnnciaaGreatDoorCMS8
/- member.judge: the plain part: what holds, by ranks from the lowest on. -/
set_option linter.unusedVariables false
set_option linter.unusedSimpArgs false
namespace Go.Proofs.YtgcpoppinnnciaaGreatDoor
open Go Go.RowKit Go.Proofs.YtgcpoppinnnciaaGreatDoor.Pal Go.Proofs.YtgcpoppinnnciaaGreatDoor.Plan

theorem perm_map_ex {α β : Type} (f : α → β) {ys zs : List β} (h : ys.Perm zs) : ∀ L : List α, zs = L.map f → ∃ L' : List α, L'.Perm L ∧ ys = L'.map f := by
  induction h with
  | nil => intro L hL; exact ⟨L, List.Perm.refl _, hL⟩
  | cons x h ih =>
    intro L hL
    cases L with
    | nil => cases hL
    | cons a L =>
      injection hL with h1 h2
      obtain ⟨L', p1, p2⟩ := ih L h2
      exact ⟨a :: L', p1.cons a, by rw [List.map_cons, h1, p2]⟩
  | swap x y l =>
    intro L hL
    cases L with
    | nil => cases hL
    | cons a L =>
      cases L with
      | nil => injection hL with _ h2; cases h2
      | cons b L =>
        injection hL with h1 h2
        injection h2 with h2 h3
        exact ⟨b :: a :: L, List.Perm.swap a b L, by rw [List.map_cons, List.map_cons, h1, h2, h3]⟩
  | trans h1 h2 ih1 ih2 =>
    intro L hL
    obtain ⟨L1, p1, p2⟩ := ih2 L hL
    obtain ⟨L2, p3, p4⟩ := ih1 L1 p2
    exact ⟨L2, p3.trans p1, p4⟩
/-- L tells the places of S. -/
structure Tells (l : List Ent) (S : Nat → Bool) (L : List Nat) : Prop where
  nd : L.Nodup
  mem : ∀ i, i ∈ L ↔ i < l.length ∧ S i = true
theorem Tells.perm {l : List Ent} {S : Nat → Bool} {L L' : List Nat} (h : Tells l S L) (hp : L'.Perm L) : Tells l S L' := ⟨hp.nodup_iff.2 h.nd, fun i => by rw [hp.mem_iff]; exact h.mem i⟩
theorem Tells.card {l : List Ent} {r : Nat} {S : Nat → Bool} {L : List Nat} (h : Tells l S L) : L.length = (Ms.mk l r S).card := by
  have : L.Perm ((List.range l.length).filter S) := by
    refine nodup_perm h.nd (List.Nodup.sublist List.filter_sublist List.nodup_range) fun i => ?_
    rw [h.mem, List.mem_filter]
    simp
  rw [this.length_eq]
  rfl
/-- What is known of holding, when the first k of L have been judged. -/
def heldBy (l : List Ent) (r : Nat) (S : Nat → Bool) (L : List Nat) (k : Nat) (i : Nat) : Option Bool := if i ∈ L.take k then some ((Ms.mk l r S).holds i) else none
theorem judge_holds {l : List Ent} {r : Nat} {S : Nat → Bool} {L : List Nat} (hO : (Ms.mk l r S).Ok) (hT : Tells l S L) (hs : L.Pairwise fun i j => (Ms.mk l r S).rk (ent l i).author ≤ (Ms.mk l r S).rk (ent l j).author) {k : Nat} (hk : k < L.length) {i : Nat} (hi : L[k]? = some i) :
    (!(List.range L.length).any fun t => judgeB l r S (heldBy l r S L k) i (L.getD t 0)) = (Ms.mk l r S).holds i := by
  rw [hO.holds_eq]
  congr 1
  rw [Bool.eq_iff_iff, List.any_eq_true, List.any_eq_true]
  constructor
  · rintro ⟨t, ht, hj⟩
    have ht : t < L.length := by simpa using ht
    have hm := getD_mem ht
    generalize L.getD t 0 = j at hj hm
    unfold judgeB heldBy at hj
    simp only [Bool.and_eq_true, decide_eq_true_eq] at hj
    obtain ⟨h1, h2, h3, h4, h5⟩ := hj
    obtain ⟨hjl, hjS⟩ := (hT.mem j).1 hm
    have hh : (Ms.mk l r S).holds j = true := by
      split at h3
      · simpa using h3
      · simp at h3
    refine ⟨j, by simpa [Ms.n] using hjl, ?_⟩
    unfold besideB at h5
    simp only [Bool.and_eq_true, Bool.not_eq_true', decide_eq_false_iff_not] at h5
    have hlow : (Ms.mk l r S).lower (ent l j).author (ent l i).author = true := by rw [hO.lower_rk]; exact decide_eq_true h4
    have hst : (Ms.mk l r S).strikes j i = true := by
      unfold Ms.strikes
      simp only [Bool.and_eq_true, Bool.not_eq_true', decide_eq_false_iff_not, decide_eq_true_eq]
      exact ⟨h5.1, hjS, h1, h2, h5.2.2, h5.2.1, hlow⟩
    rw [hst, hh]; rfl
  · rintro ⟨j, hj, hs2⟩
    simp only [Bool.and_eq_true] at hs2
    obtain ⟨hst, hh⟩ := hs2
    have hrk := hO.strikes_rk hst
    unfold Ms.strikes at hst
    simp only [Bool.and_eq_true, Bool.not_eq_true', decide_eq_false_iff_not, decide_eq_true_eq] at hst
    obtain ⟨h1, h2, h3, h4, h5, h6, h7⟩ := hst
    have hjl : j < l.length := by simpa [Ms.n] using hj
    have hm := (hT.mem j).2 ⟨hjl, h2⟩
    obtain ⟨t, ht⟩ := List.mem_iff_getElem?.1 hm
    have htl := (List.getElem?_eq_some_iff.1 ht).1
    have htk : t < k := by
      rcases Nat.lt_or_ge t k with h | h
      · exact h
      · exfalso
        have hle : (Ms.mk l r S).rk (ent l i).author ≤ (Ms.mk l r S).rk (ent l j).author := by
          rcases Nat.lt_or_ge k t with h8 | h8
          · have := List.pairwise_iff_getElem.1 hs k t hk htl h8
            rw [(List.getElem?_eq_some_iff.1 ht).2, (List.getElem?_eq_some_iff.1 hi).2] at this
            exact this
          · obtain rfl : k = t := by omega
            rw [hi] at ht
            obtain rfl := Option.some.inj ht
            exact Nat.le_refl _
        have hrk' : (Ms.mk l r S).rk (ent l j).author < (Ms.mk l r S).rk (ent l i).author := hrk
        omega
    refine ⟨t, by simpa using htl, ?_⟩
    have hg : L.getD t 0 = j := by rw [List.getD_eq_getElem?_getD, ht]; rfl
    rw [hg]
    unfold judgeB heldBy
    have hin : j ∈ L.take k := List.mem_iff_getElem?.2 ⟨t, by rw [List.getElem?_take, if_pos htk]; exact ht⟩
    rw [if_pos hin]
    simp only [Bool.and_eq_true, decide_eq_true_eq, Option.getD_some]
    refine ⟨h3, h4, hh, hrk, ?_⟩
    unfold besideB
    simp only [Bool.and_eq_true, Bool.not_eq_true', decide_eq_false_iff_not]
    exact ⟨h1, h6, h5⟩
theorem heldBy_succ {l : List Ent} {r : Nat} {S : Nat → Bool} {L : List Nat} {k i : Nat} (hi : L[k]? = some i) (j : Nat) : heldBy l r S L (k + 1) j = if j = i then some ((Ms.mk l r S).holds i) else heldBy l r S L k j := by
  unfold heldBy
  rw [List.take_add_one, hi]
  simp only [Option.toList_some, List.mem_append, List.mem_singleton]
  by_cases h : j = i
  · subst h; simp
  · simp [h]
section
variable {w w1 : World} {l : List Ent} {r : Nat} {q : PB} {G : Nat → Bool} {k : CB} {S : Nat → Bool} {Hf : Nat → Option Bool}
theorem HoldM.put {b : Nat} (hc : Closed l) (h : HoldM w b l Hf) {i : Nat} (hi : i < l.length) (x : Bool) (hw : ∀ m, Sm w b m → Sm w1 b (mput m (ent l i).id (.bool x))) : HoldM w1 b l (fun j => if j = i then some x else Hf j) := by
  obtain ⟨m, a, c⟩ := h
  refine ⟨_, hw m a, fun j hj => ?_⟩
  rw [mget_mput]
  by_cases e : j = i
  · subst e; simp
  · have : ¬ (ent l j).id = (ent l i).id := fun e2 => e (hc.ids j i hj hi e2)
    rw [if_neg this]
    simp only [if_neg e]
    exact c j hj
theorem PCir.other (h : PCir w l r q G k S Hf) {b : Nat} {cs : Array Value} {e : TypeId} {fr : Nat × Nat} (hb : w.heap[b]? = some (.cells cs e fr)) (he : e ≠ 243) (he2 : e ≠ 257) (hu : Unch (fun j => j = b) w w1) : PCir w1 l r q G k S Hf := by
  refine h.unch (h.set.other hb he hu) hu (fun e1 => ?_) (fun e1 => ?_) (fun e1 => ?_)
  · rw [← e1, h.blk] at hb; injection hb with hb; injection hb with _ hb; exact he2 hb.symm
  · obtain ⟨m, a, _⟩ := h.rk; exact sm_ne_cells a hb e1
  · obtain ⟨m, a, _⟩ := h.ho; exact sm_ne_cells a hb e1
end
end Go.Proofs.YtgcpoppinnnciaaGreatDoor
/- member.judge: the walk. -/
set_option linter.unusedVariables false
set_option linter.unusedSimpArgs false
namespace Go.Proofs.YtgcpoppinnnciaaGreatDoor
open Go Go.RowKit Go.Proofs.YtgcpoppinnnciaaGreatDoor.Pal Go.Proofs.YtgcpoppinnnciaaGreatDoor.Plan

/-- The map of what holds lies apart from the others. -/
structure Apart (l : List Ent) (q : PB) (k : CB) : Prop where
  by_ : q.bby ≠ k.bho
  past : q.bpast ≠ k.bho
  rows : ∀ i, i < l.length → q.pb i ≠ k.bho
  good : q.bgood ≠ k.bho
  rk : k.brk ≠ k.bho
section
variable {w w1 : World} {l : List Ent} {r : Nat} {q : PB} {G : Nat → Bool} {k : CB} {S : Nat → Bool} {Hf Hf' : Nat → Option Bool}
theorem PCir.hold (h : PCir w l r q G k S Hf) (ha : Apart l q k) (hu : Unch (fun j => j = k.bho) w w1) (hh : HoldM w1 k.bho l Hf') : PCir w1 l r q G k S Hf' := by
  obtain ⟨m, hm, _⟩ := h.ho
  have n1 : q.bs ≠ k.bho := fun e => sm_ne_cells hm h.set.blk e.symm
  have n2 : k.bc ≠ k.bho := fun e => sm_ne_cells hm h.blk e.symm
  exact ⟨h.set.unch hu n1 ha.by_ ha.past ha.rows ha.good, hu.heap h.blk n2, h.mc, h.rk.fresh hu ha.rk, hh⟩
theorem sr_rds {w : World} {blk off n c : Nat} {xs : List Ent} (h : SR w blk off n c xs) : RdS w 5 EntR (some ⟨blk, off, none⟩) n xs := by
  refine ⟨h.len, h.max, fun hn => ?_⟩
  obtain ⟨cur, hb⟩ := h.blk (k := blk) rfl
  refine ⟨blk, off, rfl, lt_of_heap hb, fun i x hx => ⟨x.cells, rfl, rfl, fun j u hj => ?_⟩⟩
  have := Row.at h rfl (ecells_get xs i j x u hx hj)
  rw [← Nat.add_assoc] at this
  exact this
def holdAll (l : List Ent) (r : Nat) (S : Nat → Bool) (i : Nat) : Option Bool := if S i = true then some ((Ms.mk l r S).holds i) else none
set_option maxRecDepth 100000 in
set_option maxHeartbeats 4000000 in
theorem judge_ok (h : PCir w l r q G k S (fun _ => none)) (ha : Apart l q k) (hO : (Ms.mk l r S).Ok) {L : List Nat} (hT : Tells l S L) (hne : 0 < L.length) (hrd : RdS w 5 EntR k.A k.m (L.map (ent l))) :
    Calls Tryz.prog 210 #[.pointer (some ⟨k.bc, 0, none⟩)] w fun e w' => e = .returned (.tuple #[]) ∧ HoldM w' k.bho l (holdAll l r S) ∧ Unch (fun j => j = k.bho) w w' := by
  have hmL : L.length = k.m := by have := hrd.len; simpa using this
  have hm3 := h.m3
  have hLl : ∀ j ∈ L, j < l.length := fun j hj => ((hT.mem j).1 hj).1
  have hone : OneC (L.map (ent l)) := fun e he => by
    obtain ⟨i, hi, rfl⟩ := List.mem_map.1 he
    obtain ⟨A, m, c, hp⟩ := h.set.sz.pv i (hLl i hi)
    rw [hp]; rfl
  have hu1 : Unch none_ w (w.alloc (Obj.cells #[.pointer (some ⟨k.bc, 0, none⟩)] 254)) := (Unch.refl none_ w).alloc _
  have bx := blk_new w (Obj.cells #[.pointer (some ⟨k.bc, 0, none⟩)] 254)
  have h1 := h.fresh hu1
  have hrd1 := RdS.fresh hrd hu1
  obtain ⟨b0, o0, hA0, _⟩ := hrd1.get (by omega)
  have hcl := clone_ok (c := k.c) (A := ⟨b0, o0, none⟩) (by rw [hA0] at hrd1; exact hrd1) hm3 hone
  have c1 := circ1 h1.blk
  rw [hA0] at c1
  have HCL := Lib.hid hcl
  have HT := Lib.hid hT
  have HO := Lib.hid hO
  have HLL := Lib.hid hLl
  have HML := Lib.hid hmL
  clear hcl hT hO hLl hmL hone hrd hrd1 hA0 h
  have hgb : w.heap.size ≤ w.heap.size := Nat.le_refl _
  go_enter Tryz.func210, Tryz.ntmps210
  go_wp2_with fail
  generalize hgg : w.heap.size = gx at *
  have Hgg := Lib.hid hgg
  clear hgg
  generalize w.alloc _ = w1 at *
  refine HCL.out.mono ?_
  rintro e w2 ⟨v, rfl, hrow, hown, hu2⟩
  obtain ⟨blk, off, cap, cur, hv, hblk, _⟩ := hrow.form (by have := HML.out; omega)
  subst hv
  have hnb := hown blk rfl
  have h2 := h1.fresh hu2
  have bx2 := hu2.heap bx (fun h => h)
  have hlt1 := lt_of_heap bx
  have hxne : gx ≠ blk := by omega
  have hck : CmpK 218 #[.pointer (some ⟨gx, 0, none⟩)] (fun e => (Ms.mk l r S).rk e.author) (fun x => ∃ i, i < l.length ∧ x = ent l i) blk w2 := ⟨enters_of Tryz.func218 (by kernel_rfl) rfl, fun x ⟨i, hi, hx⟩ => by rw [hx]; exact h2.set.sz.pv i hi, fun W hW x y ⟨i, hi, hx⟩ ⟨j, hj, hy⟩ => by
    subst hx; subst hy
    exact judge1_ok (h2.other hblk (by decide) (by decide) hW) (blk_cell (hW.heap bx2 hxne) (j := 0) rfl) hi hj⟩
  have hss := sortStable_ok hrow hm3 hck (fun x hx => by
    obtain ⟨i, hi, rfl⟩ := List.mem_map.1 hx
    exact ⟨i, HLL.out i hi, rfl⟩)
  have HSS := Lib.hid hss
  have H2 := Lib.hid h2
  have HU2 := Lib.hid hu2
  have HBLK := Lib.hid hblk
  clear hss hck c1 bx h1 hblk hrow hown h2 hu2
  go_wp2_with fail
  refine HSS.out.mono ?_
  rintro e w3 ⟨rfl, ys, hp, hs, hr3, hu3⟩
  obtain ⟨L', hpL, rfl⟩ := perm_map_ex (ent l) hp L rfl
  have hT' := HT.out.perm hpL
  have hsL : L'.Pairwise fun i j => (Ms.mk l r S).rk (ent l i).author ≤ (Ms.mk l r S).rk (ent l j).author := by
    unfold Srt at hs
    rw [List.pairwise_map] at hs
    exact hs
  have hlen' : L'.length = k.m := by rw [hpL.length_eq]; exact HML.out
  have h3 := H2.out.other HBLK.out (by decide) (by decide) hu3
  have bx3 := hu3.heap bx2 hxne
  have HS3 : Hid (HoldM w3 k.bho l (heldBy l r S L' 0)) := by
    obtain ⟨m, a, c⟩ := h3.ho
    refine ⟨m, a, fun i hi => ?_⟩
    rw [c i hi]
    unfold heldBy
    simp
  have H3 := Lib.hid h3
  have HR3 := Lib.hid hr3
  have HT' := Lib.hid hT'
  have HSL := Lib.hid hsL
  have HLEN' := Lib.hid hlen'
  have HBX3 := Lib.hid bx3
  have hoth : Unch (fun j => j = k.bho) w w3 := ((hu1.trans HU2.out).mono (fun _ _ h => h.elim)).step hu3 (fun i hi e => by have := hu1.size; omega)
  have HOTH := Lib.hid hoth
  obtain ⟨m, hm⟩ : ∃ m, k.m = m := ⟨_, rfl⟩
  rw [hm] at HR3 HLEN' hm3 ⊢
  have HM := Lib.hid hm
  clear hp hs hr3 hu3 hT' hsL hlen' h3 bx3 bx2 hoth hm hpL HCL HSS HML hne
  go_wp2
  go_loopg [4, 15] m (fun gk _ i15 wr => ∃ t : Nat, gk = m - t ∧ t ≤ m ∧ i15 = .int .i64 (t : Int) ∧ HoldM wr k.bho l (heldBy l r S L' t) ∧ Unch (fun j => j = k.bho) w3 wr)
  case atStart => exact ⟨0, rfl, Nat.zero_le _, rfl, HS3.out, Unch.refl _ _⟩
  case round =>
    obtain ⟨t, rfl, htm, rfl, hh, hu⟩ := hrel
    obtain ⟨w4, rfl⟩ : ∃ w4, w4 = wr := ⟨_, rfl⟩
    by_cases htl : t < m
    · have z1 : (0 : Int) ≤ (t : Int) := by omega
      have z2 : (t : Int) < (m : Int) := by omega
      obtain ⟨i, hi⟩ := get_some HLEN'.out htl
      have hiL := HT'.out.mem i
      obtain ⟨hil, hiS⟩ := hiL.1 (List.mem_of_getElem? hi)
      have h4 := H3.out.hold ha hu hh
      have hbho : blk ≠ k.bho := fun e => by
        obtain ⟨mm, hmm, _⟩ := H3.out.ho
        obtain ⟨cur', hc'⟩ := HR3.out.blk (k := blk) rfl
        exact sm_ne_cells hmm hc' e.symm
      have hgho : gx ≠ k.bho := fun e => by
        obtain ⟨mm, hmm, _⟩ := H3.out.ho
        exact sm_ne_cells hmm HBX3.out e.symm
      have hr4 : SR w4 blk off m cap (L'.map (ent l)) := HR3.out.unch hu (fun bb hb e => hbho (by
        have : blk = bb := by simpa [Value.ownBlock] using hb
        rw [this]; exact e))
      have bx4 := hu.heap HBX3.out hgho
      have hei : (L'.map (ent l))[t]? = some (ent l i) := by rw [List.getElem?_map, hi]; rfl
      obtain ⟨_, x0, x1, x2, x3, x4⟩ := SR.at hr4 hei
      have hjh := judge_holds HO.out HT'.out HSL.out (k := t) (by rw [HLEN'.out]; exact htl) hi
      have hsucc := heldBy_succ (l := l) (r := r) (S := S) hi
      have HJH := Lib.hid hjh
      have HSUCC := Lib.hid hsucc
      have H4 := Lib.hid h4
      have HR4 := Lib.hid hr4
      have HI := Lib.hid hi
      have BX4 := Lib.hid bx4
      have HU := Lib.hid hu
      obtain ⟨Ap, mp, cp, hpv⟩ := h4.set.sz.pv i hil
      rw [hpv] at x3
      clear hjh hsucc h4 hr4 hi hei hiL bx4 hu hh
      have HPV := Lib.hid hpv
      go_upto_region 6 with fail
      have hu45 : Unch none_ w4 (w4.alloc (.cells (ent l i).cells.toArray 114)) := (Unch.refl none_ w4).alloc _
      have bE := blk_new w4 (.cells (ent l i).cells.toArray 114)
      unfold Ent.cells at hu45 bE
      rw [HPV.out] at hu45 bE
      generalize hge : w4.heap.size = ge at *
      generalize w4.alloc _ = w5 at *
      clear x0 x1 x2 x3 x4 hge
      have bE' : w5.heap[ge]? = some (.cells (ent l i).cells.toArray 114 (0, 0)) := by unfold Ent.cells; rw [HPV.out]; exact bE
      have h5 := H4.out.fresh hu45
      have bx5 := hu45.heap BX4.out (fun h => h)
      have hcon : ∀ w', Unch none_ w5 w' → Calls Tryz.prog 212 #[.slice (some ⟨blk, off, none⟩) m cap, .func (.func 220) #[] #[.pointer (some ⟨ge, 0, none⟩), .pointer (some ⟨gx, 0, none⟩)]] w' fun e w'' => e = .returned (.bool ((List.range m).any fun t' => judgeB l r S (heldBy l r S L' t) i (L'.getD t' 0))) ∧ Unch none_ w' w'' := fun w' hw' => by
        have hrd : RdS w' 5 EntR (some ⟨blk, off, none⟩) m (L'.map (ent l)) := sr_rds ((HR4.out.fresh hu45).fresh hw')
        exact containsFunc_ok (c := cap) hrd (g := 220) (enters_of Tryz.func220 (by kernel_rfl) rfl) (fun W hW t' ht' => by
          have ht'' : t' < L'.length := by simpa using ht'
          rw [ent_map ht'']
          have hmem := (HT'.out.mem _).1 (getD_mem ht'')
          exact judge2_ok ((h5.fresh hw').fresh hW) (blk_cell ((hw'.trans hW).heap bx5 (fun h => h)) (j := 0) rfl) hil ((hw'.trans hW).heap bE' (fun h => h)) hmem.1)
      obtain ⟨b, hb⟩ : ∃ b, (List.range m).any (fun t' => judgeB l r S (heldBy l r S L' t) i (L'.getD t' 0)) = b := ⟨_, rfl⟩
      have hjb : (!b) = (Ms.mk l r S).holds i := by rw [← hb, ← HLEN'.out]; exact HJH.out
      rw [hb] at hcon
      have HCON := Lib.hid hcon
      have HJB := Lib.hid hjb
      have H5 := Lib.hid h5
      clear hcon hb hjb h5 bE'
      obtain ⟨mm, hmm, hmg⟩ := H5.out.ho
      have hput : ∀ w6 w7, Unch none_ w5 w6 → Unch (fun j => j = k.bho) w6 w7 → Sm w7 k.bho (mput mm (ent l i).id (.bool (!b))) → HoldM w7 k.bho l (heldBy l r S L' (t + 1)) ∧ Unch (fun j => j = k.bho) w3 w7 := fun w6 w7 h6 h7 hsm => by
        refine ⟨⟨_, hsm, fun j hj => ?_⟩, ((HU.out.step hu45 (fun _ _ h => h.elim)).step h6 (fun _ _ h => h.elim)).trans h7⟩
        rw [HSUCC.out, mget_mput, HJB.out]
        by_cases e : j = i
        · subst e; simp
        · have : ¬ (ent l j).id = (ent l i).id := fun e2 => e (H5.out.set.cl.ids j i hj hil e2)
          rw [if_neg this, if_neg e]
          exact hmg j hj
      have HPUT := Lib.hid hput
      have HMM := Lib.hid hmm
      have hids := id_max H5.out.set hil
      have HIDS := Lib.hid hids
      clear hput hmm hmg hids
      refine wp_planC (fun W => Unch none_ w5 W) [0, 1, 2, 3, 4, 5, 6, 7] [8, 9, 10] 2 (by kernel_rfl) (by kernel_rfl) rfl rfl (fun c a d v w h => by cases d <;> exact h) ((Unch.refl _ _).drew) ?_
      intro S HS _
      have f0 : ∀ G2 : In S, G2.w.cell? ⟨gx, 0, none⟩ = some (.pointer (some ⟨k.bc, 0, none⟩)) := fun G2 => ((HS.out _).1 G2.h).cell (blk_cell bx5 (j := 0) rfl) (fun h => h)
      have f1 : ∀ G2 : In S, G2.w.cell? ⟨k.bc, 3, none⟩ = some (.map (some k.bho)) := fun G2 => circ3 (H5.out.fresh ((HS.out _).1 G2.h)).blk
      have f2 : ∀ G2 : In S, G2.w.cell? ⟨ge, 0, none⟩ = some (.string (ent l i).id) := fun G2 => ((HS.out _).1 G2.h).cell (blk_cell bE (j := 0) rfl) (fun h => h)
      simp only [pickIn, List.getElem?_toArray, List.getElem?_cons_succ, List.getElem?_cons_zero]
      repeat (go_big_quiet_step (fail))
      refine wpQuiet_nil ?_
      clear f0 f1 f2
      refine tail_step ?_
      go_wp2_with fail
      refine (HCON.out w5.drew (Unch.refl none_ w5).drew).mono ?_
      rintro e w6 ⟨rfl, hu6⟩
      have hu56 : Unch none_ w5 w6 := ⟨hu6.os, hu6.tape, hu6.output, hu6.size, hu6.block⟩
      go_wp2_with fail
      refine tail_midS ((HS.out _).2 hu56) (tail_step ?_)
      go_wp2_with fail
      refine tail_midS ((HS.out _).2 hu56) (tail_all ?_)
      have hmm6 := HMM.out.unch hu56 (fun h => h)
      have HMM6 := Lib.hid hmm6
      clear hmm6
      go_wp2_with (at_mapUpdate; refine wpList_sm_put w6 rfl (.tmp 22) (.tmp 24) (.tmp 28) 148 rfl 9 4 Tryz.underlying148 Tryz.underlying9 k.bho mm rfl HMM6.out (ent l i).id rfl HIDS.out (.bool (!b)) (by rfl) ?_; intro w7 hsm7 hu7; have H7 := Lib.hid (HPUT.out w6 w7 hu56 hu7 hsm7); clear hsm7 hu7)
      go_simp
      go_wp2
      go_roundg (m - (t + 1))
      case measure => omega
      case rel => exact ⟨t + 1, rfl, by omega, by go_num, H7.out.1, H7.out.2⟩
    · obtain rfl : t = m := by omega
      have hfin : HoldM w4 k.bho l (holdAll l r S) := by
        obtain ⟨mm, a, c⟩ := hh
        refine ⟨mm, a, fun i hi => ?_⟩
        rw [c i hi]
        unfold heldBy holdAll
        rw [List.take_of_length_le (by rw [HLEN'.out]; exact Nat.le_refl _)]
        have := HT'.out.mem i
        by_cases hS : S i = true
        · rw [if_pos (this.2 ⟨hi, hS⟩), if_pos hS]
        · rw [if_neg (fun hm => hS (this.1 hm).2), if_neg hS]
      have HF := Lib.hid hfin
      have HU := Lib.hid hu
      clear hfin hu hh
      go_wp2
      go_end0
      exact ⟨rfl, HF.out, HOTH.out.trans HU.out⟩
end
end Go.Proofs.YtgcpoppinnnciaaGreatDoor
/- member.among: the plain part: the ranks. -/
set_option linter.unusedVariables false
set_option linter.unusedSimpArgs false
namespace Go.Proofs.YtgcpoppinnnciaaGreatDoor
open Go Go.RowKit Go.Proofs.YtgcpoppinnnciaaGreatDoor.Pal Go.Proofs.YtgcpoppinnnciaaGreatDoor.Plan

/-- Is the entry at L's place t an Add of key? -/
def addAt (l : List Ent) (L : List Nat) (key : ByteArray) (t : Nat) : Bool := decide ((ent l (L.getD t 0)).kind = 4) && decide ((ent l (L.getD t 0)).body = key)
def firstIx (l : List Ent) (L : List Nat) (key : ByteArray) (i : Nat) : Option Nat := firstP (addAt l L key) i
/-- The ranks that the first i of L tell. -/
def rkP (l : List Ent) (r : Nat) (L : List Nat) (i : Nat) (key : ByteArray) : Option Nat := if key = (ent l r).author then some 0 else (firstIx l L key i).map (· + 1)
theorem firstP_succ (p : Nat → Bool) (i : Nat) : firstP p (i + 1) = (firstP p i).or (if p i = true then some i else none) := by
  unfold firstP
  rw [List.range_succ, List.find?_append]
  congr 1
  cases h : p i <;> simp [h]
theorem rkP_zero (l : List Ent) (r : Nat) (L : List Nat) (key : ByteArray) : rkP l r L 0 key = if key = (ent l r).author then some 0 else none := by
  unfold rkP firstIx firstP
  simp
/-- A round that lays no rank. -/
theorem rkP_no {l : List Ent} {r : Nat} {L : List Nat} {i : Nat} (h : (ent l (L.getD i 0)).kind ≠ 4 ∨ (rkP l r L i (ent l (L.getD i 0)).body).isSome = true) (key : ByteArray) : rkP l r L (i + 1) key = rkP l r L i key := by
  unfold rkP firstIx
  rw [firstP_succ]
  split
  · rfl
  · rename_i hk
    have : addAt l L key i = false ∨ (firstP (addAt l L key) i).isSome = true := by
      rcases h with h | h
      · exact .inl (by unfold addAt; rw [decide_eq_false h]; rfl)
      · by_cases hb : (ent l (L.getD i 0)).body = key
        · right
          rw [hb] at h
          unfold rkP firstIx at h
          rw [if_neg hk] at h
          simpa using h
        · exact .inl (by unfold addAt; rw [decide_eq_false hb, Bool.and_false])
    rcases this with h1 | h1
    · rw [h1]; simp
    · obtain ⟨v, hv⟩ := Option.isSome_iff_exists.1 h1
      rw [hv]; simp
theorem rkP_yes {l : List Ent} {r : Nat} {L : List Nat} {i : Nat} (h1 : (ent l (L.getD i 0)).kind = 4) (h2 : rkP l r L i (ent l (L.getD i 0)).body = none) (key : ByteArray) : rkP l r L (i + 1) key = if key = (ent l (L.getD i 0)).body then some (i + 1) else rkP l r L i key := by
  by_cases hb : key = (ent l (L.getD i 0)).body
  · subst hb
    rw [if_pos rfl]
    unfold rkP firstIx at *
    split at h2
    · cases h2
    · rename_i hk
      rw [if_neg hk, firstP_succ]
      have : firstP (addAt l L (ent l (L.getD i 0)).body) i = none := by simpa using h2
      rw [this]
      have : addAt l L (ent l (L.getD i 0)).body i = true := by unfold addAt; rw [decide_eq_true h1, decide_eq_true rfl]; rfl
      rw [this]
      rfl
  · rw [if_neg hb]
    unfold rkP firstIx
    split
    · rfl
    · rw [firstP_succ]
      have : addAt l L key i = false := by
        unfold addAt
        have : ¬ (ent l (L.getD i 0)).body = key := fun e => hb e.symm
        rw [decide_eq_false this, Bool.and_false]
      rw [this]
      simp
theorem below_at {l : List Ent} {r : Nat} {S : Nat → Bool} {L : List Nat} (hT : Tells l S L) (hs : L.Pairwise fun i j => lessE l i j = true) {t x : Nat} (hx : L[t]? = some x) : (Ms.mk l r S).below x = t := by
  have htl := (List.getElem?_eq_some_iff.1 hx).1
  have hp := List.pairwise_iff_getElem.1 hs
  have : ((List.range l.length).filter fun j => S j && lessE l j x).Perm (L.take t) := by
    refine nodup_perm (List.Nodup.sublist List.filter_sublist List.nodup_range) (List.Nodup.sublist (List.take_sublist _ _) hT.nd) fun j => ?_
    rw [List.mem_filter]
    simp only [List.mem_range, Bool.and_eq_true]
    constructor
    · rintro ⟨h1, h2, h3⟩
      obtain ⟨s, hs1⟩ := List.mem_iff_getElem?.1 ((hT.mem j).2 ⟨h1, h2⟩)
      have hsl := (List.getElem?_eq_some_iff.1 hs1).1
      refine List.mem_iff_getElem?.2 ⟨s, ?_⟩
      rw [List.getElem?_take, if_pos]
      · exact hs1
      · rcases Nat.lt_trichotomy s t with h4 | h4 | h4
        · exact h4
        · subst h4
          rw [hx] at hs1
          obtain rfl := Option.some.inj hs1
          rw [lessE_irrefl] at h3; cases h3
        · have h5 := hp t s htl hsl h4
          rw [(List.getElem?_eq_some_iff.1 hx).2, (List.getElem?_eq_some_iff.1 hs1).2] at h5
          have := lessE_trans h5 h3
          rw [lessE_irrefl] at this; cases this
    · intro hj
      obtain ⟨s, hs1⟩ := List.mem_iff_getElem?.1 hj
      rw [List.getElem?_take] at hs1
      split at hs1
      · rename_i hst
        have hm := (hT.mem j).1 (List.mem_of_getElem? hs1)
        refine ⟨hm.1, hm.2, ?_⟩
        have hsl := (List.getElem?_eq_some_iff.1 hs1).1
        have h5 := hp s t hsl htl hst
        rw [(List.getElem?_eq_some_iff.1 hx).2, (List.getElem?_eq_some_iff.1 hs1).2] at h5
        exact h5
      · cases hs1
  have h2 := this.length_eq
  rw [List.length_take] at h2
  unfold Ms.below Ms.n
  show ((List.range l.length).filter fun j => S j && lessE l j x).length = t
  omega
theorem rkP_end {l : List Ent} {r : Nat} {S : Nat → Bool} {L : List Nat} (hT : Tells l S L) (hs : L.Pairwise fun i j => lessE l i j = true) (key : ByteArray) : rkP l r L L.length key = rkO (Ms.mk l r S) key := by
  unfold rkP rkO
  show (if key = (ent l r).author then some 0 else _) = if key = (ent l r).author then some 0 else _
  split
  · rfl
  · unfold firstIx
    have hadd : ∀ t, t < L.length → addAt l L key t = (Ms.mk l r S).addOf key (L.getD t 0) := fun t ht => by
      unfold addAt Ms.addOf Ms.kind Ms.body
      have := ((hT.mem _).1 (getD_mem ht)).2
      show _ = (S (L.getD t 0) && _)
      rw [this, Bool.true_and]
    cases hf : (Ms.mk l r S).firstU key (Ms.mk l r S).n with
    | none =>
      rw [firstP_none (fun t ht => by
        rw [hadd t ht]
        exact Ms.firstU_none hf _ (((hT.mem _).1 (getD_mem ht)).1))]
      rfl
    | some x =>
      obtain ⟨h1, h2, h3⟩ := Ms.firstU_some hf
      obtain ⟨t, ht⟩ := List.mem_iff_getElem?.1 ((hT.mem x).2 ⟨h1, Ms.addOf_inn h2⟩)
      have htl := (List.getElem?_eq_some_iff.1 ht).1
      have hg : L.getD t 0 = x := by rw [List.getD_eq_getElem?_getD, ht]; rfl
      rw [firstP_some htl (by rw [hadd t htl, hg]; exact h2) (fun s hst => by
        have hsl : s < L.length := by omega
        rw [hadd s hsl]
        cases ha : (Ms.mk l r S).addOf key (L.getD s 0) with
        | false => rfl
        | true =>
          have hlt := List.pairwise_iff_getElem.1 hs s t hsl htl hst
          have e1 : L[s] = L.getD s 0 := by rw [List.getD_eq_getElem?_getD, List.getElem?_eq_getElem hsl]; rfl
          rw [(List.getElem?_eq_some_iff.1 ht).2, e1] at hlt
          have h3' : lessE l (L.getD s 0) x = false := h3 _ (((hT.mem _).1 (getD_mem hsl)).1) ha
          rw [h3'] at hlt
          cases hlt)]
      show some (t + 1) = some ((Ms.mk l r S).below x + 1)
      rw [below_at hT hs ht]
end Go.Proofs.YtgcpoppinnnciaaGreatDoor
/- member.among: its first loop's state. -/
set_option linter.unusedVariables false
set_option linter.unusedSimpArgs false
namespace Go.Proofs.YtgcpoppinnnciaaGreatDoor
open Go Go.RowKit Go.Proofs.YtgcpoppinnnciaaGreatDoor.Pal Go.Proofs.YtgcpoppinnnciaaGreatDoor.Plan

/-- Which entries are asked of: all, or those of a past. -/
def IdsOk (w : World) (l : List Ent) (iv : Value) (Kf : Nat → Bool) : Prop :=
  (iv = .map none ∧ Kf = fun _ => true) ∨ ∃ b m, iv = .map (some b) ∧ Sm w b m ∧ ∀ i, i < l.length → (mget m (ent l i).id).getD (.bool false) = .bool (Kf i)
theorem IdsOk.fresh {w w1 : World} {l : List Ent} {iv : Value} {Kf : Nat → Bool} (h : IdsOk w l iv Kf) (hu : Unch none_ w w1) : IdsOk w1 l iv Kf := by
  rcases h with h | ⟨b, m, h1, h2, h3⟩
  · exact .inl h
  · exact .inr ⟨b, m, h1, h2.unch hu (fun h => h), h3⟩
theorem PSet.idsPast {w : World} {l : List Ent} {r : Nat} {q : PB} {G : Nat → Bool} (h : PSet w l r q G) {i : Nat} (hi : i < l.length) : IdsOk w l (.map (some (q.pb i))) (Go.Proofs.YtgcpoppinnnciaaGreatDoor.past l i) := by
  obtain ⟨m, a, b⟩ := h.rows i hi
  exact .inr ⟨_, m, rfl, a, fun j hj => b.getb h.cl a.one hi hj⟩
structure Am0 (w wr : World) (l : List Ent) (q : PB) (G : Nat → Bool) (bx bc bho ri : Nat) (v : Value) (L : List Nat) (left : Asc) : Prop where
  u : Unch none_ w wr
  hbx : wr.heap[bx]? = some (.cells #[.pointer (some ⟨q.bs, 0, none⟩)] 238 (0, 0))
  hbc : wr.heap[bc]? = some (.cells #[.pointer (some ⟨q.bs, 0, none⟩), v, .map none, .map (some bho)] 257 (0, 0))
  hbho : Sm wr bho []
  it : Sit wr q.bgood ri (idA l G (fun _ => .bool true) l.length) left
  row : Row wr 114 5 v L.length (ecells (L.map (ent l)))
  own : ∀ b, v.ownBlock = some b → w.heap.size ≤ b
  nbx : w.heap.size ≤ bx
  nbc : w.heap.size ≤ bc
  nbho : w.heap.size ≤ bho
  nri : w.heap.size ≤ ri
  nd : L.Nodup
  lt : ∀ i ∈ L, i < l.length
def AmM (l : List Ent) (S : Nat → Bool) (L : List Nat) (left : Asc) : Prop := ∀ i, i ∈ L ↔ (i < l.length ∧ S i = true) ∧ ∀ p ∈ left, p.1 ≠ (ent l i).id
section
variable {w wr w3 w5 : World} {l : List Ent} {r : Nat} {q : PB} {G S : Nat → Bool} {bx bc bho ri : Nat} {v v' : Value} {L : List Nat} {left : Asc}
theorem Sit.cell_ne {b r : Nat} {m : Asc} {k : Nat} {cs : Array Value} {e : TypeId} {fr : Nat × Nat} (h : Sit w b r m left) (hk : w.heap[k]? = some (.cells cs e fr)) : k ≠ r := by
  rintro rfl
  obtain ⟨_, _, _, _, _, _, h2, _⟩ := h
  rw [h2] at hk
  cases hk
theorem Sit.sm_ne {b r : Nat} {m m' : Asc} {k : Nat} (h : Sit w b r m left) (hk : Sm w k m') : k ≠ r := by
  rintro rfl
  obtain ⟨_, _, _, _, _, _, h2, _⟩ := h
  obtain ⟨_, _, h3, _⟩ := hk
  rw [h2] at h3
  cases h3
theorem Am0.next (h : Am0 w wr l q G bx bc bho ri v L left) (hu : Unch (fun j => j = ri) wr w3) {left' : Asc} (hs : Sit w3 q.bgood ri (idA l G (fun _ => .bool true) l.length) left') : Am0 w w3 l q G bx bc bho ri v L left' :=
  ⟨h.u.step hu (fun i hi e => by have := h.nri; omega), hu.heap h.hbx (Sit.cell_ne h.it h.hbx), hu.heap h.hbc (Sit.cell_ne h.it h.hbc), h.hbho.unch hu (Sit.sm_ne h.it h.hbho), hs, h.row.unch hu (fun b hb e => by
    obtain ⟨cur, hc⟩ := h.row.blk hb
    exact Sit.cell_ne h.it hc e), h.own, h.nbx, h.nbc, h.nbho, h.nri, h.nd, h.lt⟩
theorem AmM.adv (hC : Closed l) (h : AmM l S L left) {i : Nat} (hi : i < l.length) (hS : S i = false) : AmM l S L (left.filter fun p => decide (p.1 ≠ (ent l i).id)) := fun j => by
  rw [h j]
  constructor
  · rintro ⟨h1, h2⟩; exact ⟨h1, fun p hp => h2 p (List.mem_filter.1 hp).1⟩
  · rintro ⟨h1, h2⟩
    refine ⟨h1, fun p hp e => ?_⟩
    by_cases hji : j = i
    · subst hji; rw [hS] at h1; cases h1.2
    · exact h2 p (List.mem_filter.2 ⟨hp, by simp only [decide_eq_true_eq]; exact fun e2 => hji (hC.ids j i h1.1 hi (e.symm.trans e2))⟩) e
theorem AmM.app (hC : Closed l) (h : AmM l S L left) {i : Nat} (hi : i < l.length) (hS : S i = true) : AmM l S (L ++ [i]) (left.filter fun p => decide (p.1 ≠ (ent l i).id)) := fun j => by
  rw [List.mem_append, h j, List.mem_singleton]
  constructor
  · rintro (⟨h1, h2⟩ | rfl)
    · exact ⟨h1, fun p hp => h2 p (List.mem_filter.1 hp).1⟩
    · exact ⟨⟨hi, hS⟩, fun p hp => by simpa using (List.mem_filter.1 hp).2⟩
  · rintro ⟨h1, h2⟩
    by_cases hji : j = i
    · exact .inr hji
    · exact .inl ⟨h1, fun p hp e => h2 p (List.mem_filter.2 ⟨hp, by simp only [decide_eq_true_eq]; exact fun e2 => hji (hC.ids j i h1.1 hi (e.symm.trans e2))⟩) e⟩
theorem AmM.fresh (h : AmM l S L left) {i : Nat} {x : Value} (hp : ((ent l i).id, x) ∈ left) : i ∉ L := fun hi => ((h i).1 hi).2 _ hp rfl
theorem nd_len {L : List Nat} {n : Nat} (h : L.Nodup) (hlt : ∀ i ∈ L, i < n) : L.length ≤ n := by
  have : L.Perm ((List.range n).filter fun i => L.contains i) := nodup_perm h (List.Nodup.sublist List.filter_sublist List.nodup_range) fun i => by
    rw [List.mem_filter]
    simp only [List.mem_range, List.contains_eq_mem, decide_eq_true_eq]
    exact ⟨fun hi => ⟨hlt i hi, hi⟩, fun hi => hi.2⟩
  have h2 := List.length_filter_le (fun i => L.contains i) (List.range n)
  rw [← this.length_eq] at h2
  simpa using h2
theorem Am0.keep (h : Am0 w w3 l q G bx bc bho ri v L left) (hu : Unch (fun k => v.ownBlock = some k) w3 w5) : w5.heap[bc]? = some (.cells #[.pointer (some ⟨q.bs, 0, none⟩), v, .map none, .map (some bho)] 257 (0, 0)) :=
  hu.heap h.hbc fun hv => by
    obtain ⟨cur, hc⟩ := h.row.blk hv
    rw [h.hbc] at hc
    injection hc with hc
    injection hc with _ hc
    exact absurd hc (by decide)
/-- One more is laid. -/
theorem Am0.app (h : Am0 w w3 l q G bx bc bho ri v L left) {i : Nat} (hi : i < l.length) (hiL : i ∉ L) (hr : Row w5 114 5 v' (L.length + 1) (ecells (L.map (ent l)) ++ (ent l i).cells)) (hu : Unch (fun k => v.ownBlock = some k) w3 w5) (hat : v'.ownBlock = v.ownBlock ∨ ∃ b, v'.ownBlock = some b ∧ w3.heap.size ≤ b) :
    Am0 w (w5.setCell ⟨bc, 1, none⟩ v') l q G bx bc bho ri v' (L ++ [i]) left := by
  have vne : ∀ {k : Nat} {cs : Array Value} {e : TypeId}, w3.heap[k]? = some (.cells cs e (0, 0)) → e ≠ 114 → ¬ v.ownBlock = some k := fun hk he hv => by
    obtain ⟨cur, hc⟩ := h.row.blk hv
    rw [hk] at hc
    injection hc with hc
    injection hc with _ hc
    exact he hc
  have sne : ∀ {k : Nat} {m : Asc}, Sm w3 k m → ¬ v.ownBlock = some k := fun hk hv => by
    obtain ⟨cur, hc⟩ := h.row.blk hv
    exact sm_ne_cells hk hc rfl
  have b5 := hu.heap h.hbc (vne h.hbc (by decide))
  have huc : Unch (fun k => k = bc) w5 (w5.setCell ⟨bc, 1, none⟩ v') := (Unch.refl _ _).setCell _ (fun _ => rfl)
  have x5 := hu.heap h.hbx (vne h.hbx (by decide))
  have s5 := h.hbho.unch hu (sne h.hbho)
  have i5 : Sit w5 q.bgood ri _ left := h.it.unch hu (sne h.it.sm) (fun hv => by
    obtain ⟨cur, hc⟩ := h.row.blk hv
    exact Sit.cell_ne h.it hc rfl)
  have hv'own : ∀ b, v'.ownBlock = some b → w.heap.size ≤ b := fun b hb => by
    rcases hat with h1 | ⟨b', h1, h2⟩
    · exact h.own b (h1 ▸ hb)
    · rw [h1] at hb; injection hb with hb; have := h.u.size; omega
  refine ⟨(h.u.step hu (fun k hk hv => absurd (h.own k hv) (by omega))).step huc (fun k hk e => by have := h.nbc; omega), huc.heap x5 (fun e => ?_), blk_set b5 1 v', s5.unch huc (sm_ne_cells s5 b5), i5.unch huc (sm_ne_cells i5.sm b5) (fun e => Sit.cell_ne i5 b5 e.symm), ?_, hv'own, h.nbx, h.nbc, h.nbho, h.nri, ?_, ?_⟩
  · rw [e, b5] at x5
    injection x5 with x5
    injection x5 with _ x5
    exact absurd x5 (by decide)
  · rw [List.map_append, List.map_singleton, ecells_app, List.length_append, List.length_singleton]
    refine hr.unch huc (fun b hb e => ?_)
    obtain ⟨cur, hc⟩ := hr.blk hb
    rw [e, b5] at hc
    injection hc with hc
    injection hc with _ hc
    exact absurd hc (by decide)
  · exact List.nodup_append.2 ⟨h.nd, by simp, fun a ha b hb e => by simp at hb; subst hb; subst e; exact hiL ha⟩
  · intro j hj
    rcases List.mem_append.1 hj with hj | hj
    · exact h.lt j hj
    · simp at hj; subst hj; exact hi
end
section
variable {P : Program} {t k e : TypeId} {ops : Array Oper} {rest : List Oper} {o : Oper} {a : Act} {Q : Exit → Act → World → Prop}
/-- An element of a map's literal. -/
theorem wpList_sm_ins (w : World) (hg : o.guard = none) (x y v : Operand) (t : TypeId) (hop : o.op = Op.insert t x y v) (k e : TypeId) (ht : P.underlying t = some (.map k e)) (hk : P.underlying k = some .string)
    (b : Nat) (m : Asc) (hx : a.eval x = .map (some b)) (h : Sm w b m) (s : ByteArray) (hy : a.eval y = .string s) (hs : s.size ≤ maxLen) (u : Value) (hv : a.eval v = u)
    (hK : ∀ w', Sm w' b (mput m s u) → Unch (fun j => j = b) w w' → wpList P ops Q rest (a.put o.dst undef) w') : wpList P ops Q (o :: rest) a w := by
  refine wpList_plain hg fun K' hK' => ?_
  obtain ⟨w', hrun, r1, r2⟩ := sm_put h ht hk s hs u
  unfold Oper.wp
  simp [execOp, hop, hx, hy, hv, hrun, Result.andThen]
  exact hK' _ _ (hK w' r1 r2)
end
end Go.Proofs.YtgcpoppinnnciaaGreatDoor
