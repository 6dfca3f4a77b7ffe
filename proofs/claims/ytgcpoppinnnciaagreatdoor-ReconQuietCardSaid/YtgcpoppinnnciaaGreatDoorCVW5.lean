/-
  view: check.
-/
import Derived.Test.YtgcpoppinnnciaaGreatDoorCVW3
import Derived.Test.YtgcpoppinnnciaaGreatDoorCBase
/- view: check. -/
set_option linter.unusedVariables false
set_option linter.unusedSimpArgs false
set_option maxRecDepth 100000
namespace Go.Proofs.YtgcpoppinnnciaaGreatDoor
open Go Go.RowKit Go.Proofs.YtgcpoppinnnciaaGreatDoor.Pal Go.Proofs.YtgcpoppinnnciaaGreatDoor.Plan

def zEn : Array Value := #[.string ⟨#[]⟩, .int .i64 0, .string ⟨#[]⟩, .slice none 0 0, .string ⟨#[]⟩]
/-- The entry of bytes. -/
def entE (K : Nat → Int) (s : ByteArray) (pv : Value) : Ent := ⟨idF K s, (rawE s).kind, (rawE s).author, pv, (rawE s).ps, (rawE s).body⟩
def chkZ (K : Nat → Int) (room : ByteArray) (es : List Ent) (s : ByteArray) (x : Ent) : Int :=
  if inE es (idF K s) = true then 11 else if echkF K (rawE s) ≠ 0 then 4 else if (missF es (rawE s).ps).length ≠ 0 then 9 else if 300 ≤ es.length then 3 else if goodV room es x = true then 0 else 7
def ChkP (K : Nat → Int) (room : ByteArray) (es : List Ent) (s : ByteArray) (w : World) (x : Ending) (w' : World) : Prop :=
  Unch none_ w w' ∧ ((decB s = false ∧ x = .returned (.tuple #[.agg zEn, .int .i64 2])) ∨
    (decB s = true ∧ ∃ pv, Row w' 9 1 pv (rawE s).ps.length (sv (rawE s).ps) ∧ x = .returned (.tuple #[(entE K s pv).val, .int .i64 (chkZ K room es s (entE K s pv))])))
theorem raw_parts {s : ByteArray} (h : decB s = true) : rightF (rawE s) = true := by
  unfold decB at h
  rw [Bool.and_eq_true] at h
  exact h.2
theorem entE_S {K : Nat → Int} {s : ByteArray} {pv : Value} {W : World} (h : decB s = true) (hr : Row W 9 1 pv (rawE s).ps.length (sv (rawE s).ps)) : EntS W (entE K s pv) := by
  obtain ⟨h1, h2, h3, h4, h5, h6⟩ := right_parts (raw_parts h)
  have h32 := (right_small (raw_parts h)).p32
  refine ⟨hr, ?_, ?_, ?_, fun p hp => ?_⟩
  · show (idF K s).size ≤ maxLen
    rw [idF_size]; decide
  · show (rawE s).author.size ≤ maxLen
    rw [h3]; decide
  · show (rawE s).body.size ≤ maxLen
    unfold maxLen; omega
  · have := h32 p hp
    unfold maxLen; omega
theorem entE_closed {K : Nat → Int} {s : ByteArray} {pv : Value} {es : List Ent} (h : decB s = true) (hC : Closed es) (hl : es.length < 300) (hid : inE es (idF K s) = false) (hm : (missF es (rawE s).ps).length = 0) : Closed (es ++ [entE K s pv]) := by
  refine hC.add hl (by show 1 ≤ (idF K s).size; rw [idF_size]; decide) (by show (idF K s).size ≤ 64; rw [idF_size]; decide) (fun i hi e => ?_) (fun p hp => ?_)
  · unfold inE at hid
    have hn : findN es (idF K s) = none := by
      cases hf : findN es (idF K s) with
      | none => rfl
      | some j => rw [hf] at hid; cases hid
    rw [findN_none] at hn
    exact hn _ (List.mem_of_getElem? (ent_get hi)) e
  · have hml : missF es (rawE s).ps = [] := List.eq_nil_of_length_eq_zero hm
    have hi : inE es p = true := by
      cases hi : inE es p with
      | true => rfl
      | false =>
        have : p ∈ missF es (rawE s).ps := List.mem_filter.2 ⟨hp, by rw [hi]; rfl⟩
        rw [hml] at this
        cases this
    unfold inE at hi
    obtain ⟨q, hq⟩ := Option.isSome_iff_exists.1 hi
    obtain ⟨e, he, hid2, _⟩ := findN_some hq
    exact ⟨q, (List.getElem?_eq_some_iff.1 he).1, by rw [ent_of he]; exact hid2⟩
theorem entE_root {K : Nat → Int} {s : ByteArray} {pv : Value} {es : List Ent} (h : decB s = true) (hm : (missF es (rawE s).ps).length = 0) (hk : (entE K s pv).kind ≠ 1) : es ≠ [] := by
  obtain ⟨h1, h2, h3, h4, h5, h6⟩ := right_parts (raw_parts h)
  have h7 : 0 < (rawE s).ps.length := by
    unfold kindF at h2
    rw [if_neg (show ¬ (rawE s).kind = 1 from hk)] at h2
    split at h2
    · rw [Bool.and_eq_true] at h2; exact of_decide_eq_true h2.2
    · split at h2
      · exact of_decide_eq_true h2
      · cases h2
  rintro rfl
  have : missF [] (rawE s).ps = (rawE s).ps := by
    unfold missF
    rw [List.filter_eq_self]
    intro a _
    rfl
  rw [this] at hm
  omega
def enC (id : ByteArray) (k : Int) (au : ByteArray) (pv : Value) (bo : ByteArray) : Array Value := #[.string id, .int .i64 k, .string au, pv, .string bo]
/-- Of the entry's making (Id, entry, its place, the store): what has come up. -/
structure CkI (w4 : World) (id : ByteArray) (cs : Array Value) (D : Nat → Bool) (x : Nat → Value) (W : World) : Prop where
  u : Unch none_ w4 W
  d1 : D 1 = true → x 22 = .string id
  d3 : D 3 = true → x 24 = .agg cs
  d4 : D 4 = true → ∃ g, x 8 = .pointer (some ⟨g, 0, none⟩) ∧ w4.heap.size ≤ g ∧ W.heap[g]? = some (.cells (if D 5 = true then cs else zEn) 114 (0, 0))
  d5 : D 5 = true → D 4 = true
section
variable {w4 W W' : World} {id : ByteArray} {cs : Array Value} {D : Nat → Bool} {x : Nat → Value}
theorem CkI.l1 (h : CkI w4 id cs D x W) (hu : Unch none_ W W') : CkI w4 id cs (fun j => decide (j = 1) || D j) (upd x 22 (.string id)) W' :=
  ⟨h.u.trans hu, fun _ => by simp [upd], fun hd => by simpa [upd] using h.d3 (by simpa using hd), fun hd => by
    obtain ⟨g, h1, h2, h3⟩ := h.d4 (by simpa using hd)
    refine ⟨g, by simpa [upd] using h1, h2, ?_⟩
    have := hu.heap h3 (fun h => h)
    simpa using this, fun hd => by simpa using h.d5 (by simpa using hd)⟩
theorem CkI.l3 (h : CkI w4 id cs D x W) (hu : Unch none_ W W') : CkI w4 id cs (fun j => decide (j = 3) || D j) (upd x 24 (.agg cs)) W' :=
  ⟨h.u.trans hu, fun hd => by simpa [upd] using h.d1 (by simpa using hd), fun _ => by simp [upd], fun hd => by
    obtain ⟨g, h1, h2, h3⟩ := h.d4 (by simpa using hd)
    refine ⟨g, by simpa [upd] using h1, h2, ?_⟩
    have := hu.heap h3 (fun h => h)
    simpa using this, fun hd => by simpa using h.d5 (by simpa using hd)⟩
theorem CkI.l4 (h : CkI w4 id cs D x W) (hn : D 4 = false) : CkI w4 id cs (fun j => decide (j = 4) || D j) (upd x 8 (.pointer (some ⟨W.heap.size, 0, none⟩))) (W.alloc (.cells zEn 114)) := by
  have h5 : D 5 = false := by
    cases h5 : D 5 with
    | false => rfl
    | true => rw [h.d5 h5] at hn; cases hn
  refine ⟨h.u.alloc _, fun hd => by simpa [upd] using h.d1 (by simpa using hd), fun hd => by simpa [upd] using h.d3 (by simpa using hd), fun _ => ⟨W.heap.size, by simp [upd], h.u.size, ?_⟩, fun _ => by simp⟩
  have := blk_new W (.cells zEn 114)
  simpa [h5] using this
theorem CkI.l5 {id' au bo : ByteArray} {kd : Int} {pv : Value} (h : CkI w4 id #[.string id', .int .i64 kd, .string au, pv, .string bo] D x W) (k4 : D 4 = true) (hn : D 5 = false) {g : Nat} (hg : x 8 = .pointer (some ⟨g, 0, none⟩)) :
    CkI w4 id #[.string id', .int .i64 kd, .string au, pv, .string bo] (fun j => decide (j = 5) || D j) x (((((W.setCell ⟨g, 0, none⟩ (.string id')).setCell ⟨g, 1, none⟩ (.int .i64 kd)).setCell ⟨g, 2, none⟩ (.string au)).setCell ⟨g, 3, none⟩ pv).setCell ⟨g, 4, none⟩ (.string bo)) := by
  obtain ⟨g', h1, h2, h3⟩ := h.d4 k4
  rw [hg] at h1
  injection h1 with h1
  injection h1 with h1
  injection h1 with h1
  subst h1
  rw [hn] at h3
  exact ⟨h.u.step unch_set5 (fun k hk e => by omega), fun hd => h.d1 (by simpa using hd), fun hd => h.d3 (by simpa using hd), fun _ => ⟨g, hg, h2, by simpa using set5 h3⟩, fun _ => by simpa using k4⟩
end
section
variable {n0 : Nat} {w w1 : World} {b : Nat} {room : ByteArray} {es : List Ent} {bs : Asc} {p : Plc}
set_option maxHeartbeats 4000000 in
theorem vcheck_ok (K : Nat → Int) (h : VS n0 w b room es bs p) (hK : Kys K w) (s : ByteArray) (hs : s.size ≤ 1000000000) :
    Calls Tryz.prog 49 #[.pointer (some ⟨b, 0, none⟩), .string s] w fun x w' => ChkP K room es s w x w' := by
  obtain ⟨fin, hfin⟩ : ∃ F, ChkP K room es s w = F := ⟨_, rfl⟩
  rw [hfin]
  have hua := (Unch.refl none_ w).alloc (.cells zEn 114)
  have hrc := blk_new w (.cells zEn 114)
  have hdec := decode_ok s (w.alloc (.cells zEn 114))
  have hend1 : ∀ (W : World) (o : Obj), Unch none_ w W → W.heap[w.heap.size]? = some (.cells zEn 114 (0, 0)) → decB s = false → ∀ tmps : Array Value, tmps.getD 4 undef = .pointer (some ⟨w.heap.size, 0, none⟩) → tmps.getD 5 undef = .int .i64 2 →
      bodyPost Tryz.prog Tryz.f49 (fun x w' => fin x w') .ret ⟨tmps, []⟩ ((((((W.setCell ⟨w.heap.size, 0, none⟩ (.string ⟨#[]⟩)).setCell ⟨w.heap.size, 1, none⟩ (.int .i64 0)).setCell ⟨w.heap.size, 2, none⟩ (.string ⟨#[]⟩)).setCell ⟨w.heap.size, 3, none⟩ (.slice none 0 0)).setCell ⟨w.heap.size, 4, none⟩ (.string ⟨#[]⟩)).alloc o) := fun W o hu hz hd tmps h4 h5 => by
    refine bodyPost_ret (results_cell_row2 rfl _ _ w.heap.size _ _ _ _ h4 (blk_alloc (set5 hz) o) Tryz.underlying114 rfl (by kernel_rfl)) rfl ?_
    rw [← hfin]
    refine ⟨(hu.step unch_set5 (fun k hk e => by omega)).alloc o, .inl ⟨hd, ?_⟩⟩
    show Ending.returned (.tuple #[_, tmps.getD 5 undef]) = _
    rw [h5]
    rfl
  have HEND1 := Lib.hid hend1
  have HDEC := Lib.hid hdec
  have HV := Lib.hid h
  have HKY := Lib.hid hK
  have HUA := Lib.hid hua
  have HRC := Lib.hid hrc
  clear hua hrc hdec hend1 h hK
  unfold zEn at HUA HRC HDEC
  go_enter Tryz.func49, Tryz.ntmps49
  go_wp2_with fail
  refine HDEC.out.mono ?_
  rintro _ w2 ⟨hu2, hcase⟩
  have HU2 := Lib.hid (HUA.out.trans hu2)
  have HRC2 := Lib.hid (hu2.heap HRC.out (fun h => h))
  clear hu2 HUA HRC HDEC
  rcases hcase with ⟨hd, rfl⟩ | ⟨hd, A, c, rfl, hrow, hcc⟩
  · have hrc2 := HRC2.out
    have z0 : w2.cell? ⟨w.heap.size, 0, none⟩ = some (.string ⟨#[]⟩) := blk_cell hrc2 (j := 0) rfl
    have z1 : w2.cell? ⟨w.heap.size, 1, none⟩ = some (.int .i64 0) := blk_cell hrc2 (j := 1) rfl
    have z2 : w2.cell? ⟨w.heap.size, 2, none⟩ = some (.string ⟨#[]⟩) := blk_cell hrc2 (j := 2) rfl
    have z3 : w2.cell? ⟨w.heap.size, 3, none⟩ = some (.slice none 0 0) := blk_cell hrc2 (j := 3) rfl
    have z4 : w2.cell? ⟨w.heap.size, 4, none⟩ = some (.string ⟨#[]⟩) := blk_cell hrc2 (j := 4) rfl
    have zf := blk_free hrc2
    have hlt := lt_of_heap hrc2
    have hne : ¬ w.heap.size = w2.heap.size := by omega
    clear hrc2
    unfold zEv
    go_wp2_with fail
    exact HEND1.out w2 _ HU2.out HRC2.out hd _ rfl rfl
  · have he3 := blk_new w2 (.cells (evV (rawE s) A c) 50)
    have hu3 := (Unch.refl none_ w2).alloc (.cells (evV (rawE s) A c) 50)
    have hsm := right_small (raw_parts hd)
    have hpsn := hsm.ps
    have hpsz : ∀ q ∈ (rawE s).ps, q.size ≤ maxLen := fun q hq => by
      have := hsm.p32 q hq
      unfold maxLen; omega
    have hsig := (right_parts (raw_parts hd)).2.2.2.2.2
    simp only [evV] at he3 hu3 ⊢
    generalize hw3 : w2.alloc (.cells #[.int .i64 (rawE s).kind, .string (rawE s).author, .slice A (rawE s).ps.length c, .string (rawE s).body, .string (rawE s).sig] 50) = w3 at he3 hu3
    have hu03 := HU2.out.trans hu3
    have hrw3 : ∀ W, Unch none_ w3 W → Row W 9 1 (.slice A (rawE s).ps.length c) (rawE s).ps.length (sv (rawE s).ps) := fun W hu => (hrow.unch hu3 (fun _ _ h => h)).unch hu (fun _ _ h => h)
    have hky3 : ∀ W, Unch none_ w3 W → Kys K W := fun W hu => (HKY.out.unch hu03 (fun h => h)).unch hu (fun h => h)
    have hv3 : ∀ W, Unch none_ w3 W → VS n0 W b room es bs p := fun W hu => (HV.out.fresh hu03).fresh hu
    have qid : QC Tryz.prog 17 #[.string s] (.string (idF K s)) w3 := fun W hu => id_ok K s hs W (hky3 W hu)
    have qen : QC Tryz.prog 82 #[.string (idF K s), .agg (evV (rawE s) A c)] (.agg (enC (idF K s) (rawE s).kind (rawE s).author (.slice A (rawE s).ps.length c) (rawE s).body)) w3 := fun W hu => entry_ok (idF K s) (rawE s) A c W
    have qha : QC Tryz.prog 54 #[.pointer (some ⟨p.bd, 0, none⟩), .string (idF K s)] (.bool (inE es (idF K s))) w3 := fun W hu => (vhas_ok (hv3 W hu) (idF K s) (by rw [idF_size]; decide)).mono (fun e w' ⟨h1, h2⟩ => ⟨h1, h2 ▸ Unch.refl _ _⟩)
    have qck : QC Tryz.prog 83 #[.agg (evV (rawE s) A c)] (.int .i64 (echkF K (rawE s))) w3 := fun W hu => echeck_ok K (rawE s) A c W (srow_rds (hrw3 W hu)) (by omega) (by omega) (hky3 W hu)
    have qmi : ∀ W, Unch none_ w3 W → Calls Tryz.prog 84 #[.pointer (some ⟨b, 0, none⟩), .agg (evV (rawE s) A c)] W fun x w' => ∃ v, x = .returned v ∧ SMid W w' v (missF es (rawE s).ps).length (missF es (rawE s).ps) := fun W hu => missing_ok (hv3 W hu) (rawE s) A c (srow_rds (hrw3 W hu)) (by omega) hpsz
    have qle : QC Tryz.prog 85 #[.pointer (some ⟨b, 0, none⟩)] (.int .i64 (es.length : Int)) w3 := fun W hu => (vlen_ok (hv3 W hu)).mono (fun e w' ⟨h1, h2⟩ => ⟨h1, h2 ▸ Unch.refl _ _⟩)
    have qgo : inE es (idF K s) = false → (missF es (rawE s).ps).length = 0 → es.length < 300 → QC Tryz.prog 86 #[.pointer (some ⟨b, 0, none⟩), .agg (enC (idF K s) (rawE s).kind (rawE s).author (.slice A (rawE s).ps.length c) (rawE s).body)] (.bool (goodV room es (entE K s (.slice A (rawE s).ps.length c)))) w3 := fun h1 h2 h3 W hu =>
      vgood_ok (hv3 W hu) (entE K s (.slice A (rawE s).ps.length c)) (entE_S hd (hrw3 W hu)) (closed_iff.2 (entE_closed hd HV.out.cl h3 h1 h2)) (entE_root hd h2) rfl
    have hvv := HV.out.fresh hu03
    have hbb := hvv.blk
    have hrc3 := hu3.heap HRC2.out (fun h => h)
    have hend : ∀ (W : World) (z : Int), Unch none_ w3 W → z = chkZ K room es s (entE K s (.slice A (rawE s).ps.length c)) → ∀ tmps : Array Value, tmps.getD 4 undef = .pointer (some ⟨w.heap.size, 0, none⟩) → tmps.getD 5 undef = .int .i64 z →
      bodyPost Tryz.prog Tryz.f49 (fun x w' => fin x w') .ret ⟨tmps, []⟩ (((((W.setCell ⟨w.heap.size, 0, none⟩ (.string (idF K s))).setCell ⟨w.heap.size, 1, none⟩ (.int .i64 (rawE s).kind)).setCell ⟨w.heap.size, 2, none⟩ (.string (rawE s).author)).setCell ⟨w.heap.size, 3, none⟩ (.slice A (rawE s).ps.length c)).setCell ⟨w.heap.size, 4, none⟩ (.string (rawE s).body)) := fun W z hu hz tmps h4 h5 => by
      refine bodyPost_ret (results_cell_row2 rfl _ _ w.heap.size _ _ _ _ h4 (set5 (hu.heap hrc3 (fun h => h))) Tryz.underlying114 rfl (by kernel_rfl)) rfl ?_
      rw [← hfin]
      refine ⟨(hu03.trans hu).step unch_set5 (fun k hk e => by omega), .inr ⟨hd, .slice A (rawE s).ps.length c, row_other (hrw3 W hu) (hu.heap hrc3 (fun h => h)) (by decide) unch_set5, ?_⟩⟩
      show Ending.returned (.tuple #[_, tmps.getD 5 undef]) = _
      rw [h5, hz]
      rfl
    have hchk : chkZ K room es s (entE K s (.slice A (rawE s).ps.length c)) = (if inE es (idF K s) = true then 11 else if echkF K (rawE s) ≠ 0 then 4 else if (missF es (rawE s).ps).length ≠ 0 then 9 else if 300 ≤ es.length then 3 else if goodV room es (entE K s (.slice A (rawE s).ps.length c)) = true then 0 else 7) := rfl
    unfold enC at qen qgo
    simp only [evV] at qen qck qmi
    have hml : (missF es (rawE s).ps).length ≤ 1000 := by
      unfold missF
      refine Nat.le_trans (List.length_filter_le _ _) ?_
      omega
    have hnl := HV.out.cl.len
    have hlt := lt_of_heap HRC2.out
    clear hrow hcc hsm hpsz hrw3 hky3 hv3 hvv HEND1 hd hsig
    generalize chkZ K room es s (entE K s (.slice A (rawE s).ps.length c)) = zz at *
    generalize goodV room es (entE K s (.slice A (rawE s).ps.length c)) = gb at *
    generalize idF K s = id at *
    generalize echkF K (rawE s) = ckz at *
    generalize missF es (rawE s).ps = ml at *
    generalize inE es id = hb at *
    generalize (rawE s).kind = kd at *
    generalize (rawE s).author = au at *
    generalize (rawE s).ps.length = np at *
    generalize (rawE s).body = bo at *
    generalize (rawE s).sig = sg at *
    generalize es.length = ne at *
    have HID := Lib.hid qid
    have HEN := Lib.hid qen
    have HHA := Lib.hid qha
    have HCK := Lib.hid qck
    have HMI := Lib.hid qmi
    have HLE := Lib.hid qle
    have HGO := Lib.hid qgo
    have HEND := Lib.hid hend
    have HCHK := Lib.hid hchk
    have HE3 := Lib.hid he3
    have HB3 := Lib.hid hbb
    have HRC3 := Lib.hid hrc3
    have HW3 := Lib.hid hw3
    clear qid qen qha qck qmi qle qgo hend hchk he3 hbb hrc3 hw3 hu3 hu03
    go_upto_region 6 with fail
    rw [HW3.out]
    have hc3 := evCells HE3.out
    have HC3 := Lib.hid hc3
    clear hc3
    refine wp_planI (fun W => Unch none_ w3 W) [0, 2] [1, 3, 4, 5] (by kernel_rfl) (by kernel_rfl) rfl (fun c a d v w h => by cases d <;> exact h) ((Unch.refl _ _).drew) ?_
    intro S HS _
    have f0 : ∀ G2 : In S, G2.w.cell? ⟨w2.heap.size, 0, none⟩ = some (.int .i64 kd) := fun G2 => ((HS.out _).1 G2.h).cell HC3.out.1 (fun h => h)
    have f1 : ∀ G2 : In S, G2.w.cell? ⟨w2.heap.size, 1, none⟩ = some (.string au) := fun G2 => ((HS.out _).1 G2.h).cell HC3.out.2.1 (fun h => h)
    have f2 : ∀ G2 : In S, G2.w.cell? ⟨w2.heap.size, 2, none⟩ = some (.slice A np c) := fun G2 => ((HS.out _).1 G2.h).cell HC3.out.2.2.1 (fun h => h)
    have f3 : ∀ G2 : In S, G2.w.cell? ⟨w2.heap.size, 3, none⟩ = some (.string bo) := fun G2 => ((HS.out _).1 G2.h).cell HC3.out.2.2.2.1 (fun h => h)
    have f4 : ∀ G2 : In S, G2.w.cell? ⟨w2.heap.size, 4, none⟩ = some (.string sg) := fun G2 => ((HS.out _).1 G2.h).cell HC3.out.2.2.2.2 (fun h => h)
    simp only [pickIn, List.getElem?_toArray, List.getElem?_cons_succ, List.getElem?_cons_zero]
    repeat (go_big_quiet_step (fail))
    refine wpQuiet_nil ?_
    clear f0 f1 f2 f3 f4
    refine free_slots2 [22, 24, 8] (CkI w3 id #[.string id, .int .i64 kd, .string au, .slice A np c, .string bo]) (fun x => ⟨(Unch.refl _ _).drew, by simp, by simp, by simp, by simp⟩) ?_ ?_
    · intro D x w6 hI i hi o ho hun hdep
      simp only [List.mem_cons, List.not_mem_nil, or_false] at hi
      have hCw : ∀ w', Unch none_ w3 w' → ∃ g : In S, w' = g.w := fun w' hu => ⟨⟨w', (HS.out _).2 hu⟩, rfl⟩
      have HCw := Lib.hid hCw
      have HI := Lib.hid hI
      have HDEP := Lib.hid hdep
      have HUN := Lib.hid hun
      clear hCw hI hdep hun
      rcases hi with rfl | rfl | rfl | rfl
      · simp only [List.getElem?_toArray, List.getElem?_cons_succ, List.getElem?_cons_zero, Option.some.injEq] at ho
        subst ho
        simp only [putsF, List.foldl]
        go_wp2_with fail
        refine (HID.out w6 HI.out.u).mono ?_
        rintro e w7 ⟨rfl, hu7⟩
        have hs := Lib.hid (HI.out.l1 hu7)
        clear hu7
        go_wp2_with fail
        exact ⟨HCw.out _ hs.out.u, upd x 22 (.string id), rfl, hs.out⟩
      · simp only [List.getElem?_toArray, List.getElem?_cons_succ, List.getElem?_cons_zero, Option.some.injEq] at ho
        subst ho
        simp only [putsF, List.foldl]
        have E1 := Lib.hid (HI.out.d1 (HDEP.out ⟨1, .data⟩ (by simp) rfl (by simp)))
        rw [E1.out]
        go_wp2_with fail
        refine (HEN.out w6 HI.out.u).mono ?_
        rintro e w7 ⟨rfl, hu7⟩
        have hs := Lib.hid (HI.out.l3 hu7)
        clear hu7
        go_wp2_with fail
        refine ⟨HCw.out _ hs.out.u, upd (upd x 22 (.string id)) 24 (.agg #[.string id, .int .i64 kd, .string au, .slice A np c, .string bo]), rfl, ?_⟩
        rw [upd_same E1.out]
        exact hs.out
      · simp only [List.getElem?_toArray, List.getElem?_cons_succ, List.getElem?_cons_zero, Option.some.injEq] at ho
        subst ho
        simp only [putsF, List.foldl]
        have hs := Lib.hid (HI.out.l4 HUN.out)
        go_wp2_with fail
        exact ⟨HCw.out _ hs.out.u, upd x 8 (.pointer (some ⟨w6.heap.size, 0, none⟩)), rfl, hs.out⟩
      · simp only [List.getElem?_toArray, List.getElem?_cons_succ, List.getElem?_cons_zero, Option.some.injEq] at ho
        subst ho
        simp only [putsF, List.foldl]
        have k4 := HDEP.out ⟨4, .data⟩ (by simp) rfl (by simp)
        have E3 := Lib.hid (HI.out.d3 (HDEP.out ⟨3, .data⟩ (by simp) rfl (by simp)))
        obtain ⟨g, e8, hg, hz⟩ := HI.out.d4 k4
        rw [HUN.out, if_neg (by decide)] at hz
        have hs := Lib.hid (HI.out.l5 k4 HUN.out e8)
        have E8 := Lib.hid e8
        unfold zEn at hz
        have y0 := blk_cell hz (j := 0) rfl
        have y1 := blk_cell hz (j := 1) rfl
        have y2 := blk_cell hz (j := 2) rfl
        have y3 := blk_cell hz (j := 3) rfl
        have y4 := blk_cell hz (j := 4) rfl
        have yf := blk_free hz
        clear k4 e8 hz
        rw [E3.out, E8.out]
        go_wp2_with fail
        refine ⟨HCw.out _ hs.out.u, upd (upd x 24 (.agg #[.string id, .int .i64 kd, .string au, .slice A np c, .string bo])) 8 (.pointer (some ⟨g, 0, none⟩)), rfl, ?_⟩
        rw [upd_same E3.out, upd_same E8.out]
        exact hs.out
    · intro D x w6 hI hall
      have e22 := hI.d1 (hall 1 (by simp))
      have e24 := hI.d3 (hall 3 (by simp))
      obtain ⟨g, e8, hg, hz⟩ := hI.d4 (hall 4 (by simp))
      rw [hall 5 (by simp), if_pos rfl] at hz
      have hu36 := hI.u
      simp only [putsF, List.foldl]
      rw [e22, e24, e8]
      clear e22 e24 e8 hI hall HC3 HID HEN
      have hrc6 := hu36.heap HRC3.out (fun h => h)
      have he6 := hu36.heap HE3.out (fun h => h)
      have hb6 := hu36.heap HB3.out (fun h => h)
      have hcs : ∀ W, Unch none_ w6 W → (W.cell? ⟨g, 0, none⟩ = some (.string id) ∧ W.cell? ⟨g, 1, none⟩ = some (.int .i64 kd) ∧ W.cell? ⟨g, 2, none⟩ = some (.string au) ∧ W.cell? ⟨g, 3, none⟩ = some (.slice A np c) ∧ W.cell? ⟨g, 4, none⟩ = some (.string bo)) := fun W hu =>
        have h := hu.heap hz (fun h => h)
        ⟨blk_cell h (j := 0) rfl, blk_cell h (j := 1) rfl, blk_cell h (j := 2) rfl, blk_cell h (j := 3) rfl, blk_cell h (j := 4) rfl⟩
      have hrs : ∀ W, Unch none_ w6 W → (W.cell? ⟨w.heap.size, 0, none⟩ = some (.string ⟨#[]⟩) ∧ W.cell? ⟨w.heap.size, 1, none⟩ = some (.int .i64 0) ∧ W.cell? ⟨w.heap.size, 2, none⟩ = some (.string ⟨#[]⟩) ∧ W.cell? ⟨w.heap.size, 3, none⟩ = some (.slice none 0 0) ∧ W.cell? ⟨w.heap.size, 4, none⟩ = some (.string ⟨#[]⟩)) ∧ ∀ j, W.frozen? ⟨w.heap.size, j, none⟩ = false := fun W hu =>
        have h := hu.heap hrc6 (fun h => h)
        ⟨⟨blk_cell h (j := 0) rfl, blk_cell h (j := 1) rfl, blk_cell h (j := 2) rfl, blk_cell h (j := 3) rfl, blk_cell h (j := 4) rfl⟩, blk_free h⟩
      have hes : ∀ W, Unch none_ w6 W → (W.cell? ⟨w2.heap.size, 0, none⟩ = some (.int .i64 kd) ∧ W.cell? ⟨w2.heap.size, 1, none⟩ = some (.string au) ∧ W.cell? ⟨w2.heap.size, 2, none⟩ = some (.slice A np c) ∧ W.cell? ⟨w2.heap.size, 3, none⟩ = some (.string bo) ∧ W.cell? ⟨w2.heap.size, 4, none⟩ = some (.string sg)) := fun W hu => evCells (hu.heap he6 (fun h => h))
      have hb61 : w6.cell? ⟨b, 1, none⟩ = some (.pointer (some ⟨p.bd, 0, none⟩)) := blk_cell hb6 (j := 1) rfl
      have hg60 := (hcs w6 (Unch.refl _ _)).1
      have HCS := Lib.hid hcs
      have HRS := Lib.hid hrs
      have HES := Lib.hid hes
      have HU36 := Lib.hid hu36
      have HQH := Lib.hid (HHA.out.next hu36)
      have hle3 := lt_of_heap HE3.out
      have hge : ¬ w2.heap.size = g := by omega
      have hrg : ¬ w.heap.size = g := by omega
      have hre : ¬ w.heap.size = w2.heap.size := by omega
      clear hz hcs hrs hes hu36 hrc6 he6 hb6 hle3 HE3 HB3 HRC3 HW3 HU2 HRC2 HV HKY HHA
      generalize w.heap.size = rc at *
      generalize w2.heap.size = eb at *
      generalize p.bd = bd at *
      have hb61 := cellU hb61
      have hg60 := cellU hg60
      go_simp
      go_wp2
      refine wp_region_quiet_u (by kernel_rfl) (by kernel_rfl) (fun _ => ?_)
      repeat (go_big_quiet_step ((go_at_call 54; with_reducible exact HQH.out.u _)))
      refine wpQuiet_nil ?_
      intro wq hw'
      obtain ⟨⟨wqq, huq⟩, hw''⟩ := hw'
      subst hw''
      clear hb61 hg60 HQH
      have HU7 := Lib.hid huq
      clear huq
      cases hb with
      | true =>
        obtain ⟨x0, x1, x2, x3, x4⟩ := HCS.out _ HU7.out
        obtain ⟨⟨r0, r1, r2, r3, r4⟩, rf⟩ := HRS.out _ HU7.out
        go_wp2_with fail
        exact HEND.out _ 11 (HU36.out.trans HU7.out) (by rw [HCHK.out]; rfl) _ rfl rfl
      | false =>
        obtain ⟨e0, e1, e2, e3, e4⟩ := HES.out _ HU7.out
        go_wp2_with fail
        refine (HCK.out _ (HU36.out.trans HU7.out)).mono ?_
        rintro _ w8 ⟨rfl, hu8⟩
        have HU8 := Lib.hid (HU7.out.trans hu8)
        clear hu8 HU7 e0 e1 e2 e3 e4
        by_cases hck : ckz = 0
        · have hck1 : (ckz != 0) = false := by rw [hck]; rfl
          obtain ⟨e0, e1, e2, e3, e4⟩ := HES.out _ HU8.out
          subst hck
          go_wp2_with fail
          refine (HMI.out _ (HU36.out.trans HU8.out)).mono ?_
          rintro _ w9 ⟨v, rfl, hs9⟩
          obtain ⟨A9, c9, rfl, hc9⟩ := hs9.row.slice
          have HU9 := Lib.hid (HU8.out.trans hs9.hu)
          clear hs9 e0 e1 e2 e3 e4 HU8
          by_cases hml0 : ml.length = 0
          · have hm1 : ¬ (0 : Int) < (ml.length : Int) := by omega
            have hm2 : decide (0 < ml.length) = false := decide_eq_false (by omega)
            have hm3 : decide ((0 : Int) < (ml.length : Int)) = false := decide_eq_false hm1
            go_wp2_with fail
            refine (HLE.out _ (HU36.out.trans HU9.out)).mono ?_
            rintro _ w10 ⟨rfl, hu10⟩
            have HU10 := Lib.hid (HU9.out.trans hu10)
            clear hu10 HU9
            by_cases hne : 300 ≤ ne
            · have hn1 : (300 : Int) ≤ (ne : Int) := by omega
              obtain ⟨x0, x1, x2, x3, x4⟩ := HCS.out _ HU10.out
              obtain ⟨⟨r0, r1, r2, r3, r4⟩, rf⟩ := HRS.out _ HU10.out
              go_wp2_with fail
              exact HEND.out _ 3 (HU36.out.trans HU10.out) (by rw [HCHK.out, if_neg (by decide), if_neg (by decide), if_neg (by omega), if_pos hne]) _ rfl rfl
            · have hn1 : ¬ (300 : Int) ≤ (ne : Int) := by omega
              obtain ⟨x0, x1, x2, x3, x4⟩ := HCS.out _ HU10.out
              go_wp2_with fail
              refine (HGO.out (by first | exact trivial | rfl) hml0 (by omega) _ (HU36.out.trans HU10.out)).mono ?_
              rintro _ w11 ⟨rfl, hu11⟩
              have HU11 := Lib.hid (HU10.out.trans hu11)
              clear hu11 HU10 x0 x1 x2 x3 x4
              obtain ⟨x0, x1, x2, x3, x4⟩ := HCS.out _ HU11.out
              obtain ⟨⟨r0, r1, r2, r3, r4⟩, rf⟩ := HRS.out _ HU11.out
              cases gb with
              | true =>
                go_wp2_with fail
                exact HEND.out _ 0 (HU36.out.trans HU11.out) (by rw [HCHK.out, if_neg (by decide), if_neg (by decide), if_neg (by omega), if_neg hne]; simp) _ rfl rfl
              | false =>
                go_wp2_with fail
                exact HEND.out _ 7 (HU36.out.trans HU11.out) (by rw [HCHK.out, if_neg (by decide), if_neg (by decide), if_neg (by omega), if_neg hne]; simp) _ rfl rfl
          · have hm1 : (0 : Int) < (ml.length : Int) := by omega
            obtain ⟨x0, x1, x2, x3, x4⟩ := HCS.out _ HU9.out
            obtain ⟨⟨r0, r1, r2, r3, r4⟩, rf⟩ := HRS.out _ HU9.out
            go_wp2_with fail
            exact HEND.out _ 9 (HU36.out.trans HU9.out) (by rw [HCHK.out, if_neg (by decide), if_neg (by decide), if_pos hml0]) _ rfl rfl
        · have hck1 : (ckz != 0) = true := by rw [bne_iff_ne]; exact hck
          obtain ⟨x0, x1, x2, x3, x4⟩ := HCS.out _ HU8.out
          obtain ⟨⟨r0, r1, r2, r3, r4⟩, rf⟩ := HRS.out _ HU8.out
          go_wp2_with fail
          exact HEND.out _ 4 (HU36.out.trans HU8.out) (by rw [HCHK.out, if_neg (by decide), if_pos hck]) _ rfl rfl
end
end Go.Proofs.YtgcpoppinnnciaaGreatDoor
