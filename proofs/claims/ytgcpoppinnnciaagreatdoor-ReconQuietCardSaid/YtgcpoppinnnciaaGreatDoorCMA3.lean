/-
  member.among: the walk.
-/
import Derived.Test.YtgcpoppinnnciaaGreatDoorCMJ1
/- member.among: the walk. -/
set_option linter.unusedVariables false
set_option linter.unusedSimpArgs false
namespace Go.Proofs.YtgcpoppinnnciaaGreatDoor
open Go Go.RowKit Go.Proofs.YtgcpoppinnnciaaGreatDoor.Pal Go.Proofs.YtgcpoppinnnciaaGreatDoor.Plan

def AmPost (w : World) (l : List Ent) (r : Nat) (q : PB) (G : Nat → Bool) (S : Nat → Bool) (e : Ending) (w' : World) : Prop :=
  ∃ (k : CB) (L : List Nat), e = .returned (.pointer (some ⟨k.bc, 0, none⟩)) ∧ PCir w' l r q G k S (holdAll l r S) ∧ Tells l S L ∧ L.Pairwise (fun i j => lessE l i j = true) ∧ RdS w' 5 EntR k.A k.m (L.map (ent l)) ∧ Unch none_ w w'
theorem am_start (w : World) (bs : Nat) {w2 : World} (h : w2 = ((w.alloc (.cells #[.pointer (some ⟨bs, 0, none⟩)] 238)).alloc (.map #[] 0)).alloc (.cells #[.pointer (some ⟨bs, 0, none⟩), .slice none 0 0, .map none, .map (some (w.heap.size + 1))] 257)) :
    Unch none_ w w2 ∧ w2.heap[w.heap.size]? = some (.cells #[.pointer (some ⟨bs, 0, none⟩)] 238 (0, 0)) ∧ Sm w2 (w.heap.size + 1) [] ∧ w2.heap[w.heap.size + 1 + 1]? = some (.cells #[.pointer (some ⟨bs, 0, none⟩), .slice none 0 0, .map none, .map (some (w.heap.size + 1))] 257 (0, 0)) ∧ w2.heap.size = w.heap.size + 3 := by
  subst h
  have b1 := blk_new w (.cells #[.pointer (some ⟨bs, 0, none⟩)] 238)
  have m1 := Sm.made (w.alloc (.cells #[.pointer (some ⟨bs, 0, none⟩)] 238))
  have b3 := blk_new ((w.alloc (.cells #[.pointer (some ⟨bs, 0, none⟩)] 238)).alloc (.map #[] 0)) (.cells #[.pointer (some ⟨bs, 0, none⟩), .slice none 0 0, .map none, .map (some (w.heap.size + 1))] 257)
  simp only [World.size_alloc] at m1 b3
  refine ⟨(((Unch.refl none_ w).alloc _).alloc _).alloc _, blk_alloc (blk_alloc b1 _) _, m1.unch ((Unch.refl none_ _).alloc _) (fun h => h), b3, by simp [World.size_alloc]⟩
theorem idA_ix {l : List Ent} {G : Nat → Bool} {f : Nat → Value} {k : ByteArray} {v : Value} (h : (k, v) ∈ idA l G f l.length) : ∃ i, i < l.length ∧ G i = true ∧ k = (ent l i).id ∧ v = f i := by
  obtain ⟨i, h1, h2, h3⟩ := idA_mem.1 h
  injection h3 with h3 h4
  exact ⟨i, h1, h2, h3, h4⟩
structure Am2 (w wr : World) (l : List Ent) (r : Nat) (q : PB) (bx bc bho brk blk off m c : Nat) (L1 : List Nat) (t : Nat) : Prop where
  u : Unch none_ w wr
  hbx : wr.heap[bx]? = some (.cells #[.pointer (some ⟨q.bs, 0, none⟩)] 238 (0, 0))
  hbc : wr.heap[bc]? = some (.cells (circA q.bs (some ⟨blk, off, none⟩) m c brk bho) 257 (0, 0))
  hbho : Sm wr bho []
  row : SR wr blk off m c (L1.map (ent l))
  rk : ∃ mr, Sm wr brk mr ∧ ∀ key, mget mr key = (rkP l r L1 t key).map fun x => Value.int .i64 (x : Int)
  nbrk : w.heap.size ≤ brk
  hne : brk ≠ bho
section
variable {w wr w3 : World} {l : List Ent} {r : Nat} {q : PB} {bx bc bho brk blk off m c : Nat} {L1 : List Nat} {t : Nat}
theorem Am2.fresh (h : Am2 w wr l r q bx bc bho brk blk off m c L1 t) (hu : Unch none_ wr w3) : Am2 w w3 l r q bx bc bho brk blk off m c L1 t := by
  obtain ⟨mr, a, b⟩ := h.rk
  exact ⟨h.u.trans hu, hu.heap h.hbx (fun h => h), hu.heap h.hbc (fun h => h), h.hbho.unch hu (fun h => h), h.row.fresh hu, ⟨mr, a.unch hu (fun h => h), b⟩, h.nbrk, h.hne⟩
theorem Am2.put (h : Am2 w wr l r q bx bc bho brk blk off m c L1 t) (hu : Unch (fun j => j = brk) wr w3) {mr : Asc} {t' : Nat} (hs : Sm w3 brk mr) (hg : ∀ key, mget mr key = (rkP l r L1 t' key).map fun x => Value.int .i64 (x : Int)) : Am2 w w3 l r q bx bc bho brk blk off m c L1 t' := by
  obtain ⟨mr0, a, _⟩ := h.rk
  refine ⟨h.u.step hu (fun i hi e => by have := h.nbrk; omega), hu.heap h.hbx (fun e => sm_ne_cells a h.hbx e.symm), hu.heap h.hbc (fun e => sm_ne_cells a h.hbc e.symm), h.hbho.unch hu (fun e => h.hne e.symm), h.row.unch hu (fun b hb e => ?_), ⟨mr, hs, hg⟩, h.nbrk, h.hne⟩
  obtain ⟨cur, hc⟩ := h.row.blk hb
  exact sm_ne_cells a hc e.symm
theorem Am2.same (h : Am2 w wr l r q bx bc bho brk blk off m c L1 t) {t' : Nat} (hg : ∀ key, rkP l r L1 t' key = rkP l r L1 t key) : Am2 w wr l r q bx bc bho brk blk off m c L1 t' := by
  obtain ⟨mr, a, b⟩ := h.rk
  exact ⟨h.u, h.hbx, h.hbc, h.hbho, h.row, ⟨mr, a, fun key => by rw [b, hg]⟩, h.nbrk, h.hne⟩
theorem am2_start {w w5 w7 : World} {l : List Ent} {r : Nat} {q : PB} {bx bc bho blk off m c : Nat} {L1 : List Nat} (hu : Unch none_ w w5) (hbx : w5.heap[bx]? = some (.cells #[.pointer (some ⟨q.bs, 0, none⟩)] 238 (0, 0)))
    (hbc : w5.heap[bc]? = some (.cells #[.pointer (some ⟨q.bs, 0, none⟩), .slice (some ⟨blk, off, none⟩) m c, .map none, .map (some bho)] 257 (0, 0))) (hbho : Sm w5 bho []) (hrow : SR w5 blk off m c (L1.map (ent l))) (nbc : w.heap.size ≤ bc)
    (hs : Sm w7 w5.heap.size (mput [] (ent l r).author (.int .i64 0))) (hu7 : Unch (fun j => j = w5.heap.size) (w5.alloc (.map #[] 0)) w7) :
    Am2 w (w7.setCell ⟨bc, 2, none⟩ (.map (some w5.heap.size))) l r q bx bc bho w5.heap.size blk off m c L1 0 := by
  have ha : Unch none_ w5 (w5.alloc (.map #[] 0)) := (Unch.refl none_ w5).alloc _
  have hu57 : Unch none_ w5 w7 := ha.step hu7 (fun i hi e => by omega)
  have b7 := hu57.heap hbc (fun h => h)
  have x7 := hu57.heap hbx (fun h => h)
  have huc : Unch (fun k => k = bc) w7 (w7.setCell ⟨bc, 2, none⟩ (.map (some w5.heap.size))) := (Unch.refl _ _).setCell _ (fun _ => rfl)
  have hb7 := hbho.unch hu57 (fun h => h)
  have hr7 := hrow.fresh hu57
  refine ⟨(hu.trans hu57).step huc (fun i hi e => by omega), huc.heap x7 (fun e => ?_), blk_set b7 2 _, hb7.unch huc (sm_ne_cells hb7 b7), hr7.unch huc (fun b hb e => ?_), ⟨_, hs.unch huc (sm_ne_cells hs b7), fun key => ?_⟩, hu.size, fun e => by have := hbho.lt; omega⟩
  · rw [e, b7] at x7
    injection x7 with x7
    injection x7 with _ x7
    exact absurd x7 (by decide)
  · obtain ⟨cur, hc⟩ := hr7.blk hb
    rw [e, b7] at hc
    injection hc with hc
    injection hc with _ hc
    exact absurd hc (by decide)
  · rw [mget_mput, rkP_zero]
    split
    · rfl
    · rfl
end
section
variable {w : World} {l : List Ent} {r : Nat} {q : PB} {G : Nat → Bool}
set_option maxRecDepth 100000 in
set_option maxHeartbeats 4000000 in
theorem among_ok (h : PSet w l r q G) {iv : Value} {Kf : Nat → Bool} (hid : IdsOk w l iv Kf) {S : Nat → Bool} (hS : ∀ i, i < l.length → S i = (G i && Kf i)) (hne : ∃ i, i < l.length ∧ S i = true) :
    Calls Tryz.prog 203 #[.pointer (some ⟨q.bs, 0, none⟩), iv] w (AmPost w l r q G S) := by
  have HH := Lib.hid h
  have HID := Lib.hid hid
  have HS := Lib.hid hS
  have HNE := Lib.hid hne
  have hlen := h.cl.len
  clear h hid hS hne
  have hmm := @run_makeMap Tryz.prog
  go_enter Tryz.func203, Tryz.ntmps203
  go_upto_region 2 with fail
  obtain ⟨w2, hw2⟩ : ∃ w2, w2 = ((w.alloc (.cells #[.pointer (some ⟨q.bs, 0, none⟩)] 238)).alloc (.map #[] 0)).alloc (.cells #[.pointer (some ⟨q.bs, 0, none⟩), .slice none 0 0, .map none, .map (some (w.heap.size + 1))] 257) := ⟨_, rfl⟩
  obtain ⟨hu2, hbx, hbho, hbc, hsz⟩ := am_start w q.bs hw2
  rw [← hw2]
  obtain ⟨bx, hbxe⟩ : ∃ b, w.heap.size = b := ⟨_, rfl⟩
  obtain ⟨bho, hbhoe⟩ : ∃ b, w.heap.size + 1 = b := ⟨_, rfl⟩
  obtain ⟨bc, hbce⟩ : ∃ b, w.heap.size + 1 + 1 = b := ⟨_, rfl⟩
  have n1 : w.heap.size ≤ bx := by omega
  have n2 : w.heap.size ≤ bho := by omega
  have n3 : w.heap.size ≤ bc := by omega
  rw [hbce, hbhoe] at hbc
  rw [hbhoe] at hbho
  rw [hbxe] at hbx
  rw [hbce, hbhoe, hbxe]
  have h2 := HH.out.fresh hu2
  have x0 := blk_cell hbx (j := 0) rfl
  have s7 := h2.c7
  have hg2 := h2.good
  have HB := Lib.hid hbx
  have HBC := Lib.hid hbc
  have HBHO := Lib.hid hbho
  have HU2 := Lib.hid hu2
  have HSZ := Lib.hid hsz
  clear hw2 hbxe hbhoe hbce hbx hbc hbho hu2 hsz h2
  go_wp2_with (at_range; refine wpList_sm_range w2 rfl (.tmp 18) 148 rfl 9 4 Tryz.underlying148 q.bgood (idA l G (fun _ => .bool true) l.length) rfl hg2 ?_; intro w3 hsit hu3 hsz3; have HSIT := Lib.hid hsit; have HU3 := Lib.hid hu3; clear hsit hu3 hsz3)
  go_simp
  obtain ⟨ri, hri⟩ : ∃ ri, w2.heap.size = ri := ⟨_, rfl⟩
  have n4 : w.heap.size ≤ ri := by have := HU2.out.size; omega
  rw [hri] at HSIT ⊢
  have H0 : Hid (Am0 w w3 l q G bx bc bho ri (.slice none 0 0) [] (idA l G (fun _ => .bool true) l.length)) := ⟨HU2.out.trans HU3.out, HU3.out.heap HB.out (fun h => h), HU3.out.heap HBC.out (fun h => h), HBHO.out.unch HU3.out (fun h => h), HSIT.out, Row.nil _ _ _, (fun b hb => by cases hb), n1, n3, n2, n4, List.nodup_nil, (fun i hi => by cases hi)⟩
  have HM0 : Hid (AmM l S [] (idA l G (fun _ => .bool true) l.length)) := Lib.hid fun i => by
    constructor
    · intro hi; cases hi
    · rintro ⟨⟨h1, h2⟩, h3⟩
      rw [HS.out i h1, Bool.and_eq_true] at h2
      exact absurd rfl (h3 _ (idA_mem.2 ⟨i, h1, h2.1, rfl⟩))
  clear hri x0 s7 hg2 HB HBC HBHO HU2 HSZ HU3 HSIT
  go_loopg [6] ((idA l G (fun _ => Value.bool true) l.length).length) (fun gk _ wr => ∃ (v : Value) (L : List Nat) (left : Asc), gk = left.length ∧ Am0 w wr l q G bx bc bho ri v L left ∧ AmM l S L left)
  case atStart => exact ⟨_, _, _, rfl, H0.out, HM0.out⟩
  case round =>
    clear H0 HM0
    obtain ⟨v, L, left, rfl, ha, hm⟩ := hrel
    obtain ⟨w4, rfl⟩ : ∃ w4, w4 = wr := ⟨_, rfl⟩
    have HA := Lib.hid ha
    have HM := Lib.hid hm
    clear ha hm
    go_wp2_with (at_next; refine wpList_sit_next2 w4 rfl (.tmp 19) rfl q.bgood ri _ left rfl HA.out.it ?c1 ?c2)
    case c1 =>
      intro hl
      subst hl
      have hT : Tells l S L := ⟨HA.out.nd, fun i => by rw [HM.out i]; simp⟩
      have hlp : 0 < L.length := by
        obtain ⟨i, hi, hs⟩ := HNE.out
        exact List.length_pos_of_mem ((hT.mem i).2 ⟨hi, hs⟩)
      have hm3 : L.length ≤ 300 := Nat.le_trans (nd_len HA.out.nd HA.out.lt) hlen
      obtain ⟨m, hm⟩ : ∃ m, L.length = m := ⟨_, rfl⟩
      obtain ⟨blk, off, c, cur, hv, hblk, _⟩ := HA.out.row.form hlp
      subst hv
      have h4 := HH.out.fresh HA.out.u
      have hso := sortE_ok h4 HA.out.hbx hm3 HA.out.lt HA.out.nd HA.out.row
      have hbc4 := HA.out.hbc
      rw [hm] at hso hlp hm3 hbc4
      have c1 := blk_cell hbc4 (j := 1) rfl
      have HSO := Lib.hid hso
      have H4 := Lib.hid h4
      have HT := Lib.hid hT
      have HML := Lib.hid hm
      have HBC4 := Lib.hid hbc4
      have HBLK := Lib.hid hblk
      have hnb := HA.out.own blk rfl
      clear hso h4 hT hm hbc4 hblk
      go_simp
      go_wp2_with fail
      refine HSO.out.mono ?_
      rintro e w5 ⟨rfl, L1, hp1, hs1, hr1, hu5⟩
      clear c1
      have h5 := H4.out.other HBLK.out (by decide) hu5
      have nex : bx ≠ blk := fun e => by
        have h1 := HA.out.hbx
        rw [e, HBLK.out] at h1
        injection h1 with h1
        injection h1 with _ h1
        exact absurd h1 (by decide)
      have nec : bc ≠ blk := fun e => by
        have h1 := HBC4.out
        rw [e, HBLK.out] at h1
        injection h1 with h1
        injection h1 with _ h1
        exact absurd h1 (by decide)
      have bx5 := hu5.heap HA.out.hbx nex
      have bc5 := hu5.heap HBC4.out nec
      have bho5 := HA.out.hbho.unch hu5 (sm_ne_cells HA.out.hbho HBLK.out)
      have hT1 := HT.out.perm hp1
      have lL1 : L1.length = m := by rw [hp1.length_eq]; exact HML.out
      have hu05 : Unch none_ w w5 := HA.out.u.step hu5 (fun i hi e => by omega)
      have ha56 : Unch none_ w5 (w5.alloc (.map #[] 0)) := (Unch.refl none_ w5).alloc _
      have hm6 := Sm.made w5
      have x0 := blk_cell (ha56.heap bx5 (fun h => h)) (j := 0) rfl
      have s2 := (h5.fresh ha56).c2
      have haut := h5.sz.aut r h5.hr
      have HAUT := Lib.hid haut
      have HM6 := Lib.hid hm6
      have H5 := Lib.hid h5
      have BX5 := Lib.hid bx5
      have BC5 := Lib.hid bc5
      have BHO5 := Lib.hid bho5
      have HT1 := Lib.hid hT1
      have HLL1 := Lib.hid lL1
      have HS1 := Lib.hid hs1
      have HR1 := Lib.hid hr1
      have HU05 := Lib.hid hu05
      clear hm6 haut h5 bx5 bc5 bho5 hT1 lL1 hs1 hr1 hu05 ha56 hp1 hu5
      go_upto_region 9 with (with_reducible refine wpList_sm_ins _ rfl (.tmp 53) (.tmp 58) (.const (.int .i64 0)) 127 rfl 9 3 Tryz.underlying127 Tryz.underlying9 w5.heap.size [] rfl HM6.out (ent l r).author rfl HAUT.out (.int .i64 0) rfl ?_; intro w7 hsm7 hu7; have hst := am2_start (r := r) HU05.out BX5.out BC5.out BHO5.out HR1.out n3 hsm7 hu7; have y7 := blk_cell (hu7.heap (((Unch.refl none_ w5).alloc _).heap BC5.out (fun h => h)) (fun e => by have := lt_of_heap BC5.out; omega)) (j := 2) rfl; have y7f := blk_free (hu7.heap (((Unch.refl none_ w5).alloc _).heap BC5.out (fun h => h)) (fun e => by have := lt_of_heap BC5.out; omega)) 2; have HST := Lib.hid hst; clear hst hsm7 hu7)
      have hst := HST.out
      clear HST y7 y7f x0 s2
      generalize w5.heap.size = brk at *
      generalize w7.setCell _ _ = w8 at *
      have h8 := HH.out.fresh hst.u
      have y1 := circ1 hst.hbc
      have HST := Lib.hid hst
      have H8 := Lib.hid h8
      clear hst h8 HM6 BX5 BC5 BHO5 HR1 HU05 H5 HA HSO H4 HBC4 HBLK
      go_wp2
      go_loopg [7, 8, 9, 10, 67] m (fun gk _ _ _ _ i67 wr => ∃ t : Nat, gk = m - t ∧ t ≤ m ∧ i67 = .int .i64 (t : Int) ∧ Am2 w wr l r q bx bc bho brk blk off m c L1 t)
      case atStart => exact ⟨0, rfl, Nat.zero_le _, rfl, HST.out⟩
      case round =>
        clear HST y1
        obtain ⟨t, rfl, htm, rfl, ha⟩ := hrel
        obtain ⟨w9, rfl⟩ : ∃ w9, w9 = wr := ⟨_, rfl⟩
        by_cases htl : t < m
        · have z1 : (0 : Int) ≤ (t : Int) := by omega
          have z2 : (t : Int) < (m : Int) := by omega
          obtain ⟨i, hi⟩ := get_some HLL1.out htl
          have hil := ((HT1.out.mem i).1 (List.mem_of_getElem? hi)).1
          have hei : (L1.map (ent l))[t]? = some (ent l i) := by rw [List.getElem?_map, hi]; rfl
          have hgD : L1.getD t 0 = i := by rw [List.getD_eq_getElem?_getD, hi]; rfl
          obtain ⟨_, x0, x1, x2, x3, x4⟩ := SR.at ha.row hei
          obtain ⟨Ap, mp, cp, hpv⟩ := HH.out.sz.pv i hil
          rw [hpv] at x3
          have hbody := HH.out.sz.body i hil
          have HBODY := Lib.hid hbody
          have HAA := Lib.hid ha
          have HI := Lib.hid hgD
          clear hi hei hpv hbody ha hgD
          go_upto_region 12 with fail
          have hu9 : Unch none_ w9 (w9.alloc (.cells #[.string (ent l i).id, .int .i64 (ent l i).kind, .string (ent l i).author, .slice Ap mp cp, .string (ent l i).body] 114)) := (Unch.refl none_ w9).alloc _
          have bE := blk_new w9 (.cells #[.string (ent l i).id, .int .i64 (ent l i).kind, .string (ent l i).author, .slice Ap mp cp, .string (ent l i).body] 114)
          generalize hge : w9.heap.size = ge at *
          generalize w9.alloc _ = w10 at *
          have ha10 := HAA.out.fresh hu9
          clear x0 x1 x2 x3 x4 hge
          obtain ⟨mr, hmr, hmg⟩ := ha10.rk
          obtain ⟨x, ok, hx, hok, hno, hyes⟩ : ∃ (x : Value) (ok : Bool), (mget mr (ent l i).body).getD (.int .i64 0) = x ∧ (mget mr (ent l i).body).isSome = ok ∧ (ok = true → (rkP l r L1 t (ent l i).body).isSome = true) ∧ (ok = false → rkP l r L1 t (ent l i).body = none) := by
            refine ⟨_, _, rfl, rfl, fun h => ?_, fun h => ?_⟩
            · rw [hmg] at h
              cases hr : rkP l r L1 t (ent l i).body with
              | none => rw [hr] at h; cases h
              | some v => rfl
            · rw [hmg] at h
              cases hr : rkP l r L1 t (ent l i).body with
              | none => rfl
              | some v => rw [hr] at h; cases h
          have f0 := cellU (circ2 ha10.hbc)
          have f1 := cellU (blk_cell bE (j := 4) rfl)
          have f2 : ∀ G2 : UW w10, (Instr.lookup 127 (.map (some brk)) (.string (ent l i).body) true).run Tryz.prog G2.w' = .ok (.tuple #[x, .bool ok]) G2.w' := fun G2 => look_i (hmr.unch G2.h (fun h => h)) HBODY.out hx hok
          have HNO := Lib.hid hno
          have HYES := Lib.hid hyes
          have HA10 := Lib.hid ha10
          have HMR := Lib.hid hmr
          have HMG := Lib.hid hmg
          clear hx hok hno hyes ha10 hmr hmg
          refine wp_region_quiet_u (by kernel_rfl) (by kernel_rfl) (fun _ => ?_)
          repeat (go_big_quiet_step (fail))
          refine wpQuiet_nil ?_
          intro wq hw'
          obtain ⟨⟨wqq, huq⟩, hw''⟩ := hw'
          subst hw''
          clear f0 f1 f2
          have hmr := HMR.out.unch huq (fun h => h)
          have bEq := huq.heap bE (fun h => h)
          have k1 := blk_cell bEq (j := 1) rfl
          have HAq := Lib.hid (HA10.out.fresh huq)
          have HMRq := Lib.hid hmr
          have hgl := lt_of_heap bEq
          clear bE hmr HMR HA10
          by_cases hk4 : (ent l i).kind = 4
          · rw [hk4] at k1
            cases ok with
            | true =>
              have hsame := HAq.out.same (t' := t + 1) (rkP_no (.inr (by rw [HI.out]; exact HNO.out rfl)))
              have HSAME := Lib.hid hsame
              clear hsame hk4
              go_wp2
              go_roundg (m - (t + 1))
              case measure => omega
              case rel => exact ⟨t + 1, rfl, by omega, by go_num, HSAME.out⟩
            | false =>
              have hy := HYES.out rfl
              have hput : ∀ wx, Sm wx brk (mput mr (ent l i).body (.int .i64 ((t : Int) + 1))) → Unch (fun j => j = brk) wq wx → Am2 w wx l r q bx bc bho brk blk off m c L1 (t + 1) := fun wx hs hu => HAq.out.put hu hs fun key => by
                rw [mget_mput, rkP_yes (by rw [HI.out]; exact hk4) (by rw [HI.out]; exact hy), HI.out]
                split
                · rfl
                · exact HMG.out key
              have HPUT := Lib.hid hput
              clear hput hy hk4
              go_upto_region 14 with fail
              refine wp_planC (fun W => Unch none_ wq W) [0, 1, 2, 3, 4, 5, 6, 7] [8] 0 (by kernel_rfl) (by kernel_rfl) rfl rfl (fun c a d v w h => by cases d <;> exact h) ((Unch.refl _ _).drew) ?_
              intro S HS _
              have f0 : ∀ G2 : In S, G2.w.cell? ⟨bc, 2, none⟩ = some (.map (some brk)) := fun G2 => circ2 (HAq.out.fresh ((HS.out _).1 G2.h)).hbc
              have f1 : ∀ G2 : In S, G2.w.cell? ⟨ge, 4, none⟩ = some (.string (ent l i).body) := fun G2 => ((HS.out _).1 G2.h).cell (blk_cell bEq (j := 4) rfl) (fun h => h)
              simp only [pickIn, List.getElem?_toArray, List.getElem?_cons_succ, List.getElem?_cons_zero]
              repeat (go_big_quiet_step (fail))
              refine wpQuiet_nil ?_
              clear f0 f1
              refine tail_all ?_
              have hmd := HMRq.out.unch ((Unch.refl none_ wq).drew) (fun h => h)
              have HMD := Lib.hid hmd
              clear hmd
              go_wp2_with (at_mapUpdate; refine wpList_sm_put wq.drew rfl (.tmp 92) (.tmp 94) (.tmp 96) 127 rfl 9 3 Tryz.underlying127 Tryz.underlying9 brk mr rfl HMD.out (ent l i).body rfl HBODY.out (.int .i64 ((t : Int) + 1)) (by rfl) ?_; intro w11 hsm hu11; have HAP := Lib.hid (HPUT.out w11 hsm (((Unch.refl (fun j => j = brk) wq).drew).trans hu11)); clear hsm hu11)
              go_simp
              go_wp2
              go_roundg (m - (t + 1))
              case measure => omega
              case rel => exact ⟨t + 1, rfl, by omega, by go_num, HAP.out⟩
          · have d1 : ((ent l i).kind == 4) = false := by simpa using hk4
            have hsame := HAq.out.same (t' := t + 1) (rkP_no (.inl (by rw [HI.out]; exact hk4)))
            have HSAME := Lib.hid hsame
            clear hsame hk4
            go_wp2
            go_roundg (m - (t + 1))
            case measure => omega
            case rel => exact ⟨t + 1, rfl, by omega, by go_num, HSAME.out⟩
        · obtain rfl : t = m := by omega
          have h9 := HH.out.fresh ha.u
          have hO : (Ms.mk l r S).Ok := ⟨h9.cl, h9.hr, h9.kr⟩
          have hpc : PCir w9 l r q G ⟨bc, some ⟨blk, off, none⟩, t, c, brk, bho⟩ S (fun _ => none) := ⟨h9, ha.hbc, by rw [← HT1.out.card (r := r)]; exact HLL1.out.symm, by
            obtain ⟨mr, a, b⟩ := ha.rk
            refine ⟨mr, a, fun key => ?_⟩
            rw [b, ← rkP_end HT1.out HS1.out, HLL1.out], ⟨[], ha.hbho, fun i hi => rfl⟩⟩
          have hap : Apart l q ⟨bc, some ⟨blk, off, none⟩, t, c, brk, bho⟩ := ⟨fun e => by have := HH.out.by_.lt; have e : q.bby = bho := e; omega, fun e => by have := HH.out.past.lt; have e : q.bpast = bho := e; omega, fun i hi e => by
            obtain ⟨mm, a, _⟩ := HH.out.rows i hi
            have := a.lt
            have e : q.pb i = bho := e
            omega, fun e => by have := HH.out.good.lt; have e : q.bgood = bho := e; omega, ha.hne⟩
          have hrd := sr_rds ha.row
          have hj := judge_ok hpc hap hO HT1.out (by rw [HLL1.out]; exact hlp) hrd
          have HJ := Lib.hid hj
          have HPC := Lib.hid hpc
          have HAPT := Lib.hid hap
          have HAA := Lib.hid ha
          clear hj hpc hap hrd ha h9 hO
          go_wp2_with fail
          refine HJ.out.mono ?_
          rintro e w10 ⟨rfl, hh10, hu10⟩
          have HH10 := Lib.hid hh10
          have HU10 := Lib.hid hu10
          clear hh10 hu10
          go_wp2
          go_ret
          refine ⟨⟨bc, some ⟨blk, off, none⟩, t, c, brk, bho⟩, L1, rfl, HPC.out.hold HAPT.out HU10.out HH10.out, HT1.out, HS1.out, ?_, HAA.out.u.step HU10.out (fun i hi e => by have e : i = bho := e; omega)⟩
          refine sr_rds (HAA.out.row.unch HU10.out (fun b hb e => ?_))
          obtain ⟨cur', hc⟩ := HAA.out.row.blk hb
          exact sm_ne_cells HAA.out.hbho hc e.symm
    case c2 =>
      rintro ⟨k, kv, w5, hp, hsit, hu5, hsz5, hent⟩
      dsimp only
      obtain ⟨i, hi, hG, rfl, rfl⟩ := idA_ix (HA.out.it.mem _ hp)
      have ha5 := HA.out.next hu5 hsit
      have HA5 := Lib.hid ha5
      have HP := Lib.hid hp
      have hids5 := (HID.out.fresh ha5.u)
      have HIDS5 := Lib.hid hids5
      have h5 := HH.out.fresh ha5.u
      have H5 := Lib.hid h5
      clear hp hsit hu5 hsz5 ha5 hids5 h5
      go_simp
      go_upto_region 5 with fail
      go_cut [30] from 25 to 29 (fun v30 wx => v30 = .bool (Kf i) ∧ w5 = wx)
      case first =>
        rcases HIDS5.out with ⟨rfl, hK⟩ | ⟨b, m, rfl, hsm, hK⟩
        · have hnil := run_eql_map_nil (P := Tryz.prog) w5 148 9 4 none Tryz.underlying148
          have HK : Hid (Kf i = true) := by unfold Hid; rw [hK]
          clear hK
          go_wp2
          go_meet
          exact ⟨by rw [HK.out], rfl⟩
        · have hnil := run_eql_map_nil (P := Tryz.prog) w5 148 9 4 (some b) Tryz.underlying148
          have hlk := look_b hsm (id_max H5.out hi) (hK i hi)
          clear hK hsm
          go_wp2
          go_meet
          exact ⟨rfl, rfl⟩
      case rest =>
        obtain ⟨rfl, rfl⟩ := hcut
        cases hKi : Kf i with
        | false =>
          have hSi : S i = false := by rw [HS.out i hi, hKi, Bool.and_false]
          have HM2 := Lib.hid (HM.out.adv HH.out.cl hi hSi)
          clear hKi hSi
          go_wp2
          go_roundg ((left.filter fun p => decide (p.1 ≠ (ent l i).id)).length)
          case measure => exact left_less HP.out
          case rel => exact ⟨v, L, _, rfl, HA5.out, HM2.out⟩
        | true =>
          have hSi : S i = true := by rw [HS.out i hi, hKi, hG]; rfl
          have HM2 := Lib.hid (HM.out.app HH.out.cl hi hSi)
          have HFR := Lib.hid (HM.out.fresh HP.out)
          clear hKi hSi
          obtain ⟨Ap, mp, cp, hpv⟩ := HH.out.sz.pv i hi
          have hll : L.length ≤ 300 := Nat.le_trans (nd_len HA5.out.nd HA5.out.lt) hlen
          obtain ⟨ln, hln⟩ : ∃ ln, L.length = ln := ⟨_, rfl⟩
          have hrow5 := HA5.out.row
          rw [hln] at hrow5 hll
          have HLN := Lib.hid hln
          have hone : ∀ u ∈ (ent l i).cells, u.oneCell' = true := by
            intro u hu
            unfold Ent.cells at hu
            rw [hpv] at hu
            simp at hu
            rcases hu with rfl | rfl | rfl | rfl | rfl <;> rfl
          have HONE := Lib.hid hone
          have HPVV := Lib.hid hpv
          have hblt := lt_of_heap HA5.out.hbx
          have hcells : (Obj.cells #[.string (ent l i).id, .int .i64 (ent l i).kind, .string (ent l i).author, .slice Ap mp cp, .string (ent l i).body] 114) = Obj.cells (ent l i).cells.toArray 114 := by unfold Ent.cells; rw [hpv]
          have HCELLS := Lib.hid hcells
          clear hln hone hpv hcells
          go_upto_region 6 with fail
          refine wp_planP (fun W => Unch none_ w5 W) [0] [1, 2, 3, 4, 5, 6, 7, 8, 9, 10] [11, 12, 13, 14, 15] 1 (by kernel_rfl) (by kernel_rfl) rfl rfl rfl (fun c a d v w h => by cases d <;> exact h) ((Unch.refl _ _).drew) ?_
          intro S S0 HS _ _
          simp only [pickIn, List.getElem?_toArray, List.getElem?_cons_succ, List.getElem?_cons_zero]
          repeat (go_big_quiet_step (fail))
          refine wpQuiet_nil ?_
          have f0 : ∀ G2 : In S, G2.w.cell? ⟨bx, 0, none⟩ = some (.pointer (some ⟨q.bs, 0, none⟩)) := fun G2 => ((HS.out _).1 G2.h).cell (blk_cell HA5.out.hbx (j := 0) rfl) (fun h => h)
          have f1 : ∀ G2 : In S, G2.w.cell? ⟨bc, 1, none⟩ = some v := fun G2 => ((HS.out _).1 G2.h).cell (blk_cell HA5.out.hbc (j := 1) rfl) (fun h => h)
          have f2 : ∀ G2 : In S, G2.w.cell? ⟨q.bs, 5, none⟩ = some (.map (some q.bby)) := fun G2 => (H5.out.fresh ((HS.out _).1 G2.h)).c5
          have f3 : ∀ G2 : In S, (Instr.lookup 240 (.map (some q.bby)) (.string (ent l i).id) false).run Tryz.prog G2.w = .ok (.agg #[.string (ent l i).id, .int .i64 (ent l i).kind, .string (ent l i).author, .slice Ap mp cp, .string (ent l i).body]) G2.w := fun G2 => by
            have := (H5.out.fresh ((HS.out _).1 G2.h)).lookBy hi
            unfold Ent.val at this
            rw [HPVV.out] at this
            exact this
          repeat (go_big_quiet_step (fail))
          refine wpQuiet_nil ?_
          clear f0 f1 f2 f3
          have hd5 : Unch none_ w5 w5.drew := (Unch.refl none_ w5).drew
          have ha5 : Unch none_ w5 (w5.drew.alloc (.cells #[.string (ent l i).id, .int .i64 (ent l i).kind, .string (ent l i).author, .slice Ap mp cp, .string (ent l i).body] 114)) := hd5.alloc _
          have hrd5 := hrow5.unch hd5 (fun _ _ h => h)
          refine tail_step ?_
          go_wp2_with fail
          refine tail_midS ((HS.out _).2 ha5) (tail_all ?_)
          rw [HCELLS.out]
          go_wp2_with (at_builtin; refine wpList_append1 w5.drew rfl (.tmp 35) (.tmp 42) 93 114 _ 5 80 rfl Tryz.underlying93 info_ent rfl (by omega) v ln (ecells (L.map (ent l))) (by rfl) hrd5 (ent l i).cells rfl HONE.out (by rfl) (by simp only [maxLen]; omega) (by omega) ?_; intro v6 w6 hr6 hu6 hat6; have b6 := HA5.out.keep (((Unch.refl (fun k => v.ownBlock = some k) w5).drew).trans hu6); have s6 := blk_cell b6 (j := 1) rfl; have s6f := blk_free b6 1; have HR6 := Lib.hid hr6; have HU6 := Lib.hid hu6; have HAT6 := Lib.hid hat6; obtain ⟨A6, c6, rfl, _⟩ := hr6.slice; clear hr6 hu6 hat6 b6)
          have hap := HA5.out.app hi HFR.out (by rw [HLN.out]; exact HR6.out) (((Unch.refl (fun k => v.ownBlock = some k) w5).drew).trans HU6.out) (by have := HAT6.out; exact this)
          have HAP := Lib.hid hap
          clear hap s6 s6f
          go_wp2
          go_roundg ((left.filter fun p => decide (p.1 ≠ (ent l i).id)).length)
          case measure => exact left_less HP.out
          case rel => exact ⟨_, _, _, rfl, HAP.out, HM2.out⟩
end
end Go.Proofs.YtgcpoppinnnciaaGreatDoor
