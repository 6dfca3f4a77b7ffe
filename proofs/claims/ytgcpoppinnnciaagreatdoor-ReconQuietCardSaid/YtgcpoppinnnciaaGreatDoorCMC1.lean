/-
  member.Closed.
  member.within: who belongs.
  member.of: the plain part, and its loops' states.
  member.of: the walk.
  member.of: its state.
-/
import Derived.Test.YtgcpoppinnnciaaGreatDoorCMA3
/- member.Closed. -/
set_option linter.unusedVariables false
set_option linter.unusedSimpArgs false
namespace Go.Proofs.YtgcpoppinnnciaaGreatDoor
open Go Go.RowKit Go.Proofs.YtgcpoppinnnciaaGreatDoor.Pal Go.Proofs.YtgcpoppinnnciaaGreatDoor.Plan

/-- The ids of the first k, as a set. -/
def SeenM (l : List Ent) (k : Nat) (m : Asc) : Prop := ∀ s, mget m s = if (findN (l.take k) s).isSome = true then some (.bool true) else none
theorem findN_take_succ {l : List Ent} {k : Nat} {e : Ent} (he : l[k]? = some e) (s : ByteArray) : (findN (l.take (k + 1)) s).isSome = ((findN (l.take k) s).isSome || decide (e.id = s)) := by
  have e2 : l.take (k + 1) = l.take k ++ [e] := by rw [List.take_add_one, he]; rfl
  rw [e2]
  unfold findN
  rw [List.findIdx?_append]
  cases h : List.findIdx? (fun e => decide (e.id = s)) (l.take k) with
  | some v => simp
  | none => by_cases hs : e.id = s <;> simp [hs, List.findIdx?_cons]
theorem SeenM.put {l : List Ent} {k : Nat} {m : Asc} {e : Ent} (h : SeenM l k m) (he : l[k]? = some e) : SeenM l (k + 1) (mput m e.id (.bool true)) := fun s => by
  rw [mget_mput, findN_take_succ he, h s]
  by_cases hs : s = e.id
  · subst hs; simp
  · have : ¬ e.id = s := fun e => hs e.symm
    rw [if_neg hs]
    simp [this]
theorem SeenM.look {l : List Ent} {k : Nat} {m : Asc} (h : SeenM l k m) (s : ByteArray) : (mget m s).getD (.bool false) = .bool (findN (l.take k) s).isSome := by
  rw [h s]
  cases (findN (l.take k) s).isSome <;> rfl
theorem closedB_false {l : List Ent} {k : Nat} (hk : k < l.length) (h : closedAt (l.take k) (ent l k) = false) : closedB l = false := by
  unfold closedB closedUpto
  have : (List.range l.length).all (fun i => closedAt (l.take i) (ent l i)) = false := by
    rw [List.all_eq_false]
    exact ⟨k, by simpa using hk, by rw [h]; decide⟩
  rw [this, Bool.and_false]
theorem size_toList (s : ByteArray) : s.toList = [] ↔ s.size = 0 := by
  rw [ByteArray.toList_eq]
  constructor
  · intro h
    have := congrArg List.length h
    simpa using this
  · intro h
    apply List.eq_nil_of_length_eq_zero
    simpa using h
set_option maxRecDepth 100000 in
set_option maxHeartbeats 2000000 in
theorem pClosed_ok {w : World} {A : Option Addr} {n c : Nat} {l : List Ent} (h : Ents w A n l) (hc : n ≤ c) :
    Calls Tryz.prog 191 #[.slice A n c] w fun e w' => e = .returned (.bool (closedB l)) ∧ Unch none_ w w' := by
  have hn := h.rd.max
  have hl := h.len
  unfold maxLen at hn
  obtain ⟨res, hres⟩ : ∃ res, closedB l = res := ⟨_, rfl⟩
  rw [hres]
  have HR := Lib.hid hres
  have HL := Lib.hid hl
  by_cases h300 : n ≤ 300
  · have hu1 : Unch none_ w (w.alloc (.map #[] 0)) := (Unch.refl none_ w).alloc _
    have hm1 := Sm.made w
    have hmm := @run_makeMap Tryz.prog
    have HU1 := Lib.hid hu1
    have HM1 := Lib.hid hm1
    have HH := Lib.hid h
    clear hres hl hu1 hm1
    go_enter Tryz.func191, Tryz.ntmps191
    go_wp2
    obtain ⟨bm, hbm⟩ : ∃ bm, w.heap.size = bm := ⟨_, rfl⟩
    rw [hbm] at HM1 ⊢
    have n1 : w.heap.size ≤ bm := by omega
    clear hbm
    generalize w.alloc _ = w1 at *
    go_loopg [14] n (fun gk i14 wr => ∃ (k : Nat) (m : Asc), gk = n - k ∧ k ≤ n ∧ i14 = .int .i64 (k : Int) ∧ closedUpto l k = true ∧ Sm wr bm m ∧ SeenM l k m ∧ Unch none_ w wr)
    case atStart => exact ⟨0, [], rfl, Nat.zero_le _, rfl, rfl, HM1.out, fun s => by simp [findN, mget], HU1.out⟩
    case round =>
      obtain ⟨k, m, rfl, hk, rfl, hup, hsm, hseen, hu⟩ := hrel
      obtain ⟨w2, rfl⟩ : ∃ w2, w2 = wr := ⟨_, rfl⟩
      by_cases hkn : k < n
      · obtain ⟨e, he⟩ := get_some HL.out hkn
        have hee : ent l k = e := ent_of he
        have h2 := HH.out.fresh hu
        obtain ⟨b, o, rfl, hb, x0, x1, x2, x3, x4⟩ := h2.at he
        obtain ⟨A2, c2, hpv, hc2, hrp⟩ := (h2.ok e (List.mem_of_getElem? he)).ps
        have hsid := (h2.ok e (List.mem_of_getElem? he)).sid
        have hsps := (h2.ok e (List.mem_of_getElem? he)).sps
        rw [hpv] at x3
        have hbad : closedAt (l.take k) e = false → res = false := fun hf => by rw [← HR.out]; exact closedB_false (by rw [HL.out]; exact hkn) (by rw [hee]; exact hf)
        have HBAD := Lib.hid hbad
        have hupn : closedAt (l.take k) e = true → closedUpto l (k + 1) = true := fun ht => by rw [closedUpto_succ, hup, hee, ht]; rfl
        have HUPN := Lib.hid hupn
        have z1 : (k : Int) < (n : Int) := by omega
        have HSEEN := Lib.hid hseen
        have HE := Lib.hid he
        have HU := Lib.hid hu
        have HSM := Lib.hid hsm
        have HRP := Lib.hid hrp
        have HSPS := Lib.hid hsps
        clear hbad hupn hup hee hseen he h2 hu hsm hrp hsps
        go_upto_region 7 with fail
        have hu3 : Unch none_ w2 (w2.alloc (.cells #[.string e.id, .int .i64 e.kind, .string e.author, .slice A2 e.ps.length c2, .string e.body] 114)) := (Unch.refl none_ w2).alloc _
        have bE := blk_new w2 (.cells #[.string e.id, .int .i64 e.kind, .string e.author, .slice A2 e.ps.length c2, .string e.body] 114)
        generalize hge : w2.heap.size = ge at *
        generalize w2.alloc _ = w3 at *
        clear x0 x1 x2 x3 x4 hge
        have y0 := blk_cell bE (j := 0) rfl
        have y3 := blk_cell bE (j := 3) rfl
        have hsm3 := HSM.out.unch hu3 (fun h => h)
        have HSM3 := Lib.hid hsm3
        have HU3 := Lib.hid (HU.out.trans hu3)
        clear hsm3
        by_cases s0 : e.id.size = 0
        · have hf := HBAD.out (by rw [Bool.eq_false_iff]; intro hh; have := (closedAt_eq _ _).1 hh; omega)
          have HF := Lib.hid hf
          have d0 := (size_toList e.id).2 s0
          clear hf s0
          go_wp2
          go_ret
          exact ⟨by rw [HF.out]; rfl, HU3.out⟩
        · have d0 : ¬ e.id.toList = [] := fun h => s0 ((size_toList e.id).1 h)
          have d0' : (e.id.toList == []) = false := by simpa using d0
          have d0'' : (e.id.toList.isEmpty) = false := by simpa using d0
          by_cases s1 : 64 < e.id.size
          · have hf := HBAD.out (by rw [Bool.eq_false_iff]; intro hh; have := (closedAt_eq _ _).1 hh; omega)
            have HF := Lib.hid hf
            have d1 : (64 : Int) < (e.id.size : Int) := by omega
            clear hf s0
            go_wp2
            go_ret
            exact ⟨by rw [HF.out]; rfl, HU3.out⟩
          · have d1 : ¬ (64 : Int) < (e.id.size : Int) := by omega
            have hlk := look_b HSM3.out hsid (HSEEN.out.look e.id)
            cases hfi : (findN (l.take k) e.id).isSome with
            | true =>
              rw [hfi] at hlk
              have hf := HBAD.out (by rw [Bool.eq_false_iff]; intro hh; have := ((closedAt_eq _ _).1 hh).2.2.1; rw [this] at hfi; cases hfi)
              have HF := Lib.hid hf
              clear hf s0 hfi
              go_wp2
              go_ret
              exact ⟨by rw [HF.out]; rfl, HU3.out⟩
            | false =>
              rw [hfi] at hlk
              have hnone : findN (l.take k) e.id = none := by cases hx : findN (l.take k) e.id with | none => rfl | some v => rw [hx] at hfi; cases hfi
              have HNONE := Lib.hid hnone
              have S0 := Lib.hid s0
              clear hnone hfi s0
              obtain ⟨np, hnp⟩ : ∃ np, e.ps.length = np := ⟨_, rfl⟩
              have hnpm := HRP.out.max
              rw [hnp] at y3 hnpm
              unfold maxLen at hnpm
              have HNP := Lib.hid hnp
              clear hnp
              go_wp2
              clear hlk d0 d0' d0'' d1
              go_loopg [7, 36] np (fun gk _ i36 wr => ∃ t : Nat, gk = np - t ∧ t ≤ np ∧ i36 = .int .i64 (t : Int) ∧ (∀ j s, j < t → e.ps[j]? = some s → (findN (l.take k) s).isSome = true) ∧ w3 = wr)
              case atStart => exact ⟨0, rfl, Nat.zero_le _, rfl, fun j s hj => by omega, rfl⟩
              case round =>
                obtain ⟨t, rfl, ht, rfl, hall, rfl⟩ := hrel
                have HALL := Lib.hid hall
                clear hall
                by_cases htn : t < np
                · obtain ⟨p, hp⟩ := get_some HNP.out htn
                  have hrp3 := (RdS.fresh (RdS.fresh HRP.out (Unch.refl none_ w2)) hu3)
                  obtain ⟨bp, op, hA2, _, xp⟩ := RdS.str hrp3 hp
                  subst hA2
                  have zt : (t : Int) < (np : Int) := by omega
                  have hlk := look_b HSM3.out (HSPS.out p (List.mem_of_getElem? hp)) (HSEEN.out.look p)
                  cases hfp : (findN (l.take k) p).isSome with
                  | true =>
                    rw [hfp] at hlk
                    have HN : Hid (∀ j s, j < t + 1 → e.ps[j]? = some s → (findN (l.take k) s).isSome = true) := Lib.hid fun j s hj hs => by
                      rcases Nat.lt_or_ge j t with h1 | h1
                      · exact HALL.out j s h1 hs
                      · obtain rfl : j = t := by omega
                        rw [hp] at hs
                        obtain rfl := Option.some.inj hs
                        exact hfp
                    clear hrp3 hp hfp
                    go_wp2
                    go_roundg (np - (t + 1))
                    case measure => omega
                    case rel => exact ⟨t + 1, rfl, by omega, by go_num, HN.out, rfl⟩
                  | false =>
                    rw [hfp] at hlk
                    have hf := HBAD.out (by rw [Bool.eq_false_iff]; intro hh; have := ((closedAt_eq _ _).1 hh).2.2.2 p (List.mem_of_getElem? hp); rw [hfp] at this; cases this)
                    have HF := Lib.hid hf
                    clear hrp3 hp hfp hf
                    go_wp2
                    go_ret
                    exact ⟨by rw [HF.out]; rfl, HU3.out⟩
                · obtain rfl : t = np := by omega
                  have hat : closedAt (l.take k) e = true := (closedAt_eq _ _).2 ⟨by have := S0.out; omega, by omega, HNONE.out, fun s hs => by
                    obtain ⟨j, hj⟩ := List.mem_iff_getElem?.1 hs
                    exact HALL.out j s (by rw [← HNP.out]; exact (List.getElem?_eq_some_iff.1 hj).1) hj⟩
                  have HUP2 := Lib.hid (HUPN.out hat)
                  have HPUT := Lib.hid (HSEEN.out.put HE.out)
                  clear hat
                  go_wp2_with (at_mapUpdate; refine wpList_sm_put w3 rfl (.tmp 45) (.tmp 47) (.const (.bool true)) 148 rfl 9 4 Tryz.underlying148 Tryz.underlying9 bm m rfl HSM3.out e.id rfl hsid (.bool true) (by rfl) ?_; intro w4 hsm4 hu4; have HSM4 := Lib.hid hsm4; have HU4 := Lib.hid hu4; clear hsm4 hu4)
                  go_simp
                  go_wp2
                  go_roundg (n - (k + 1))
                  case measure => omega
                  case rel => exact ⟨k + 1, _, rfl, by omega, by go_num, HUP2.out, HSM4.out, HPUT.out, HU3.out.step HU4.out (fun i hi e => by omega)⟩
      · obtain rfl : k = n := by omega
        have hr : res = true := by rw [← HR.out]; unfold closedB; rw [HL.out, decide_eq_true h300, hup]; rfl
        have HRR := Lib.hid hr
        have HU := Lib.hid hu
        clear hr hu hup hsm hseen
        go_wp2
        go_ret
        exact ⟨by rw [HRR.out]; rfl, HU.out⟩
  · have hr : res = false := by rw [← hres]; unfold closedB; rw [decide_eq_false (by omega), Bool.false_and]
    subst hr
    have z1 : (300 : Int) < (n : Int) := by omega
    clear hres hl h
    go_enter Tryz.func191, Tryz.ntmps191
    go_wp2
    go_ret
    exact ⟨rfl, Unch.refl _ _⟩
end Go.Proofs.YtgcpoppinnnciaaGreatDoor
/- member.within: who belongs. -/
set_option linter.unusedVariables false
set_option linter.unusedSimpArgs false
namespace Go.Proofs.YtgcpoppinnnciaaGreatDoor
open Go Go.RowKit Go.Proofs.YtgcpoppinnnciaaGreatDoor.Pal Go.Proofs.YtgcpoppinnnciaaGreatDoor.Plan

theorem holdAll_getD (l : List Ent) (r : Nat) (S : Nat → Bool) (i : Nat) : (holdAll l r S i).getD false = (Ms.mk l r S).holding i := by
  unfold holdAll Ms.holding
  show _ = (S i && _)
  cases S i <;> simp
theorem any_places {l : List Ent} {S : Nat → Bool} {L : List Nat} (hT : Tells l S L) (f : Nat → Bool) : (List.range L.length).any (fun t => f (L.getD t 0)) = (List.range l.length).any fun i => S i && f i := by
  rw [Bool.eq_iff_iff, List.any_eq_true, List.any_eq_true]
  constructor
  · rintro ⟨t, ht, hf⟩
    have hm := (hT.mem _).1 (getD_mem (by simpa using ht))
    generalize L.getD t 0 = i at hf hm
    exact ⟨i, by simpa using hm.1, by rw [hm.2, hf]; rfl⟩
  · rintro ⟨i, hi, hf⟩
    rw [Bool.and_eq_true] at hf
    obtain ⟨t, ht⟩ := List.mem_iff_getElem?.1 ((hT.mem i).2 ⟨by simpa using hi, hf.1⟩)
    have hg : L.getD t 0 = i := by rw [List.getD_eq_getElem?_getD, ht]; rfl
    exact ⟨t, by simpa using (List.getElem?_eq_some_iff.1 ht).1, by rw [hg]; exact hf.2⟩
theorem memB_member {l : List Ent} {r : Nat} {S : Nat → Bool} {L : List Nat} (hT : Tells l S L) (hr : (ent l r).kind = 1) (hroot : ∀ i, i < l.length → S i = true → (ent l i).kind = 1 → i = r) (key : ByteArray) : memB l (holdAll l r S) L key = (Ms.mk l r S).member key := by
  unfold memB
  rw [any_places hT (fun i => inB l (holdAll l r S) L key i)]
  unfold Ms.member
  show _ = (List.range l.length).any _
  apply any_congr
  intro i hi
  have hi : i < l.length := by simpa using hi
  have hleave : ((List.range L.length).any fun t => leaveB l (holdAll l r S) key i (L.getD t 0)) = (List.range l.length).any fun k => (Ms.mk l r S).leaves key i k := by
    rw [any_places hT (fun j => leaveB l (holdAll l r S) key i j)]
    apply any_congr
    intro j hj
    unfold leaveB Ms.leaves
    rw [holdAll_getD]
    show (S j && _) = ((Ms.mk l r S).holding j && (decide ((ent l j).kind = 5) && (decide ((ent l j).body = key) && !past l i j)))
    have hh : (Ms.mk l r S).holding j = true → S j = true := fun h => by unfold Ms.holding at h; rw [Bool.and_eq_true] at h; exact h.1
    generalize (Ms.mk l r S).holding j = hv at hh
    cases hv with
    | true => rw [hh rfl]; simp
    | false => simp
  unfold inB
  rw [hleave]
  show _ = ((Ms.mk l r S).joins key i && !(List.range l.length).any fun k => (Ms.mk l r S).leaves key i k)
  rw [← Bool.and_assoc]
  congr 1
  unfold mayB foundB Ms.joins
  rw [holdAll_getD]
  show (S i && _) = (S i && ((decide (i = r) && decide ((ent l i).author = key)) || (decide ((ent l i).kind = 4) && (decide ((ent l i).body = key) && (Ms.mk l r S).holding i))))
  cases hS : S i with
  | false => rfl
  | true =>
    have : decide ((ent l i).kind = 1) = decide (i = r) := by
      rw [Bool.eq_iff_iff, decide_eq_true_eq, decide_eq_true_eq]
      exact ⟨hroot i hi hS, fun e => by rw [e]; exact hr⟩
    rw [this]
section
variable {w : World} {l : List Ent} {r : Nat} {q : PB} {G : Nat → Bool}
set_option maxRecDepth 100000 in
set_option maxHeartbeats 1000000 in
theorem within_ok (h : PSet w l r q G) (hroot : ∀ i, i < l.length → G i = true → (ent l i).kind = 1 → i = r) (hG : G r = true) {i : Nat} (hi : i < l.length) (hp : past l i r = true) :
    Calls Tryz.prog 194 #[.pointer (some ⟨q.bs, 0, none⟩), (ent l i).val] w fun e w' => e = .returned (.bool ((Ms.mk l r fun j => G j && past l i j).member (ent l i).author)) ∧ Unch none_ w w' := by
  have hu1 : Unch none_ w (w.alloc (Obj.cells (ent l i).cells.toArray 114)) := (Unch.refl none_ w).alloc _
  have bA := blk_new w (Obj.cells (ent l i).cells.toArray 114)
  have h1 := h.fresh hu1
  have HROOT := Lib.hid hroot
  have hne : ∃ j, j < l.length ∧ (G j && past l i j) = true := ⟨r, h.hr, by rw [hG, hp]; rfl⟩
  have HNE := Lib.hid hne
  obtain ⟨res, hres⟩ : ∃ res, (Ms.mk l r fun j => G j && past l i j).member (ent l i).author = res := ⟨_, rfl⟩
  rw [hres]
  have HRES := Lib.hid hres
  have H1 := Lib.hid h1
  unfold Ent.cells at *
  unfold Ent.val
  clear hroot hne h h1 hp hG hres
  go_enter Tryz.func194, Tryz.ntmps194
  go_upto_region 1 with fail
  generalize w.heap.size = g at *
  generalize w.alloc _ = w2 at *
  refine wp_planC (fun W => Unch none_ w2 W) [0, 1, 2, 3, 4, 5, 6, 7, 9, 10] [8, 11, 12] 1 (by kernel_rfl) (by kernel_rfl) rfl rfl (fun c a d v w h => by cases d <;> exact h) ((Unch.refl _ _).drew) ?_
  intro S HS _
  have f0 : ∀ G2 : In S, G2.w.cell? ⟨q.bs, 6, none⟩ = some (.map (some q.bpast)) := fun G2 => (H1.out.fresh ((HS.out _).1 G2.h)).c6
  have f1 : ∀ G2 : In S, G2.w.cell? ⟨g, 0, none⟩ = some (.string (ent l i).id) := fun G2 => ((HS.out _).1 G2.h).cell (blk_cell bA (j := 0) rfl) (fun h => h)
  have f2 : ∀ G2 : In S, G2.w.cell? ⟨g, 2, none⟩ = some (.string (ent l i).author) := fun G2 => ((HS.out _).1 G2.h).cell (blk_cell bA (j := 2) rfl) (fun h => h)
  have f3 : ∀ G2 : In S, (Instr.lookup 241 (.map (some q.bpast)) (.string (ent l i).id) false).run Tryz.prog G2.w = .ok (.map (some (q.pb i))) G2.w := fun G2 => (H1.out.fresh ((HS.out _).1 G2.h)).lookPast hi
  simp only [pickIn, List.getElem?_toArray, List.getElem?_cons_succ, List.getElem?_cons_zero]
  repeat (go_big_quiet_step (fail))
  refine wpQuiet_nil ?_
  clear f0 f1 f2 f3
  have hd := H1.out.fresh ((Unch.refl none_ w2).drew)
  have ham := among_ok hd (hd.idsPast hi) (S := fun j => G j && past l i j) (fun _ _ => rfl) HNE.out
  have HAM := Lib.hid ham
  clear hd ham
  refine tail_step ?_
  go_wp2_with fail
  refine HAM.out.mono ?_
  rintro e w3 ⟨k, L, rfl, hpc, hT, _, hrd, hu3⟩
  have hu23 : Unch none_ w2 w3 := ⟨hu3.os, hu3.tape, hu3.output, hu3.size, hu3.block⟩
  have hmem := member_ok hpc (fun j hj => ((hT.mem j).1 hj).1) hrd (ent l i).author
  rw [memB_member hT H1.out.kr (fun j hj hs => by rw [Bool.and_eq_true] at hs; exact HROOT.out j hj hs.1), HRES.out] at hmem
  have HMEM := Lib.hid hmem
  clear hmem hpc hT hrd hu3
  go_wp2_with fail
  refine tail_midS ((HS.out _).2 hu23) (tail_all ?_)
  go_wp2_with fail
  refine HMEM.out.mono ?_
  rintro e w4 ⟨rfl, hu4⟩
  go_wp2
  go_ret
  exact ⟨rfl, (hu1.trans hu23).trans hu4⟩
end
end Go.Proofs.YtgcpoppinnnciaaGreatDoor
/- member.of: the plain part, and its loops' states. -/
set_option linter.unusedVariables false
set_option linter.unusedSimpArgs false
namespace Go.Proofs.YtgcpoppinnnciaaGreatDoor
open Go Go.RowKit Go.Proofs.YtgcpoppinnnciaaGreatDoor.Pal Go.Proofs.YtgcpoppinnnciaaGreatDoor.Plan

/-! ### Where the root is -/
theorem isRoot_first {l : List Ent} (hC : Closed l) (room : ByteArray) : firstP (fun i => isRoot room (ent l i)) l.length = rootN room l := by
  unfold rootN
  cases hf : findN l room with
  | none =>
    simp only
    refine firstP_none fun j hj => ?_
    have := findN_none.1 hf (ent l j) (List.mem_of_getElem? (ent_get hj))
    unfold isRoot
    rw [decide_eq_false this]; rfl
  | some i =>
    obtain ⟨e, he, hid, hlt⟩ := findN_some hf
    have hil := (List.getElem?_eq_some_iff.1 he).1
    have hee : ent l i = e := ent_of he
    simp only
    have hno : ∀ j, j < l.length → j ≠ i → isRoot room (ent l j) = false := fun j hj hji => by
      unfold isRoot
      have : ¬ (ent l j).id = room := fun e2 => hji (hC.ids j i hj hil (by rw [e2, hee, hid]))
      rw [decide_eq_false this]; rfl
    split
    · rename_i hk
      refine firstP_some hil ?_ (fun j hj => hno j (by omega) (by omega))
      unfold isRoot
      rw [decide_eq_true (by rw [hee]; exact hid), decide_eq_true hk]; rfl
    · rename_i hk
      refine firstP_none fun j hj => ?_
      by_cases hji : j = i
      · subst hji
        unfold isRoot
        rw [decide_eq_false hk, Bool.and_false]
      · exact hno j hj hji
theorem rootN_some {room : ByteArray} {l : List Ent} {r : Nat} (h : rootN room l = some r) : r < l.length ∧ (ent l r).id = room ∧ (ent l r).kind = 1 := by
  unfold rootN at h
  split at h
  · rename_i i hf
    obtain ⟨e, he, hid, _⟩ := findN_some hf
    split at h
    · rename_i hk
      obtain rfl := Option.some.inj h
      exact ⟨(List.getElem?_eq_some_iff.1 he).1, by rw [ent_of he]; exact hid, hk⟩
    · cases h
  · cases h
/-! ### What is good -/
theorem goodU_root {l : List Ent} {r : Nat} (k : Nat) : ∀ i, goodU l r k i = true → (ent l i).kind = 1 → i = r := by
  induction k with
  | zero => intro i h; cases h
  | succ k ih =>
    intro i h hk
    rw [goodU_succ] at h
    split at h
    · rename_i e
      subst e
      rw [hk] at h
      simpa using h
    · exact ih i h hk
theorem goodU_mono {l : List Ent} {r : Nat} {k i : Nat} (h : i < k) : goodU l r k i = goodU l r (i + 1) i := by
  induction k with
  | zero => omega
  | succ k ih =>
    by_cases e : i = k
    · subst e; rfl
    · rw [goodU_succ, if_neg e]; exact ih (by omega)
theorem goodU_self {l : List Ent} {r : Nat} {k : Nat} (h : r < k) : goodU l r k r = true := by
  rw [goodU_mono h, goodU_succ, if_pos rfl]; simp
/-! ### The entries as they are told -/
theorem ents_sized {w : World} {A : Option Addr} {n : Nat} {l : List Ent} (h : Ents w A n l) : Sized l := by
  have hm : ∀ i, i < l.length → ent l i ∈ l := fun i hi => List.mem_of_getElem? (ent_get hi)
  exact ⟨fun i hi => (h.ok _ (hm i hi)).saut, fun i hi => (h.ok _ (hm i hi)).sbody, fun i hi => by
    obtain ⟨A, c, hp, _⟩ := (h.ok _ (hm i hi)).ps
    exact ⟨A, _, c, hp⟩⟩
/-- Behind k rounds of of's first loop. -/
structure Of1 (w wr : World) (l : List Ent) (r : Nat) (bs bby bpast bgood : Nat) (pb : Nat → Nat) (kb k : Nat) : Prop where
  u : Unch none_ w wr
  blk : wr.heap[bs]? = some (.cells (setA l r ⟨bs, bby, bpast, bgood, pb⟩) 243 (0, 0))
  by_ : Sm wr bby (idA l allT (fun i => (ent l i).val) kb)
  past : Sm wr bpast (idA l allT (fun i => .map (some (pb i))) k)
  rows : ∀ i, i < k → ∃ m, Sm wr (pb i) m ∧ PastM l i m
  good : Sm wr bgood []
  ord : w.heap.size ≤ bby ∧ bby < bpast ∧ bpast < bgood ∧ bgood < bs ∧ ∀ i, i < k → bs < pb i
/-- A past, parent by parent: the first t parents' ids and pasts. -/
def PastP (l : List Ent) (ps : List ByteArray) (t : Nat) (m : Asc) : Prop := ∀ s v, mget m s = some v ↔ v = .bool true ∧ ∃ j, j < l.length ∧ foundPast l 0 (ps.take t) j = true ∧ (ent l j).id = s
theorem foundPast_succ {l : List Ent} {ps : List ByteArray} {t : Nat} {s : ByteArray} {p : Nat} (hs : ps[t]? = some s) (hp : findN l s = some p) (j : Nat) : foundPast l 0 (ps.take (t + 1)) j = (foundPast l 0 (ps.take t) j || (decide (p = j) || past l p j)) := by
  unfold foundPast
  rw [List.take_add_one, hs]
  simp [hp]
theorem PastP.step {l : List Ent} (hC : Closed l) {ps : List ByteArray} {t : Nat} {m m2 mp : Asc} (h : PastP l ps t m) {s0 : ByteArray} {p : Nat} (hs : ps[t]? = some s0) (hp : findN l s0 = some p) (hpl : p < l.length) (hid : (ent l p).id = s0) (hM : PastM l p mp) (hn : (mp.map (·.1)).Nodup) (hg : Mrg (mput m s0 (.bool true)) mp [] m2) : PastP l ps (t + 1) m2 := fun s v => by
  rw [hg.done s, mget_mput]
  have hmp : ∀ v, mget mp s = some v ↔ v = .bool true ∧ ∃ j, past l p j = true ∧ (ent l j).id = s := fun v => by
    constructor
    · intro h; exact (hM s v).1 (mget_mem h)
    · intro h; exact mget_of hn ((hM s v).2 h)
  constructor
  · intro hv
    split at hv
    · obtain ⟨h1, j, h2, h3⟩ := (hmp v).1 hv
      have := past_lt l p j h2
      exact ⟨h1, j, by omega, by rw [foundPast_succ hs hp, h2]; simp, h3⟩
    · split at hv
      · rename_i _ e
        injection hv with hv
        exact ⟨hv.symm, p, hpl, by rw [foundPast_succ hs hp]; simp, by rw [hid, e]⟩
      · obtain ⟨h1, j, h2, h3, h4⟩ := (h s v).1 hv
        exact ⟨h1, j, h2, by rw [foundPast_succ hs hp, h3]; rfl, h4⟩
  · rintro ⟨rfl, j, h1, h2, h3⟩
    rw [foundPast_succ hs hp] at h2
    split
    · rename_i hsome
      obtain ⟨v, hv⟩ := Option.isSome_iff_exists.1 hsome
      rw [hv, ((hmp v).1 hv).1]
    · rename_i hno
      split
      · rfl
      · rename_i hne
        have hnp : ¬ past l p j = true := fun hpj => hno (by rw [(hmp (.bool true)).2 ⟨rfl, j, hpj, h3⟩]; rfl)
        have hpj : ¬ p = j := fun e => hne (by rw [← h3, ← e, hid])
        have hnp' : past l p j = false := by simpa using hnp
        rw [hnp', decide_eq_false hpj] at h2
        exact (h s (.bool true)).2 ⟨rfl, j, h1, by simpa using h2, h3⟩
theorem PastP.start (l : List Ent) (ps : List ByteArray) : PastP l ps 0 [] := fun s v => by
  simp [mget, foundPast]
theorem PastP.done {l : List Ent} (hC : Closed l) {i : Nat} (hi : i < l.length) {m : Asc} (hn : (m.map (·.1)).Nodup) (h : PastP l (ent l i).ps (ent l i).ps.length m) : PastM l i m := fun s v => by
  have e : (s, v) ∈ m ↔ mget m s = some v := ⟨fun h => mget_of hn h, fun h => mget_mem h⟩
  rw [e, h s v, List.take_length]
  constructor
  · rintro ⟨h1, j, _, h3, h4⟩
    exact ⟨h1, j, by rw [hC.past hi]; exact h3, h4⟩
  · rintro ⟨h1, j, h3, h4⟩
    have := past_lt l i j h3
    exact ⟨h1, j, by omega, by rw [hC.past hi] at h3; exact h3, h4⟩
/-- Of the good ones one more. -/
theorem idA_cut {l : List Ent} {G : Nat → Bool} {f : Nat → Value} {k n : Nat} (hk : k ≤ n) (h : ∀ i, k ≤ i → G i = false) : idA l G f n = idA l G f k := by
  induction n with
  | zero => obtain rfl : k = 0 := by omega
            rfl
  | succ n ih =>
    rcases Nat.lt_or_ge n k with h1 | h1
    · obtain rfl : k = n + 1 := by omega
      rfl
    · rw [idA_succ_f (h n h1)]; exact ih h1
theorem idA_congr {l : List Ent} {G G' : Nat → Bool} {f : Nat → Value} {k : Nat} (h : ∀ i, i < k → G i = G' i) : idA l G f k = idA l G' f k := by
  unfold idA
  congr 1
  apply List.filter_congr
  intro i hi
  exact h i (by simpa using hi)
theorem good_put {l : List Ent} (hC : Closed l) {r k : Nat} (hk : k < l.length) (hg : goodU l r (k + 1) k = true) : mput (idA l (goodU l r k) (fun _ => .bool true) l.length) (ent l k).id (.bool true) = idA l (goodU l r (k + 1)) (fun _ => .bool true) l.length := by
  rw [idA_cut (Nat.le_of_lt hk) (fun i hi => goodU_ge l r k i hi), idA_put hC (goodU l r k) (fun _ => .bool true) hk, idA_cut (show k + 1 ≤ l.length by omega) (fun i hi => goodU_ge l r (k + 1) i hi), idA_succ_t hg]
  congr 1
  exact idA_congr fun i hi => by rw [goodU_succ, if_neg (by omega)]
theorem good_no {l : List Ent} {r k : Nat} (hk : k < l.length) (hg : goodU l r (k + 1) k = false) : idA l (goodU l r k) (fun _ => .bool true) l.length = idA l (goodU l r (k + 1)) (fun _ => .bool true) l.length := by
  refine idA_congr fun i hi => ?_
  by_cases e : i = k
  · subst e; rw [hg]; exact goodU_ge l r i i (Nat.le_refl _)
  · rw [goodU_succ, if_neg e]
end Go.Proofs.YtgcpoppinnnciaaGreatDoor
/- member.of: the walk. -/
set_option linter.unusedVariables false
set_option linter.unusedSimpArgs false
namespace Go.Proofs.YtgcpoppinnnciaaGreatDoor
open Go Go.RowKit Go.Proofs.YtgcpoppinnnciaaGreatDoor.Pal Go.Proofs.YtgcpoppinnnciaaGreatDoor.Plan

theorem room_start (w : World) (room : ByteArray) : Unch none_ w (w.alloc (.cells #[.string room] 9)) ∧ (w.alloc (.cells #[.string room] 9)).cell? ⟨w.heap.size, 0, none⟩ = some (.string room) := ⟨(Unch.refl none_ w).alloc _, blk_cell (blk_new w _) rfl⟩
theorem rootIx_ok {w : World} {A : Option Addr} {n c : Nat} {l : List Ent} (h : Ents w A n l) (hC : Closed l) {rb : Nat} {room : ByteArray} (hx : w.cell? ⟨rb, 0, none⟩ = some (.string room)) :
    Calls Tryz.prog 192 #[.slice A n c, .func (.func 193) #[] #[.pointer (some ⟨rb, 0, none⟩)]] w fun e w' => e = .returned (.int .i64 (optI (rootN room l))) ∧ Unch none_ w w' := by
  have := indexFunc_ok (c := c) h.rd (g := 193) (lb := #[.pointer (some ⟨rb, 0, none⟩)]) (enters_of Tryz.func193 (by kernel_rfl) rfl) (p := fun i => isRoot room (ent l i)) (fun W hW i hi => of1_ok (hW.cell hx (fun h => h)) (ent l i))
  rw [← h.len, isRoot_first hC room, h.len] at this
  exact this
set_option maxRecDepth 100000 in
set_option maxHeartbeats 1000000 in
theorem of_open {w : World} {A : Option Addr} {n c : Nat} {l : List Ent} (h : Ents w A n l) (hc : n ≤ c) (room : ByteArray) (hb : closedB l = false) :
    Calls Tryz.prog 181 #[.string room, .slice A n c] w fun e w' => e = .returned (.pointer none) ∧ Unch none_ w w' := by
  obtain ⟨hu1, _⟩ := room_start w room
  have hcl := pClosed_ok (h.fresh hu1) hc
  rw [hb] at hcl
  have HCL := Lib.hid hcl
  clear hcl hb h
  go_enter Tryz.func181, Tryz.ntmps181
  go_wp2_with fail
  refine HCL.out.mono ?_
  rintro e w2 ⟨rfl, hu2⟩
  go_wp2
  go_ret
  exact ⟨rfl, hu1.trans hu2⟩
set_option maxRecDepth 100000 in
set_option maxHeartbeats 1000000 in
theorem of_rootless {w : World} {A : Option Addr} {n c : Nat} {l : List Ent} (h : Ents w A n l) (hc : n ≤ c) (room : ByteArray) (hb : closedB l = true) (hr : rootN room l = none) :
    Calls Tryz.prog 181 #[.string room, .slice A n c] w fun e w' => e = .returned (.pointer none) ∧ Unch none_ w w' := by
  obtain ⟨hu1, x1⟩ := room_start w room
  have hcl := pClosed_ok (h.fresh hu1) hc
  rw [hb] at hcl
  have hix : ∀ w2, Unch none_ (w.alloc (.cells #[.string room] 9)) w2 → _ := fun w2 hu2 => rootIx_ok (c := c) (h.fresh (hu1.trans hu2)) (closed_iff.1 hb) (hu2.cell x1 (fun h => h))
  rw [hr] at hix
  simp only [optI] at hix
  have HCL := Lib.hid hcl
  have HIX := Lib.hid hix
  clear hcl hb h hix x1
  go_enter Tryz.func181, Tryz.ntmps181
  go_wp2_with fail
  refine HCL.out.mono ?_
  rintro e w2 ⟨rfl, hu2⟩
  have HI := Lib.hid (HIX.out w2 hu2)
  go_wp2_with fail
  refine HI.out.mono ?_
  rintro e w3 ⟨rfl, hu3⟩
  go_wp2
  go_ret
  exact ⟨rfl, (hu1.trans hu2).trans hu3⟩
end Go.Proofs.YtgcpoppinnnciaaGreatDoor
/- member.of: its state. -/
set_option linter.unusedVariables false
set_option linter.unusedSimpArgs false
namespace Go.Proofs.YtgcpoppinnnciaaGreatDoor
open Go Go.RowKit Go.Proofs.YtgcpoppinnnciaaGreatDoor.Pal Go.Proofs.YtgcpoppinnnciaaGreatDoor.Plan

section
variable {w wr wx : World} {l : List Ent} {r bs bby bpast bgood : Nat} {pb : Nat → Nat} {kb k : Nat}
theorem of1_start (w : World) (hu : Unch none_ w wr) (hw : wx = (((wr.alloc (.map #[] 0)).alloc (.map #[] 0)).alloc (.map #[] 0)).alloc (.cells #[.string (ent l r).id, .int .i64 (ent l r).kind, .string (ent l r).author, (ent l r).pv, .string (ent l r).body, .map (some wr.heap.size), .map (some (wr.heap.size + 1)), .map (some (wr.heap.size + 1 + 1))] 243)) :
    Of1 w wx l r (wr.heap.size + 1 + 1 + 1) wr.heap.size (wr.heap.size + 1) (wr.heap.size + 1 + 1) pb 0 0 := by
  obtain ⟨w1, h1⟩ : ∃ w1, w1 = wr.alloc (.map #[] 0) := ⟨_, rfl⟩
  obtain ⟨w2, h2⟩ : ∃ w2, w2 = w1.alloc (.map #[] 0) := ⟨_, rfl⟩
  obtain ⟨w3, h3⟩ : ∃ w3, w3 = w2.alloc (.map #[] 0) := ⟨_, rfl⟩
  have u1 : Unch none_ wr w1 := h1 ▸ (Unch.refl none_ wr).alloc _
  have u2 : Unch none_ w1 w2 := h2 ▸ (Unch.refl none_ w1).alloc _
  have u3 : Unch none_ w2 w3 := h3 ▸ (Unch.refl none_ w2).alloc _
  have s1 : w1.heap.size = wr.heap.size + 1 := by rw [h1]; simp
  have s2 : w2.heap.size = wr.heap.size + 1 + 1 := by rw [h2]; simp [s1]
  have s3 : w3.heap.size = wr.heap.size + 1 + 1 + 1 := by rw [h3]; simp [s2]
  have m1 : Sm w1 wr.heap.size [] := h1 ▸ Sm.made wr
  have m2 : Sm w2 w1.heap.size [] := h2 ▸ Sm.made w1
  have m3 : Sm w3 w2.heap.size [] := h3 ▸ Sm.made w2
  rw [← h1, ← h2, ← h3] at hw
  have u4 : Unch none_ w3 wx := hw ▸ (Unch.refl none_ w3).alloc _
  have b4 := blk_new w3 (.cells #[.string (ent l r).id, .int .i64 (ent l r).kind, .string (ent l r).author, (ent l r).pv, .string (ent l r).body, .map (some wr.heap.size), .map (some (wr.heap.size + 1)), .map (some (wr.heap.size + 1 + 1))] 243)
  rw [← hw, s3] at b4
  rw [s1] at m2
  rw [s2] at m3
  have nf : ∀ {b : Nat}, ¬ none_ b := fun h => h
  have hsz := hu.size
  exact ⟨(((hu.trans u1).trans u2).trans u3).trans u4, b4, ((m1.unch u2 nf).unch u3 nf).unch u4 nf, (m2.unch u3 nf).unch u4 nf, (fun i hi => by omega), m3.unch u4 nf, by omega, by omega, by omega, by omega, (fun i hi => by omega)⟩
theorem Of1.fresh (h : Of1 w wr l r bs bby bpast bgood pb kb k) (hu : Unch none_ wr wx) : Of1 w wx l r bs bby bpast bgood pb kb k := by
  have nf : ∀ {b : Nat}, ¬ none_ b := fun h => h
  exact ⟨h.u.trans hu, hu.heap h.blk nf, h.by_.unch hu nf, h.past.unch hu nf, (fun i hi => by obtain ⟨m, a, b⟩ := h.rows i hi; exact ⟨m, a.unch hu nf, b⟩), h.good.unch hu nf, h.ord⟩
/-- A block of its own was written. -/
theorem Of1.other (h : Of1 w wr l r bs bby bpast bgood pb kb k) {bm : Nat} (hu : Unch (fun j => j = bm) wr wx) (h1 : w.heap.size ≤ bm) (h2 : bs ≠ bm) (h3 : bby ≠ bm) (h4 : bpast ≠ bm) (h5 : bgood ≠ bm) (h6 : ∀ i, i < k → pb i ≠ bm) : Of1 w wx l r bs bby bpast bgood pb kb k :=
  ⟨h.u.step hu (fun i hi e => by omega), hu.heap h.blk h2, h.by_.unch hu h3, h.past.unch hu h4, (fun i hi => by obtain ⟨m, a, b⟩ := h.rows i hi; exact ⟨m, a.unch hu (h6 i hi), b⟩), h.good.unch hu h5, h.ord⟩
theorem Of1.byput (h : Of1 w wr l r bs bby bpast bgood pb k k) (hC : Closed l) (hk : k < l.length) (hu : Unch (fun j => j = bby) wr wx) (hs : Sm wx bby (mput (idA l allT (fun i => (ent l i).val) k) (ent l k).id (ent l k).val)) : Of1 w wx l r bs bby bpast bgood pb (k + 1) k := by
  obtain ⟨o1, o2, o3, o4, o5⟩ := h.ord
  rw [idA_put hC allT _ hk, ← idA_succ_t (G := allT) rfl] at hs
  exact ⟨h.u.step hu (fun i hi e => by omega), hu.heap h.blk (by show ¬ _; omega), hs, h.past.unch hu (by show ¬ _; omega), (fun i hi => by obtain ⟨m, a, b⟩ := h.rows i hi; exact ⟨m, a.unch hu (by have := o5 i hi; show ¬ _; omega), b⟩), h.good.unch hu (by show ¬ _; omega), h.ord⟩
theorem Of1.pastput (h : Of1 w wr l r bs bby bpast bgood pb (k + 1) k) (hC : Closed l) (hk : k < l.length) {bm : Nat} {m : Asc} (hm : Sm wr bm m) (hp : PastM l k m) (hb : bs < bm) (hu : Unch (fun j => j = bpast) wr wx) (hs : Sm wx bpast (mput (idA l allT (fun i => .map (some (pb i))) k) (ent l k).id (.map (some bm)))) :
    Of1 w wx l r bs bby bpast bgood (fun i => if i = k then bm else pb i) (k + 1) (k + 1) := by
  obtain ⟨o1, o2, o3, o4, o5⟩ := h.ord
  have hs' : Sm wx bpast (idA l allT (fun i => .map (some (if i = k then bm else pb i))) (k + 1)) := by
    have : idA l allT (fun i => .map (some (if i = k then bm else pb i))) k = idA l allT (fun i => .map (some (pb i))) k := by
      unfold idA
      apply List.map_congr_left
      intro i hi
      have := (List.mem_filter.1 hi).1
      rw [List.mem_range] at this
      dsimp only
      rw [if_neg (by omega)]
    have hp2 := idA_put hC allT (fun i => .map (some (if i = k then bm else pb i))) hk
    rw [← idA_succ_t (G := allT) rfl, if_pos rfl] at hp2
    rw [← hp2, this]
    exact hs
  refine ⟨h.u.step hu (fun i hi e => by omega), hu.heap h.blk (by show ¬ _; omega), h.by_.unch hu (by show ¬ _; omega), hs', fun i hi => ?_, h.good.unch hu (by show ¬ _; omega), o1, o2, o3, o4, fun i hi => ?_⟩
  · by_cases e : i = k
    · subst e
      simp only [if_true]
      exact ⟨m, hm.unch hu (by show ¬ _; omega), hp⟩
    · simp only [if_neg e]
      have hi' : i < k := by omega
      obtain ⟨m, a, b⟩ := h.rows i hi'
      exact ⟨m, a.unch hu (by have := o5 i hi'; show ¬ _; omega), b⟩
  · by_cases e : i = k
    · simp only [if_pos e]; exact hb
    · simp only [if_neg e]; exact o5 i (by omega)
/-- Behind k rounds of of's second loop. -/
structure Of2 (w wr : World) (l : List Ent) (r : Nat) (q : PB) (k : Nat) : Prop where
  u : Unch none_ w wr
  ps : PSet wr l r q (goodU l r k)
  ord : w.heap.size ≤ q.bby ∧ q.bby < q.bpast ∧ q.bpast < q.bgood ∧ q.bgood < q.bs ∧ ∀ i, i < l.length → q.bs < q.pb i
theorem Of1.done (h : Of1 w wr l r bs bby bpast bgood pb l.length l.length) (hC : Closed l) (hS : Sized l) (hr : r < l.length) (hk : (ent l r).kind = 1) : Of2 w wr l r ⟨bs, bby, bpast, bgood, pb⟩ 0 :=
  ⟨h.u, ⟨hC, hS, hr, hk, h.blk, h.by_, h.past, h.rows, by
    have : idA l (goodU l r 0) (fun _ => .bool true) l.length = [] := by
      unfold idA
      rw [List.filter_eq_nil_iff.2 (fun a _ => by simp [goodU])]
      rfl
    show Sm wr bgood _
    rw [this]
    exact h.good⟩, h.ord⟩
theorem Of2.fresh {q : PB} (h : Of2 w wr l r q k) (hu : Unch none_ wr wx) : Of2 w wx l r q k := ⟨h.u.trans hu, h.ps.fresh hu, h.ord⟩
theorem Of2.put {q : PB} (h : Of2 w wr l r q k) (hk : k < l.length) (hg : goodU l r (k + 1) k = true) (hu : Unch (fun j => j = q.bgood) wr wx) (hs : Sm wx q.bgood (mput (idA l (goodU l r k) (fun _ => .bool true) l.length) (ent l k).id (.bool true))) : Of2 w wx l r q (k + 1) := by
  obtain ⟨o1, o2, o3, o4, o5⟩ := h.ord
  have p := h.ps
  rw [good_put p.cl hk hg] at hs
  exact ⟨h.u.step hu (fun i hi e => by omega), ⟨p.cl, p.sz, p.hr, p.kr, hu.heap p.blk (by show ¬ _; omega), p.by_.unch hu (by show ¬ _; omega), p.past.unch hu (by show ¬ _; omega), (fun i hi => by obtain ⟨m, a, b⟩ := p.rows i hi; exact ⟨m, a.unch hu (by have := o5 i hi; show ¬ _; omega), b⟩), hs⟩, h.ord⟩
theorem Of2.no {q : PB} (h : Of2 w wr l r q k) (hk : k < l.length) (hg : goodU l r (k + 1) k = false) : Of2 w wr l r q (k + 1) := by
  have p := h.ps
  have hs := p.good
  rw [good_no hk hg] at hs
  exact ⟨h.u, ⟨p.cl, p.sz, p.hr, p.kr, p.blk, p.by_, p.past, p.rows, hs⟩, h.ord⟩
end
end Go.Proofs.YtgcpoppinnnciaaGreatDoor
