/-
  view.Add: what it leaves (plain).
  view.Add.
  What is good, and what an Add answers, hangs on what the entries say, not on where their parents lie.
-/
import Derived.Test.YtgcpoppinnnciaaGreatDoorCVW5
/- view.Add: what it leaves (plain). -/
set_option linter.unusedVariables false
set_option linter.unusedSimpArgs false
set_option maxRecDepth 100000
namespace Go.Proofs.YtgcpoppinnnciaaGreatDoor
open Go Go.RowKit Go.Proofs.YtgcpoppinnnciaaGreatDoor.Pal Go.Proofs.YtgcpoppinnnciaaGreatDoor.Plan

/-- A set's parts, each as it lies. -/
structure VX (w : World) (b bd bp bk bm : Nat) (bc : Array Value) (m mk bs : Asc) (ev : Value) (n : Nat) (evc : List Value) (R : Value → List ByteArray → Prop) : Prop where
  blk : w.heap[b]? = some (.cells bc 95 (0, 0))
  bdk : w.heap[bd]? = some (.cells #[.map (some bp), .map (some bk)] 129 (0, 0))
  par : Sm w bp m
  kid : Sm w bk mk
  bys : Sm w bm bs
  row : Row w 114 5 ev n evc
  rows : ∀ v ys, R v ys → Row w 9 1 v ys.length (sv ys)
theorem cells_type {w : World} {k : Nat} {cs cs' : Array Value} {t t' : TypeId} {fr fr' : Nat × Nat} (h : w.heap[k]? = some (.cells cs t fr)) (h' : w.heap[k]? = some (.cells cs' t' fr')) : t = t' := by
  rw [h] at h'
  injection h' with h'
  injection h' with _ h'
theorem row_map {w w' : World} {e : TypeId} {size n : Nat} {v : Value} {xs : List Value} {X : Nat → Prop} (h : Row w e size v n xs) (hu : Unch X w w') (hX : ∀ k, X k → ∃ m, Sm w k m) : Row w' e size v n xs :=
  h.unch hu (fun k hk hx => by
    obtain ⟨cur, hc⟩ := h.blk hk
    obtain ⟨m, hm⟩ := hX k hx
    exact sm_no_cells hm _ _ _ hc)
section
variable {w w' : World} {b bd bp bk bm : Nat} {bc : Array Value} {m mk bs : Asc} {ev : Value} {n : Nat} {evc : List Value} {R : Value → List ByteArray → Prop}
/-- The dag has grown. -/
theorem VX.dag (h : VX w b bd bp bk bm bc m mk bs ev n evc R) (hu : Unch (fun k => k = bp ∨ k = bk) w w') (n1 : bm ≠ bp) (n2 : bm ≠ bk) {m' mk' : Asc} (hm : Sm w' bp m') (hk : Sm w' bk mk') : VX w' b bd bp bk bm bc m' mk' bs ev n evc R := by
  have hX : ∀ k, (k = bp ∨ k = bk) → ∃ m, Sm w k m := fun k hk => by
    rcases hk with rfl | rfl
    · exact ⟨_, h.par⟩
    · exact ⟨_, h.kid⟩
  have hne : ∀ {k : Nat} {cs : Array Value} {t : TypeId} {fr : Nat × Nat}, w.heap[k]? = some (.cells cs t fr) → ¬ (k = bp ∨ k = bk) := fun hc hk => by
    obtain ⟨m, hm⟩ := hX _ hk
    exact sm_no_cells hm _ _ _ hc
  exact ⟨hu.heap h.blk (hne h.blk), hu.heap h.bdk (hne h.bdk), hm, hk, h.bys.unch hu (fun e => e.elim n1 n2), row_map h.row hu hX, fun v ys hr => row_map (h.rows v ys hr) hu hX⟩
/-- The bytes have grown. -/
theorem VX.byt (h : VX w b bd bp bk bm bc m mk bs ev n evc R) (hu : Unch (fun k => k = bm) w w') (n1 : bm ≠ bp) (n2 : bm ≠ bk) {bs' : Asc} (hm : Sm w' bm bs') : VX w' b bd bp bk bm bc m mk bs' ev n evc R := by
  have hX : ∀ k, k = bm → ∃ m, Sm w k m := fun k hk => ⟨_, hk ▸ h.bys⟩
  have hne : ∀ {k : Nat} {cs : Array Value} {t : TypeId} {fr : Nat × Nat}, w.heap[k]? = some (.cells cs t fr) → ¬ k = bm := fun hc hk => by
    obtain ⟨m, hm⟩ := hX _ hk
    exact sm_no_cells hm _ _ _ hc
  exact ⟨hu.heap h.blk (hne h.blk), hu.heap h.bdk (hne h.bdk), h.par.unch hu (fun e => n1 e.symm), h.kid.unch hu (fun e => n2 e.symm), hm, row_map h.row hu hX, fun v ys hr => row_map (h.rows v ys hr) hu hX⟩
/-- The entries have grown. -/
theorem VX.ent (h : VX w b bd bp bk bm bc m mk bs ev n evc R) (hu : Unch (fun k => ev.ownBlock = some k) w w') {ev' : Value} {n' : Nat} {evc' : List Value} (hr : Row w' 114 5 ev' n' evc') : VX w' b bd bp bk bm bc m mk bs ev' n' evc' R := by
  have hne : ∀ {k : Nat} {cs : Array Value} {t : TypeId} {fr : Nat × Nat}, w.heap[k]? = some (.cells cs t fr) → t ≠ 114 → ¬ ev.ownBlock = some k := fun hc ht hk => by
    obtain ⟨cur, hcur⟩ := h.row.blk hk
    exact ht (cells_type hc hcur)
  have hmp : ∀ {k : Nat} {m : Asc}, Sm w k m → ¬ ev.ownBlock = some k := fun hm hk => by
    obtain ⟨cur, hcur⟩ := h.row.blk hk
    exact sm_no_cells hm _ _ _ hcur
  exact ⟨hu.heap h.blk (hne h.blk (by decide)), hu.heap h.bdk (hne h.bdk (by decide)), h.par.unch hu (hmp h.par), h.kid.unch hu (hmp h.kid), h.bys.unch hu (hmp h.bys), hr, fun v ys hv => (h.rows v ys hv).unch hu (fun k hk => by
    obtain ⟨cur, hcur⟩ := (h.rows v ys hv).blk hk
    exact hne hcur (by decide))⟩
/-- The set's own block is written. -/
theorem VX.set (h : VX w b bd bp bk bm bc m mk bs ev n evc R) (hu : Unch (fun k => k = b) w w') {bc' : Array Value} (hb : w'.heap[b]? = some (.cells bc' 95 (0, 0))) : VX w' b bd bp bk bm bc' m mk bs ev n evc R := by
  have hne : ∀ {k : Nat} {cs : Array Value} {t : TypeId} {fr : Nat × Nat}, w.heap[k]? = some (.cells cs t fr) → t ≠ 95 → ¬ k = b := fun hc ht hk => by
    subst hk
    exact ht (cells_type hc h.blk)
  have hmp : ∀ {k : Nat} {m : Asc}, Sm w k m → ¬ k = b := fun hm hk => by
    subst hk
    exact sm_no_cells hm _ _ _ h.blk
  exact ⟨hb, hu.heap h.bdk (hne h.bdk (by decide)), h.par.unch hu (hmp h.par), h.kid.unch hu (hmp h.kid), h.bys.unch hu (hmp h.bys), row_other h.row h.blk (by decide) hu, fun v ys hv => row_other (h.rows v ys hv) h.blk (by decide) hu⟩
theorem VX.fresh (h : VX w b bd bp bk bm bc m mk bs ev n evc R) (hu : Unch none_ w w') : VX w' b bd bp bk bm bc m mk bs ev n evc R :=
  ⟨hu.heap h.blk (fun h => h), hu.heap h.bdk (fun h => h), h.par.unch hu (fun h => h), h.kid.unch hu (fun h => h), h.bys.unch hu (fun h => h), h.row.unch hu (fun _ _ h => h), fun v ys hv => (h.rows v ys hv).unch hu (fun _ _ h => h)⟩
end
/-- The rows of entries, and those of the dag. -/
def VR (es : List Ent) (pv : Nat → Value) (v : Value) (ys : List ByteArray) : Prop := (∃ e ∈ es, v = e.pv ∧ ys = e.ps) ∨ ∃ i, i < es.length ∧ v = pv i ∧ ys = parsL es i
section
variable {n0 : Nat} {w w1 : World} {b : Nat} {room : ByteArray} {es : List Ent} {bs : Asc} {p : Plc}
def vsetC (room : ByteArray) (p : Plc) : Array Value := #[.string room, .pointer (some ⟨p.bd, 0, none⟩), .map (some p.bm), p.ev, .pointer (some ⟨p.lk, 0, none⟩)]
theorem VS.vx (h : VS n0 w b room es bs p) : ∃ mk, VX w b p.bd p.bp p.bk p.bm (vsetC room p) (idA es allT p.pv es.length) mk bs p.ev es.length (ecells es) (VR es p.pv) ∧ KidV mk (kidN es) := by
  obtain ⟨mk, hmk, hint⟩ := h.kd
  refine ⟨mk, ⟨h.blk, h.dg.blk, h.dg.par, hmk, h.bys, h.row, fun v ys hv => ?_⟩, hint⟩
  rcases hv with ⟨e, he, rfl, rfl⟩ | ⟨i, hi, rfl, rfl⟩
  · exact (h.ents e he).ps
  · obtain ⟨m, hr⟩ := h.dty i hi
    have := hr.1
    rw [sv_len] at this
    obtain rfl : m = (parsL es i).length := by omega
    exact hr
theorem VX.vs {mk : Asc} (h : VX w b p.bd p.bp p.bk p.bm (vsetC room p) (idA es allT p.pv es.length) mk bs p.ev es.length (ecells es) (VR es p.pv)) (hint : KidV mk (kidN es)) (hne : p.bp ≠ p.bk)
    (hen : ∀ e ∈ es, e.id.size ≤ maxLen ∧ e.author.size ≤ maxLen ∧ e.body.size ≤ maxLen ∧ ∀ q ∈ e.ps, q.size ≤ maxLen) (hC : Closed es) (hrt : es = [] ∨ ∃ r, rootN room es = some r) (hrm : room.size = 32) (n1 : p.bm ≠ p.bp) (n2 : p.bm ≠ p.bk)
    (l0 : n0 ≤ b) (l1 : n0 ≤ p.bd) (l2 : n0 ≤ p.bp) (l3 : n0 ≤ p.bk) (l4 : n0 ≤ p.bm) (l5 : ∀ g, p.ev.ownBlock = some g → n0 ≤ g) : VS n0 w b room es bs p := by
  have hd : ∀ i, i < es.length → Row w 9 1 (p.pv i) (parsL es i).length (sv (parsL es i)) := fun i hi => h.rows _ _ (.inr ⟨i, hi, rfl, rfl⟩)
  refine ⟨h.blk, ⟨h.bdk, h.par, ⟨mk, h.kid, hint.ints⟩, fun i hi => ?_, hne⟩, fun i hi => ⟨_, hd i hi⟩, h.bys, h.row, fun e he => ⟨h.rows _ _ (.inl ⟨e, he, rfl, rfl⟩), (hen e he).1, (hen e he).2.1, (hen e he).2.2.1, (hen e he).2.2.2⟩, hC, hrt, hrm, n1, n2, l0, l1, l2, l3, l4, l5, mk, h.kid, hint⟩
  have hr := hd i hi
  obtain ⟨A, c, hv, hc⟩ := hr.slice
  rw [hv] at hr
  exact ⟨A, _, c, hv, hc, srow_rds hr⟩
/-- One more entry is told of. -/
theorem Dg.more {bd bp bk : Nat} {pv : Nat → Value} (h : Dg w bd bp bk es es.length pv) (x : Ent) : Dg w bd bp bk (es ++ [x]) es.length pv := by
  have h1 : idA (es ++ [x]) allT pv es.length = idA es allT pv es.length := by
    unfold idA
    apply List.map_congr_left
    intro i hi
    have := (List.mem_filter.1 hi).1
    rw [List.mem_range] at this
    rw [ent_app_lt this]
  refine ⟨h.blk, by rw [h1]; exact h.par, h.kid, fun i hi => ?_, h.hne⟩
  have h2 : parsL (es ++ [x]) i = parsL es i := by unfold parsL; rw [ent_app_lt hi]
  rw [h2]
  exact h.ps i hi
end
end Go.Proofs.YtgcpoppinnnciaaGreatDoor
/- view.Add. -/
set_option linter.unusedVariables false
set_option linter.unusedSimpArgs false
set_option maxRecDepth 100000
namespace Go.Proofs.YtgcpoppinnnciaaGreatDoor
open Go Go.RowKit Go.Proofs.YtgcpoppinnnciaaGreatDoor.Pal Go.Proofs.YtgcpoppinnnciaaGreatDoor.Plan

theorem chkZ_zero {K : Nat → Int} {room : ByteArray} {es : List Ent} {s : ByteArray} {x : Ent} (h : chkZ K room es s x = 0) : inE es (idF K s) = false ∧ (missF es (rawE s).ps).length = 0 ∧ es.length < 300 ∧ goodV room es x = true := by
  unfold chkZ at h
  split at h
  · cases h
  · rename_i h1
    split at h
    · cases h
    · split at h
      · cases h
      · rename_i h2
        split at h
        · cases h
        · rename_i h3
          split at h
          · rename_i h4
            exact ⟨by simpa using h1, by simpa using h2, by omega, h4⟩
          · cases h
theorem root_next {K : Nat → Int} {room : ByteArray} {es : List Ent} {s : ByteArray} {pv : Value} (hid : inE es (idF K s) = false) (hg : goodV room es (entE K s pv) = true) : ∃ r, rootN room (es ++ [entE K s pv]) = some r := by
  unfold goodV at hg
  split at hg
  · rename_i hk
    refine ⟨_, rootN_new ?_ hk (of_decide_eq_true hg)⟩
    unfold inE at hid
    show findN es (idF K s) = none
    cases hf : findN es (idF K s) with
    | none => rfl
    | some j => rw [hf] at hid; cases hid
  · split at hg
    · rename_i r hr
      exact ⟨r, hr⟩
    · cases hg
section
variable {w w' : World} {b bd bp bk bm : Nat} {bc : Array Value} {m mk bs : Asc} {ev : Value} {n : Nat} {evc : List Value} {R R' : Value → List ByteArray → Prop}
theorem VX.more (h : VX w b bd bp bk bm bc m mk bs ev n evc R) (hR : ∀ v ys, R' v ys → R v ys ∨ Row w 9 1 v ys.length (sv ys)) : VX w b bd bp bk bm bc m mk bs ev n evc R' :=
  ⟨h.blk, h.bdk, h.par, h.kid, h.bys, h.row, fun v ys hv => (hR v ys hv).elim (h.rows v ys) (fun h => h)⟩
end
def AddP (K : Nat → Int) (n0 b : Nat) (room : ByteArray) (es : List Ent) (bs : Asc) (s : ByteArray) (w : World) (x : Ending) (w' : World) : Prop :=
  Unch (fun k => n0 ≤ k) w w' ∧ ∃ (id : ByteArray) (z : Int), x = .returned (.tuple #[.string id, .int .i64 z]) ∧
    ((decB s = false ∧ id = ⟨#[]⟩ ∧ z = 2 ∧ ∃ p, VS n0 w' b room es bs p) ∨
     (decB s = true ∧ id = idF K s ∧ ∃ pv, z = chkZ K room es s (entE K s pv) ∧ ((z ≠ 0 ∧ ∃ p, VS n0 w' b room es bs p) ∨ (z = 0 ∧ ∃ p, VS n0 w' b room (es ++ [entE K s pv]) (mput bs (idF K s) (.string s)) p))))
section
variable {n0 : Nat} {w w1 : World} {b : Nat} {room : ByteArray} {es : List Ent} {bs : Asc} {p : Plc}
set_option maxHeartbeats 4000000 in
theorem vadd_ok (K : Nat → Int) (h : VS n0 w b room es bs p) (hK : Kys K w) (s : ByteArray) (hs : s.size ≤ 1000000000) :
    Calls Tryz.prog 19 #[.pointer (some ⟨b, 0, none⟩), .string s] w fun x w' => AddP K n0 b room es bs s w x w' := by
  obtain ⟨fin, hfin⟩ : ∃ F, AddP K n0 b room es bs s w = F := ⟨_, rfl⟩
  rw [hfin]
  have FIN := Lib.hid hfin
  have HCK := Lib.hid (vcheck_ok K h hK s hs)
  have HV := Lib.hid h
  clear hfin h hK
  go_enter Tryz.func19, Tryz.ntmps19
  go_wp2_with fail
  refine HCK.out.mono ?_
  rintro _ w1 ⟨hu1, hcase⟩
  have HU1 := Lib.hid hu1
  clear hu1 HCK
  rcases hcase with ⟨hd, rfl⟩ | ⟨hd, pv, hrow, rfl⟩
  · unfold zEn
    have hua := (Unch.refl none_ w1).alloc (.cells zEn 114)
    unfold zEn at hua
    have HUA := Lib.hid (HU1.out.trans hua)
    clear hua
    go_wp2_with fail
    rw [← FIN.out]
    exact ⟨HUA.out.mono (fun _ _ h => h.elim), _, _, rfl, .inl ⟨hd, rfl, rfl, _, HV.out.fresh HUA.out⟩⟩
  · obtain ⟨A, c, rfl, hc⟩ := hrow.slice
    obtain ⟨z, hz⟩ : ∃ z, chkZ K room es s (entE K s (.slice A (rawE s).ps.length c)) = z := ⟨_, rfl⟩
    rw [hz]
    have hua := (Unch.refl none_ w1).alloc (.cells #[.string (idF K s), .int .i64 (rawE s).kind, .string (rawE s).author, .slice A (rawE s).ps.length c, .string (rawE s).body] 114)
    have hbx := blk_new w1 (.cells #[.string (idF K s), .int .i64 (rawE s).kind, .string (rawE s).author, .slice A (rawE s).ps.length c, .string (rawE s).body] 114)
    have hrow2 := hrow.unch hua (fun _ _ h => h)
    have HU2 := Lib.hid (HU1.out.trans hua)
    by_cases hz0 : z = 0
    · subst hz0
      obtain ⟨hi, hm, h300, hg⟩ := chkZ_zero hz
      have hC2 := entE_closed (K := K) (pv := .slice A (rawE s).ps.length c) hd HV.out.cl h300 hi hm
      have hrt2 := root_next hi hg
      have hxS := entE_S (K := K) hd hrow2
      have hxs32 := idF_size K s
      have hv2 := HV.out.fresh HU2.out
      obtain ⟨mk, hvx, hint⟩ := hv2.vx
      have hdg2 := hv2.dg.more (entE K s (.slice A (rawE s).ps.length c))
      have hpsn := (right_small (raw_parts hd)).ps
      have hadd := fun (W : World) (hu : Unch none_ (w1.alloc (.cells #[.string (idF K s), .int .i64 (rawE s).kind, .string (rawE s).author, .slice A (rawE s).ps.length c, .string (rawE s).body] 114)) W) => dadd2_ok (hdg2.fresh hu) hC2 (show es.length < (es ++ [entE K s (.slice A (rawE s).ps.length c)]).length by simp) (A := A) (m := (rawE s).ps.length) (c := c) (by rw [ent_app_at]; exact srow_rds (hrow2.unch hu (fun _ _ h => h))) (by omega) (kidN es) (by obtain ⟨mk9, a9, b9⟩ := hv2.kd; exact ⟨mk9, a9.unch hu (fun h => h), b9⟩) (fun s9 => by have h9 := kidN_le es s9; have h8 := hv2.cl.len; omega)
      rw [ent_app_at] at hadd
      have hext : ∀ pv2 : Nat → Value, (∀ i, i ≠ es.length → pv2 i = p.pv i) → ∀ v ys, VR (es ++ [entE K s (.slice A (rawE s).ps.length c)]) pv2 v ys → VR es p.pv v ys ∨ (v = .slice A (rawE s).ps.length c ∧ ys = (rawE s).ps) ∨ (v = pv2 es.length ∧ ys = parsL (es ++ [entE K s (.slice A (rawE s).ps.length c)]) es.length) := fun pv2 hp2 v ys hv => by
        rcases hv with ⟨e, he, rfl, rfl⟩ | ⟨i, hi, rfl, rfl⟩
        · rcases List.mem_append.1 he with he | he
          · exact .inl (.inl ⟨e, he, rfl, rfl⟩)
          · rw [List.mem_singleton] at he
            subst he
            exact .inr (.inl ⟨rfl, rfl⟩)
        · by_cases hie : i = es.length
          · subst hie
            exact .inr (.inr ⟨rfl, rfl⟩)
          · have hlt : i < es.length := by rw [List.length_append, List.length_singleton] at hi; omega
            refine .inl (.inr ⟨i, hlt, hp2 i hie, ?_⟩)
            unfold parsL
            rw [ent_app_lt hlt]
      have hval : (entE K s (.slice A (rawE s).ps.length c)).val = .agg #[.string (idF K s), .int .i64 (rawE s).kind, .string (rawE s).author, .slice A (rawE s).ps.length c, .string (rawE s).body] := rfl
      have hxcells : (entE K s (.slice A (rawE s).ps.length c)).cells = [.string (idF K s), .int .i64 (rawE s).kind, .string (rawE s).author, .slice A (rawE s).ps.length c, .string (rawE s).body] := rfl
      have hxps : (entE K s (.slice A (rawE s).ps.length c)).ps = (rawE s).ps := rfl
      have hxid : (entE K s (.slice A (rawE s).ps.length c)).id = idF K s := rfl
      have hrow2' : Row (w1.alloc (.cells #[.string (idF K s), .int .i64 (rawE s).kind, .string (rawE s).author, .slice A (rawE s).ps.length c, .string (rawE s).body] 114)) 9 1 (.slice A (rawE s).ps.length c) (rawE s).ps.length (sv (rawE s).ps) := hrow2
      rw [hval]
      have FIN2 : Hid (∀ W p', Unch (fun k => n0 ≤ k) w W → VS n0 W b room (es ++ [entE K s (.slice A (rawE s).ps.length c)]) (mput bs (idF K s) (.string s)) p' → fin (.returned (.tuple #[.string (idF K s), .int .i64 0])) W) := fun W p' hu hv => by
        rw [← FIN.out]
        exact ⟨hu, _, _, rfl, .inr ⟨hd, rfl, _, hz.symm, .inr ⟨rfl, p', hv⟩⟩⟩
      rw [hxid] at hadd
      generalize hx : entE K s (.slice A (rawE s).ps.length c) = x at *
      clear hval hz hi hm hg hrow hrow2 hua hc hdg2
      generalize idF K s = id at *
      generalize (rawE s).kind = kd at *
      generalize (rawE s).author = au at *
      generalize (rawE s).body = bo at *
      generalize (rawE s).ps = ps at *
      generalize hpl : ps.length = np at *
      have HADD := Lib.hid hadd
      have HVX := Lib.hid hvx
      have HINT := Lib.hid hint
      have HBX := Lib.hid hbx
      have HROW := Lib.hid hrow2'
      have HEXT := Lib.hid hext
      have HXS := Lib.hid hxS
      have HC2 := Lib.hid hC2
      have HRT2 := Lib.hid hrt2
      have HXC := Lib.hid hxcells
      have HPL := Lib.hid hpl
      have HXP := Lib.hid hxps
      clear hadd hvx hint hbx hrow2' hext hxS hC2 hrt2 hxcells hpl hx hd hv2 hxps
      go_upto_region 3 with fail
      generalize hw2 : w1.alloc (.cells #[.string id, .int .i64 kd, .string au, .slice A np c, .string bo] 114) = w2 at *
      have hgx : w.heap.size ≤ w1.heap.size := HU1.out.size
      generalize w1.heap.size = gx at *
      clear hw2
      have hb1 : ∀ W, Unch none_ w2 W → W.cell? ⟨b, 1, none⟩ = some (.pointer (some ⟨p.bd, 0, none⟩)) := fun W hu => blk_cell (cs := vsetC room p) (hu.heap HVX.out.blk (fun h => h)) (j := 1) rfl
      have hg0 : ∀ W, Unch none_ w2 W → W.cell? ⟨gx, 0, none⟩ = some (.string id) := fun W hu => blk_cell (hu.heap HBX.out (fun h => h)) (j := 0) (v := .string id) rfl
      have hg3 : ∀ W, Unch none_ w2 W → W.cell? ⟨gx, 3, none⟩ = some (.slice A np c) := fun W hu => blk_cell (hu.heap HBX.out (fun h => h)) (j := 3) (v := .slice A np c) rfl
      refine wp_planC (fun W => Unch none_ w2 W) [0, 1, 2, 3, 4, 5, 6, 7] [8] 0 (by kernel_rfl) (by kernel_rfl) rfl rfl (fun c a d v w h => by cases d <;> exact h) ((Unch.refl _ _).drew) ?_
      intro S HS _
      have f0 : ∀ G2 : In S, G2.w.cell? ⟨b, 1, none⟩ = some (.pointer (some ⟨p.bd, 0, none⟩)) := fun G2 => hb1 _ ((HS.out _).1 G2.h)
      have f1 : ∀ G2 : In S, G2.w.cell? ⟨gx, 0, none⟩ = some (.string id) := fun G2 => hg0 _ ((HS.out _).1 G2.h)
      have f2 : ∀ G2 : In S, G2.w.cell? ⟨gx, 3, none⟩ = some (.slice A np c) := fun G2 => hg3 _ ((HS.out _).1 G2.h)
      simp only [pickIn, List.getElem?_toArray, List.getElem?_cons_succ, List.getElem?_cons_zero]
      repeat (go_big_quiet_step (fail))
      refine wpQuiet_nil ?_
      clear f0 f1 f2 hb1 hg0 hg3 HS
      refine tail_all ?_
      go_wp2_with fail
      have hdr2 : Unch none_ w2 w2.drew := (Unch.refl _ _).drew
      refine (HADD.out _ hdr2).mono ?_
      rintro _ w3 ⟨⟨va, rfl⟩, ⟨pv2, hdg3, hp2, ⟨m2, hr3⟩, mk3, hmk3, hkv3⟩, hu3⟩
      have hu23 : Unch (fun k => k = p.bp ∨ k = p.bk) w2 w3 := ⟨hu3.os, hu3.tape, hu3.output, hu3.size, hu3.block⟩
      have hint3 : KidV mk3 (kidN (es ++ [x])) := hkv3.congr (fun s9 => (kidN_app es x s9).symm)
      clear hkv3
      have hvx3 := HVX.out.dag hu23 HV.out.n1 HV.out.n2 hdg3.par hmk3
      have hnc : ∀ {k : Nat} {cs : Array Value} {t : TypeId} {fr : Nat × Nat}, w2.heap[k]? = some (.cells cs t fr) → ¬ (k = p.bp ∨ k = p.bk) := fun hc hk => by
        rcases hk with rfl | rfl
        · exact sm_no_cells HVX.out.par _ _ _ hc
        · exact sm_no_cells HVX.out.kid _ _ _ hc
      have hbx3 := hu23.heap HBX.out (hnc HBX.out)
      have hrow3 : Row w3 9 1 (.slice A np c) np (sv ps) := HROW.out.unch hu23 (fun k hk e => by
        obtain ⟨cur, hc⟩ := HROW.out.blk hk
        exact hnc hc e)
      have hvx3' : VX w3 b p.bd p.bp p.bk p.bm (vsetC room p) (idA (es ++ [x]) allT pv2 (es.length + 1)) mk3 bs p.ev es.length (ecells es) (VR (es ++ [x]) pv2) := hvx3.more (fun v ys hv => by
        rcases HEXT.out pv2 hp2 v ys hv with h | ⟨rfl, rfl⟩ | ⟨rfl, rfl⟩
        · exact .inl h
        · right; rw [HPL.out]; exact hrow3
        · right
          have := hr3.1
          rw [sv_len] at this
          obtain rfl : m2 = (parsL (es ++ [x]) es.length).length := by omega
          exact hr3)
      have HVX3 := Lib.hid hvx3'
      have HBX3 := Lib.hid hbx3
      have HINT3 := Lib.hid hint3
      have HNE := Lib.hid hdg3.hne
      have HU23 := Lib.hid hu23
      have hun3 : Unch (fun k => n0 ≤ k) w w3 := (HU2.out.mono (fun _ _ h => h.elim)).step hu23 (fun k hk e => by
        rcases e with rfl | rfl
        · exact HV.out.l2
        · exact HV.out.l3)
      have HUN3 := Lib.hid hun3
      clear hvx3 hvx3' hbx3 hint3 hu23 hu3 hdr2 hdg3 hmk3 hr3 hrow3 HVX HBX HINT HROW HEXT HADD hun3 hnc HU23
      go_upto_region 4 with fail
      have hb2 : ∀ W, Unch none_ w3 W → W.cell? ⟨b, 2, none⟩ = some (.map (some p.bm)) := fun W hu => blk_cell (cs := vsetC room p) (hu.heap HVX3.out.blk (fun h => h)) (j := 2) rfl
      have hg0 : ∀ W, Unch none_ w3 W → W.cell? ⟨gx, 0, none⟩ = some (.string id) := fun W hu => blk_cell (hu.heap HBX3.out (fun h => h)) (j := 0) (v := .string id) rfl
      refine wp_planC (fun W => Unch none_ w3 W) [0, 1, 2, 3, 4, 5, 6] [7] 0 (by kernel_rfl) (by kernel_rfl) rfl rfl (fun c a d v w h => by cases d <;> exact h) ((Unch.refl _ _).drew) ?_
      intro S HS _
      have f0 : ∀ G2 : In S, G2.w.cell? ⟨b, 2, none⟩ = some (.map (some p.bm)) := fun G2 => hb2 _ ((HS.out _).1 G2.h)
      have f1 : ∀ G2 : In S, G2.w.cell? ⟨gx, 0, none⟩ = some (.string id) := fun G2 => hg0 _ ((HS.out _).1 G2.h)
      simp only [pickIn, List.getElem?_toArray, List.getElem?_cons_succ, List.getElem?_cons_zero]
      repeat (go_big_quiet_step (fail))
      refine wpQuiet_nil ?_
      clear f0 f1 hb2 hg0 HS
      refine tail_all ?_
      have hdr3 : Unch none_ w3 w3.drew := (Unch.refl _ _).drew
      have HVX3d := Lib.hid (HVX3.out.fresh hdr3)
      have HDR3 := Lib.hid hdr3
      have hidm : id.size ≤ maxLen := by rw [hxs32]; decide
      clear hdr3
      go_wp2_with (at_mapUpdate; refine wpList_sm_put w3.drew rfl (.tmp 28) (.tmp 30) (.tmp 31) 74 rfl 9 9 Tryz.underlying74 Tryz.underlying9 p.bm _ rfl HVX3d.out.bys id rfl hidm (.string s) (by rfl) ?_; intro w4 hsm4 hu4; have HVX4 := Lib.hid (HVX3d.out.byt hu4 HV.out.n1 HV.out.n2 hsm4); have HUN4 := Lib.hid ((HUN3.out.trans (HDR3.out.mono (fun _ _ h => h.elim))).step hu4 (fun k hk e => by rw [e]; exact HV.out.l4)); have HBX4 := Lib.hid (hu4.heap (HDR3.out.heap HBX3.out (fun h => h)) (fun e => by subst e; exact sm_no_cells HVX3d.out.bys _ _ _ (HDR3.out.heap HBX3.out (fun h => h)))); clear hsm4 hu4)
      go_simp
      go_upto_region 5 with fail
      have hbx4 := HBX4.out
      have hvb4 := HVX4.out.blk
      refine wp_planC (fun W => W.heap[b]? = w4.heap[b]? ∧ W.heap[gx]? = w4.heap[gx]?) [0, 1, 2, 3, 4, 5] [6, 7, 8, 9, 10] 2 (by kernel_rfl) (by kernel_rfl) rfl rfl (fun c a d v w h => by cases d <;> exact h) (⟨rfl, rfl⟩) ?_
      intro S HS _
      have f0 : ∀ G2 : In S, G2.w.cell? ⟨b, 3, none⟩ = some p.ev := fun G2 => blk_cell (cs := vsetC room p) (((HS.out _).1 G2.h).1.trans hvb4) (j := 3) rfl
      have f1 : ∀ G2 : In S, G2.w.cell? ⟨gx, 0, none⟩ = some (.string id) := fun G2 => blk_cell (((HS.out _).1 G2.h).2.trans hbx4) (j := 0) (v := .string id) rfl
      have f2 : ∀ G2 : In S, G2.w.cell? ⟨gx, 1, none⟩ = some (.int .i64 kd) := fun G2 => blk_cell (((HS.out _).1 G2.h).2.trans hbx4) (j := 1) (v := .int .i64 kd) rfl
      have f3 : ∀ G2 : In S, G2.w.cell? ⟨gx, 2, none⟩ = some (.string au) := fun G2 => blk_cell (((HS.out _).1 G2.h).2.trans hbx4) (j := 2) (v := .string au) rfl
      have f4 : ∀ G2 : In S, G2.w.cell? ⟨gx, 3, none⟩ = some (.slice A np c) := fun G2 => blk_cell (((HS.out _).1 G2.h).2.trans hbx4) (j := 3) (v := .slice A np c) rfl
      have f5 : ∀ G2 : In S, G2.w.cell? ⟨gx, 4, none⟩ = some (.string bo) := fun G2 => blk_cell (((HS.out _).1 G2.h).2.trans hbx4) (j := 4) (v := .string bo) rfl
      simp only [pickIn, List.getElem?_toArray, List.getElem?_cons_succ, List.getElem?_cons_zero]
      repeat (go_big_quiet_step (fail))
      refine wpQuiet_nil ?_
      clear f0 f1 f2 f3 f4 f5
      have hdr4 : Unch none_ w4 w4.drew := (Unch.refl _ _).drew
      have HVX4d := Lib.hid (HVX4.out.fresh hdr4)
      have hl4 := lt_of_heap hvb4
      have hl4x := lt_of_heap hbx4
      have HL4 := Lib.hid hl4
      have HL4X := Lib.hid hl4x
      refine tail_step ?_
      go_wp2_with fail
      refine tail_midS ((HS.out _).2 ⟨(blk_alloc (HVX4d.out.blk) _).trans hvb4.symm, (blk_alloc (hdr4.heap hbx4 (fun h => h)) _).trans hbx4.symm⟩) (tail_step ?_)
      have hone : ∀ u ∈ [Value.string id, .int .i64 kd, .string au, .slice A np c, .string bo], u.oneCell' = true := by
        intro u hu
        simp only [List.mem_cons, List.not_mem_nil, or_false] at hu
        rcases hu with rfl | rfl | rfl | rfl | rfl <;> rfl
      have HONE := Lib.hid hone
      clear hone hl4 hl4x
      go_wp2_with (at_builtin; refine wpList_append1 w4.drew rfl (.tmp 36) (.tmp 38) 93 114 _ 5 80 rfl Tryz.underlying93 info_ent rfl (by omega) p.ev es.length (ecells es) (by rfl) HVX4d.out.row [.string id, .int .i64 kd, .string au, .slice A np c, .string bo] rfl HONE.out (by rfl) (by simp only [maxLen]; omega) (by omega) ?_; intro v5 w5 hr5 hu5 hat5; obtain ⟨A5, c5, rfl, hc5⟩ := hr5.slice; have HVX5 := Lib.hid (HVX4d.out.ent hu5 hr5); have HU5 := Lib.hid hu5; have HAT5 := Lib.hid hat5; clear hr5 hu5 hat5)
      have hgx5 : w5.heap[gx]? = w4.heap[gx]? := by
        have := HU5.out.heap (hdr4.heap hbx4 (fun h => h)) (fun e => by
          obtain ⟨cur, hc⟩ := HV.out.row.blk e
          have := lt_of_heap hc
          omega)
        exact this.trans hbx4.symm
      have hvb5 := HVX5.out.blk
      refine tail_midS ((HS.out _).2 ⟨hvb5.trans hvb4.symm, hgx5⟩) (tail_all ?_)
      have c53 : w5.cell? ⟨b, 3, none⟩ = some p.ev := blk_cell (cs := vsetC room p) hvb5 (j := 3) rfl
      have q53 : w5.frozen? ⟨b, 3, none⟩ = false := blk_free hvb5 3
      have hset3 : Unch (fun k => k = b) w5 (w5.setCell ⟨b, 3, none⟩ (.slice A5 (es.length + 1) c5)) := (Unch.refl _ _).setCell _ (fun _ => rfl)
      have hvx6 := HVX5.out.set hset3 (blk_set hvb5 3 _)
      have hgx6 := (hset3.heap (hgx5.trans hbx4) (fun e => by subst e; exact absurd (cells_type (hgx5.trans hbx4) hvb5) (by decide)))
      have hun6 : Unch (fun k => n0 ≤ k) w (w5.setCell ⟨b, 3, none⟩ (.slice A5 (es.length + 1) c5)) := ((((HUN4.out).trans (hdr4.mono (fun _ _ h => h.elim))).step HU5.out (fun k hk e => HV.out.l5 k e))).step hset3 (fun k hk e => by rw [e]; exact HV.out.l0)
      have hl6 : ∀ g, (Value.slice A5 (es.length + 1) c5).ownBlock = some g → n0 ≤ g := fun g hg => by
        rcases HAT5.out with h | ⟨g', h, hl⟩
        · rw [h] at hg; exact HV.out.l5 g hg
        · rw [h] at hg
          injection hg with hg
          have h1 := HUN4.out.size
          have h2 := HV.out.l0
          have h3 := lt_of_heap HV.out.blk
          have h4 : w4.heap.size ≤ g' := hl
          omega
      have HVX6 := Lib.hid hvx6
      have HGX6 := Lib.hid hgx6
      have HUN6 := Lib.hid hun6
      have HL6 := Lib.hid hl6
      clear hvx6 hgx6 hun6 hl6 hset3 hvb4 hbx4 hgx5 hdr4 HVX5 HU5 HAT5 HVX4 HVX4d HBX4 HUN4 HBX3 HVX3 HVX3d HUN3 HDR3 HL4 HL4X hvb5
      go_upto_region 6 with fail
      generalize w5.setCell ⟨b, 3, none⟩ (.slice A5 (es.length + 1) c5) = w6 at *
      clear c53 q53
      have hvb6 := HVX6.out.blk
      have c64 : w6.cell? ⟨b, 4, none⟩ = some (.pointer (some ⟨p.lk, 0, none⟩)) := blk_cell hvb6 (j := 4) rfl
      have q64 : w6.frozen? ⟨b, 4, none⟩ = false := blk_free hvb6 4
      have cg0 : w6.cell? ⟨gx, 0, none⟩ = some (.string id) := blk_cell HGX6.out (j := 0) (v := .string id) rfl
      have hbg : ¬ b = gx := fun e => by
        have h1 := HGX6.out
        rw [← e] at h1
        exact absurd (cells_type hvb6 h1) (by decide)
      have hlb6 := lt_of_heap hvb6
      have hlg6 := lt_of_heap HGX6.out
      have HVB6 := Lib.hid hvb6
      clear hvb6
      go_wp2_with fail
      have hu7 : Unch (fun k => k = b) w6 (w6.setCell ⟨b, 4, none⟩ (.pointer (some ⟨w6.heap.size, 0, none⟩))) := (Unch.refl _ _).setCell _ (fun _ => rfl)
      have hvx7 := HVX6.out.set hu7 (blk_set HVB6.out 4 _)
      have hvx8 := hvx7.fresh ((Unch.refl none_ _).alloc (.cells #[.int .u32 0, .int .i32 0, .int .u32 0, .string ⟨#[]⟩, .string ⟨#[]⟩, .slice none 0 0, .slice none 0 0] 92))
      have hun8 := (HUN6.out.step hu7 (fun k hk e => by rw [e]; exact HV.out.l0)).alloc (.cells #[.int .u32 0, .int .i32 0, .int .u32 0, .string ⟨#[]⟩, .string ⟨#[]⟩, .slice none 0 0, .slice none 0 0] 92)
      refine FIN2.out _ ⟨p.bd, p.bp, p.bk, p.bm, w6.heap.size, .slice A5 (es.length + 1) c5, pv2⟩ hun8 ?_
      have hlen : (es ++ [x]).length = es.length + 1 := by rw [List.length_append, List.length_singleton]
      have hec : ecells (es ++ [x]) = ecells es ++ [Value.string id, .int .i64 kd, .string au, .slice A np c, .string bo] := by rw [ecells_app, HXC.out]
      refine VX.vs (mk := mk3) ?_ HINT3.out HNE.out (fun e he => ?_) HC2.out (.inr HRT2.out) HV.out.rm HV.out.n1 HV.out.n2 HV.out.l0 HV.out.l1 HV.out.l2 HV.out.l3 HV.out.l4 HL6.out
      · rw [hlen, hec]
        exact hvx8
      · rcases List.mem_append.1 he with he | he
        · have := HV.out.ents e he
          exact ⟨this.sid, this.saut, this.sbody, this.sps⟩
        · rw [List.mem_singleton] at he
          subst he
          exact ⟨HXS.out.sid, HXS.out.saut, HXS.out.sbody, HXS.out.sps⟩
    · have hz1 : (z == 0) = false := by rw [beq_eq_false_iff_ne]; exact hz0
      have hval : (entE K s (.slice A (rawE s).ps.length c)).val = .agg #[.string (idF K s), .int .i64 (rawE s).kind, .string (rawE s).author, .slice A (rawE s).ps.length c, .string (rawE s).body] := rfl
      rw [hval]
      have FIN2 : Hid (∀ W, Unch none_ w W → fin (.returned (.tuple #[.string (idF K s), .int .i64 z])) W) := fun W hu => by
        rw [← FIN.out]
        exact ⟨hu.mono (fun _ _ h => h.elim), _, _, rfl, .inr ⟨hd, rfl, _, hz.symm, .inl ⟨hz0, _, HV.out.fresh hu⟩⟩⟩
      clear hval hz hbx hrow2 hrow hua hc
      generalize idF K s = id at *
      go_wp2_with fail
      exact FIN2.out _ HU2.out
end
end Go.Proofs.YtgcpoppinnnciaaGreatDoor
/- What is good, and what an Add answers, hangs on what the entries say, not on where their parents lie. -/
set_option linter.unusedVariables false
set_option linter.unusedSimpArgs false
namespace Go.Proofs.YtgcpoppinnnciaaGreatDoor
open Go Go.RowKit Go.Proofs.YtgcpoppinnnciaaGreatDoor.Pal Go.Proofs.YtgcpoppinnnciaaGreatDoor.Plan

/-- An entry without the place of its parents. -/
def stE (e : Ent) : Ent := { e with pv := .slice none 0 0 }
def sts (l : List Ent) : List Ent := l.map stE
section
variable (l : List Ent) (r : Nat)
theorem sts_len : (sts l).length = l.length := List.length_map _
theorem ent_sts (i : Nat) : ent (sts l) i = stE (ent l i) := by
  unfold ent sts
  rw [List.getD_eq_getElem?_getD, List.getElem?_map, List.getD_eq_getElem?_getD]
  cases l[i]? <;> rfl
theorem parB_sts : parB (sts l) = parB l := by
  funext i p
  simp only [parB, ent_sts]
  rfl
theorem pastRow_sts : pastRow (sts l) = pastRow l := by
  funext rows i j
  simp only [pastRow, parB_sts]
theorem pasts_sts : ∀ k, pasts (sts l) k = pasts l k
  | 0 => rfl
  | k + 1 => by
    funext i j
    simp only [pasts, pasts_sts k, pastRow_sts]
theorem past_sts : past (sts l) = past l := by
  funext i j
  simp only [past, pasts_sts]
theorem cnt_sts : cnt (sts l) = cnt l := by
  funext i
  simp only [cnt, prow, past_sts, sts_len]
theorem lessE_sts : lessE (sts l) = lessE l := by
  funext i j
  simp only [lessE, cnt_sts, ent_sts]
  rfl
theorem stepF_sts (inn : Nat → Bool) : (Ms.mk (sts l) r inn).stepF = (Ms.mk l r inn).stepF := by
  funext key best i
  simp only [Ms.stepF, Ms.addOf, Ms.kind, Ms.body, ent_sts, lessE_sts]
  rfl
theorem firstU_sts (inn : Nat → Bool) : (Ms.mk (sts l) r inn).firstU = (Ms.mk l r inn).firstU := by
  funext key k
  simp only [Ms.firstU, stepF_sts]
theorem first_sts (inn : Nat → Bool) : (Ms.mk (sts l) r inn).first = (Ms.mk l r inn).first := by
  funext key
  simp only [Ms.first, firstU_sts, Ms.aut, Ms.n, ent_sts, sts_len]
  rfl
theorem lower_sts (inn : Nat → Bool) : (Ms.mk (sts l) r inn).lower = (Ms.mk l r inn).lower := by
  funext a b
  simp only [Ms.lower, first_sts, lessE_sts]
theorem strikes_sts (inn : Nat → Bool) : (Ms.mk (sts l) r inn).strikes = (Ms.mk l r inn).strikes := by
  funext k i
  simp only [Ms.strikes, lower_sts, Ms.kind, Ms.body, Ms.aut, ent_sts, past_sts]
  rfl
theorem holdsF_sts (inn : Nat → Bool) : ∀ f, (Ms.mk (sts l) r inn).holdsF f = (Ms.mk l r inn).holdsF f
  | 0 => rfl
  | f + 1 => by
    funext i
    simp only [Ms.holdsF, holdsF_sts inn f, strikes_sts, Ms.n, sts_len]
theorem rk_sts (inn : Nat → Bool) : (Ms.mk (sts l) r inn).rk = (Ms.mk l r inn).rk := by
  funext key
  simp only [Ms.rk, firstU_sts, Ms.card, Ms.aut, Ms.n, ent_sts, sts_len, lessE_sts]
  rfl
theorem holds_sts (inn : Nat → Bool) : (Ms.mk (sts l) r inn).holds = (Ms.mk l r inn).holds := by
  funext i
  simp only [Ms.holds, holdsF_sts, rk_sts, Ms.aut, ent_sts]
  rfl
theorem member_sts (inn : Nat → Bool) : (Ms.mk (sts l) r inn).member = (Ms.mk l r inn).member := by
  funext key
  simp only [Ms.member, Ms.joins, Ms.leaves, Ms.holding, holds_sts, Ms.kind, Ms.body, Ms.aut, Ms.n, ent_sts, sts_len, past_sts]
  rfl
theorem goodU_sts : ∀ k, goodU (sts l) r k = goodU l r k
  | 0 => rfl
  | k + 1 => by
    funext i
    simp only [goodU, goodU_sts k, past_sts, member_sts, ent_sts]
    rfl
theorem goodL_sts : goodL (sts l) r = goodL l r := by
  funext i
  simp only [goodL, goodU_sts, sts_len]
end
theorem findN_sts (l : List Ent) (s : ByteArray) : findN (sts l) s = findN l s := by
  unfold findN sts
  rw [List.findIdx?_map]
  rfl
theorem inE_sts (l : List Ent) (s : ByteArray) : inE (sts l) s = inE l s := by
  unfold inE
  rw [findN_sts]
theorem missF_sts (l : List Ent) (ps : List ByteArray) : missF (sts l) ps = missF l ps := by
  unfold missF
  simp only [inE_sts]
theorem sts_app (l m : List Ent) : sts (l ++ m) = sts l ++ sts m := List.map_append
theorem rootN_sts (room : ByteArray) (l : List Ent) : rootN room (sts l) = rootN room l := by
  unfold rootN
  simp only [findN_sts, ent_sts]
  rfl
theorem goodV_sts (room : ByteArray) (l : List Ent) (x : Ent) : goodV room (sts l) (stE x) = goodV room l x := by
  unfold goodV
  rw [show sts l ++ [stE x] = sts (l ++ [x]) by rw [sts_app]; rfl, rootN_sts]
  simp only [goodL_sts, sts_len]
  rfl
theorem chkZ_sts (K : Nat → Int) (room : ByteArray) (l : List Ent) (s : ByteArray) (pv : Value) : chkZ K room (sts l) s (entE K s (.slice none 0 0)) = chkZ K room l s (entE K s pv) := by
  unfold chkZ
  rw [inE_sts, missF_sts, sts_len, show entE K s (.slice none 0 0) = stE (entE K s pv) from rfl, goodV_sts]
/-- A set with some bytes handed to it. -/
def addV (K : Nat → Int) (room : ByteArray) (es : List Ent) (s : ByteArray) : List Ent :=
  if decB s = true ∧ chkZ K room es s (entE K s (.slice none 0 0)) = 0 then es ++ [entE K s (.slice none 0 0)] else es
end Go.Proofs.YtgcpoppinnnciaaGreatDoor
