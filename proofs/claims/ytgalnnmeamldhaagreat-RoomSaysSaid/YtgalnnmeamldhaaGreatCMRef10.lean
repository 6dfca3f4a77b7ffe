/-
  palaverref15: Of.
  palaverref12: Has, Same; palaverlaw15: few, key, same.
  palaverref12: Sorted.
  palaverref12: Sorted: the walk.
  palaverlaw15.Laid: the plain part: one more entry leaves a list closed.
  palaverlaw15.Laid: entries as they grow.
  palaverlaw15: what is said, as it lies.
-/
import Derived.Test.YtgalnnmeamldhaaGreatCMRef7
/- palaverref15: Of. -/
set_option linter.unusedVariables false
set_option linter.unusedSimpArgs false
namespace Go.Proofs.YtgalnnmeamldhaaGreat
open Go Go.RowKit Go.Proofs.YtgalnnmeamldhaaGreat.Pal Go.Proofs.YtgalnnmeamldhaaGreat.Plan

theorem results_c1 {P : Program} {fn : Func} {p : Tmp} {ty : TypeId} (h : fn.results = #[.cell p ty]) (tmps : Array Value) (w : World) (g : Nat) (t : TypeId) (cs : Array Value) (fr : Nat × Nat) (d : TypeDesc)
    (hp : tmps.getD p undef = .pointer (some ⟨g, 0, none⟩)) (hg : w.heap[g]? = some (.cells cs t fr))
    (hu : P.underlying ty = some d) (hd : (match d with | .struct _ | .array _ _ => true | _ => false) = true) (hi : (P.info? ty).map (·.size) = some cs.size) :
    (results fn tmps).run P w = .ok (.agg cs) w := by
  have hp' : tmps[p]?.getD undef = .pointer (some ⟨g, 0, none⟩) := by simpa using hp
  simp [results, h, hp', asAddr, run_loadVar_row w g t ty cs fr d hg hu hd hi]
def goodS (l : List Ent) (r : Nat) : Ms := ⟨l, r, goodL l r⟩
def zeroSet : Obj := .cells #[.slice none 0 0, .slice none 0 0, .int .i64 0, .slice none 0 0] 46
/-- What Of's first statement has laid, by which of its operations have come up. -/
structure OfPre (w1 : World) (A : Option Addr) (n c : Nat) (l : List Ent) (r : Nat) (D : Nat → Bool) (x : Nat → Value) (w' : World) : Prop where
  u : Unch none_ w1 w'
  d2 : D 2 = true → ∃ A' c', x 11 = .slice A' n c' ∧ n ≤ c' ∧ PastsB w' A' c' n l (fun g => D 8 = true → x 17 ≠ .slice (some ⟨g, 0, none⟩) n n)
  d5 : D 5 = true → x 14 = .int .i64 (r : Int)
  d8 : D 8 = true → ∃ g, x 17 = .slice (some ⟨g, 0, none⟩) n n ∧ Brow w' g n (fun _ => false) ∧ w1.heap.size ≤ g
  d9 : D 9 = true → D 2 = true ∧ D 5 = true ∧ D 8 = true ∧ x 18 = .agg #[.slice A n c, x 11, x 14, x 17]
  d10 : D 10 = true → ∃ b, x 5 = .pointer (some ⟨b, 0, none⟩) ∧ w1.heap.size ≤ b ∧ w'.heap[b]? = some zeroSet
/-- .. and when all have. -/
def OfFin (w1 : World) (A : Option Addr) (n c : Nat) (l : List Ent) (r : Nat) (x : Nat → Value) (w' : World) : Prop :=
  Unch none_ w1 w' ∧ ∃ A' c' g b, x 5 = .pointer (some ⟨b, 0, none⟩) ∧ w1.heap.size ≤ b ∧ w1.heap.size ≤ g ∧ b ≠ g ∧ n ≤ c' ∧ PastsB w' A' c' n l (fun g' => g' ≠ g) ∧ Brow w' g n (fun _ => false) ∧
    w'.heap[b]? = some (.cells #[.slice A n c, .slice A' n c', .int .i64 (r : Int), .slice (some ⟨g, 0, none⟩) n n] 46 (0, 0))
def OfI (w1 : World) (A : Option Addr) (n c : Nat) (l : List Ent) (r : Nat) (D : Nat → Bool) (x : Nat → Value) (w' : World) : Prop :=
  (D 11 = false ∧ OfPre w1 A n c l r D x w') ∨ ((∀ i ∈ [2, 5, 8, 9, 10, 11], D i = true) ∧ OfFin w1 A n c l r x w')
theorem OfPre.fresh {w1 : World} {A : Option Addr} {n c : Nat} {l : List Ent} {r : Nat} {D : Nat → Bool} {x : Nat → Value} {w' w2 : World} (h : OfPre w1 A n c l r D x w') (hu : Unch none_ w' w2) : OfPre w1 A n c l r D x w2 := by
  refine ⟨h.u.trans hu, fun hd => ?_, h.d5, fun hd => ?_, h.d9, fun hd => ?_⟩
  · obtain ⟨A', c', a, b, d⟩ := h.d2 hd; exact ⟨A', c', a, b, d.fresh hu⟩
  · obtain ⟨g, a, b, d⟩ := h.d8 hd; exact ⟨g, a, b.unch hu (fun h => h), d⟩
  · obtain ⟨b, e1, e2, e3⟩ := h.d10 hd; exact ⟨b, e1, e2, hu.heap e3 (fun h => h)⟩
section
variable {w1 : World} {A : Option Addr} {n c : Nat} {l : List Ent} {r : Nat} {D : Nat → Bool} {x : Nat → Value} {w' : World}
theorem OfPre.s2 (h : OfPre w1 A n c l r D x w') (hi : D 2 = false) {A' : Option Addr} {c' : Nat} (hc : n ≤ c') (hp : PastsB w' A' c' n l (fun g => D 8 = true → x 17 ≠ .slice (some ⟨g, 0, none⟩) n n)) : OfPre w1 A n c l r (fun j => decide (j = 2) || D j) (upd x 11 (.slice A' n c')) w' :=
  ⟨h.u, fun _ => ⟨A', c', rfl, hc, hp⟩, fun hd => h.d5 (by simpa using hd), fun hd => h.d8 (by simpa using hd), (fun hd => by have := (h.d9 (by simpa using hd)).1; rw [hi] at this; cases this), fun hd => h.d10 (by simpa using hd)⟩
theorem OfPre.s5 (h : OfPre w1 A n c l r D x w') (hi : D 5 = false) : OfPre w1 A n c l r (fun j => decide (j = 5) || D j) (upd x 14 (.int .i64 (r : Int))) w' :=
  ⟨h.u, fun hd => h.d2 (by simpa using hd), fun _ => rfl, fun hd => h.d8 (by simpa using hd), (fun hd => by have := (h.d9 (by simpa using hd)).2.1; rw [hi] at this; cases this), fun hd => h.d10 (by simpa using hd)⟩
theorem OfPre.s8 (h : OfPre w1 A n c l r D x w') (hi : D 8 = false) : OfPre w1 A n c l r (fun j => decide (j = 8) || D j) (upd x 17 (.slice (some ⟨w'.heap.size, 0, none⟩) n n)) (w'.alloc (.cells (madeCells #[.bool false] n) 4)) := by
  have hu : Unch none_ w' (w'.alloc (.cells (madeCells #[.bool false] n) 4)) := (Unch.refl none_ w').alloc _
  have h' := h.fresh hu
  refine ⟨h'.u, fun hd => ?_, fun hd => h.d5 (by simpa using hd), fun _ => ⟨_, rfl, Brow.made w' n, h.u.size⟩, (fun hd => by have := (h.d9 (by simpa using hd)).2.2.1; rw [hi] at this; cases this), fun hd => h'.d10 (by simpa using hd)⟩
  obtain ⟨A', c', e1, e2, e3⟩ := h.d2 (by simpa using hd)
  refine ⟨A', c', e1, e2, (e3.mono (R' := fun g => (decide (8 = 8) || D 8) = true → upd x 17 (.slice (some ⟨w'.heap.size, 0, none⟩) n n) 17 ≠ .slice (some ⟨g, 0, none⟩) n n) (fun g hg _ _ e => ?_)).fresh hu⟩
  simp only [upd, if_true] at e
  injection e with e
  injection e with e
  injection e with e
  omega
theorem OfPre.s10 (h : OfPre w1 A n c l r D x w') : OfPre w1 A n c l r (fun j => decide (j = 10) || D j) (upd x 5 (.pointer (some ⟨w'.heap.size, 0, none⟩))) (w'.alloc zeroSet) := by
  have hu : Unch none_ w' (w'.alloc zeroSet) := (Unch.refl none_ w').alloc _
  have h' := h.fresh hu
  exact ⟨h'.u, fun hd => h'.d2 (by simpa using hd), fun hd => h.d5 (by simpa using hd), fun hd => h'.d8 (by simpa using hd), (fun hd => by have := h.d9 (by simpa using hd); exact ⟨by simpa using this.1, by simpa using this.2.1, by simpa using this.2.2.1, this.2.2.2⟩), fun _ => ⟨_, rfl, h.u.size, blk_new w' zeroSet⟩⟩
end
/-! ### The set that is asked of -/
structure Of8Pre (w3 : World) (A : Option Addr) (n c : Nat) (A' : Option Addr) (c' r : Nat) (D : Nat → Bool) (x : Nat → Value) (w' : World) : Prop where
  u : Unch none_ w3 w'
  d7 : D 7 = true → ∃ g, x 58 = .slice (some ⟨g, 0, none⟩) n n ∧ Brow w' g n (fun _ => false) ∧ w3.heap.size ≤ g
  d8 : D 8 = true → D 7 = true ∧ x 59 = .agg #[.slice A n c, .slice A' n c', .int .i64 (r : Int), x 58]
  d9 : D 9 = true → ∃ b, x 7 = .pointer (some ⟨b, 0, none⟩) ∧ w3.heap.size ≤ b ∧ w'.heap[b]? = some zeroSet
def Of8Fin (w3 : World) (A : Option Addr) (n c : Nat) (A' : Option Addr) (c' r : Nat) (x : Nat → Value) (w' : World) : Prop :=
  Unch none_ w3 w' ∧ ∃ g b, x 7 = .pointer (some ⟨b, 0, none⟩) ∧ w3.heap.size ≤ b ∧ w3.heap.size ≤ g ∧ b ≠ g ∧ Brow w' g n (fun _ => false) ∧
    w'.heap[b]? = some (.cells #[.slice A n c, .slice A' n c', .int .i64 (r : Int), .slice (some ⟨g, 0, none⟩) n n] 46 (0, 0))
def Of8I (w3 : World) (A : Option Addr) (n c : Nat) (A' : Option Addr) (c' r : Nat) (D : Nat → Bool) (x : Nat → Value) (w' : World) : Prop :=
  (D 10 = false ∧ Of8Pre w3 A n c A' c' r D x w') ∨ ((∀ i ∈ [7, 8, 9, 10], D i = true) ∧ Of8Fin w3 A n c A' c' r x w')
section
variable {w3 : World} {A : Option Addr} {n c : Nat} {A' : Option Addr} {c' r : Nat} {D : Nat → Bool} {x : Nat → Value} {w' w2 : World}
theorem Of8Pre.fresh (h : Of8Pre w3 A n c A' c' r D x w') (hu : Unch none_ w' w2) : Of8Pre w3 A n c A' c' r D x w2 := by
  refine ⟨h.u.trans hu, fun hd => ?_, h.d8, fun hd => ?_⟩
  · obtain ⟨g, a, b, d⟩ := h.d7 hd; exact ⟨g, a, b.unch hu (fun h => h), d⟩
  · obtain ⟨b, e1, e2, e3⟩ := h.d9 hd; exact ⟨b, e1, e2, hu.heap e3 (fun h => h)⟩
theorem Of8Pre.s7 (h : Of8Pre w3 A n c A' c' r D x w') (hi : D 7 = false) : Of8Pre w3 A n c A' c' r (fun j => decide (j = 7) || D j) (upd x 58 (.slice (some ⟨w'.heap.size, 0, none⟩) n n)) (w'.alloc (.cells (madeCells #[.bool false] n) 4)) := by
  have hu : Unch none_ w' (w'.alloc (.cells (madeCells #[.bool false] n) 4)) := (Unch.refl none_ w').alloc _
  have h' := h.fresh hu
  exact ⟨h'.u, fun _ => ⟨_, rfl, Brow.made w' n, h.u.size⟩, (fun hd => by have := (h.d8 (by simpa using hd)).1; rw [hi] at this; cases this), fun hd => h'.d9 (by simpa using hd)⟩
theorem Of8Pre.s9 (h : Of8Pre w3 A n c A' c' r D x w') : Of8Pre w3 A n c A' c' r (fun j => decide (j = 9) || D j) (upd x 7 (.pointer (some ⟨w'.heap.size, 0, none⟩))) (w'.alloc zeroSet) := by
  have hu : Unch none_ w' (w'.alloc zeroSet) := (Unch.refl none_ w').alloc _
  have h' := h.fresh hu
  exact ⟨h'.u, fun hd => h'.d7 (by simpa using hd), (fun hd => by have := h.d8 (by simpa using hd); exact ⟨by simpa using this.1, this.2⟩), fun _ => ⟨_, rfl, h.u.size, blk_new w' zeroSet⟩⟩
end
theorem goodU_ge (l : List Ent) (r : Nat) : ∀ (k j : Nat), k ≤ j → goodU l r k j = false
  | 0, _, _ => rfl
  | k + 1, j, h => by
    show (if j = k then _ else goodU l r k j) = false
    rw [if_neg (by omega)]
    exact goodU_ge l r k j (by omega)
theorem goodU_succ (l : List Ent) (r k j : Nat) : goodU l r (k + 1) j = if j = k then decide (k = r) || (!decide ((ent l k).kind = 1) && (past l k r && (Ms.mk l r (fun j => goodU l r k j && past l k j)).member (ent l k).author)) else goodU l r k j := rfl
/-- Behind j rounds of what is left out. -/
def Of12 (w4 wr : World) (b g : Nat) (A : Option Addr) (c : Nat) (A' : Option Addr) (c' n : Nat) (l : List Ent) (r k j : Nat) : Prop :=
  Unch none_ w4 wr ∧ wr.heap[b]? = some (.cells #[.slice A n c, .slice A' n c', .int .i64 (r : Int), .slice (some ⟨g, 0, none⟩) n n] 46 (0, 0)) ∧ Brow wr g n (fun x => decide (x < j) && (goodU l r k x && past l k x))
/-- Behind k rounds of Of. -/
def OfL (w1 wr : World) (b g : Nat) (A : Option Addr) (c : Nat) (A' : Option Addr) (c' n : Nat) (l : List Ent) (r k : Nat) : Prop :=
  Unch none_ w1 wr ∧ wr.heap[b]? = some (.cells #[.slice A n c, .slice A' n c', .int .i64 (r : Int), .slice (some ⟨g, 0, none⟩) n n] 46 (0, 0)) ∧ Brow wr g n (goodU l r k) ∧ PastsB wr A' c' n l (fun g' => g' ≠ g)
set_option maxRecDepth 100000 in
set_option maxHeartbeats 4000000 in
theorem of_ok {w : World} {A : Option Addr} {n c : Nat} {l : List Ent} (h : Ents w A n l) (hc : n ≤ c) (hC : Closed l) (room : ByteArray) {r : Nat} (hr : rootN room l = some r) :
    Calls Tryz.prog 16 #[.string room, .slice A n c] w fun e w' => (∃ p, e = .returned (setV p (goodS l r)) ∧ p.AL = A ∧ p.n = n ∧ SetOk w' p (goodS l r)) ∧ Unch none_ w w' := by
  have hn3 : n ≤ 300 := by rw [← h.len]; exact hC.len
  have hmk := run_make_bool n (by omega)
  have hu0 : Unch none_ w (w.alloc zeroSet) := (Unch.refl none_ w).alloc _
  have hP : ∀ w2, Unch none_ w w2 → Calls Tryz.prog 32 #[.slice A n c] w2 fun e w' => (∃ A' c', e = .returned (.slice A' n c') ∧ n ≤ c' ∧ PastsB w' A' c' n l (fun g => w2.heap.size ≤ g)) ∧ Unch none_ w2 w' := fun w2 hu => pasts_okB (h.fresh hu) hc hC
  have hR : ∀ w2, Unch none_ w w2 → Calls Tryz.prog 28 #[.string room, .slice A n c] w2 fun e w' => e = .returned (.int .i64 (r : Int)) ∧ Unch none_ w2 w' := fun w2 hu => by
    have := rroot_ok (h.fresh hu) hc room
    rw [hr] at this
    exact this
  have HP := Lib.hid hP
  have HR := Lib.hid hR
  clear hP hR
  go_enter Tryz.func16, Tryz.ntmps16
  go_wp2_with fail
  have b4 : (w.alloc zeroSet).heap[w.heap.size]? = some zeroSet := blk_new w zeroSet
  change Code.wp _ _ _ _ (w.alloc zeroSet)
  generalize hg4 : w.heap.size = g4 at *
  generalize w.alloc zeroSet = w1 at *
  refine wp_planI (fun _ => True) [0, 1, 3, 4, 6, 7] [2, 5, 8, 9, 10, 11] (by kernel_rfl) (by kernel_rfl) rfl (fun c a d v w h => by cases d <;> exact h) (trivial) ?_
  intro S HS _
  simp only [pickIn, List.getElem?_toArray, List.getElem?_cons_succ, List.getElem?_cons_zero]
  repeat (go_big_quiet_step (fail))
  refine wpQuiet_nil ?_
  refine free_slots [11, 14, 17, 18, 5] (fun _ => undef) (OfI w1 A n c l r) rfl (.inl ⟨rfl, (Unch.refl _ _).drew, by simp, by simp, by simp, by simp, by simp⟩) ?_ ?_
  · intro D x w2 hI i hi o ho hun hdep
    obtain ⟨hd11, hpre⟩ : D 11 = false ∧ OfPre w1 A n c l r D x w2 := by
      rcases hI with h | ⟨hall, _⟩
      · exact h
      · rw [hall i hi] at hun; cases hun
    simp only [List.mem_cons, List.not_mem_nil, or_false] at hi
    have hCw : ∀ w', ∃ g : In S, w' = g.w := fun w' => ⟨⟨w', (HS.out _).2 trivial⟩, rfl⟩
    have HCw := Lib.hid hCw
    have hw12 := hpre.u
    have HPRE := Lib.hid hpre
    have HDEP := Lib.hid hdep
    have HD11 := Lib.hid hd11
    have HUN := Lib.hid hun
    clear hCw hpre hdep hd11 hun
    rcases hi with rfl | rfl | rfl | rfl | rfl | rfl
    · simp only [List.getElem?_toArray, List.getElem?_cons_succ, List.getElem?_cons_zero, Option.some.injEq] at ho
      subst ho
      simp only [putsF, List.foldl]
      go_wp2_with fail
      refine (HP.out w2 (hu0.trans hw12)).mono ?_
      rintro e w3 ⟨⟨A', c', rfl, hc', hp⟩, hu3⟩
      go_wp2_with fail
      have hp' := hp.mono (R' := fun g => D 8 = true → x 17 ≠ .slice (some ⟨g, 0, none⟩) n n) (fun g _ hg hd e => by
        obtain ⟨g', e1, e2, _⟩ := HPRE.out.d8 hd
        rw [e1] at e
        injection e with e
        injection e with e
        injection e with e
        have := lt_of_heap e2
        omega)
      exact ⟨HCw.out _, upd x 11 (.slice A' n c'), rfl, .inl ⟨by simpa using HD11.out, (HPRE.out.fresh hu3).s2 HUN.out hc' hp'⟩⟩
    · simp only [List.getElem?_toArray, List.getElem?_cons_succ, List.getElem?_cons_zero, Option.some.injEq] at ho
      subst ho
      simp only [putsF, List.foldl]
      go_wp2_with fail
      refine (HR.out w2 (hu0.trans hw12)).mono ?_
      rintro e w3 ⟨rfl, hu3⟩
      go_wp2_with fail
      exact ⟨HCw.out _, upd x 14 (.int .i64 (r : Int)), rfl, .inl ⟨by simpa using HD11.out, (HPRE.out.fresh hu3).s5 HUN.out⟩⟩
    · simp only [List.getElem?_toArray, List.getElem?_cons_succ, List.getElem?_cons_zero, Option.some.injEq] at ho
      subst ho
      simp only [putsF, List.foldl]
      go_wp2_with fail
      exact ⟨HCw.out _, upd x 17 (.slice (some ⟨w2.heap.size, 0, none⟩) n n), rfl, .inl ⟨by simpa using HD11.out, HPRE.out.s8 HUN.out⟩⟩
    · simp only [List.getElem?_toArray, List.getElem?_cons_succ, List.getElem?_cons_zero, Option.some.injEq] at ho
      subst ho
      simp only [putsF, List.foldl]
      have k2 := HDEP.out ⟨2, .data⟩ (by simp) rfl (by simp)
      have k5 := HDEP.out ⟨5, .data⟩ (by simp) rfl (by simp)
      have k8 := HDEP.out ⟨8, .data⟩ (by simp) rfl (by simp)
      obtain ⟨A', c', e11, hc', hp⟩ := HPRE.out.d2 k2
      have e14 := HPRE.out.d5 k5
      obtain ⟨g, e17, hb, hg⟩ := HPRE.out.d8 k8
      have K := Lib.hid (And.intro k2 (And.intro k5 k8))
      have HD10 := Lib.hid HPRE.out.d10
      have hp9 := hp.mono (R' := fun g' => (decide (8 = 9) || D 8) = true → (Value.slice (some ⟨g, 0, none⟩) n n) ≠ .slice (some ⟨g', 0, none⟩) n n) (fun g' _ hg' _ e => hg' k8 (by rw [e17]; exact e))
      have HP9 := Lib.hid hp9
      clear hp9
      clear k2 k5 k8
      go_wp2_with fail
      refine ⟨HCw.out _, upd (upd (upd (upd x 11 (.slice A' n c')) 14 (.int .i64 (r : Int))) 17 (.slice (some ⟨g, 0, none⟩) n n)) 18 (.agg #[.slice A n c, .slice A' n c', .int .i64 (r : Int), .slice (some ⟨g, 0, none⟩) n n]), rfl, .inl ⟨by simpa using HD11.out, hw12, fun _ => ⟨A', c', rfl, hc', HP9.out⟩, fun _ => rfl, fun _ => ⟨g, rfl, hb, hg⟩, fun _ => ⟨by simpa using K.out.1, by simpa using K.out.2.1, by simpa using K.out.2.2, rfl⟩, fun hd => HD10.out (by simpa using hd)⟩⟩
    · simp only [List.getElem?_toArray, List.getElem?_cons_succ, List.getElem?_cons_zero, Option.some.injEq] at ho
      subst ho
      simp only [putsF, List.foldl]
      go_wp2_with fail
      exact ⟨HCw.out _, upd x 5 (.pointer (some ⟨w2.heap.size, 0, none⟩)), rfl, .inl ⟨by simpa using HD11.out, HPRE.out.s10⟩⟩
    · simp only [List.getElem?_toArray, List.getElem?_cons_succ, List.getElem?_cons_zero, Option.some.injEq] at ho
      subst ho
      simp only [putsF, List.foldl]
      have k9 := HDEP.out ⟨9, .data⟩ (by simp) rfl (by simp)
      have k10 := HDEP.out ⟨10, .data⟩ (by simp) rfl (by simp)
      obtain ⟨k2, k5, k8, e18⟩ := HPRE.out.d9 k9
      obtain ⟨A', c', e11, hc', hp⟩ := HPRE.out.d2 k2
      have e14 := HPRE.out.d5 k5
      obtain ⟨g, e17, hb, hg⟩ := HPRE.out.d8 k8
      obtain ⟨b, e5, hbl, hbz⟩ := HPRE.out.d10 k10
      rw [e11, e14, e17] at e18
      have K : Hid (∀ i ∈ [2, 5, 8, 9, 10, 11], (decide (i = 11) || D i) = true) := fun i hi => by
        simp only [List.mem_cons, List.not_mem_nil, or_false] at hi
        rcases hi with rfl | rfl | rfl | rfl | rfl | rfl
        · rw [k2]; rfl
        · rw [k5]; rfl
        · rw [k8]; rfl
        · rw [k9]; rfl
        · rw [k10]; rfl
        · rfl
      have hp11 := hp.mono (R' := fun g' => g' ≠ g) (fun g' _ hg' e => hg' k8 (by rw [e17, e]))
      have HP11 := Lib.hid hp11
      clear hp11
      have hbg : b ≠ g := fun e => by
        unfold Brow at hb
        rw [← e, hbz] at hb
        injection hb with hb
        injection hb with _ hb
        exact absurd hb (by decide)
      unfold zeroSet at hbz
      have y0 := blk_cell hbz (j := 0) rfl
      have y1 := blk_cell hbz (j := 1) rfl
      have y2 := blk_cell hbz (j := 2) rfl
      have y3 := blk_cell hbz (j := 3) rfl
      have q0 := blk_free hbz 0
      have q1 := blk_free hbz 1
      have q2 := blk_free hbz 2
      have q3 := blk_free hbz 3
      have BZ := Lib.hid hbz
      clear k9 k10 k2 k5 k8 hbz e11 e14 e17
      go_wp2_with fail
      have huW : Unch (fun k => k = b) w2 ((((w2.setCell ⟨b, 0, none⟩ (.slice A n c)).setCell ⟨b, 1, none⟩ (.slice A' n c')).setCell ⟨b, 2, none⟩ (.int .i64 (r : Int))).setCell ⟨b, 3, none⟩ (.slice (some ⟨g, 0, none⟩) n n)) :=
        ((((Unch.refl (fun k => k = b) w2).setCell _ (fun _ => rfl)).setCell _ (fun _ => rfl)).setCell _ (fun _ => rfl)).setCell _ (fun _ => rfl)
      have hbW : ((((w2.setCell ⟨b, 0, none⟩ (.slice A n c)).setCell ⟨b, 1, none⟩ (.slice A' n c')).setCell ⟨b, 2, none⟩ (.int .i64 (r : Int))).setCell ⟨b, 3, none⟩ (.slice (some ⟨g, 0, none⟩) n n)).heap[b]? = some (.cells #[.slice A n c, .slice A' n c', .int .i64 (r : Int), .slice (some ⟨g, 0, none⟩) n n] 46 (0, 0)) :=
        blk_set (blk_set (blk_set (blk_set BZ.out 0 _) 1 _) 2 _) 3 _
      exact ⟨HCw.out _, upd (upd x 5 (.pointer (some ⟨b, 0, none⟩))) 18 (.agg #[.slice A n c, .slice A' n c', .int .i64 (r : Int), .slice (some ⟨g, 0, none⟩) n n]), rfl, .inr ⟨K.out, hw12.step huW (fun i hi e => by omega), A', c', g, b, rfl, hbl, hg, hbg, hc', HP11.out.other BZ.out (by decide) (fun e => absurd e (by decide)) huW, hb.unch huW (fun e => hbg e.symm), hbW⟩⟩
  · intro D x w2 hI hall
    rcases hI with ⟨hd11, _⟩ | ⟨_, hfin⟩
    · rw [hall 11 (by simp)] at hd11; cases hd11
    obtain ⟨hu12, A', c', g, b, e5, hbl, hgl, hbg, hc', hp, hb, hbS⟩ := hfin
    simp only [putsF, List.foldl]
    rw [e5]
    generalize x 11 = x11
    generalize x 14 = x14
    generalize x 17 = x17
    generalize x 18 = x18
    clear e5
    have hkr : (ent l r).kind = 1 := by
      unfold rootN at hr
      split at hr
      · split at hr
        · rename_i hk; obtain rfl := Option.some.inj hr; exact hk
        · cases hr
      · cases hr
    have hrn : r < n := by
      unfold rootN at hr
      split at hr
      · rename_i i hf
        split at hr
        · obtain rfl := Option.some.inj hr
          obtain ⟨e, he, _⟩ := findN_some hf
          rw [← h.len]; exact (List.getElem?_eq_some_iff.1 he).1
        · cases hr
      · cases hr
    have hL0 : OfL w1 w2 b g A c A' c' n l r 0 := ⟨hu12, hbS, hb.congr (fun _ _ => rfl), hp⟩
    have b42 := hu12.heap b4 (fun h => h)
    have HL0 := Lib.hid hL0
    clear hL0 hb hp hbS hr b42
    go_wp2
    go_loopg [6] n (fun gk i wr => ∃ k : Nat, k ≤ n ∧ gk = n - k ∧ i = .int .i64 (k : Int) ∧ OfL w1 wr b g A c A' c' n l r k)
    case atStart => exact ⟨0, Nat.zero_le _, rfl, rfl, HL0.out⟩
    case round =>
      clear HL0
      obtain ⟨k, hk, rfl, rfl, hu, hbS, hbr, hp⟩ := hrel
      obtain ⟨w3, rfl⟩ : ∃ w3, w3 = wr := ⟨_, rfl⟩
      have s0 := blk_cell hbS (j := 0) rfl
      have s1 := blk_cell hbS (j := 1) rfl
      have s2 := blk_cell hbS (j := 2) rfl
      have s3 := blk_cell hbS (j := 3) rfl
      have hE3 := h.fresh (hu0.trans hu)
      by_cases hkn : k < n
      · have z0 : (0 : Int) ≤ (k : Int) := by omega
        have z1 : (k : Int) < (n : Int) := by omega
        have hbk := hbr.at (j := k) hkn
        have hfk := hbr.free k
        by_cases hkr2 : k = r
        · have hset := (hbr.set k true).congr (f' := goodU l r (k + 1)) (fun j _ => by
            rw [goodU_succ]
            by_cases hj : j = k
            · rw [if_pos hj, if_pos hj, decide_eq_true hkr2]; rfl
            · rw [if_neg hj, if_neg hj])
          have hu4 := hu.setCell (p := ⟨g, k, none⟩) (.bool true) (fun hlt => by have : g < w1.heap.size := hlt; omega)
          have huW : Unch (fun j => j = g) w3 (w3.setCell ⟨g, k, none⟩ (.bool true)) := (Unch.refl _ _).setCell _ (fun _ => rfl)
          have hp4 := hp.other hbr (by decide) (fun _ _ h => h) huW
          have hb4 := huW.heap hbS hbg
          have HN : Hid (OfL w1 (w3.setCell ⟨g, k, none⟩ (.bool true)) b g A c A' c' n l r (k + 1)) := ⟨hu4, hb4, hset, hp4⟩
          clear hset hp4 hb4 hu4 huW
          subst hkr2
          go_wp2
          go_roundg (n - (k + 1))
          case measure => omega
          case rel => exact ⟨k + 1, by omega, rfl, by go_num, HN.out⟩
        · obtain ⟨e1, e2, e3, e4⟩ := nat_ne hkr2
          have HKR2 := Lib.hid hkr2
          clear hkr2
          have hS : SetOk w3 ⟨n, A, c, A', c', some ⟨g, 0, none⟩, n⟩ ⟨l, r, goodU l r k⟩ := ⟨hE3, hc, hp.ok h.len (by unfold maxLen; omega), hbr.rds (by unfold maxLen; omega), hC, by show r < l.length; rw [h.len]; exact hrn, hkr⟩
          obtain ⟨bL, oL, _, _, hA, _, _, xk, xa, _, _⟩ := hS.entry (k := k) hkn
          obtain ⟨bp, op, Ak, ck, hAP, rk, hck, hrdk⟩ := hS.row (k := k) hkn
          simp only at hA hAP rk hrdk
          subst hA
          subst hAP
          obtain ⟨bq, oq, rfl, ykr⟩ := hS.pastAt hrdk (k := r) hrn
          have zr : (0 : Int) ≤ (r : Int) := by omega
          have zr2 : (r : Int) < (n : Int) := by omega
          have hskip : (!decide ((ent l k).kind = 1) && past l k r) = false → OfL w1 w3 b g (some ⟨bL, oL, none⟩) c (some ⟨bp, op, none⟩) c' n l r (k + 1) := fun hh => ⟨hu, hbS, hbr.congr (fun j _ => by
            rw [goodU_succ]
            by_cases hj : j = k
            · rw [if_pos hj, hj, goodU_ge l r k k (Nat.le_refl _), decide_eq_false HKR2.out, Bool.false_or, ← Bool.and_assoc, hh, Bool.false_and]
            · rw [if_neg hj]), hp⟩
          have hskipd : ∀ nq, OfL w1 w3 b g (some ⟨bL, oL, none⟩) c (some ⟨bp, op, none⟩) c' n l r (k + 1) → OfL w1 (w3.drewN nq) b g (some ⟨bL, oL, none⟩) c (some ⟨bp, op, none⟩) c' n l r (k + 1) := fun nq ⟨a1, a2, a3, a4⟩ => ⟨a1.drewN nq, a2, a3, a4.fresh ((Unch.refl none_ w3).drewN nq)⟩
          have HSK := Lib.hid hskip
          have HSKD := Lib.hid hskipd
          clear hskip hskipd
          by_cases hk1 : (ent l k).kind = 1
          · have HN := Lib.hid (HSK.out (by rw [decide_eq_true hk1]; rfl))
            have xk' : w3.cell? ⟨bL, oL + k * 5 + 1, none⟩ = some (.int .i64 1) := by rw [← hk1]; exact xk
            clear hk1 xk
            go_wp2
            go_quiet (fail)
            go_wp2
            go_roundg (n - (k + 1))
            case measure => omega
            case rel => exact ⟨k + 1, by omega, rfl, by go_num, HSKD.out _ HN.out⟩
          · have d1 : ((ent l k).kind == 1) = false := by simpa using hk1
            have HK1 := Lib.hid hk1
            clear hk1
            have xk' : w3.cell? ⟨bL, oL + k * 5 + 1, none⟩ = some (.int .i64 (ent l k).kind) := xk
            clear xk
            cases hpk : past l k r with
            | false =>
              have HN := Lib.hid (HSK.out (by rw [hpk, Bool.and_false]))
              have ykr' : w3.cell? ⟨bq, oq + r, none⟩ = some (.bool false) := by rw [← hpk]; exact ykr
              clear hpk ykr
              go_wp2
              go_quiet (fail)
              go_wp2
              go_roundg (n - (k + 1))
              case measure => omega
              case rel => exact ⟨k + 1, by omega, rfl, by go_num, HSKD.out _ HN.out⟩
            | true =>
              have ykr' : w3.cell? ⟨bq, oq + r, none⟩ = some (.bool true) := by rw [← hpk]; exact ykr
              have HPK := Lib.hid hpk
              clear hpk ykr HSK HSKD
              go_wp2
              go_quiet (fail)
              go_wp2_with fail
              have hu4 := hu.drewN nq
              have hbS4 : (w3.drewN nq).heap[b]? = some (.cells #[.slice (some ⟨bL, oL, none⟩) n c, .slice (some ⟨bp, op, none⟩) n c', .int .i64 (r : Int), .slice (some ⟨g, 0, none⟩) n n] 46 (0, 0)) := hbS
              have hbr4 : Brow (w3.drewN nq) g n (goodU l r k) := hbr
              have hp4 := hp.fresh ((Unch.refl none_ w3).drewN nq)
              have hS4 := hS.fresh ((Unch.refl none_ w3).drewN nq)
              have rk4 : (w3.drewN nq).cell? ⟨bp, op + k, none⟩ = some (.slice (some ⟨bq, oq, none⟩) n ck) := rk
              have xa4 : (w3.drewN nq).cell? ⟨bL, oL + k * 5 + 2, none⟩ = some (.string (ent l k).author) := xa
              have hrd4 := RdS.fresh hrdk ((Unch.refl none_ w3).drewN nq)
              clear s0 s1 s2 s3 rk xa xk' ykr' hbk hfk hu hbS hbr hp hS hE3 hrdk
              generalize w3.drewN nq = w4 at *
              have hblt := lt_of_heap hbS4
              refine wp_planI (fun W => W.heap[b]? = w4.heap[b]?) [0, 1, 2, 3, 4, 5, 6] [7, 8, 9, 10] (by kernel_rfl) (by kernel_rfl) rfl (fun c a d v w h => by cases d <;> exact h) (rfl) ?_
              intro S HS _
              have f1 : ∀ G : In S, G.w.cell? ⟨b, 1, none⟩ = some (.slice (some ⟨bp, op, none⟩) n c') := fun G => (World.cell?_of_block (a := ⟨b, 1, none⟩) ((HS.out _).1 G.h)).trans (blk_cell hbS4 (j := 1) rfl)
              have f2 : ∀ G : In S, G.w.cell? ⟨b, 2, none⟩ = some (.int .i64 (r : Int)) := fun G => (World.cell?_of_block (a := ⟨b, 2, none⟩) ((HS.out _).1 G.h)).trans (blk_cell hbS4 (j := 2) rfl)
              simp only [pickIn, List.getElem?_toArray, List.getElem?_cons_succ, List.getElem?_cons_zero]
              repeat (go_big_quiet_step (fail))
              refine wpQuiet_nil ?_
              clear f1 f2
              refine free_slots2 [58, 59, 7] (Of8I w4 (some ⟨bL, oL, none⟩) n c (some ⟨bp, op, none⟩) c' r) (fun x => .inl ⟨rfl, (Unch.refl _ _).drew, by simp, by simp, by simp⟩) ?_ ?_
              · intro D x w5 hI i hi o ho hun hdep
                obtain ⟨hd10, hpre⟩ : D 10 = false ∧ Of8Pre w4 (some ⟨bL, oL, none⟩) n c (some ⟨bp, op, none⟩) c' r D x w5 := by
                  rcases hI with h | ⟨hall, _⟩
                  · exact h
                  · rw [hall i hi] at hun; cases hun
                simp only [List.mem_cons, List.not_mem_nil, or_false] at hi
                have hCw : ∀ w', Unch none_ w4 w' → ∃ g : In S, w' = g.w := fun w' hu => ⟨⟨w', (HS.out _).2 (hu.block b hblt (fun h => h))⟩, rfl⟩
                have HCw := Lib.hid hCw
                have hw45 := hpre.u
                have HPRE := Lib.hid hpre
                have HDEP := Lib.hid hdep
                have HD10 := Lib.hid hd10
                have HUN := Lib.hid hun
                clear hCw hpre hdep hd10 hun hbS4 xa4 rk4
                rcases hi with rfl | rfl | rfl | rfl
                · simp only [List.getElem?_toArray, List.getElem?_cons_succ, List.getElem?_cons_zero, Option.some.injEq] at ho
                  subst ho
                  simp only [putsF, List.foldl]
                  have hs7 := Lib.hid (HPRE.out.s7 HUN.out)
                  go_wp2_with fail
                  exact ⟨HCw.out _ hs7.out.u, upd x 58 (.slice (some ⟨w5.heap.size, 0, none⟩) n n), rfl, .inl ⟨by simpa using HD10.out, hs7.out⟩⟩
                · simp only [List.getElem?_toArray, List.getElem?_cons_succ, List.getElem?_cons_zero, Option.some.injEq] at ho
                  subst ho
                  simp only [putsF, List.foldl]
                  have k7 := HDEP.out ⟨7, .data⟩ (by simp) rfl (by simp)
                  obtain ⟨g2, e58, hb2, hg2⟩ := HPRE.out.d7 k7
                  have K := Lib.hid k7
                  have HD9 := Lib.hid HPRE.out.d9
                  clear k7
                  go_wp2_with fail
                  exact ⟨HCw.out _ hw45, upd (upd x 58 (.slice (some ⟨g2, 0, none⟩) n n)) 59 (.agg #[.slice (some ⟨bL, oL, none⟩) n c, .slice (some ⟨bp, op, none⟩) n c', .int .i64 (r : Int), .slice (some ⟨g2, 0, none⟩) n n]), rfl, .inl ⟨by simpa using HD10.out, hw45, fun _ => ⟨g2, rfl, hb2, hg2⟩, fun _ => ⟨by simpa using K.out, rfl⟩, fun hd => HD9.out (by simpa using hd)⟩⟩
                · simp only [List.getElem?_toArray, List.getElem?_cons_succ, List.getElem?_cons_zero, Option.some.injEq] at ho
                  subst ho
                  simp only [putsF, List.foldl]
                  have hs9 := Lib.hid HPRE.out.s9
                  go_wp2_with fail
                  exact ⟨HCw.out _ hs9.out.u, upd x 7 (.pointer (some ⟨w5.heap.size, 0, none⟩)), rfl, .inl ⟨by simpa using HD10.out, hs9.out⟩⟩
                · simp only [List.getElem?_toArray, List.getElem?_cons_succ, List.getElem?_cons_zero, Option.some.injEq] at ho
                  subst ho
                  simp only [putsF, List.foldl]
                  have k8 := HDEP.out ⟨8, .data⟩ (by simp) rfl (by simp)
                  have k9 := HDEP.out ⟨9, .data⟩ (by simp) rfl (by simp)
                  obtain ⟨k7, e59⟩ := HPRE.out.d8 k8
                  obtain ⟨g2, e58, hb2, hg2⟩ := HPRE.out.d7 k7
                  obtain ⟨b2, e7, hbl2, hbz⟩ := HPRE.out.d9 k9
                  rw [e58] at e59
                  have K : Hid (∀ i ∈ [7, 8, 9, 10], (decide (i = 10) || D i) = true) := fun i hi => by
                    simp only [List.mem_cons, List.not_mem_nil, or_false] at hi
                    rcases hi with rfl | rfl | rfl | rfl
                    · rw [k7]; rfl
                    · rw [k8]; rfl
                    · rw [k9]; rfl
                    · rfl
                  have hbg2 : b2 ≠ g2 := fun e => by
                    unfold Brow at hb2
                    rw [← e, hbz] at hb2
                    injection hb2 with hb2
                    injection hb2 with _ hb2
                    exact absurd hb2 (by decide)
                  unfold zeroSet at hbz
                  have y0 := blk_cell hbz (j := 0) rfl
                  have y1 := blk_cell hbz (j := 1) rfl
                  have y2 := blk_cell hbz (j := 2) rfl
                  have y3 := blk_cell hbz (j := 3) rfl
                  have q0 := blk_free hbz 0
                  have q1 := blk_free hbz 1
                  have q2 := blk_free hbz 2
                  have q3 := blk_free hbz 3
                  have BZ := Lib.hid hbz
                  clear k7 k8 k9 hbz e58
                  go_wp2_with fail
                  have huW : Unch (fun k => k = b2) w5 ((((w5.setCell ⟨b2, 0, none⟩ (.slice (some ⟨bL, oL, none⟩) n c)).setCell ⟨b2, 1, none⟩ (.slice (some ⟨bp, op, none⟩) n c')).setCell ⟨b2, 2, none⟩ (.int .i64 (r : Int))).setCell ⟨b2, 3, none⟩ (.slice (some ⟨g2, 0, none⟩) n n)) :=
                    ((((Unch.refl (fun k => k = b2) w5).setCell _ (fun _ => rfl)).setCell _ (fun _ => rfl)).setCell _ (fun _ => rfl)).setCell _ (fun _ => rfl)
                  have hbW : ((((w5.setCell ⟨b2, 0, none⟩ (.slice (some ⟨bL, oL, none⟩) n c)).setCell ⟨b2, 1, none⟩ (.slice (some ⟨bp, op, none⟩) n c')).setCell ⟨b2, 2, none⟩ (.int .i64 (r : Int))).setCell ⟨b2, 3, none⟩ (.slice (some ⟨g2, 0, none⟩) n n)).heap[b2]? = some (.cells #[.slice (some ⟨bL, oL, none⟩) n c, .slice (some ⟨bp, op, none⟩) n c', .int .i64 (r : Int), .slice (some ⟨g2, 0, none⟩) n n] 46 (0, 0)) :=
                    blk_set (blk_set (blk_set (blk_set BZ.out 0 _) 1 _) 2 _) 3 _
                  have huN := hw45.step huW (fun i hi e => by omega)
                  exact ⟨HCw.out _ huN, upd (upd x 7 (.pointer (some ⟨b2, 0, none⟩))) 59 (.agg #[.slice (some ⟨bL, oL, none⟩) n c, .slice (some ⟨bp, op, none⟩) n c', .int .i64 (r : Int), .slice (some ⟨g2, 0, none⟩) n n]), rfl, .inr ⟨K.out, huN, g2, b2, rfl, hbl2, hg2, hbg2, hb2.unch huW (fun e => hbg2 e.symm), hbW⟩⟩
              · intro D x w5 hI hall
                rcases hI with ⟨hd10, _⟩ | ⟨_, hfin⟩
                · rw [hall 10 (by simp)] at hd10; cases hd10
                obtain ⟨hu45, g2, b2, e7, hbl2, hg2, hbg2, hb2, hbS2⟩ := hfin
                simp only [putsF, List.foldl]
                rw [e7]
                generalize x 58 = x58
                generalize x 59 = x59
                clear e7
                have HSS := Lib.hid hS4
                have HRD := Lib.hid hrd4
                have hi0 : Of12 w4 w5 b2 g2 (some ⟨bL, oL, none⟩) c (some ⟨bp, op, none⟩) c' n l r k 0 := ⟨hu45, hbS2, hb2.congr (fun _ _ => by simp)⟩
                have HI0 := Lib.hid hi0
                clear hi0 hbS2 hb2 hS4 hrd4 hall
                go_wp2
                go_loopg [8] k (fun gk i wr => ∃ j : Nat, j ≤ k ∧ gk = k - j ∧ i = .int .i64 (j : Int) ∧ Of12 w4 wr b2 g2 (some ⟨bL, oL, none⟩) c (some ⟨bp, op, none⟩) c' n l r k j)
                case atStart => exact ⟨0, Nat.zero_le _, rfl, rfl, HI0.out⟩
                case round =>
                  clear HI0
                  obtain ⟨j, hj, rfl, rfl, hu6, hbS6, hbr6⟩ := hrel
                  obtain ⟨w6, rfl⟩ : ∃ w6, w6 = wr := ⟨_, rfl⟩
                  have hbS46 := hu6.heap hbS4 (fun h => h)
                  have hbr46 := hbr4.unch hu6 (fun h => h)
                  by_cases hjk : j < k
                  · have hjn : j < n := by omega
                    have yg := hbr46.at (j := j) hjn
                    have rk6 := hu6.cell rk4 (fun h => h)
                    obtain ⟨bq', oq', hq', yq⟩ := (HSS.out.fresh hu6).pastAt (RdS.fresh HRD.out hu6) (k := j) hjn
                    obtain ⟨rfl, rfl⟩ : bq = bq' ∧ oq = oq' := by injection hq' with h; injection h with h1 h2; exact ⟨h1, h2⟩
                    have yq : w6.cell? ⟨bq, oq + j, none⟩ = some (.bool (past l k j)) := yq
                    have zj : (0 : Int) ≤ (j : Int) := by omega
                    have zj2 : (j : Int) < (k : Int) := by omega
                    have zj3 : (j : Int) < (n : Int) := by omega
                    have fg2 := hbr6.free j
                    have yg2 := hbr6.at (j := j) hjn
                    have hset := (hbr6.set j (goodU l r k j && past l k j)).congr (f' := fun x => decide (x < j + 1) && (goodU l r k x && past l k x)) (fun x _ => by
                      by_cases hx : x = j
                      · subst hx; simp
                      · by_cases h1 : x < j
                        · have : x < j + 1 := by omega
                          simp [hx, h1, this]
                        · have : ¬ x < j + 1 := by omega
                          simp [hx, h1, this])
                    have huW : Unch (fun i => i = g2) w6 (w6.setCell ⟨g2, j, none⟩ (.bool (goodU l r k j && past l k j))) := (Unch.refl _ _).setCell _ (fun _ => rfl)
                    have hN : Of12 w4 (w6.setCell ⟨g2, j, none⟩ (.bool (goodU l r k j && past l k j))) b2 g2 (some ⟨bL, oL, none⟩) c (some ⟨bp, op, none⟩) c' n l r k (j + 1) := ⟨hu6.step huW (fun i hi e => by omega), huW.heap hbS6 hbg2, hset⟩
                    have HN := Lib.hid hN
                    clear hN hset huW hq'
                    cases hgd : goodU l r k j with
                    | true =>
                      rw [hgd] at yg HN
                      rw [Bool.true_and] at HN
                      clear hgd
                      go_wp2_with fail
                      refine wp_planC (fun W => W.heap[b2]? = w6.heap[b2]? ∧ W.heap[b]? = w6.heap[b]? ∧ W.cell? ⟨g, j, none⟩ = some (.bool true) ∧ W.cell? ⟨bp, op + k, none⟩ = some (.slice (some ⟨bq, oq, none⟩) n ck) ∧ W.cell? ⟨bq, oq + j, none⟩ = some (.bool (past l k j))) [0, 1, 2, 3, 4, 5, 6, 7, 8, 9, 10, 11, 12, 13, 14, 15, 16, 17] [18, 19] 0 (by kernel_rfl) (by kernel_rfl) rfl rfl (fun c a d v w h => by cases d <;> exact h) (⟨rfl, rfl, yg, rk6, yq⟩) ?_
                      intro S HS _
                      have f1 : ∀ G : In S, G.w.cell? ⟨b2, 3, none⟩ = some (.slice (some ⟨g2, 0, none⟩) n n) := fun G => (World.cell?_of_block (a := ⟨b2, 3, none⟩) ((HS.out _).1 G.h).1).trans (blk_cell hbS6 (j := 3) rfl)
                      have f2 : ∀ G : In S, G.w.cell? ⟨b, 3, none⟩ = some (.slice (some ⟨g, 0, none⟩) n n) := fun G => (World.cell?_of_block (a := ⟨b, 3, none⟩) ((HS.out _).1 G.h).2.1).trans (blk_cell hbS46 (j := 3) rfl)
                      have f3 : ∀ G : In S, G.w.cell? ⟨b, 1, none⟩ = some (.slice (some ⟨bp, op, none⟩) n c') := fun G => (World.cell?_of_block (a := ⟨b, 1, none⟩) ((HS.out _).1 G.h).2.1).trans (blk_cell hbS46 (j := 1) rfl)
                      have f4 : ∀ G : In S, G.w.cell? ⟨g, j, none⟩ = some (.bool true) := fun G => ((HS.out _).1 G.h).2.2.1
                      have f5 : ∀ G : In S, G.w.cell? ⟨bp, op + k, none⟩ = some (.slice (some ⟨bq, oq, none⟩) n ck) := fun G => ((HS.out _).1 G.h).2.2.2.1
                      have f6 : ∀ G : In S, G.w.cell? ⟨bq, oq + j, none⟩ = some (.bool (past l k j)) := fun G => ((HS.out _).1 G.h).2.2.2.2
                      simp only [pickIn, List.getElem?_toArray, List.getElem?_cons_succ, List.getElem?_cons_zero]
                      repeat (go_big_quiet_step (fail))
                      refine wpQuiet_nil ?_
                      clear f1 f2 f3 f4 f5 f6
                      refine tail_all ?_
                      go_wp2
                      go_roundg (k - (j + 1))
                      case measure => omega
                      case rel =>
                        obtain ⟨a1, a2, a3⟩ := HN.out
                        exact ⟨j + 1, by omega, rfl, by go_num, a1.drew, a2, a3⟩
                    | false =>
                      rw [hgd] at yg HN
                      rw [Bool.false_and] at HN
                      clear hgd
                      go_wp2_with fail
                      refine wp_planC (fun W => W.heap[b2]? = w6.heap[b2]? ∧ W.heap[b]? = w6.heap[b]? ∧ W.cell? ⟨g, j, none⟩ = some (.bool false)) [0, 1, 2, 3, 4, 5, 6, 7, 8, 9, 10, 11, 12, 13, 14, 15, 16, 17] [18, 19] 0 (by kernel_rfl) (by kernel_rfl) rfl rfl (fun c a d v w h => by cases d <;> exact h) (⟨rfl, rfl, yg⟩) ?_
                      intro S HS _
                      have f1 : ∀ G : In S, G.w.cell? ⟨b2, 3, none⟩ = some (.slice (some ⟨g2, 0, none⟩) n n) := fun G => (World.cell?_of_block (a := ⟨b2, 3, none⟩) ((HS.out _).1 G.h).1).trans (blk_cell hbS6 (j := 3) rfl)
                      have f2 : ∀ G : In S, G.w.cell? ⟨b, 3, none⟩ = some (.slice (some ⟨g, 0, none⟩) n n) := fun G => (World.cell?_of_block (a := ⟨b, 3, none⟩) ((HS.out _).1 G.h).2.1).trans (blk_cell hbS46 (j := 3) rfl)
                      have f4 : ∀ G : In S, G.w.cell? ⟨g, j, none⟩ = some (.bool false) := fun G => ((HS.out _).1 G.h).2.2
                      simp only [pickIn, List.getElem?_toArray, List.getElem?_cons_succ, List.getElem?_cons_zero]
                      repeat (go_big_quiet_step (fail))
                      refine wpQuiet_nil ?_
                      clear f1 f2 f4
                      refine tail_all ?_
                      go_wp2
                      go_roundg (k - (j + 1))
                      case measure => omega
                      case rel =>
                        obtain ⟨a1, a2, a3⟩ := HN.out
                        exact ⟨j + 1, by omega, rfl, by go_num, a1.drew, a2, a3⟩
                  · obtain rfl : j = k := by omega
                    have hin := hbr6.congr (f' := fun x => goodU l r j x && past l j x) (fun x hx => by
                      by_cases h1 : x < j
                      · simp [h1]
                      · rw [goodU_ge l r j x (by omega)]; simp)
                    have hS6 := HSS.out.fresh hu6
                    have hT : SetOk w6 ⟨n, some ⟨bL, oL, none⟩, c, some ⟨bp, op, none⟩, c', some ⟨g2, 0, none⟩, n⟩ ⟨l, r, fun x => goodU l r j x && past l j x⟩ := ⟨hS6.ents, hS6.cL, hS6.past, hin.rds (by unfold maxLen; omega), ⟨hS6.ok.cl, hS6.ok.r, hS6.ok.kr⟩⟩
                    have hM : ∀ w', Unch none_ w6 w' → Calls Tryz.prog 33 #[setV ⟨n, some ⟨bL, oL, none⟩, c, some ⟨bp, op, none⟩, c', some ⟨g2, 0, none⟩, n⟩ ⟨l, r, fun x => goodU l r j x && past l j x⟩, .string (ent l j).author] w' fun e w'' => e = .returned (.bool ((Ms.mk l r (fun x => goodU l r j x && past l j x)).member (ent l j).author)) ∧ Unch none_ w' w'' := fun w' hu => rMember_ok (hT.fresh hu) _
                    obtain ⟨mm, hmm⟩ : ∃ mm, (Ms.mk l r (fun x => goodU l r j x && past l j x)).member (ent l j).author = mm := ⟨_, rfl⟩
                    rw [hmm] at hM
                    have HMM := Lib.hid hmm
                    have HM := Lib.hid hM
                    unfold setV setC at HM
                    clear hM hT hin hmm
                    have xa6 := hu6.cell xa4 (fun h => h)
                    have hb2s := lt_of_heap hbS6
                    have hbs := lt_of_heap hbS46
                    have p4' := hp4.fresh hu6
                    have hbk6 := hbr46.at (j := j) hkn
                    have hfk6 := hbr46.free j
                    go_wp2_with fail
                    refine wp_planC (fun W => W.heap[b2]? = w6.heap[b2]? ∧ W.heap[b]? = w6.heap[b]? ∧ W.cell? ⟨bL, oL + j * 5 + 2, none⟩ = some (.string (ent l j).author)) [0, 1, 2, 3, 4, 5, 6, 7, 8] [9, 10, 11] 1 (by kernel_rfl) (by kernel_rfl) rfl rfl (fun c a d v w h => by cases d <;> exact h) (⟨rfl, rfl, xa6⟩) ?_
                    intro S HS _
                    have f0 : ∀ G : In S, G.w.cell? ⟨b2, 0, none⟩ = some (.slice (some ⟨bL, oL, none⟩) n c) := fun G => (World.cell?_of_block (a := ⟨b2, 0, none⟩) ((HS.out _).1 G.h).1).trans (blk_cell hbS6 (j := 0) rfl)
                    have f1 : ∀ G : In S, G.w.cell? ⟨b2, 1, none⟩ = some (.slice (some ⟨bp, op, none⟩) n c') := fun G => (World.cell?_of_block (a := ⟨b2, 1, none⟩) ((HS.out _).1 G.h).1).trans (blk_cell hbS6 (j := 1) rfl)
                    have f2 : ∀ G : In S, G.w.cell? ⟨b2, 2, none⟩ = some (.int .i64 (r : Int)) := fun G => (World.cell?_of_block (a := ⟨b2, 2, none⟩) ((HS.out _).1 G.h).1).trans (blk_cell hbS6 (j := 2) rfl)
                    have f3 : ∀ G : In S, G.w.cell? ⟨b2, 3, none⟩ = some (.slice (some ⟨g2, 0, none⟩) n n) := fun G => (World.cell?_of_block (a := ⟨b2, 3, none⟩) ((HS.out _).1 G.h).1).trans (blk_cell hbS6 (j := 3) rfl)
                    have f4 : ∀ G : In S, G.w.cell? ⟨b, 3, none⟩ = some (.slice (some ⟨g, 0, none⟩) n n) := fun G => (World.cell?_of_block (a := ⟨b, 3, none⟩) ((HS.out _).1 G.h).2.1).trans (blk_cell hbS46 (j := 3) rfl)
                    have f5 : ∀ G : In S, G.w.cell? ⟨bL, oL + j * 5 + 2, none⟩ = some (.string (ent l j).author) := fun G => ((HS.out _).1 G.h).2.2
                    simp only [pickIn, List.getElem?_toArray, List.getElem?_cons_succ, List.getElem?_cons_zero]
                    repeat (go_big_quiet_step (fail))
                    refine wpQuiet_nil ?_
                    clear f0 f1 f2 f3 f4 f5
                    refine tail_step ?_
                    go_wp2_with fail
                    refine (HM.out w6.drew (Unch.refl none_ w6).drew).mono ?_
                    rintro e w7 ⟨rfl, hu7⟩
                    have hu67 : Unch none_ w6 w7 := ⟨hu7.os, hu7.tape, hu7.output, hu7.size, hu7.block⟩
                    go_wp2_with fail
                    refine tail_midS ((HS.out _).2 ⟨hu67.block _ hb2s (fun h => h), hu67.block _ hbs (fun h => h), hu67.cell xa6 (fun h => h)⟩) (tail_all ?_)
                    have hbr7 := hbr46.unch hu67 (fun h => h)
                    have hbk7 := hbr7.at (j := j) hkn
                    have hfk7 := hbr7.free j
                    have hset := (hbr7.set j mm).congr (f' := goodU l r (j + 1)) (fun x _ => by
                      rw [goodU_succ]
                      by_cases hx : x = j
                      · rw [if_pos hx, if_pos hx, decide_eq_false HKR2.out, Bool.false_or, decide_eq_false HK1.out, HPK.out, HMM.out]; simp
                      · rw [if_neg hx, if_neg hx])
                    have huW : Unch (fun i => i = g) w7 (w7.setCell ⟨g, j, none⟩ (.bool mm)) := (Unch.refl _ _).setCell _ (fun _ => rfl)
                    have hN : OfL w1 (w7.setCell ⟨g, j, none⟩ (.bool mm)) b g (some ⟨bL, oL, none⟩) c (some ⟨bp, op, none⟩) c' n l r (j + 1) :=
                      ⟨(((hu4.trans hu6).trans hu67)).step huW (fun i hi e => by omega), huW.heap (hu67.heap hbS46 (fun h => h)) hbg, hset, (p4'.fresh hu67).other hbr7 (by decide) (fun _ _ h => h) huW⟩
                    have HN := Lib.hid hN
                    clear hN hset huW hbk6 hfk6 p4'
                    go_wp2
                    go_roundg (n - (j + 1))
                    case measure => omega
                    case rel => exact ⟨j + 1, by omega, rfl, by go_num, HN.out⟩
      · obtain rfl : k = n := by omega
        have b43 := hu.heap b4 (fun h => h)
        have BZ := Lib.hid b43
        unfold zeroSet at b43
        have t0 := blk_cell b43 (j := 0) rfl
        have t1 := blk_cell b43 (j := 1) rfl
        have t2 := blk_cell b43 (j := 2) rfl
        have t3 := blk_cell b43 (j := 3) rfl
        have q0 := blk_free b43 0
        have q1 := blk_free b43 1
        have q2 := blk_free b43 2
        have q3 := blk_free b43 3
        have hg41 := lt_of_heap b4
        have hbg4 : b ≠ g4 := by omega
        have hgg4 : g ≠ g4 := by omega
        have HB := Lib.hid hbr
        have HP' := Lib.hid hp
        clear b43 hbr hp
        go_wp2
        have huW : Unch (fun j => j = g4) w3 ((((w3.setCell ⟨g4, 0, none⟩ (.slice A k c)).setCell ⟨g4, 1, none⟩ (.slice A' k c')).setCell ⟨g4, 2, none⟩ (.int .i64 (r : Int))).setCell ⟨g4, 3, none⟩ (.slice (some ⟨g, 0, none⟩) k k)) :=
          ((((Unch.refl (fun j => j = g4) w3).setCell _ (fun _ => rfl)).setCell _ (fun _ => rfl)).setCell _ (fun _ => rfl)).setCell _ (fun _ => rfl)
        have hbW : ((((w3.setCell ⟨g4, 0, none⟩ (.slice A k c)).setCell ⟨g4, 1, none⟩ (.slice A' k c')).setCell ⟨g4, 2, none⟩ (.int .i64 (r : Int))).setCell ⟨g4, 3, none⟩ (.slice (some ⟨g, 0, none⟩) k k)).heap[g4]? = some (.cells #[.slice A k c, .slice A' k c', .int .i64 (r : Int), .slice (some ⟨g, 0, none⟩) k k] 46 (0, 0)) :=
          blk_set (blk_set (blk_set (blk_set BZ.out 0 _) 1 _) 2 _) 3 _
        have huw := (hu0.trans hu).step huW (fun i hi e => by omega)
        refine bodyPost_ret (results_c1 rfl _ _ g4 _ _ _ _ rfl hbW Tryz.underlying46 rfl (by kernel_rfl)) rfl ⟨⟨⟨k, A, c, A', c', some ⟨g, 0, none⟩, k⟩, rfl, rfl, rfl, h.fresh huw, hc, (HP'.out.other BZ.out (by decide) (fun e => absurd e (by decide)) huW).ok h.len (by unfold maxLen; omega), ?_, hC, ?_, hkr⟩, huw⟩
        · have := (HB.out.unch huW hgg4).rds (by unfold maxLen; omega)
          show RdS _ 1 BoolR _ k ((List.range k).map (goodL l r))
          unfold goodL
          rw [h.len]
          exact this
        · show r < l.length
          rw [h.len]; exact hrn
end Go.Proofs.YtgalnnmeamldhaaGreat
/- palaverref12: Has, Same; palaverlaw15: few, key, same. -/
set_option linter.unusedVariables false
set_option linter.unusedSimpArgs false
namespace Go.Proofs.YtgalnnmeamldhaaGreat
open Go Go.RowKit Go.Proofs.YtgalnnmeamldhaaGreat.Pal

/-! ### Has -/
def hasB (xs : List ByteArray) (s : ByteArray) : Bool := xs.any fun t => decide (t = s)
theorem hasB_t {xs : List ByteArray} {s : ByteArray} {k : Nat} (h : xs[k]? = some s) : hasB xs s = true := List.any_eq_true.2 ⟨s, List.mem_of_getElem? h, decide_eq_true rfl⟩
theorem hasB_f {xs : List ByteArray} {s : ByteArray} {n : Nat} (hl : xs.length = n) (h : ∀ (j : Nat) (e' : ByteArray), j < n → xs[j]? = some e' → e' ≠ s) : hasB xs s = false := by
  refine List.any_eq_false.2 fun t hm => ?_
  intro ht
  obtain rfl := of_decide_eq_true ht
  obtain ⟨j, hj⟩ := List.getElem?_of_mem hm
  exact h j t (by rw [← hl]; exact (List.getElem?_eq_some_iff.1 hj).1) hj rfl
theorem has_ok {w : World} {A : Option Addr} {n c : Nat} {xs : List ByteArray} (h : RdS w 1 StrR A n xs) (s : ByteArray) :
    Calls Tryz.prog 31 #[.slice A n c, .string s] w fun e w' => e = .returned (.bool (hasB xs s)) ∧ w = w' := by
  have hn := h.max
  unfold maxLen at hn
  go_enter Tryz.func31, Tryz.ntmps31
  go_wp2
  go_loopg [5] n (fun gk i wr => ∃ k : Nat, k ≤ n ∧ gk = n - k ∧ i = .int .i64 (k : Int) ∧ w = wr ∧ ∀ (j : Nat) (e' : ByteArray), j < k → xs[j]? = some e' → e' ≠ s)
  case atStart => exact ⟨0, Nat.zero_le _, rfl, rfl, rfl, fun j e' hj => by omega⟩
  case round =>
    obtain ⟨k, hk, rfl, rfl, rfl, hall⟩ := hrel
    have HALL := Lib.hid hall
    clear hall
    by_cases hkn : k < n
    · obtain ⟨e, he⟩ := get_some h.len hkn
      obtain ⟨b, o, rfl, hb, x0⟩ := RdS.str h he
      have z0 : (0 : Int) ≤ (k : Int) := by omega
      have z1 : (k : Int) < (n : Int) := by omega
      have HE := Lib.hid he
      clear he
      by_cases hid : e = s
      · subst hid
        have HF := Lib.hid (hasB_t HE.out)
        go_wp2
        go_ret
        rw [HF.out]
        exact ⟨rfl, rfl⟩
      · have hid2 := str_ne hid
        have hid3 := Lib.hid hid
        clear hid
        go_wp2
        go_roundg (n - (k + 1))
        case measure => omega
        case rel =>
          refine ⟨k + 1, by omega, rfl, by go_num, rfl, fun j e' hj he' => ?_⟩
          rcases Nat.lt_or_ge j k with h1 | h1
          · exact HALL.out j e' h1 he'
          · obtain rfl : j = k := by omega
            rw [HE.out] at he'
            obtain rfl := Option.some.inj he'
            exact hid3.out
    · obtain rfl : k = n := by omega
      have HF := Lib.hid (hasB_f h.len HALL.out)
      go_wp2
      go_ret
      rw [HF.out]
      exact ⟨rfl, rfl⟩

/-! ### Same -/
theorem same_t {α : Type} [DecidableEq α] {xs ys : List α} {n : Nat} (hx : xs.length = n) (hy : ys.length = n) (h : ∀ j, j < n → xs[j]? = ys[j]?) : decide (xs = ys) = true := by
  refine decide_eq_true (List.ext_getElem? fun i => ?_)
  by_cases hi : i < n
  · exact h i hi
  · rw [List.getElem?_eq_none (by omega), List.getElem?_eq_none (by omega)]
theorem same_f {α : Type} [DecidableEq α] {xs ys : List α} {k : Nat} {x y : α} (hx : xs[k]? = some x) (hy : ys[k]? = some y) (hne : x ≠ y) : decide (xs = ys) = false := by
  refine decide_eq_false fun h => hne ?_
  rw [h, hy] at hx
  exact (Option.some.inj hx).symm
theorem same_len {α : Type} [DecidableEq α] {xs ys : List α} (h : xs.length ≠ ys.length) : decide (xs = ys) = false := decide_eq_false fun e => h (by rw [e])
theorem refsame_ok {w : World} {A B : Option Addr} {n m c d : Nat} {xs ys : List ByteArray} (h : RdS w 1 StrR A n xs) (k : RdS w 1 StrR B m ys) :
    Calls Tryz.prog 21 #[.slice A n c, .slice B m d] w fun e w' => e = .returned (.bool (decide (xs = ys))) ∧ Unch none_ w w' := by
  have hn := h.max
  have hm := k.max
  unfold maxLen at hn hm
  by_cases hnm : n = m
  · subst hnm
    go_enter Tryz.func21, Tryz.ntmps21
    go_wp2
    go_loopg [5] n (fun gk i wr => ∃ k : Nat, k ≤ n ∧ gk = n - k ∧ i = .int .i64 (k : Int) ∧ Unch none_ w wr ∧ ∀ j : Nat, j < k → xs[j]? = ys[j]?)
    case atStart => exact ⟨0, Nat.zero_le _, rfl, rfl, Unch.refl _ _, fun j hj => by omega⟩
    case round =>
      obtain ⟨q, hq, rfl, rfl, hu, hall⟩ := hrel
      obtain ⟨w2, rfl⟩ : ∃ w2, w2 = wr := ⟨_, rfl⟩
      have HALL := Lib.hid hall
      clear hall
      by_cases hqn : q < n
      · obtain ⟨x, hx⟩ := get_some h.len hqn
        obtain ⟨y, hy⟩ := get_some k.len hqn
        obtain ⟨b, o, rfl, hb, x0⟩ := RdS.str (RdS.fresh h hu) hx
        obtain ⟨b', o', rfl, hb', y0⟩ := RdS.str (RdS.fresh k hu) hy
        have x0 := cellU x0
        have y0 := cellU y0
        have z0 : (0 : Int) ≤ (q : Int) := by omega
        have z1 : (q : Int) < (n : Int) := by omega
        have HX := Lib.hid hx
        have HY := Lib.hid hy
        clear hx hy
        by_cases hxy : x = y
        · subst hxy
          go_wp2
          refine wp_region_quiet_u (by kernel_rfl) (by kernel_rfl) (fun _ => ?_)
          repeat (go_big_quiet_step (fail))
          refine wpQuiet_nil ?_
          intro wq hw'
          obtain ⟨⟨wqq, huq⟩, hw''⟩ := hw'
          subst hw''
          go_wp2
          go_roundg (n - (q + 1))
          case measure => omega
          case rel =>
            refine ⟨q + 1, by omega, rfl, by go_num, hu.trans huq, fun j hj => ?_⟩
            rcases Nat.lt_or_ge j q with h1 | h1
            · exact HALL.out j h1
            · obtain rfl : j = q := by omega
              rw [HX.out, HY.out]
        · have hne := str_bne hxy
          have hne3 := str_ne hxy
          have HF := Lib.hid (same_f HX.out HY.out hxy)
          clear hxy
          go_wp2
          refine wp_region_quiet_u (by kernel_rfl) (by kernel_rfl) (fun _ => ?_)
          repeat (go_big_quiet_step (fail))
          refine wpQuiet_nil ?_
          intro wq hw'
          obtain ⟨⟨wqq, huq⟩, hw''⟩ := hw'
          subst hw''
          go_wp2
          go_ret
          rw [HF.out]
          exact ⟨rfl, hu.trans huq⟩
      · obtain rfl : q = n := by omega
        have HF := Lib.hid (same_t h.len k.len HALL.out)
        go_wp2
        go_ret
        rw [HF.out]
        exact ⟨rfl, hu⟩
  · have HF := Lib.hid (same_len (xs := xs) (ys := ys) (by rw [h.len, k.len]; exact hnm))
    have hne : ((n : Int) != (m : Int)) = true := int_bne (by omega)
    have hne2 : (n != m) = true := by simpa using hnm
    go_enter Tryz.func21, Tryz.ntmps21
    go_wp2
    go_ret
    rw [HF.out]
    exact ⟨rfl, Unch.refl _ _⟩
def keyN (x : Int) : Int := wrap64 (65 + wrap64 ((IntKind.u64.wrap x).tmod 5)) % 256
def keyB (x : Int) : ByteArray := ⟨#[UInt8.ofNat (keyN x).toNat]⟩
theorem keyN_toNat (x : Int) : (((UInt8.ofNat (keyN x).toNat).toNat : Nat) : Int) = keyN x := by
  have h1 : 0 ≤ keyN x := Int.emod_nonneg _ (by decide)
  have h2 : keyN x < 256 := Int.emod_lt_of_pos _ (by decide)
  generalize keyN x = y at h1 h2
  rw [UInt8.toNat_ofNat']
  omega
set_option maxRecDepth 100000 in
theorem key_ok {w : World} (x : Int) :
    Calls Tryz.prog 19 #[.int .i64 x] w fun e w' => e = .returned (.string (keyB x)) ∧ Unch none_ w w' := by
  have hrun := run_convert_bytes_back (P := Tryz.prog) (w.alloc (Obj.cells #[Value.int IntKind.u8 (keyN x)] 5)) 51 9 5 ⟨w.heap.size, 0, none⟩ 1 [UInt8.ofNat (keyN x).toNat] Tryz.underlying51 Tryz.underlying5 Tryz.underlying9 (by
    intro j hj
    obtain rfl : j = 0 := by simpa using hj
    rw [List.getElem_cons_zero, keyN_toNat]
    exact blk_cell (blk_new w _) rfl)
  go_enter Tryz.func19, Tryz.ntmps19
  go_wp2_with fail
  rw [show wrap64 (65 + wrap64 ((IntKind.u64.wrap x).tmod 5)) % 256 = keyN x from rfl]
  erw [hrun]
  go_wp2
  go_ret
  exact ⟨rfl, (Unch.refl _ _).alloc _⟩
end Go.Proofs.YtgalnnmeamldhaaGreat
/- palaverref12: Sorted. -/
set_option linter.unusedVariables false
set_option linter.unusedSimpArgs false
namespace Go.Proofs.YtgalnnmeamldhaaGreat
open Go Go.RowKit Go.Proofs.YtgalnnmeamldhaaGreat.Pal

/-! ### The plain law -/
def posS (s : ByteArray) (ys : List ByteArray) : Nat := (ys.takeWhile fun y => bl y s).length
def insS (s : ByteArray) (ys : List ByteArray) : List ByteArray := ys.take (posS s ys) ++ s :: ys.drop (posS s ys)
def addS (ys : List ByteArray) (s : ByteArray) : List ByteArray := if hasB ys s then ys else insS s ys
def sortS (xs : List ByteArray) : List ByteArray := xs.foldl addS []
theorem posS_le (s : ByteArray) (ys : List ByteArray) : posS s ys ≤ ys.length := by
  unfold posS
  exact (List.takeWhile_sublist _).length_le
theorem posS_lt {s : ByteArray} {ys : List ByteArray} {k : Nat} {y : ByteArray} (hk : k < posS s ys) (hy : ys[k]? = some y) : bl y s = true := by
  unfold posS at hk
  have h1 : (ys.takeWhile fun y => bl y s)[k]? = some y := by
    have h2 : ys = (ys.takeWhile fun y => bl y s) ++ (ys.dropWhile fun y => bl y s) := (List.takeWhile_append_dropWhile ..).symm
    rw [h2, List.getElem?_append_left hk] at hy
    exact hy
  have := List.all_takeWhile (p := fun y => bl y s) (l := ys)
  exact List.all_eq_true.1 this y (List.mem_of_getElem? h1)
theorem posS_at {s : ByteArray} {ys : List ByteArray} {y : ByteArray} (hy : ys[posS s ys]? = some y) : bl y s = false := by
  have h2 : ys = (ys.takeWhile fun y => bl y s) ++ (ys.dropWhile fun y => bl y s) := (List.takeWhile_append_dropWhile ..).symm
  have h3 : (ys.dropWhile fun y => bl y s)[0]? = some y := by
    have h4 := hy
    rw [h2] at h4
    have hp : posS s ((ys.takeWhile fun y => bl y s) ++ (ys.dropWhile fun y => bl y s)) = (ys.takeWhile fun y => bl y s).length := by rw [← h2]; rfl
    rw [hp, List.getElem?_append_right (Nat.le_refl _), Nat.sub_self] at h4
    exact h4
  have h5 := List.head?_dropWhile_not (fun y => bl y s) ys
  rw [List.head?_eq_getElem?, h3] at h5
  simpa using h5
theorem insS_len (s : ByteArray) (ys : List ByteArray) : (insS s ys).length = ys.length + 1 := by
  have := posS_le s ys
  unfold insS
  simp
  omega
theorem insS_mem {s x : ByteArray} {ys : List ByteArray} : x ∈ insS s ys ↔ x = s ∨ x ∈ ys := by
  unfold insS
  rw [List.mem_append, List.mem_cons]
  constructor
  · rintro (h | h | h)
    · exact .inr (List.mem_of_mem_take h)
    · exact .inl h
    · exact .inr (List.mem_of_mem_drop h)
  · rintro (h | h)
    · exact .inr (.inl h)
    · rw [← List.take_append_drop (posS s ys) ys, List.mem_append] at h
      rcases h with h | h
      · exact .inl h
      · exact .inr (.inr h)
theorem hasB_iff {xs : List ByteArray} {s : ByteArray} : hasB xs s = true ↔ s ∈ xs := by
  unfold hasB
  rw [List.any_eq_true]
  constructor
  · rintro ⟨t, ht, he⟩
    obtain rfl := of_decide_eq_true he
    exact ht
  · intro h
    exact ⟨s, h, decide_eq_true rfl⟩
theorem addS_mem {s x : ByteArray} {ys : List ByteArray} : x ∈ addS ys s ↔ x = s ∨ x ∈ ys := by
  unfold addS
  split
  · rename_i h
    rw [hasB_iff] at h
    constructor
    · exact .inr
    · rintro (rfl | h')
      · exact h
      · exact h'
  · exact insS_mem
theorem addS_len (ys : List ByteArray) (s : ByteArray) : (addS ys s).length ≤ ys.length + 1 := by
  unfold addS
  split
  · omega
  · rw [insS_len]; omega
theorem foldS_mem {x : ByteArray} : ∀ (xs ys : List ByteArray), x ∈ xs.foldl addS ys ↔ x ∈ xs ∨ x ∈ ys := by
  intro xs
  induction xs with
  | nil => intro ys; simp
  | cons a xs ih =>
    intro ys
    rw [List.foldl_cons, ih, addS_mem, List.mem_cons]
    constructor
    · rintro (h | h | h)
      · exact .inl (.inr h)
      · exact .inl (.inl h)
      · exact .inr h
    · rintro ((h | h) | h)
      · exact .inr (.inl h)
      · exact .inl h
      · exact .inr (.inr h)
theorem sortS_mem {x : ByteArray} {xs : List ByteArray} : x ∈ sortS xs ↔ x ∈ xs := by
  unfold sortS
  rw [foldS_mem]
  simp
theorem sortS_take {xs : List ByteArray} {k : Nat} {s : ByteArray} (h : xs[k]? = some s) : sortS (xs.take (k + 1)) = addS (sortS (xs.take k)) s := by
  have hk := (List.getElem?_eq_some_iff.1 h).1
  unfold sortS
  rw [List.take_succ_eq_append_getElem hk, (List.getElem?_eq_some_iff.1 h).2, List.foldl_append]
  rfl
theorem foldS_len : ∀ (xs ys : List ByteArray), (xs.foldl addS ys).length ≤ ys.length + xs.length := by
  intro xs
  induction xs with
  | nil => intro ys; simp
  | cons a xs ih =>
    intro ys
    rw [List.foldl_cons]
    have h1 := ih (addS ys a)
    have h2 := addS_len ys a
    rw [List.length_cons]
    omega
theorem sortS_len (xs : List ByteArray) : (sortS xs).length ≤ xs.length := by
  have := foldS_len xs []
  simpa [sortS] using this
/-- Sorted, each once. -/
theorem addS_sorted {s : ByteArray} {ys : List ByteArray} (h : ys.Pairwise fun a b => bl a b = true) : (addS ys s).Pairwise fun a b => bl a b = true := by
  unfold addS
  split
  · exact h
  · rename_i hn
    have hn' : s ∉ ys := fun hm => hn (hasB_iff.2 hm)
    unfold insS
    rw [List.pairwise_append]
    refine ⟨h.sublist (List.take_sublist _ _), ?_, ?_⟩
    · rw [List.pairwise_cons]
      refine ⟨fun y hy => ?_, h.sublist (List.drop_sublist _ _)⟩
      obtain ⟨i, hi⟩ := List.getElem?_of_mem hy
      rw [List.getElem?_drop] at hi
      have hlt : posS s ys < ys.length := by have := (List.getElem?_eq_some_iff.1 hi).1; omega
      have h0 := posS_at (s := s) (ys := ys) (List.getElem?_eq_getElem hlt)
      have hne : ys[posS s ys] ≠ s := fun e => hn' (e ▸ List.getElem_mem hlt)
      have h1 : bl s ys[posS s ys] = true := by
        cases hc : bl s ys[posS s ys] with
        | true => rfl
        | false => exact (hne (bl_total h0 hc)).elim
      cases i with
      | zero =>
        rw [Nat.add_zero, List.getElem?_eq_getElem hlt] at hi
        obtain rfl := Option.some.inj hi
        exact h1
      | succ i =>
        have h3 := (List.getElem?_eq_some_iff.1 hi).1
        have h4 := List.pairwise_iff_getElem.1 h (posS s ys) (posS s ys + (i + 1)) hlt h3 (by omega)
        rw [(List.getElem?_eq_some_iff.1 hi).2] at h4
        exact bl_trans h1 h4
    · intro a ha b hb
      obtain ⟨i, hi⟩ := List.getElem?_of_mem ha
      rw [List.getElem?_take] at hi
      split at hi
      · rename_i hip
        have h1 := posS_lt hip hi
        rcases List.mem_cons.1 hb with rfl | hb
        · exact h1
        · obtain ⟨j, hj⟩ := List.getElem?_of_mem hb
          rw [List.getElem?_drop] at hj
          have h3 := (List.getElem?_eq_some_iff.1 hi)
          have h4 := (List.getElem?_eq_some_iff.1 hj)
          have h5 := List.pairwise_iff_getElem.1 h i (posS s ys + j) h3.1 h4.1 (by omega)
          rw [h3.2, h4.2] at h5
          exact h5
      · cases hi
theorem sortS_sorted (xs : List ByteArray) : (sortS xs).Pairwise fun a b => bl a b = true := by
  unfold sortS
  have : ∀ (xs ys : List ByteArray), (ys.Pairwise fun a b => bl a b = true) → (xs.foldl addS ys).Pairwise fun a b => bl a b = true := by
    intro xs
    induction xs with
    | nil => exact fun ys h => h
    | cons a xs ih => exact fun ys h => ih _ (addS_sorted h)
  exact this xs [] List.Pairwise.nil
/-- A place made free: ys with x put in at j. -/
def gapS (ys : List ByteArray) (j : Nat) (x : ByteArray) : List ByteArray := ys.take j ++ x :: ys.drop j
theorem gapS_end (ys : List ByteArray) (x : ByteArray) : gapS ys ys.length x = ys ++ [x] := by simp [gapS]
theorem gapS_step {ys : List ByteArray} {j : Nat} {x y : ByteArray} (hj : ys[j]? = some y) : (gapS ys (j + 1) x).set (j + 1) y = gapS ys j y := by
  have hlt := (List.getElem?_eq_some_iff.1 hj).1
  have hy := (List.getElem?_eq_some_iff.1 hj).2
  unfold gapS
  rw [List.set_append_right _ _ (by simp; omega)]
  have : j + 1 - (ys.take (j + 1)).length = 0 := by simp; omega
  rw [this, List.set_cons_zero, List.take_succ_eq_append_getElem hlt, hy, List.drop_eq_getElem_cons hlt, hy]
  simp
theorem gapS_get {ys : List ByteArray} {j : Nat} {x y : ByteArray} (hj : ys[j]? = some y) : (gapS ys (j + 1) x)[j]? = some y := by
  have hlt := (List.getElem?_eq_some_iff.1 hj).1
  unfold gapS
  rw [List.getElem?_append_left (by simp; omega), List.getElem?_take_of_lt (by omega), hj]
theorem gapS_put {ys : List ByteArray} {j : Nat} {x s : ByteArray} (hj : j ≤ ys.length) : (gapS ys j x).set j s = gapS ys j s := by
  unfold gapS
  rw [List.set_append_right _ _ (by simp; omega)]
  have : j - (ys.take j).length = 0 := by simp; omega
  rw [this, List.set_cons_zero]
theorem gapS_len {ys : List ByteArray} {j : Nat} {x : ByteArray} (hj : j ≤ ys.length) : (gapS ys j x).length = ys.length + 1 := by
  unfold gapS; simp; omega
end Go.Proofs.YtgalnnmeamldhaaGreat
/- palaverref12: Sorted: the walk. -/
set_option linter.unusedVariables false
set_option linter.unusedSimpArgs false
namespace Go.Proofs.YtgalnnmeamldhaaGreat
open Go Go.RowKit Go.Proofs.YtgalnnmeamldhaaGreat.Pal

def sv (xs : List ByteArray) : List Value := xs.map Value.string
theorem sv_len (xs : List ByteArray) : (sv xs).length = xs.length := by simp [sv]
theorem sv_get {xs : List ByteArray} {k : Nat} {x : ByteArray} (h : xs[k]? = some x) : (sv xs)[k]? = some (.string x) := by simp [sv, h]
theorem sv_set (xs : List ByteArray) (k : Nat) (x : ByteArray) : (sv xs).set k (.string x) = sv (xs.set k x) := by simp [sv, List.map_set]
theorem sv_app (xs ys : List ByteArray) : sv (xs ++ ys) = sv xs ++ sv ys := by simp [sv]
theorem info_str : (Tryz.prog.info? 9).map (fun i => (i.zero, i.size, i.bytes)) = some (some (.string ⟨#[]⟩), 1, 16) := by kernel_rfl
theorem srow_rds {w : World} {A : Option Addr} {n c : Nat} {ys : List ByteArray} (h : Row w 9 1 (.slice A n c) n (sv ys)) : RdS w 1 StrR A n ys := by
  have hl : ys.length = n := by have := h.1; rw [sv_len] at this; omega
  refine ⟨hl, h.max, fun hn => ?_⟩
  obtain ⟨g, o, cap, cur, hv, hh, _⟩ := h.form hn
  injection hv with h1 h2 h3
  refine ⟨g, o, h1, lt_of_heap hh, fun i x hx => ⟨[.string x], rfl, rfl, fun j u hj => ?_⟩⟩
  have : j = 0 := by have := (List.getElem?_eq_some_iff.1 hj).1; simp at this; omega
  subst this
  have hu : u = .string x := by simpa using hj.symm
  rw [hu, Nat.mul_one, Nat.add_zero]
  exact h.at (by rw [h1]) (sv_get hx)
theorem gapS_own {ys : List ByteArray} {j : Nat} {x : ByteArray} (hj : j ≤ ys.length) : (gapS ys j x)[j]? = some x := by
  unfold gapS
  rw [List.getElem?_append_right (by simp; omega)]
  have : j - (ys.take j).length = 0 := by simp; omega
  rw [this]
  rfl
/-- The sorted part, as it grows. -/
structure SMid (w wr : World) (v : Value) (m : Nat) (ys : List ByteArray) : Prop where
  hu : Unch none_ w wr
  own : ∀ b, v.ownBlock = some b → w.heap.size ≤ b
  row : Row wr 9 1 v m (sv ys)
theorem SMid.len {w wr : World} {v : Value} {m : Nat} {ys : List ByteArray} (h : SMid w wr v m ys) : ys.length = m := by have := h.row.1; rw [sv_len] at this; omega
theorem SMid.fresh {w wr w2 : World} {v : Value} {m : Nat} {ys : List ByteArray} (h : SMid w wr v m ys) (hu : Unch none_ wr w2) : SMid w w2 v m ys := ⟨h.hu.trans hu, h.own, h.row.unch hu (fun _ _ h => h)⟩
theorem SMid.app {w wr w2 : World} {v v2 : Value} {m : Nat} {ys : List ByteArray} {x : ByteArray} (h : SMid w wr v m ys) (hr : Row w2 9 1 v2 (m + 1) (sv ys ++ [.string x])) (hu : Unch (fun k => v.ownBlock = some k) wr w2)
    (hat : v2.ownBlock = v.ownBlock ∨ ∃ b, v2.ownBlock = some b ∧ wr.heap.size ≤ b) : SMid w w2 v2 (m + 1) (gapS ys m x) := by
  refine ⟨h.hu.step hu (fun k hk hb => absurd (h.own k hb) (by omega)), fun b hb => ?_, ?_⟩
  · rcases hat with h1 | ⟨b', h1, h2⟩
    · exact h.own b (h1 ▸ hb)
    · rw [h1] at hb; injection hb with hb; subst hb; exact Nat.le_trans h.hu.size h2
  · have : gapS ys m x = ys ++ [x] := by rw [← h.len]; exact gapS_end ys x
    rw [this, sv_app]
    exact hr
theorem SMid.store {w wr : World} {g o c m j : Nat} {ys : List ByteArray} (h : SMid w wr (.slice (some ⟨g, o, none⟩) m c) m ys) (hj : j < m) (y : ByteArray) : SMid w (wr.setCell ⟨g, o + j, none⟩ (.string y)) (.slice (some ⟨g, o, none⟩) m c) m (ys.set j y) := by
  have hg := h.own g rfl
  refine ⟨h.hu.setCell _ (fun hk => absurd hg (by simp at hk; omega)), h.own, ?_⟩
  have := h.row.store rfl j hj (.string y)
  rw [sv_set] at this
  exact this
theorem SMid.at {w wr : World} {g o c m j : Nat} {ys : List ByteArray} {y : ByteArray} (h : SMid w wr (.slice (some ⟨g, o, none⟩) m c) m ys) (hj : ys[j]? = some y) : wr.cell? ⟨g, o + j, none⟩ = some (.string y) := h.row.at rfl (sv_get hj)
theorem SMid.free {w wr : World} {g o c m : Nat} {ys : List ByteArray} (h : SMid w wr (.slice (some ⟨g, o, none⟩) m c) m ys) (j : Nat) : wr.frozen? ⟨g, j, none⟩ = false := h.row.free rfl j
set_option maxRecDepth 100000 in
set_option maxHeartbeats 2000000 in
theorem sorted_ok {w : World} {A : Option Addr} {n c : Nat} {xs : List ByteArray} (h : RdS w 1 StrR A n xs) (hn : n ≤ 1048576) :
    Calls Tryz.prog 20 #[.slice A n c] w fun e w' => ∃ v, e = .returned v ∧ SMid w w' v (sortS xs).length (sortS xs) := by
  go_enter Tryz.func20, Tryz.ntmps20
  go_wp2
  go_loopg [3, 4] n (fun gk v i wr => ∃ k : Nat, k ≤ n ∧ gk = n - k ∧ i = .int .i64 (k : Int) ∧ SMid w wr v (sortS (xs.take k)).length (sortS (xs.take k)))
  case atStart => exact ⟨0, Nat.zero_le _, rfl, rfl, ⟨Unch.refl _ _, fun b hb => (by cases hb), Row.nil _ _ _⟩⟩
  case round =>
    obtain ⟨k, hk, rfl, rfl, hs⟩ := hrel
    obtain ⟨w2, rfl⟩ : ∃ w2, w2 = wr := ⟨_, rfl⟩
    obtain ⟨ys, hys⟩ : ∃ ys, sortS (xs.take k) = ys := ⟨_, rfl⟩
    obtain ⟨m, hm⟩ : ∃ m, ys.length = m := ⟨_, rfl⟩
    have hmk : m ≤ k := by
      rw [← hm, ← hys]
      exact Nat.le_trans (sortS_len _) (List.length_take_le _ _)
    rw [hys, hm] at hs
    obtain ⟨B, cB, rfl, hcB⟩ := hs.row.slice
    by_cases hkn : k < n
    · obtain ⟨s, hsx⟩ := get_some h.len hkn
      have hst := sortS_take hsx
      rw [hys] at hst
      obtain ⟨bl', ol, rfl, hbl, xw⟩ := RdS.str h hsx
      have x0 := hs.hu.cell xw (fun h => h)
      have z0 : (0 : Int) ≤ (k : Int) := by omega
      have z1 : (k : Int) < (n : Int) := by omega
      have hrd := srow_rds hs.row
      cases hhas : hasB ys s with
      | true =>
        have hfo := has_ok (c := cB) hrd s
        rw [hhas] at hfo
        have hst2 : sortS (xs.take (k + 1)) = ys := by rw [hst]; unfold addS; rw [if_pos hhas]
        have HFO := Lib.hid hfo
        have HST := Lib.hid hst2
        clear hfo hhas hst hst2 hys hsx
        go_wp2_with fail
        refine HFO.out.mono ?_
        rintro e w' ⟨rfl, rfl⟩
        go_wp2
        go_roundg (n - (k + 1))
        case measure => omega
        case rel => exact ⟨k + 1, by omega, rfl, by go_num, by rw [HST.out, hm]; exact hs⟩
      | false =>
        have hfo := has_ok (c := cB) hrd s
        rw [hhas] at hfo
        have hst2 : sortS (xs.take (k + 1)) = gapS ys (posS s ys) s := by rw [hst]; unfold addS; rw [if_neg (by rw [hhas]; exact Bool.false_ne_true)]; rfl
        have HFO := Lib.hid hfo
        have HST := Lib.hid hst2
        clear hfo hhas hst hst2 hys hsx
        go_wp2_with fail
        refine HFO.out.mono ?_
        rintro e w' ⟨rfl, rfl⟩
        obtain ⟨p, hp⟩ : ∃ p, posS s ys = p := ⟨_, rfl⟩
        have hpm : p ≤ m := by rw [← hp, ← hm]; exact posS_le _ _
        rw [hp] at HST
        go_wp2
        go_loopg [5] p (fun gk i wr => ∃ q : Nat, q ≤ p ∧ gk = p - q ∧ i = .int .i64 (q : Int) ∧ Unch none_ w2 wr)
        case atStart => exact ⟨0, Nat.zero_le _, rfl, rfl, Unch.refl _ _⟩
        case round =>
          obtain ⟨q, hq, rfl, rfl, hu⟩ := hrel
          obtain ⟨w3, rfl⟩ : ∃ w3, w3 = wr := ⟨_, rfl⟩
          have hs3 := hs.fresh hu
          have x3 := cellU (hu.cell x0 (fun h => h))
          have z2 : (0 : Int) ≤ (q : Int) := by omega
          by_cases hqp : q < p
          · obtain ⟨y, hy⟩ := get_some hm (show q < m by omega)
            obtain ⟨by', oy, rfl, _, y0⟩ := RdS.str (srow_rds hs3.row) hy
            have y0 := cellU y0
            have hb : Op.bytesLess y.toList s.toList = true := posS_lt (by rw [hp]; exact hqp) hy
            have z3 : (q : Int) < (m : Int) := by omega
            clear hy
            go_wp2
            refine wp_region_quiet_u (by kernel_rfl) (by kernel_rfl) (fun _ => ?_)
            repeat (go_big_quiet_step (fail))
            refine wpQuiet_nil ?_
            intro wq hw'
            obtain ⟨⟨wqq, huq⟩, hw''⟩ := hw'
            subst hw''
            go_wp2
            go_roundg (p - (q + 1))
            case measure => omega
            case rel => exact ⟨q + 1, by omega, rfl, by go_num, hu.trans huq⟩
          · obtain rfl : q = p := by omega
            have hx3 := hu.cell x0 (fun h => h)
            clear hq hqp x3
            rcases Nat.lt_or_ge q m with hqm | hqm
            · obtain ⟨y, hy⟩ := get_some hm (show q < m by omega)
              obtain ⟨by', oy, rfl, _, y0⟩ := RdS.str (srow_rds hs3.row) hy
              have y0 := cellU y0
              have x3 := cellU hx3
              have hb : Op.bytesLess y.toList s.toList = false := posS_at (by rw [hp]; exact hy)
              have z3 : (q : Int) < (m : Int) := by omega
              clear hy
              go_wp2
              refine wp_region_quiet_u (by kernel_rfl) (by kernel_rfl) (fun _ => ?_)
              repeat (go_big_quiet_step (fail))
              refine wpQuiet_nil ?_
              intro wq hw'
              obtain ⟨⟨wqq, huq⟩, hw''⟩ := hw'
              subst hw''
              have hs4 := hs3.fresh huq
              clear x0 hx3 hs hs3 hrd HFO
              go_wp2_with (at_builtin; refine wpList_append1 wq rfl (.tmp 36) (.tmp 37) 27 9 _ 1 16 rfl Tryz.underlying27 info_str rfl (by omega) _ m (sv ys) (by rfl) hs4.row [.string ⟨#[]⟩] rfl (by intro u hu; simp at hu; subst hu; rfl) (by rfl) (by simp only [maxLen]; omega) (by omega) ?_; intro v5 w5 hr5 hu5 hat5; obtain ⟨g, o, cap, _, rfl, _⟩ := hr5.form (by omega); have hs5 := hs4.app hr5 hu5 hat5; clear hr5 hat5 hu5 hs4)
              go_loopg [6] (m - q) (fun gk i wr => ∃ (j : Nat) (x : ByteArray), q ≤ j ∧ j ≤ m ∧ gk = j - q ∧ i = .int .i64 (j : Int) ∧ SMid w wr (.slice (some ⟨g, o, none⟩) (m + 1) cap) (m + 1) (gapS ys j x))
              case atStart => exact ⟨m, ⟨#[]⟩, by omega, Nat.le_refl _, rfl, by go_num, hs5⟩
              case round =>
                obtain ⟨J, x, hqj, hjm, rfl, rfl, hs6⟩ := hrel
                obtain ⟨w6, rfl⟩ : ∃ w6, w6 = wr := ⟨_, rfl⟩
                have cJ := hs6.at (gapS_own (ys := ys) (j := J) (x := x) (by omega))
                have fJ := hs6.free (o + J)
                have z4 : (0 : Int) ≤ (J : Int) := by omega
                have z5 : (J : Int) < ((m + 1 : Nat) : Int) := by omega
                by_cases hj : q < J
                · obtain ⟨j, hJ⟩ : ∃ j', J = j' + 1 := ⟨J - 1, by omega⟩
                  obtain ⟨y, hy⟩ := get_some hm (show j < m by omega)
                  have cj := hs6.at (by rw [hJ]; exact gapS_get (x := x) hy)
                  have hs7 := hs6.store (j := J) (by omega) y
                  rw [hJ, gapS_step hy, ← hJ] at hs7
                  have z6 : (J : Int) - 1 = (j : Int) := by omega
                  have z7 : (0 : Int) ≤ (j : Int) := by omega
                  have z8 : (j : Int) < ((m + 1 : Nat) : Int) := by omega
                  have z9 : (q : Int) < (J : Int) := by omega
                  have HS7 := Lib.hid hs7
                  have HJ := Lib.hid hJ
                  clear hJ hs7 hs6 hs5
                  go_wp2
                  go_roundg (j - q)
                  case measure => have := HJ.out; omega
                  case rel => exact ⟨j, y, by omega, by omega, rfl, by go_num, HS7.out⟩
                · obtain rfl : J = q := by omega
                  have hs7 := hs6.store (j := J) (by omega) s
                  rw [gapS_put (by omega)] at hs7
                  have xs6 := hs6.hu.cell xw (fun h => h)
                  have HS7 := Lib.hid hs7
                  clear hs7 hs6 hs5 hj
                  go_wp2
                  go_roundg (n - (k + 1))
                  case measure => omega
                  case rel => exact ⟨k + 1, by omega, rfl, by go_num, by rw [HST.out, gapS_len (by omega), hm]; exact HS7.out⟩
            · have z3 : decide ((q : Int) < (m : Int)) = false := decide_eq_false (by omega)
              have z3' : decide (q < m) = false := decide_eq_false (by omega)
              have x3 := cellU hx3
              go_wp2
              refine wp_region_quiet_u (by kernel_rfl) (by kernel_rfl) (fun _ => ?_)
              repeat (go_big_quiet_step (fail))
              refine wpQuiet_nil ?_
              intro wq hw'
              obtain ⟨⟨wqq, huq⟩, hw''⟩ := hw'
              subst hw''
              have hs4 := hs3.fresh huq
              clear x0 hx3 hs hs3 hrd HFO
              go_wp2_with (at_builtin; refine wpList_append1 wq rfl (.tmp 36) (.tmp 37) 27 9 _ 1 16 rfl Tryz.underlying27 info_str rfl (by omega) _ m (sv ys) (by rfl) hs4.row [.string ⟨#[]⟩] rfl (by intro u hu; simp at hu; subst hu; rfl) (by rfl) (by simp only [maxLen]; omega) (by omega) ?_; intro v5 w5 hr5 hu5 hat5; obtain ⟨g, o, cap, _, rfl, _⟩ := hr5.form (by omega); have hs5 := hs4.app hr5 hu5 hat5; clear hr5 hat5 hu5 hs4)
              go_loopg [6] (m - q) (fun gk i wr => ∃ (j : Nat) (x : ByteArray), q ≤ j ∧ j ≤ m ∧ gk = j - q ∧ i = .int .i64 (j : Int) ∧ SMid w wr (.slice (some ⟨g, o, none⟩) (m + 1) cap) (m + 1) (gapS ys j x))
              case atStart => exact ⟨m, ⟨#[]⟩, by omega, Nat.le_refl _, rfl, by go_num, hs5⟩
              case round =>
                obtain ⟨J, x, hqj, hjm, rfl, rfl, hs6⟩ := hrel
                obtain ⟨w6, rfl⟩ : ∃ w6, w6 = wr := ⟨_, rfl⟩
                have cJ := hs6.at (gapS_own (ys := ys) (j := J) (x := x) (by omega))
                have fJ := hs6.free (o + J)
                have z4 : (0 : Int) ≤ (J : Int) := by omega
                have z5 : (J : Int) < ((m + 1 : Nat) : Int) := by omega
                by_cases hj : q < J
                · exact absurd hj (by omega)
                · obtain rfl : J = q := by omega
                  have hs7 := hs6.store (j := J) (by omega) s
                  rw [gapS_put (by omega)] at hs7
                  have xs6 := hs6.hu.cell xw (fun h => h)
                  have HS7 := Lib.hid hs7
                  clear hs7 hs6 hs5 hj
                  go_wp2
                  go_roundg (n - (k + 1))
                  case measure => omega
                  case rel => exact ⟨k + 1, by omega, rfl, by go_num, by rw [HST.out, gapS_len (by omega), hm]; exact HS7.out⟩
    · obtain rfl : k = n := by omega
      have hf : xs.take k = xs := List.take_of_length_le (by rw [h.len]; exact Nat.le_refl _)
      rw [hf] at hys
      have HYS := Lib.hid hys
      clear hys hf
      go_wp2
      go_ret
      exact ⟨_, rfl, by rw [HYS.out, hm]; exact hs⟩
end Go.Proofs.YtgalnnmeamldhaaGreat
/- palaverlaw15.Laid: the plain part: one more entry leaves a list closed. -/
set_option linter.unusedVariables false
set_option linter.unusedSimpArgs false
namespace Go.Proofs.YtgalnnmeamldhaaGreat
open Go Go.RowKit Go.Proofs.YtgalnnmeamldhaaGreat.Pal

theorem ent_app_lt {l : List Ent} {e : Ent} {i : Nat} (hi : i < l.length) : ent (l ++ [e]) i = ent l i := by
  have h1 := ent_get hi
  have h2 : (l ++ [e])[i]? = some (ent l i) := by rw [List.getElem?_append_left hi]; exact h1
  exact ent_of h2
theorem ent_app_at {l : List Ent} {e : Ent} : ent (l ++ [e]) l.length = e := ent_of (by simp)
theorem Closed.add {l : List Ent} {e : Ent} (h : Closed l) (hl : l.length < 300) (h1 : 1 ≤ e.id.size) (h2 : e.id.size ≤ 64) (hid : ∀ i, i < l.length → (ent l i).id ≠ e.id)
    (hps : ∀ s ∈ e.ps, ∃ p, p < l.length ∧ (ent l p).id = s) : Closed (l ++ [e]) := by
  have hlen : (l ++ [e]).length = l.length + 1 := by simp
  refine ⟨by omega, fun i hi => ?_, fun i hi => ?_, fun i j hi hj he => ?_, fun i s hi hs => ?_⟩
  · rcases Nat.lt_or_ge i l.length with h3 | h3
    · rw [ent_app_lt h3]; exact h.lo i h3
    · obtain rfl : i = l.length := by omega
      rw [ent_app_at]; exact h1
  · rcases Nat.lt_or_ge i l.length with h3 | h3
    · rw [ent_app_lt h3]; exact h.hi i h3
    · obtain rfl : i = l.length := by omega
      rw [ent_app_at]; exact h2
  · rcases Nat.lt_or_ge i l.length with h3 | h3 <;> rcases Nat.lt_or_ge j l.length with h4 | h4
    · rw [ent_app_lt h3, ent_app_lt h4] at he
      exact h.ids i j h3 h4 he
    · obtain rfl : j = l.length := by omega
      rw [ent_app_lt h3, ent_app_at] at he
      exact absurd he (hid i h3)
    · obtain rfl : i = l.length := by omega
      rw [ent_app_lt h4, ent_app_at] at he
      exact absurd he.symm (hid j h4)
    · omega
  · rcases Nat.lt_or_ge i l.length with h3 | h3
    · rw [ent_app_lt h3] at hs
      obtain ⟨p, hp, h5⟩ := h.pars i s h3 hs
      exact ⟨p, hp, by rw [ent_app_lt (by omega)]; exact h5⟩
    · obtain rfl : i = l.length := by omega
      rw [ent_app_at] at hs
      obtain ⟨p, hp, h5⟩ := hps s hs
      exact ⟨p, hp, by rw [ent_app_lt hp]; exact h5⟩
/-- The id of the entry behind k others (k from 1 on): a letter, and the place's two digits. -/
def idB (a : UInt8) (k : Nat) : ByteArray := ⟨#[a, UInt8.ofNat (48 + k / 10), UInt8.ofNat (48 + k % 10)]⟩
theorem idB_inj {a b : UInt8} {i j : Nat} (hi : i < 100) (hj : j < 100) (h : idB a i = idB b j) : i = j := by
  unfold idB at h
  injection h with h
  have h1 : UInt8.ofNat (48 + i / 10) = UInt8.ofNat (48 + j / 10) := by have := congrArg (fun x => x[1]?) h; simpa using this
  have h2 : UInt8.ofNat (48 + i % 10) = UInt8.ofNat (48 + j % 10) := by have := congrArg (fun x => x[2]?) h; simpa using this
  have h3 := congrArg UInt8.toNat h1
  have h4 := congrArg UInt8.toNat h2
  rw [UInt8.toNat_ofNat', UInt8.toNat_ofNat'] at h3 h4
  omega
theorem idB_size (a : UInt8) (k : Nat) : (idB a k).size = 3 := rfl
end Go.Proofs.YtgalnnmeamldhaaGreat
/- palaverlaw15.Laid: entries as they grow. -/
set_option linter.unusedVariables false
set_option linter.unusedSimpArgs false
namespace Go.Proofs.YtgalnnmeamldhaaGreat
open Go Go.RowKit Go.Proofs.YtgalnnmeamldhaaGreat.Pal

def ecells (es : List Ent) : List Value := es.flatMap Ent.cells
theorem cells_len (e : Ent) : e.cells.length = 5 := rfl
theorem ecells_get : ∀ (es : List Ent) (i j : Nat) (e : Ent) (u : Value), es[i]? = some e → e.cells[j]? = some u → (ecells es)[i * 5 + j]? = some u
  | [], i, j, e, u, h, _ => by cases i <;> cases h
  | a :: es, 0, j, e, u, h, hu => by
    obtain rfl : a = e := by simpa using h
    have hj := (List.getElem?_eq_some_iff.1 hu).1
    show (a.cells ++ ecells es)[0 * 5 + j]? = some u
    rw [List.getElem?_append_left (by omega), Nat.zero_mul, Nat.zero_add]
    exact hu
  | a :: es, i + 1, j, e, u, h, hu => by
    have h' : es[i]? = some e := by simpa using h
    have := ecells_get es i j e u h' hu
    show (a.cells ++ ecells es)[(i + 1) * 5 + j]? = some u
    rw [List.getElem?_append_right (by rw [cells_len]; omega), cells_len, show (i + 1) * 5 + j - 5 = i * 5 + j by omega]
    exact this
theorem ecells_app (es : List Ent) (e : Ent) : ecells (es ++ [e]) = ecells es ++ e.cells := by simp [ecells]
structure EntS (w : World) (e : Ent) : Prop where
  ps : Row w 9 1 e.pv e.ps.length (sv e.ps)
  sid : e.id.size ≤ maxLen
  saut : e.author.size ≤ maxLen
  sbody : e.body.size ≤ maxLen
  sps : ∀ p ∈ e.ps, p.size ≤ maxLen
theorem EntS.ok {w : World} {e : Ent} (h : EntS w e) : EntOk w e := by
  obtain ⟨A, c, hv, hc⟩ := h.ps.slice
  have hr := h.ps
  rw [hv] at hr
  exact ⟨⟨A, c, hv, hc, srow_rds hr⟩, h.sid, h.saut, h.sbody, h.sps⟩
structure LMid (w wr : World) (v : Value) (es : List Ent) : Prop where
  hu : Unch none_ w wr
  own : ∀ b, v.ownBlock = some b → w.heap.size ≤ b
  row : Row wr 35 5 v es.length (ecells es)
  ents : ∀ e ∈ es, EntS wr e
theorem LMid.rd {w wr : World} {A : Option Addr} {n c : Nat} {es : List Ent} (h : LMid w wr (.slice A n c) es) (hn : n = es.length) : Ents wr A n es := by
  subst hn
  refine ⟨⟨rfl, h.row.max, fun hn => ?_⟩, fun e he => (h.ents e he).ok⟩
  obtain ⟨g, o, cap, cur, hv, hh, _⟩ := h.row.form hn
  injection hv with h1 h2 h3
  refine ⟨g, o, h1, lt_of_heap hh, fun i x hx => ⟨x.cells, rfl, rfl, fun j u hj => ?_⟩⟩
  have := h.row.at (by rw [h1]) (ecells_get es i j x u hx hj)
  rw [← Nat.add_assoc] at this
  exact this
theorem EntS.fresh {w wr : World} {e : Ent} (h : EntS w e) (hu : Unch none_ w wr) : EntS wr e := ⟨h.ps.unch hu (fun _ _ h => h), h.sid, h.saut, h.sbody, h.sps⟩
theorem LMid.fresh {w wr w2 : World} {v : Value} {es : List Ent} (h : LMid w wr v es) (hu : Unch none_ wr w2) : LMid w w2 v es :=
  ⟨h.hu.trans hu, h.own, h.row.unch hu (fun _ _ h => h), fun e he => (h.ents e he).fresh hu⟩
/-- One more. -/
theorem LMid.app {w wr w2 : World} {v v2 : Value} {es : List Ent} {e : Ent} (h : LMid w wr v es) (hE : EntS wr e) (hr : Row w2 35 5 v2 (es.length + 1) (ecells es ++ e.cells)) (hu : Unch (fun k => v.ownBlock = some k) wr w2)
    (hat : v2.ownBlock = v.ownBlock ∨ ∃ b, v2.ownBlock = some b ∧ wr.heap.size ≤ b) : LMid w w2 v2 (es ++ [e]) := by
  refine ⟨h.hu.step hu (fun k hk hb => absurd (h.own k hb) (by omega)), fun b hb => ?_, ?_, fun x hx => ?_⟩
  · rcases hat with h1 | ⟨b', h1, h2⟩
    · exact h.own b (h1 ▸ hb)
    · rw [h1] at hb; injection hb with hb; subst hb; exact Nat.le_trans h.hu.size h2
  · rw [ecells_app]
    have : (es ++ [e]).length = es.length + 1 := by simp
    rw [this]
    exact hr
  · have hx' : EntS wr x := by
      rcases List.mem_append.1 hx with hx | hx
      · exact h.ents x hx
      · simp at hx; subst hx; exact hE
    refine ⟨hx'.ps.unch hu (fun k hk hv => ?_), hx'.sid, hx'.saut, hx'.sbody, hx'.sps⟩
    obtain ⟨c1, h1⟩ := hx'.ps.blk hk
    obtain ⟨c2, h2⟩ := h.row.blk hv
    rw [h1] at h2
    injection h2 with h2
    injection h2 with _ h2
    exact absurd h2 (by decide)
end Go.Proofs.YtgalnnmeamldhaaGreat
/- palaverlaw15: what is said, as it lies. -/
set_option linter.unusedVariables false
set_option linter.unusedSimpArgs false
namespace Go.Proofs.YtgalnnmeamldhaaGreat
open Go Go.RowKit Go.Proofs.YtgalnnmeamldhaaGreat.Pal

structure Say where
  kind : Int
  who : Int
  whom : Int
  bv : Value
  behind : List Int
  name : Int
def Say.cells (x : Say) : List Value := [.int .i64 x.kind, .int .i64 x.who, .int .i64 x.whom, x.bv, .int .u8 x.name]
def Say.val (x : Say) : Value := .agg #[.int .i64 x.kind, .int .i64 x.who, .int .i64 x.whom, x.bv, .int .u8 x.name]
def IntR (x : Int) (c : List Value) : Prop := c = [.int .i64 x] ∧ i64ok x
def SayR (x : Say) (c : List Value) : Prop := c = x.cells
structure SayOk (w : World) (x : Say) : Prop where
  bs : ∃ A c, x.bv = .slice A x.behind.length c ∧ x.behind.length ≤ c ∧ RdS w 1 IntR A x.behind.length x.behind
  kind : i64ok x.kind
  who : i64ok x.who
  whom : i64ok x.whom
  name : 0 ≤ x.name ∧ x.name ≤ 255
structure Says (w : World) (A : Option Addr) (n : Nat) (l : List Say) : Prop where
  rd : RdS w 5 SayR A n l
  ok : ∀ x ∈ l, SayOk w x
section
variable {w w1 : World} {A : Option Addr} {n : Nat} {l : List Say}
theorem SayOk.fresh {x : Say} (h : SayOk w x) (hu : Unch none_ w w1) : SayOk w1 x := by
  obtain ⟨⟨A, c, h1, h2, h3⟩, a, b, c', d⟩ := h
  exact ⟨⟨A, c, h1, h2, RdS.fresh h3 hu⟩, a, b, c', d⟩
theorem Says.fresh (h : Says w A n l) (hu : Unch none_ w w1) : Says w1 A n l := ⟨RdS.fresh h.rd hu, fun e he => (h.ok e he).fresh hu⟩
theorem Says.len (h : Says w A n l) : l.length = n := h.rd.len
theorem Says.at (h : Says w A n l) {k : Nat} {x : Say} (hx : l[k]? = some x) : ∃ b o, A = some ⟨b, o, none⟩ ∧ b < w.heap.size ∧
    w.cell? ⟨b, o + k * 5, none⟩ = some (.int .i64 x.kind) ∧ w.cell? ⟨b, o + k * 5 + 1, none⟩ = some (.int .i64 x.who) ∧ w.cell? ⟨b, o + k * 5 + 2, none⟩ = some (.int .i64 x.whom) ∧
    w.cell? ⟨b, o + k * 5 + 3, none⟩ = some x.bv ∧ w.cell? ⟨b, o + k * 5 + 4, none⟩ = some (.int .u8 x.name) := by
  obtain ⟨b, o, c, hA, hb, _, hc, hcell⟩ := h.rd.at hx
  unfold SayR at hc
  subst hc
  exact ⟨b, o, hA, hb, hcell 0 _ rfl, hcell 1 _ rfl, hcell 2 _ rfl, hcell 3 _ rfl, hcell 4 _ rfl⟩
theorem RdS.int {xs : List Int} (h : RdS w 1 IntR A n xs) {k : Nat} {s : Int} (hs : xs[k]? = some s) : i64ok s ∧ ∃ b o, A = some ⟨b, o, none⟩ ∧ b < w.heap.size ∧ w.cell? ⟨b, o + k, none⟩ = some (.int .i64 s) := by
  obtain ⟨b, o, c, hA, hb, _, ⟨hc, hok⟩, hcell⟩ := h.at hs
  subst hc
  have := hcell 0 _ rfl
  rw [Nat.mul_one, Nat.add_zero] at this
  exact ⟨hok, b, o, hA, hb, this⟩
end
end Go.Proofs.YtgalnnmeamldhaaGreat
