/-
  A post or a topic behind all heads, as a look tells it (plain); its entry.
  room.Look(append(append([]Entry{}, e...), x)), its operations in whatever order they are drawn.
-/
import Derived.Test.YtgalnnmeamldhaaGreatCLV1
import Derived.Test.YtgalnnmeamldhaaGreatCRL1
import Derived.Test.YtgalnnmeamldhaaGreatCHD1
import Derived.Test.YtgalnnmeamldhaaGreatCLR4
/- A post or a topic behind all heads, as a look tells it (plain); its entry. -/
set_option linter.unusedVariables false
set_option linter.unusedSimpArgs false
namespace Go.Proofs.YtgalnnmeamldhaaGreat
open Go Go.RowKit Go.Proofs.YtgalnnmeamldhaaGreat.Pal Go.Proofs.YtgalnnmeamldhaaGreat.Plan

theorem says_step {es : List Ent} {X : Ent} (h : Behind es X) (h0 : 0 < es.length) (hr : (ent es 0).kind = 1) (hk4 : X.kind ≠ 4) (hk5 : X.kind ≠ 5) (hg : goodL (es ++ [X]) 0 es.length = true) {nm tp : ByteArray} {L : List ByteArray} {ps : List (ByteArray × ByteArray)} (hv : IsView (es ++ [X]) 0 nm tp L ps) :
    ∃ v0 : Look, (tp, ps) = stepV (es ++ [X]) (fun _ => true) v0 es.length ∧ ∀ nm' tp' L' ps', IsView es 0 nm' tp' L' ps' → ps' = v0.2 := by
  obtain ⟨a, b, zs, o1, o2, o3, o4⟩ := hv
  have hd := order_drop h.cm (k := es.length) (Behind.len es X) o1 o2 o3
  rw [List.take_left] at hd
  obtain ⟨p1, p2, p3⟩ := hd
  have e := h.view h0 hr hk4 hk5 hg p1 p2 p3 o1 o2 o3
  rw [o4] at e
  refine ⟨_, e, fun nm' tp' L' ps' hv' => ?_⟩
  obtain ⟨_, _, ys, q1, q2, q3, q4⟩ := hv'
  have := order_uniq h.cl q1 q2 p1 p2 (by rw [q3, p3])
  rw [← this, q4]
theorem says_post {es : List Ent} {X : Ent} (h : Behind es X) (h0 : 0 < es.length) (hr : (ent es 0).kind = 1) (hk : X.kind = 2) (hg : goodL (es ++ [X]) 0 es.length = true) {nm tp : ByteArray} {L : List ByteArray} {ps : List (ByteArray × ByteArray)} (hv : IsView (es ++ [X]) 0 nm tp L ps) :
    ∃ ps0, ps = ps0 ++ [(X.author, X.body)] ∧ ∀ nm' tp' L' ps', IsView es 0 nm' tp' L' ps' → ps' = ps0 := by
  obtain ⟨v0, e, hu⟩ := says_step h h0 hr (by rw [hk]; decide) (by rw [hk]; decide) hg hv
  refine ⟨v0.2, ?_, hu⟩
  unfold stepV at e
  rw [Behind.at_, hk, if_pos rfl, if_neg (by decide), if_pos rfl] at e
  injection e
theorem says_topic {es : List Ent} {X : Ent} (h : Behind es X) (h0 : 0 < es.length) (hr : (ent es 0).kind = 1) (hk : X.kind = 3) (hg : goodL (es ++ [X]) 0 es.length = true) {nm tp : ByteArray} {L : List ByteArray} {ps : List (ByteArray × ByteArray)} (hv : IsView (es ++ [X]) 0 nm tp L ps) : tp = X.body := by
  obtain ⟨v0, e, hu⟩ := says_step h h0 hr (by rw [hk]; decide) (by rw [hk]; decide) hg hv
  unfold stepV at e
  rw [Behind.at_, hk, if_pos rfl, if_pos rfl] at e
  injection e
def zzzB : ByteArray := ⟨#[122, 122, 122]⟩
def newB : ByteArray := ⟨#[110, 101, 119]⟩
theorem idB_noZ (a : UInt8) {k : Nat} (hk : k ≤ 100) : idB a k ≠ zzzB := fun e => by
  unfold idB zzzB at e
  injection e with e
  have h1 : UInt8.ofNat (48 + k / 10) = 122 := by have := congrArg (fun x => x[1]?) e; simpa using this
  have h2 := congrArg UInt8.toNat h1
  rw [UInt8.toNat_ofNat'] at h2
  have h3 : (122 : UInt8).toNat = 122 := rfl
  rw [h3] at h2
  omega
theorem LdOk.noZ {es : List Ent} {k : Nat} (h : LdOk es k) (hk : k ≤ 40) : ∀ i, i < es.length → (ent es i).id ≠ zzzB := fun i hi => by
  by_cases h0 : i = 0
  · subst h0
    obtain ⟨b, hb⟩ := h.root
    rw [ent_of hb]
    exact fun e => absurd (congrArg ByteArray.size e) (by show ¬ (rootB.size = 3); decide)
  · obtain ⟨a, ha⟩ := h.ids i (by omega) hi
    rw [ha]
    exact idB_noZ a (by have := h.len; omega)
/-- What Heads hands over. -/
def HeadsOf (es : List Ent) (ys : List ByteArray) : Prop := ys.length ≤ es.length ∧ ∀ s, s ∈ ys ↔ ∃ i, i < es.length ∧ headB es i = true ∧ (ent es i).id = s
theorem HeadsOf.behind {es : List Ent} {k : Nat} {ys : List ByteArray} (h : HeadsOf es ys) (hl : LdOk es k) (hk : k ≤ 40) {X : Ent} (hid : X.id = zzzB) (hps : X.ps = ys) : Behind es X := by
  refine ⟨hl.cl, hl.cl.add (by have := hl.len; omega) (by rw [hid]; decide) (by rw [hid]; decide) (fun i hi => by rw [hid]; exact hl.noZ hk i hi) (fun s hs => ?_), fun i hi hh => ?_⟩
  · rw [hps] at hs
    obtain ⟨i, hi, _, e⟩ := (h.2 s).1 hs
    exact ⟨i, hi, e⟩
  · rw [hps]
    exact (h.2 _).2 ⟨i, hi, headB_iff.2 hh, rfl⟩
/-! ### The entry under way: the key's bytes (6, 45), the key (7, 46), the heads (9, 48), the value (10, 49), the box (11, 10), the store (12) -/
structure SP (w1 : World) (es : List Ent) (who : Int) (D : Nat → Bool) (y : Nat → Value) (w' : World) : Prop where
  u : Unch none_ w1 w'
  d6 : D 6 = true → ∃ g, y 45 = .slice (some ⟨g, 0, none⟩) 1 1 ∧ w'.heap[g]? = some (.cells #[.int .u8 (keyN who)] 5 (0, 0))
  d7 : D 7 = true → D 6 = true ∧ y 46 = .string (keyB who)
  d9 : D 9 = true → ∃ A c ys, y 48 = .slice A ys.length c ∧ MRow w1 w' (.slice A ys.length c) ys ∧ HeadsOf es ys
  d10 : D 10 = true → (D 7 = true ∧ D 9 = true) ∧ y 49 = .agg #[.string zzzB, .int .i64 2, .string (keyB who), y 48, .string newB]
  d11 : D 11 = true → ∃ p, y 10 = .pointer (some ⟨p, 0, none⟩) ∧ w1.heap.size ≤ p ∧ w'.heap[p]? = some zeroEnt
/-- .. and behind it. -/
def SF (w1 : World) (es : List Ent) (who : Int) (y : Nat → Value) (w' : World) : Prop :=
  Unch none_ w1 w' ∧ ∃ p A c ys, y 10 = .pointer (some ⟨p, 0, none⟩) ∧ w1.heap.size ≤ p ∧ w'.heap[p]? = some (.cells #[.string zzzB, .int .i64 2, .string (keyB who), .slice A ys.length c, .string newB] 35 (0, 0)) ∧ MRow w1 w' (.slice A ys.length c) ys ∧ HeadsOf es ys
def SJ (w1 : World) (es : List Ent) (who : Int) (D : Nat → Bool) (y : Nat → Value) (w' : World) : Prop :=
  (D 12 = false ∧ SP w1 es who D y w') ∨ ((∀ i ∈ [6, 7, 9, 10, 11, 12], D i = true) ∧ SF w1 es who y w')
section
variable {w1 : World} {es : List Ent} {who : Int} {D : Nat → Bool} {y : Nat → Value} {w' w2 : World}
theorem SP.fresh (h : SP w1 es who D y w') (hu : Unch none_ w' w2) : SP w1 es who D y w2 := by
  refine ⟨h.u.trans hu, fun hd => ?_, h.d7, fun hd => ?_, h.d10, fun hd => ?_⟩
  · obtain ⟨g, e1, e2⟩ := h.d6 hd; exact ⟨g, e1, hu.heap e2 (fun h => h)⟩
  · obtain ⟨A, c, ys, e1, e2, e3⟩ := h.d9 hd; exact ⟨A, c, ys, e1, e2.fresh hu, e3⟩
  · obtain ⟨p, e1, e2, e3⟩ := h.d11 hd; exact ⟨p, e1, e2, hu.heap e3 (fun h => h)⟩
theorem SP.put6 (h : SP w1 es who D y w') : SP w1 es who (fun j => decide (j = 6) || D j) (upd y 45 (.slice (some ⟨w'.heap.size, 0, none⟩) 1 1)) (w'.alloc (.cells #[.int .u8 (keyN who)] 5)) := by
  have hu : Unch none_ w' (w'.alloc (.cells #[.int .u8 (keyN who)] 5)) := (Unch.refl none_ w').alloc _
  have h' := h.fresh hu
  exact ⟨h'.u, fun _ => ⟨_, rfl, blk_new w' _⟩, (fun hd => by have := h.d7 (by simpa using hd); exact ⟨by simp, this.2⟩), fun hd => h'.d9 (by simpa using hd), (fun hd => by have := h.d10 (by simpa using hd); exact ⟨⟨by simpa using this.1.1, by simpa using this.1.2⟩, this.2⟩), fun hd => h'.d11 (by simpa using hd)⟩
theorem SP.put7 (h : SP w1 es who D y w') (h6 : D 6 = true) : SP w1 es who (fun j => decide (j = 7) || D j) (upd y 46 (.string (keyB who))) w' :=
  ⟨h.u, fun hd => h.d6 (by simpa using hd), fun _ => ⟨by simpa using h6, rfl⟩, fun hd => h.d9 (by simpa using hd), (fun hd => by have := h.d10 (by simpa using hd); exact ⟨⟨by simp, by simpa using this.1.2⟩, this.2⟩), fun hd => h.d11 (by simpa using hd)⟩
theorem SP.put9 (h : SP w1 es who D y w') (hi : D 9 = false) (hu : Unch none_ w' w2) {A : Option Addr} {c : Nat} {ys : List ByteArray} (hr : MRow w1 w2 (.slice A ys.length c) ys) (hh : HeadsOf es ys) : SP w1 es who (fun j => decide (j = 9) || D j) (upd y 48 (.slice A ys.length c)) w2 := by
  have h' := h.fresh hu
  exact ⟨h'.u, fun hd => h'.d6 (by simpa using hd), (fun hd => by have := h.d7 (by simpa using hd); exact ⟨by simpa using this.1, this.2⟩), fun _ => ⟨A, c, ys, rfl, hr, hh⟩, (fun hd => by have := (h.d10 (by simpa using hd)).1.2; rw [hi] at this; cases this), fun hd => h'.d11 (by simpa using hd)⟩
theorem SP.put10 (h : SP w1 es who D y w') (h7 : D 7 = true) (h9 : D 9 = true) {v : Value} (hv : v = .agg #[.string zzzB, .int .i64 2, .string (keyB who), y 48, .string newB]) : SP w1 es who (fun j => decide (j = 10) || D j) (upd y 49 v) w' :=
  ⟨h.u, fun hd => h.d6 (by simpa using hd), (fun hd => by have := h.d7 (by simpa using hd); exact ⟨by simpa using this.1, this.2⟩), fun hd => h.d9 (by simpa using hd), fun _ => ⟨⟨by simpa using h7, by simpa using h9⟩, hv⟩, fun hd => h.d11 (by simpa using hd)⟩
theorem SP.put11 (h : SP w1 es who D y w') : SP w1 es who (fun j => decide (j = 11) || D j) (upd y 10 (.pointer (some ⟨w'.heap.size, 0, none⟩))) (w'.alloc zeroEnt) := by
  have hu : Unch none_ w' (w'.alloc zeroEnt) := (Unch.refl none_ w').alloc _
  have h' := h.fresh hu
  exact ⟨h'.u, fun hd => h'.d6 (by simpa using hd), (fun hd => by have := h.d7 (by simpa using hd); exact ⟨by simpa using this.1, this.2⟩), fun hd => h'.d9 (by simpa using hd), (fun hd => by have := h.d10 (by simpa using hd); exact ⟨⟨by simpa using this.1.1, by simpa using this.1.2⟩, this.2⟩), fun _ => ⟨_, rfl, h.u.size, blk_new w' zeroEnt⟩⟩
end
end Go.Proofs.YtgalnnmeamldhaaGreat
/- room.Look(append(append([]Entry{}, e...), x)), its operations in whatever order they are drawn. -/
set_option linter.unusedVariables false
set_option linter.unusedSimpArgs false
namespace Go.Proofs.YtgalnnmeamldhaaGreat
open Go Go.RowKit Go.Proofs.YtgalnnmeamldhaaGreat.Pal Go.Proofs.YtgalnnmeamldhaaGreat.Plan

structure SK (w1 : World) (n : Nat) (es : List Ent) (xc : List Value) (m : List Ent) (D : Nat → Bool) (y : Nat → Value) (w' : World) : Prop where
  ap : AP w1 35 5 n (ecells es) xc 0 2 4 5 57 59 61 62 D y w'
  d6 : D 6 = true → ViewOf m w' (y 63)
  d7 : D 7 = true → ∃ g, y 11 = .pointer (some ⟨g, 0, none⟩) ∧ w1.heap.size ≤ g ∧ w'.heap[g]? = some zeroView
  e6 : D 6 = true → D 5 = true
  e5 : D 5 = true → D 4 = true
  e2 : D 2 = true → D 0 = true
/-- .. and the view in its box. -/
def SKF (w1 : World) (m : List Ent) (y : Nat → Value) (w' : World) : Prop :=
  Unch none_ w1 w' ∧ ∃ g nm tp L ps A c P d, y 11 = .pointer (some ⟨g, 0, none⟩) ∧ IsView m 0 nm tp L ps ∧ w'.heap[g]? = some (.cells #[.string nm, .string tp, .slice A L.length c, .slice P ps.length d] 30 (0, 0)) ∧ Row w' 53 2 (.slice P ps.length d) ps.length (pcells ps)
def SKI (w1 : World) (n : Nat) (es : List Ent) (xc : List Value) (m : List Ent) (D : Nat → Bool) (y : Nat → Value) (w' : World) : Prop :=
  (D 8 = false ∧ SK w1 n es xc m D y w') ∨ ((∀ i ∈ [0, 2, 4, 5, 6, 7, 8], D i = true) ∧ SKF w1 m y w')
section
variable {w1 : World} {n : Nat} {es : List Ent} {xc : List Value} {m : List Ent} {D : Nat → Bool} {y : Nat → Value} {w' w2 : World}
theorem apn14 : APn 0 2 4 5 57 59 61 62 := ⟨by decide, by decide⟩
theorem SK.start (hw : Unch none_ w1 w') : SK w1 n es xc m (fun _ => false) y w' := ⟨AP.start hw, (fun h => by cases h), (fun h => by cases h), (fun h => by cases h), (fun h => by cases h), (fun h => by cases h)⟩
theorem SK.of (h : SK w1 n es xc m D y w') {i s : Nat} {v : Value} (hi : i ≠ 6 ∧ i ≠ 7) (hs : s ≠ 63 ∧ s ≠ 11) (hi5 : i = 5 → D 4 = true) (hi2 : i = 2 → D 0 = true) (hD : D 6 = true → Unch none_ w' w2) (hz : ∀ g : Nat, w'.heap[g]? = some zeroView → w2.heap[g]? = some zeroView)
    (ha : AP w1 35 5 n (ecells es) xc 0 2 4 5 57 59 61 62 (fun j => decide (j = i) || D j) (upd y s v) w2) : SK w1 n es xc m (fun j => decide (j = i) || D j) (upd y s v) w2 := by
  refine ⟨ha, fun hd => ?_, fun hd => ?_, fun hd => ?_, fun hd => ?_, fun hd => ?_⟩
  · rw [orD_ne hi.1.symm] at hd; rw [upd_ne hs.1.symm]; exact (h.d6 hd).fresh (hD hd)
  · rw [orD_ne hi.2.symm] at hd; rw [upd_ne hs.2.symm]
    obtain ⟨g, e1, e2, e3⟩ := h.d7 hd
    exact ⟨g, e1, e2, hz g e3⟩
  · rw [orD_ne hi.1.symm] at hd
    show (_ || D 5) = true
    rw [h.e6 hd, Bool.or_true]
  · show (_ || D 4) = true
    by_cases h5 : 5 = i
    · rw [hi5 h5.symm, Bool.or_true]
    · rw [orD_ne h5] at hd; rw [h.e5 hd, Bool.or_true]
  · show (_ || D 0) = true
    by_cases h2 : 2 = i
    · rw [hi2 h2.symm, Bool.or_true]
    · rw [orD_ne h2] at hd; rw [h.e2 hd, Bool.or_true]
theorem SK.call (h : SK w1 n es xc m D y w') (h5 : D 5 = true) (hu : Unch none_ w' w2) {v : Value} (hv : ViewOf m w2 v) : SK w1 n es xc m (fun j => decide (j = 6) || D j) (upd y 63 v) w2 := by
  refine ⟨h.ap.other hu (by decide) (by decide), (fun hd => by rw [upd_at]; exact hv), fun hd => ?_, (fun _ => by show (_ || D 5) = true; rw [h5, Bool.or_true]), (fun hd => by show (_ || D 4) = true; rw [orD_ne (by decide)] at hd; rw [h.e5 hd, Bool.or_true]), (fun hd => by show (_ || D 0) = true; rw [orD_ne (by decide)] at hd; rw [h.e2 hd, Bool.or_true])⟩
  rw [orD_ne (by decide)] at hd; rw [upd_ne (by decide)]
  obtain ⟨g, e1, e2, e3⟩ := h.d7 hd
  exact ⟨g, e1, e2, hu.heap e3 (fun h => h)⟩
theorem SK.box (h : SK w1 n es xc m D y w') : SK w1 n es xc m (fun j => decide (j = 7) || D j) (upd y 11 (.pointer (some ⟨w'.heap.size, 0, none⟩))) (w'.alloc zeroView) := by
  have hu : Unch none_ w' (w'.alloc zeroView) := (Unch.refl none_ w').alloc _
  refine ⟨h.ap.other hu (by decide) (by decide), fun hd => ?_, fun hd => ⟨_, upd_at, h.ap.u.size, blk_new w' zeroView⟩, fun hd => ?_, (fun hd => by show (_ || D 4) = true; rw [orD_ne (by decide)] at hd; rw [h.e5 hd, Bool.or_true]), (fun hd => by show (_ || D 0) = true; rw [orD_ne (by decide)] at hd; rw [h.e2 hd, Bool.or_true])⟩
  · rw [orD_ne (by decide)] at hd; rw [upd_ne (by decide)]; exact (h.d6 hd).fresh hu
  · rw [orD_ne (by decide)] at hd
    show (_ || D 5) = true
    rw [h.e6 hd, Bool.or_true]
/-- A view's box isn't a row of entries. -/
theorem zv_ne {v : Value} {k : Nat} {cs : List Value} (hr : Row w' 35 5 v k cs) (hu : Unch (fun j => v.ownBlock = some j) w' w2) : ∀ g : Nat, w'.heap[g]? = some zeroView → w2.heap[g]? = some zeroView := fun g hg => hu.heap hg fun e => by
  obtain ⟨cur, hc⟩ := hr.blk e
  rw [hc] at hg
  unfold zeroView at hg
  injection hg with hg
  injection hg with _ hg
  exact absurd hg (by decide)
end
theorem root_app {es : List Ent} {X : Ent} (h : Behind es X) (hr : rootN rootB es = some 0) : rootN rootB (es ++ [X]) = some 0 := by
  obtain ⟨h0, hid, hkd⟩ := rootN_some hr
  have e := h.sub.same 0 h0
  have hf := h.cm.find (i := 0) (by rw [Behind.len]; omega)
  rw [← e, hid] at hf
  unfold rootN
  rw [hf]
  simp [← e, hkd]
/-- A row of strings isn't an entry's box. -/
theorem mrow_set {w1 w' : World} {v : Value} {ys : List ByteArray} (h : MRow w1 w' v ys) {p : Nat} {cs : Array Value} (hp : w'.heap[p]? = some (.cells cs 35 (0, 0))) {j : Nat} (u : Value) : MRow w1 (w'.setCell ⟨p, j, none⟩ u) v ys :=
  ⟨h.row.unch (X := fun k => k = p) ((Unch.refl _ _).setCell _ (fun _ => rfl)) fun k hk e => by
    obtain ⟨cur, hc⟩ := h.row.blk hk
    subst e
    rw [hc] at hp
    injection hp with hp
    injection hp with _ hp
    exact absurd hp (by decide), h.own⟩
theorem conv1 (w : World) (g : Nat) (who : Int) (h : w.heap[g]? = some (.cells #[.int .u8 (keyN who)] 5 (0, 0))) : (convert 51 9 (.slice (some ⟨g, 0, none⟩) 1 1)).run Tryz.prog w = .ok (.string (keyB who)) w := by
  refine run_convert_bytes_back (P := Tryz.prog) w 51 9 5 ⟨g, 0, none⟩ 1 [UInt8.ofNat (keyN who).toNat] Tryz.underlying51 Tryz.underlying5 Tryz.underlying9 (fun j hj => ?_)
  obtain rfl : j = 0 := by simpa using hj
  rw [List.getElem_cons_zero, keyN_toNat]
  exact blk_cell h rfl
theorem field_posts (v0 v1 v2 v3 : Value) (W : World) : (Instr.field 30 (.agg #[v0, v1, v2, v3]) 3).run Tryz.prog W = .ok v3 W := by
  simp [Instr.field, run_underlying Tryz.underlying30, asAgg, part, Tryz.isAgg28, go_sem]
end Go.Proofs.YtgalnnmeamldhaaGreat
