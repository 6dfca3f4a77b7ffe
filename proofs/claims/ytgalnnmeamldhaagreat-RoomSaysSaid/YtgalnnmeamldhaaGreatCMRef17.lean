/-
  palaverlaw15.Laid: the walk.
-/
import Derived.Test.YtgalnnmeamldhaaGreatCMRef10
import Derived.Deep.CutBlock
/- palaverlaw15.Laid: the walk. -/
set_option linter.unusedVariables false
set_option linter.unusedSimpArgs false
namespace Go.Proofs.YtgalnnmeamldhaaGreat
open Go Go.RowKit Go.Proofs.YtgalnnmeamldhaaGreat.Pal Go.Proofs.YtgalnnmeamldhaaGreat.Plan

def rootB : ByteArray := ⟨#[114, 111, 111, 116]⟩
/-- What Laid's first k entries are. -/
structure LdOk (es : List Ent) (k : Nat) : Prop where
  len : es.length = k + 1
  cl : Closed es
  root : ∃ b, es[0]? = some ⟨rootB, 1, keyB 0, .slice none 0 0, [], b⟩
  ids : ∀ i, 1 ≤ i → i < es.length → ∃ a, (ent es i).id = idB a (i - 1)
  psl : ∀ e ∈ es, e.ps.length ≤ 8
def rootE : Ent := ⟨rootB, 1, keyB 0, .slice none 0 0, [], ⟨#[114]⟩⟩
theorem laid_start {w w1 : World} (hu : Unch none_ w w1) : LMid w (w1.alloc (Obj.cells #[.string ⟨#[114, 111, 111, 116]⟩, .int .i64 1, .string (keyB 0), .slice none 0 0, .string ⟨#[114]⟩] 35)) (.slice (some ⟨w1.heap.size, 0, none⟩) 1 1) [rootE] ∧ LdOk [rootE] 0 := by
  refine ⟨⟨hu.alloc _, fun b hb => ?_, ⟨rfl, .inr ⟨w1.heap.size, 0, 1, _, rfl, blk_new w1 _, Nat.le_refl _, by decide, by decide, rfl⟩⟩, fun e he => ?_⟩, rfl, ⟨by decide, fun i hi => ?_, fun i hi => ?_, fun i j hi hj _ => ?_, fun i s hi hs => ?_⟩, ⟨_, rfl⟩, fun i h1 h2 => ?_, fun e he => ?_⟩
  · have : w1.heap.size = b := by simpa [Value.ownBlock] using hb
    exact this ▸ hu.size
  · simp at he
    subst he
    exact ⟨Row.nil _ _ _, by decide, by decide, by decide, by intro p hp; cases hp⟩
  · obtain rfl : i = 0 := by simpa using hi
    decide
  · obtain rfl : i = 0 := by simpa using hi
    decide
  · simp at hi hj; omega
  · obtain rfl : i = 0 := by simpa using hi
    cases hs
  · simp at h2; omega
  · simp at he
    subst he
    decide
/-! ### The entry under way -/
def zeroEnt : Obj := .cells #[.string ⟨#[]⟩, .int .i64 0, .string ⟨#[]⟩, .slice none 0 0, .string ⟨#[]⟩] 35
def postA (id ky : ByteArray) : Array Value := #[.string id, .int .i64 2, .string ky, .slice none 0 0, .string ⟨#[116]⟩]
structure L6Pre (w4 : World) (a b c : UInt8) (ky : ByteArray) (D : Nat → Bool) (x : Nat → Value) (w' : World) : Prop where
  u : Unch none_ w4 w'
  d12 : D 12 = true → ∃ g, x 37 = .slice (some ⟨g, 0, none⟩) 3 3 ∧ w'.heap[g]? = some (.cells #[.int .u8 (a.toNat : Int), .int .u8 (b.toNat : Int), .int .u8 (c.toNat : Int)] 5 (0, 0))
  d13 : D 13 = true → D 12 = true ∧ x 38 = .string ⟨#[a, b, c]⟩
  d16 : D 16 = true → x 41 = .string ky
  d17 : D 17 = true → D 13 = true ∧ D 16 = true ∧ x 42 = .agg (postA ⟨#[a, b, c]⟩ ky)
  d18 : D 18 = true → ∃ p, x 6 = .pointer (some ⟨p, 0, none⟩) ∧ w4.heap.size ≤ p ∧ w'.heap[p]? = some zeroEnt
def L6Fin (w4 : World) (a b c : UInt8) (ky : ByteArray) (x : Nat → Value) (w' : World) : Prop :=
  Unch none_ w4 w' ∧ ∃ p, x 6 = .pointer (some ⟨p, 0, none⟩) ∧ w4.heap.size ≤ p ∧ w'.heap[p]? = some (.cells (postA ⟨#[a, b, c]⟩ ky) 35 (0, 0))
def L6I (w4 : World) (a b c : UInt8) (ky : ByteArray) (D : Nat → Bool) (x : Nat → Value) (w' : World) : Prop :=
  (D 19 = false ∧ L6Pre w4 a b c ky D x w') ∨ ((∀ i ∈ [12, 13, 16, 17, 18, 19], D i = true) ∧ L6Fin w4 a b c ky x w')
section
variable {w4 : World} {a b c : UInt8} {ky : ByteArray} {D : Nat → Bool} {x : Nat → Value} {w' w2 : World}
theorem L6Pre.fresh (h : L6Pre w4 a b c ky D x w') (hu : Unch none_ w' w2) : L6Pre w4 a b c ky D x w2 := by
  refine ⟨h.u.trans hu, fun hd => ?_, h.d13, h.d16, h.d17, fun hd => ?_⟩
  · obtain ⟨g, e1, e2⟩ := h.d12 hd; exact ⟨g, e1, hu.heap e2 (fun h => h)⟩
  · obtain ⟨p, e1, e2, e3⟩ := h.d18 hd; exact ⟨p, e1, e2, hu.heap e3 (fun h => h)⟩
theorem L6Pre.s12 (h : L6Pre w4 a b c ky D x w') (hi : D 12 = false) : L6Pre w4 a b c ky (fun j => decide (j = 12) || D j) (upd x 37 (.slice (some ⟨w'.heap.size, 0, none⟩) 3 3)) (w'.alloc (.cells #[.int .u8 (a.toNat : Int), .int .u8 (b.toNat : Int), .int .u8 (c.toNat : Int)] 5)) := by
  have hu : Unch none_ w' (w'.alloc (.cells #[.int .u8 (a.toNat : Int), .int .u8 (b.toNat : Int), .int .u8 (c.toNat : Int)] 5)) := (Unch.refl none_ w').alloc _
  have h' := h.fresh hu
  exact ⟨h'.u, fun _ => ⟨_, rfl, blk_new w' _⟩, (fun hd => by have := (h.d13 (by simpa using hd)).1; rw [hi] at this; cases this), fun hd => h.d16 (by simpa using hd), (fun hd => by have := (h.d13 (h.d17 (by simpa using hd)).1).1; rw [hi] at this; cases this), fun hd => h'.d18 (by simpa using hd)⟩
theorem L6Pre.s13 (h : L6Pre w4 a b c ky D x w') (hi : D 13 = false) (h12 : D 12 = true) : L6Pre w4 a b c ky (fun j => decide (j = 13) || D j) (upd x 38 (.string ⟨#[a, b, c]⟩)) w' :=
  ⟨h.u, fun hd => h.d12 (by simpa using hd), fun _ => ⟨by simpa using h12, rfl⟩, fun hd => h.d16 (by simpa using hd), (fun hd => by have := (h.d17 (by simpa using hd)).1; rw [hi] at this; cases this), fun hd => h.d18 (by simpa using hd)⟩
theorem L6Pre.s16 (h : L6Pre w4 a b c ky D x w') (hi : D 16 = false) : L6Pre w4 a b c ky (fun j => decide (j = 16) || D j) (upd x 41 (.string ky)) w' :=
  ⟨h.u, fun hd => h.d12 (by simpa using hd), (fun hd => by have := h.d13 (by simpa using hd); exact ⟨by simpa using this.1, this.2⟩), fun _ => rfl, (fun hd => by have := (h.d17 (by simpa using hd)).2.1; rw [hi] at this; cases this), fun hd => h.d18 (by simpa using hd)⟩
theorem L6Pre.s17 (h : L6Pre w4 a b c ky D x w') (h13 : D 13 = true) (h16 : D 16 = true) : L6Pre w4 a b c ky (fun j => decide (j = 17) || D j) (upd x 42 (.agg (postA ⟨#[a, b, c]⟩ ky))) w' :=
  ⟨h.u, fun hd => h.d12 (by simpa using hd), (fun hd => by have := h.d13 (by simpa using hd); exact ⟨by simpa using this.1, this.2⟩), fun hd => h.d16 (by simpa using hd), fun _ => ⟨by simpa using h13, by simpa using h16, rfl⟩, fun hd => h.d18 (by simpa using hd)⟩
theorem L6Pre.s18 (h : L6Pre w4 a b c ky D x w') : L6Pre w4 a b c ky (fun j => decide (j = 18) || D j) (upd x 6 (.pointer (some ⟨w'.heap.size, 0, none⟩))) (w'.alloc zeroEnt) := by
  have hu : Unch none_ w' (w'.alloc zeroEnt) := (Unch.refl none_ w').alloc _
  have h' := h.fresh hu
  exact ⟨h'.u, fun hd => h'.d12 (by simpa using hd), (fun hd => by have := h.d13 (by simpa using hd); exact ⟨by simpa using this.1, this.2⟩), fun hd => h.d16 (by simpa using hd), (fun hd => by have := h.d17 (by simpa using hd); exact ⟨by simpa using this.1, by simpa using this.2.1, this.2.2⟩), fun _ => ⟨_, rfl, h.u.size, blk_new w' zeroEnt⟩⟩
end
/-- The entry under way, behind the switch. -/
def LUw (w4 wx : World) (p : Nat) (id ky : ByteArray) : Prop :=
  Unch none_ w4 wx ∧ ∃ (kd : Int) (bd : ByteArray), bd.size ≤ maxLen ∧ wx.heap[p]? = some (.cells #[.string id, .int .i64 kd, .string ky, .slice none 0 0, .string bd] 35 (0, 0))
/-- .. and with its parents. -/
def LUf (w4 wx : World) (p : Nat) (id ky : ByteArray) (es : List Ent) : Prop :=
  Unch none_ w4 wx ∧ ∃ e : Ent, e.id = id ∧ e.author = ky ∧ e.body.size ≤ maxLen ∧ e.ps.length ≤ 8 ∧ (∀ s ∈ e.ps, ∃ i, i < es.length ∧ (ent es i).id = s) ∧ wx.heap[p]? = some (.cells e.cells.toArray 35 (0, 0)) ∧ Row wx 9 1 e.pv e.ps.length (sv e.ps)
structure LLp (w4 wx : World) (p : Nat) (id ky : ByteArray) (es : List Ent) (kd : Int) (bd : ByteArray) (j : Nat) (pv : Value) (ps : List ByteArray) : Prop where
  u : Unch none_ w4 wx
  b : wx.heap[p]? = some (.cells #[.string id, .int .i64 kd, .string ky, pv, .string bd] 35 (0, 0))
  row : Row wx 9 1 pv j (sv ps)
  own : ∀ b, pv.ownBlock = some b → w4.heap.size ≤ b
  le : j ≤ 8
  par : ∀ s ∈ ps, ∃ i, i < es.length ∧ (ent es i).id = s
def LLe (w4 wx : World) (p : Nat) (id ky : ByteArray) (es : List Ent) (kd : Int) (bd : ByteArray) (m : Nat) : Prop :=
  ∃ j pv ps, (j = 0 → m = 0) ∧ LLp w4 wx p id ky es kd bd j pv ps
theorem back_ix (bi : Int) (k : Nat) (hk : k ≤ 100) : ∃ q : Nat, q ≤ k ∧ wrap64 (↑k - wrap64 ((IntKind.u64.wrap bi).tmod (↑k + 1))) = (q : Int) := by
  have h0 : 0 ≤ IntKind.u64.wrap bi := by rw [IntKind.wrap_u64]; omega
  have h1 : 0 ≤ (IntKind.u64.wrap bi).tmod (↑k + 1) := Int.tmod_nonneg _ h0
  have h2 : (IntKind.u64.wrap bi).tmod (↑k + 1) < ↑k + 1 := Int.tmod_lt_of_pos _ (by omega)
  generalize (IntKind.u64.wrap bi).tmod (↑k + 1) = z at h1 h2
  have e1 : wrap64 z = z := by unfold wrap64; omega
  rw [e1]
  have e2 : wrap64 ((k : Int) - z) = k - z := by unfold wrap64; omega
  rw [e2]
  exact ⟨(k - z).toNat, by omega, by omega⟩
theorem LdOk.add {es : List Ent} {k : Nat} {a : UInt8} {e : Ent} (h : LdOk es k) (hid : e.id = idB a k) (hk : k < 90) (hps : e.ps.length ≤ 8) (hp : ∀ s ∈ e.ps, ∃ i, i < es.length ∧ (ent es i).id = s) : LdOk (es ++ [e]) (k + 1) := by
  have hl := h.len
  refine ⟨by simp [hl], h.cl.add (by omega) (by rw [hid, idB_size]; decide) (by rw [hid, idB_size]; decide) (fun i hi he => ?_) hp, ?_, fun i h1 h2 => ?_, fun e' he' => ?_⟩
  · rw [hid] at he
    by_cases h0 : i = 0
    · subst h0
      obtain ⟨b, hb⟩ := h.root
      rw [ent_of hb] at he
      have := congrArg ByteArray.size he
      rw [idB_size] at this
      exact absurd this (by show ¬ (rootB.size = 3); decide)
    · obtain ⟨a', ha'⟩ := h.ids i (by omega) hi
      rw [ha'] at he
      have := idB_inj (by omega) (by omega) he
      omega
  · obtain ⟨b, hb⟩ := h.root
    exact ⟨b, by rw [List.getElem?_append_left (by omega)]; exact hb⟩
  · rcases Nat.lt_or_ge i es.length with h3 | h3
    · rw [ent_app_lt h3]; exact h.ids i h1 h3
    · have : i = es.length := by simp at h2; omega
      subst this
      rw [ent_app_at, hl]
      exact ⟨a, hid⟩
  · rcases List.mem_append.1 he' with h1 | h1
    · exact h.psl e' h1
    · rw [List.mem_singleton.1 h1]; exact hps
theorem info_ent : (Tryz.prog.info? 35).map (fun i => (i.zero, i.size, i.bytes)) = some (some (.agg #[.string ⟨#[]⟩, .int .i64 0, .string ⟨#[]⟩, .slice none 0 0, .string ⟨#[]⟩]), 5, 80) := by kernel_rfl
theorem keyB_max (x : Int) : (keyB x).size ≤ maxLen := by show 1 ≤ maxLen; decide
theorem upd_same {y : Nat → Value} {d : Nat} {v : Value} (h : y d = v) : upd y d v = y := by
  funext e
  unfold upd
  split
  · rename_i he; subst he; exact h.symm
  · rfl
theorem conv3 (w : World) (g : Nat) (a b c : UInt8) (h : w.heap[g]? = some (.cells #[.int .u8 (a.toNat : Int), .int .u8 (b.toNat : Int), .int .u8 (c.toNat : Int)] 5 (0, 0))) :
    (convert 51 9 (.slice (some ⟨g, 0, none⟩) 3 3)).run Tryz.prog w = .ok (.string ⟨#[a, b, c]⟩) w := by
  refine run_convert_bytes_back (P := Tryz.prog) w 51 9 5 ⟨g, 0, none⟩ 3 [a, b, c] Tryz.underlying51 Tryz.underlying5 Tryz.underlying9 (fun j hj => ?_)
  have hj' : j < 3 := hj
  rcases (show j = 0 ∨ j = 1 ∨ j = 2 by omega) with rfl | rfl | rfl
  · exact blk_cell h rfl
  · exact blk_cell h rfl
  · exact blk_cell h rfl
theorem u8_of {z : Int} (h0 : 0 ≤ z) (h1 : z < 256) : ((UInt8.ofNat z.toNat).toNat : Int) = z := by
  rw [UInt8.toNat_ofNat']
  omega
set_option maxRecDepth 100000 in
set_option maxHeartbeats 4000000 in
theorem laid_ok {w : World} {A : Option Addr} {n c : Nat} {xs : List Say} (h : Says w A n xs) {N : Nat} (hN1 : N ≤ n) (hN2 : N ≤ 40) (hN3 : N = n ∨ N = 40) :
    Calls Tryz.prog 8 #[.slice A n c] w fun e w' => ∃ v es, e = .returned v ∧ LMid w w' v es ∧ LdOk es N := by
  have hN4 : N = n ∨ (N = 40 ∧ N < n) := by omega
  have HN4 := Lib.hid hN4
  clear hN3 hN4
  go_enter Tryz.func8, Tryz.ntmps8
  go_wp2_with fail
  refine (key_ok 0).mono ?_
  rintro e w1 ⟨rfl, hu1⟩
  go_wp2
  obtain ⟨L0, E0⟩ := laid_start hu1
  generalize w1.alloc (Obj.cells #[.string ⟨#[114, 111, 111, 116]⟩, .int .i64 1, .string (keyB 0), .slice none 0 0, .string ⟨#[114]⟩] 35) = w2 at *
  generalize w1.heap.size = g1 at *
  go_loopg [3, 4] N (fun gk v i wr => ∃ (k : Nat) (es : List Ent), k ≤ N ∧ gk = N - k ∧ i = .int .i64 (k : Int) ∧ LMid w wr v es ∧ LdOk es k)
  case atStart => exact ⟨0, [rootE], Nat.zero_le _, rfl, rfl, L0, E0⟩
  case round =>
    obtain ⟨k, es, hk, rfl, rfl, hl, he⟩ := hrel
    obtain ⟨w3, rfl⟩ : ∃ w3, w3 = wr := ⟨_, rfl⟩
    by_cases hkN : k < N
    · have hkn : k < n := by omega
      have hk40 : k < 40 := by omega
      obtain ⟨x, hx⟩ := get_some h.len hkn
      have hok := (h.ok x (List.mem_of_getElem? hx)).fresh hl.hu
      obtain ⟨b, o, rfl, hb, x0, x1, x2, x3, x4⟩ := (h.fresh hl.hu).at hx
      have z0 : (0 : Int) ≤ (k : Int) := by omega
      have z1 : (k : Int) < (n : Int) := by omega
      have z2 : (k : Int) < 40 := by omega
      obtain ⟨AB, cB, hbv, hcB, hrb⟩ := hok.bs
      rw [hbv] at x3
      clear hx
      go_wp2
      have bX := blk_new w3 (Obj.cells #[.int .i64 x.kind, .int .i64 x.who, .int .i64 x.whom, .slice AB x.behind.length cB, .int .u8 x.name] 42)
      have hu34 : Unch none_ w3 (w3.alloc (Obj.cells #[.int .i64 x.kind, .int .i64 x.who, .int .i64 x.whom, .slice AB x.behind.length cB, .int .u8 x.name] 42)) := (Unch.refl none_ w3).alloc _
      have hl4 := hl.fresh hu34
      have hgX : w.heap.size ≤ w3.heap.size := hl.hu.size
      generalize hg : w3.heap.size = gX at *
      clear hg
      generalize w3.alloc (Obj.cells #[.int .i64 x.kind, .int .i64 x.who, .int .i64 x.whom, .slice AB x.behind.length cB, .int .u8 x.name] 42) = w4 at *
      clear x0 x1 x2 x3 x4
      refine wp_planI (fun W => W.heap[gX]? = w4.heap[gX]?) [0, 1, 2, 3, 4, 5, 6, 7, 8, 9, 10, 11, 14, 15] [12, 13, 16, 17, 18, 19] (by kernel_rfl) (by kernel_rfl) rfl (fun c a d v w h => by cases d <;> exact h) (rfl) ?_
      intro S HS _
      have f1 : ∀ G : In S, G.w.cell? ⟨gX, 1, none⟩ = some (.int .i64 x.who) := fun G => (World.cell?_of_block (a := ⟨gX, 1, none⟩) ((HS.out _).1 G.h)).trans (blk_cell bX (j := 1) rfl)
      have f4 : ∀ G : In S, G.w.cell? ⟨gX, 4, none⟩ = some (.int .u8 x.name) := fun G => (World.cell?_of_block (a := ⟨gX, 4, none⟩) ((HS.out _).1 G.h)).trans (blk_cell bX (j := 4) rfl)
      simp only [pickIn, List.getElem?_toArray, List.getElem?_cons_succ, List.getElem?_cons_zero]
      repeat (go_big_quiet_step (fail))
      refine wpQuiet_nil ?_
      clear f1 f4
      have hna := hok.name
      obtain ⟨a, ha⟩ : ∃ a : UInt8, (97 + x.name.tmod 26) % 256 = (a.toNat : Int) := ⟨UInt8.ofNat ((97 + x.name.tmod 26) % 256).toNat, (u8_of (Int.emod_nonneg _ (by decide)) (Int.emod_lt_of_pos _ (by decide))).symm⟩
      have hb1 : (48 + (k : Int) / 10) = ((UInt8.ofNat (48 + k / 10)).toNat : Int) := by rw [UInt8.toNat_ofNat']; omega
      have hb2 : (48 + (k : Int) % 10) = ((UInt8.ofNat (48 + k % 10)).toNat : Int) := by rw [UInt8.toNat_ofNat']; omega
      rw [ha, hb1, hb2]
      obtain ⟨e1, he1⟩ : ∃ e, UInt8.ofNat (48 + k / 10) = e := ⟨_, rfl⟩
      obtain ⟨e2, he2⟩ : ∃ e, UInt8.ofNat (48 + k % 10) = e := ⟨_, rfl⟩
      rw [he1, he2]
      have hgl := lt_of_heap bX
      clear ha hb1 hb2 hna
      refine free_slots2 [37, 38, 41, 42, 6] (L6I w4 a e1 e2 (keyB x.who)) (fun x => .inl ⟨rfl, (Unch.refl _ _).drew, by simp, by simp, by simp, by simp, by simp⟩) ?_ ?_
      · intro D y w5 hI i hi o ho hun hdep
        obtain ⟨hd19, hpre⟩ : D 19 = false ∧ L6Pre w4 a e1 e2 (keyB x.who) D y w5 := by
          rcases hI with h | ⟨hall, _⟩
          · exact h
          · rw [hall i hi] at hun; cases hun
        simp only [List.mem_cons, List.not_mem_nil, or_false] at hi
        have hCw : ∀ w', Unch none_ w4 w' → ∃ g : In S, w' = g.w := fun w' hu => ⟨⟨w', (HS.out _).2 (hu.block gX hgl (fun h => h))⟩, rfl⟩
        have HCw := Lib.hid hCw
        have hw45 := hpre.u
        have HPRE := Lib.hid hpre
        have HDEP := Lib.hid hdep
        have HD19 := Lib.hid hd19
        have HUN := Lib.hid hun
        clear hCw hpre hdep hd19 hun hI
        rcases hi with rfl | rfl | rfl | rfl | rfl | rfl
        · simp only [List.getElem?_toArray, List.getElem?_cons_succ, List.getElem?_cons_zero, Option.some.injEq] at ho
          subst ho
          simp only [putsF, List.foldl]
          have hs := Lib.hid (HPRE.out.s12 HUN.out)
          go_wp2_with fail
          exact ⟨HCw.out _ hs.out.u, upd y 37 (.slice (some ⟨w5.heap.size, 0, none⟩) 3 3), rfl, .inl ⟨by simpa using HD19.out, hs.out⟩⟩
        · simp only [List.getElem?_toArray, List.getElem?_cons_succ, List.getElem?_cons_zero, Option.some.injEq] at ho
          subst ho
          simp only [putsF, List.foldl]
          have k12 := HDEP.out ⟨12, .data⟩ (by simp) rfl (by simp)
          obtain ⟨g, e37, hg⟩ := HPRE.out.d12 k12
          have hs := Lib.hid (HPRE.out.s13 HUN.out k12)
          have hcv := conv3 w5 g a e1 e2 hg
          clear k12 hg
          rw [e37]
          go_wp2_with fail
          exact ⟨HCw.out _ hs.out.u, upd y 38 (.string ⟨#[a, e1, e2]⟩), by rw [← e37]; rfl, .inl ⟨by simpa using HD19.out, hs.out⟩⟩
        · simp only [List.getElem?_toArray, List.getElem?_cons_succ, List.getElem?_cons_zero, Option.some.injEq] at ho
          subst ho
          simp only [putsF, List.foldl]
          go_wp2_with fail
          refine (key_ok x.who).mono ?_
          rintro e w6 ⟨rfl, hu6⟩
          have hs := Lib.hid ((HPRE.out.fresh hu6).s16 HUN.out)
          go_wp2_with fail
          exact ⟨HCw.out _ hs.out.u, upd y 41 (.string (keyB x.who)), rfl, .inl ⟨by simpa using HD19.out, hs.out⟩⟩
        · simp only [List.getElem?_toArray, List.getElem?_cons_succ, List.getElem?_cons_zero, Option.some.injEq] at ho
          subst ho
          simp only [putsF, List.foldl]
          have k13 := HDEP.out ⟨13, .data⟩ (by simp) rfl (by simp)
          have k16 := HDEP.out ⟨16, .data⟩ (by simp) rfl (by simp)
          obtain ⟨k12, e38⟩ := HPRE.out.d13 k13
          have e41 := HPRE.out.d16 k16
          have hs := HPRE.out.s17 k13 k16
          obtain ⟨y2, hy2⟩ : ∃ y2, y2 = upd (upd y 38 (.string ⟨#[a, e1, e2]⟩)) 41 (.string (keyB x.who)) := ⟨_, rfl⟩
          have hy : y2 = y := by rw [hy2, upd_same e38, upd_same e41]
          rw [← hy] at hs
          have HS2 := Lib.hid hs
          have HY2 := Lib.hid hy2
          clear k12 k13 k16 hs hy hy2
          rw [e38, e41]
          go_wp2_with fail
          exact ⟨HCw.out _ HS2.out.u, upd y2 42 (.agg (postA ⟨#[a, e1, e2]⟩ (keyB x.who))), by rw [HY2.out]; rfl, .inl ⟨by simpa using HD19.out, HS2.out⟩⟩
        · simp only [List.getElem?_toArray, List.getElem?_cons_succ, List.getElem?_cons_zero, Option.some.injEq] at ho
          subst ho
          simp only [putsF, List.foldl]
          have hs := Lib.hid HPRE.out.s18
          go_wp2_with fail
          exact ⟨HCw.out _ hs.out.u, upd y 6 (.pointer (some ⟨w5.heap.size, 0, none⟩)), rfl, .inl ⟨by simpa using HD19.out, hs.out⟩⟩
        · simp only [List.getElem?_toArray, List.getElem?_cons_succ, List.getElem?_cons_zero, Option.some.injEq] at ho
          subst ho
          simp only [putsF, List.foldl]
          have k17 := HDEP.out ⟨17, .data⟩ (by simp) rfl (by simp)
          have k18 := HDEP.out ⟨18, .data⟩ (by simp) rfl (by simp)
          obtain ⟨k13, k16, e42⟩ := HPRE.out.d17 k17
          have k12 := (HPRE.out.d13 k13).1
          obtain ⟨p, e6, hp4, hpz⟩ := HPRE.out.d18 k18
          have K : Hid (∀ i ∈ [12, 13, 16, 17, 18, 19], (decide (i = 19) || D i) = true) := fun i hi => by
            simp only [List.mem_cons, List.not_mem_nil, or_false] at hi
            rcases hi with rfl | rfl | rfl | rfl | rfl | rfl
            · rw [k12]; rfl
            · rw [k13]; rfl
            · rw [k16]; rfl
            · rw [k17]; rfl
            · rw [k18]; rfl
            · rfl
          unfold zeroEnt at hpz
          have y0 := blk_cell hpz (j := 0) rfl
          have y1 := blk_cell hpz (j := 1) rfl
          have y2 := blk_cell hpz (j := 2) rfl
          have y3 := blk_cell hpz (j := 3) rfl
          have y4 := blk_cell hpz (j := 4) rfl
          have q0 := blk_free hpz 0
          have q1 := blk_free hpz 1
          have q2 := blk_free hpz 2
          have q3 := blk_free hpz 3
          have q4 := blk_free hpz 4
          have BZ := Lib.hid hpz
          have E6 := Lib.hid e6
          have E42 := Lib.hid e42
          rw [e6, e42]
          unfold postA
          clear k12 k13 k16 k17 k18 hpz e6 e42
          go_wp2_with fail
          have huW : Unch (fun k => k = p) w5 (((((w5.setCell ⟨p, 0, none⟩ (.string ⟨#[a, e1, e2]⟩)).setCell ⟨p, 1, none⟩ (.int .i64 2)).setCell ⟨p, 2, none⟩ (.string (keyB x.who))).setCell ⟨p, 3, none⟩ (.slice none 0 0)).setCell ⟨p, 4, none⟩ (.string ⟨#[116]⟩)) :=
            (((((Unch.refl (fun k => k = p) w5).setCell _ (fun _ => rfl)).setCell _ (fun _ => rfl)).setCell _ (fun _ => rfl)).setCell _ (fun _ => rfl)).setCell _ (fun _ => rfl)
          have hbW : (((((w5.setCell ⟨p, 0, none⟩ (.string ⟨#[a, e1, e2]⟩)).setCell ⟨p, 1, none⟩ (.int .i64 2)).setCell ⟨p, 2, none⟩ (.string (keyB x.who))).setCell ⟨p, 3, none⟩ (.slice none 0 0)).setCell ⟨p, 4, none⟩ (.string ⟨#[116]⟩)).heap[p]? = some (.cells (postA ⟨#[a, e1, e2]⟩ (keyB x.who)) 35 (0, 0)) :=
            blk_set (blk_set (blk_set (blk_set (blk_set BZ.out 0 _) 1 _) 2 _) 3 _) 4 _
          have hu4 := hw45.step huW (fun i hi e => by omega)
          exact ⟨HCw.out _ hu4, upd (upd y 6 (.pointer (some ⟨p, 0, none⟩))) 42 (.agg (postA ⟨#[a, e1, e2]⟩ (keyB x.who))), by rfl, .inr ⟨K.out, hu4, p, by rfl, hp4, hbW⟩⟩
      · intro D y w5 hI hall
        rcases hI with ⟨hd19, _⟩ | ⟨_, hfin⟩
        · rw [hall 19 (by simp)] at hd19; cases hd19
        obtain ⟨hu45, p, e6, hp4, hbp⟩ := hfin
        simp only [putsF, List.foldl]
        rw [e6]
        generalize y 37 = y37
        generalize y 38 = y38
        generalize y 41 = y41
        generalize y 42 = y42
        clear e6 hall
        have bX5 := hu45.heap bX (fun h => h)
        have t0 := blk_cell bX5 (j := 0) rfl
        have t2 := blk_cell bX5 (j := 2) rfl
        have t3 := blk_cell bX5 (j := 3) rfl
        have HBP := Lib.hid hbp
        unfold postA at hbp
        have p0 := blk_cell hbp (j := 0) rfl
        have p1 := blk_cell hbp (j := 1) rfl
        have p2 := blk_cell hbp (j := 2) rfl
        have p3 := blk_cell hbp (j := 3) rfl
        have p4 := blk_cell hbp (j := 4) rfl
        have q1 := blk_free hbp 1
        have q3 := blk_free hbp 3
        have q4 := blk_free hbp 4
        clear hbp
        have hsw : Hid (∀ wx, wx = w5 → True) := Lib.hid (fun _ _ => trivial)
        go_upto_block 2 with fail
        go_cut [47] from 43 to 67 (fun v47 wx => LUw w4 wx p ⟨#[a, e1, e2]⟩ (keyB x.who))
        case first =>
          go_upto_region 8 with fail
          generalize wrap64 ((IntKind.u64.wrap x.kind).tmod 5) = z
          by_cases z1 : z = 1
          · subst z1
            go_wp2
            go_meet
            exact ⟨hu45.step ((Unch.refl (fun k => k = p) w5).setCell _ (fun _ => rfl)) (fun i hi e => by omega), 3, _, by decide, blk_set HBP.out 1 _⟩
          · have d1 : (z == 1) = false := by simpa using z1
            by_cases z2 : z = 2
            · subst z2
              go_wp2_with fail
              refine (key_ok x.whom).mono ?_
              rintro e w6 ⟨rfl, hu6⟩
              have hb6 := hu6.heap (blk_set HBP.out 1 (.int .i64 4)) (fun h => h)
              have HB6 := Lib.hid hb6
              have r4 := blk_cell hb6 (j := 4) rfl
              have f4 := blk_free hb6 4
              clear hb6
              go_wp2
              go_meet
              exact ⟨((hu45.step ((Unch.refl (fun k => k = p) w5).setCell _ (fun _ => rfl)) (fun i hi e => by omega)).trans hu6).step ((Unch.refl (fun k => k = p) w6).setCell _ (fun _ => rfl)) (fun i hi e => by omega), 4, _, keyB_max _, blk_set HB6.out 4 _⟩
            · have d2 : (z == 2) = false := by simpa using z2
              by_cases z3 : z = 3
              · subst z3
                go_wp2_with fail
                refine (key_ok x.whom).mono ?_
                rintro e w6 ⟨rfl, hu6⟩
                have hb6 := hu6.heap (blk_set HBP.out 1 (.int .i64 5)) (fun h => h)
                have HB6 := Lib.hid hb6
                have r4 := blk_cell hb6 (j := 4) rfl
                have f4 := blk_free hb6 4
                clear hb6
                go_wp2
                go_meet
                exact ⟨((hu45.step ((Unch.refl (fun k => k = p) w5).setCell _ (fun _ => rfl)) (fun i hi e => by omega)).trans hu6).step ((Unch.refl (fun k => k = p) w6).setCell _ (fun _ => rfl)) (fun i hi e => by omega), 5, _, keyB_max _, blk_set HB6.out 4 _⟩
              · have d3 : (z == 3) = false := by simpa using z3
                by_cases z4 : z = 4
                · subst z4
                  go_wp2
                  go_meet
                  exact ⟨hu45.step ((Unch.refl (fun k => k = p) w5).setCell _ (fun _ => rfl)) (fun i hi e => by omega), 1, _, by decide, blk_set HBP.out 1 _⟩
                · have d4 : (z == 4) = false := by simpa using z4
                  go_wp2
                  go_meet
                  exact ⟨hu45, 2, _, by decide, HBP.out⟩
        case rest =>
          obtain ⟨hu46, kd, bd, hbd, hb6⟩ := hcut
          obtain ⟨w6, rfl⟩ : ∃ w6, w6 = wc := ⟨_, rfl⟩
          clear t0 t2 t3 p0 p1 p2 p3 p4 q1 q3 q4 HBP bX5 hu45
          generalize y37 = y37
          have p1 := blk_cell hb6 (j := 1) rfl
          have HB6 := Lib.hid hb6
          clear hb6
          go_upto_if 70 with fail
          go_cut [7] from 70 to 122 (fun v7 wx => LUf w4 wx p ⟨#[a, e1, e2]⟩ (keyB x.who) es)
          case first =>
            by_cases hk1 : kd = 1
            · subst hk1
              go_wp2
              go_meet
              exact ⟨hu46, ⟨_, 1, _, .slice none 0 0, [], bd⟩, rfl, rfl, hbd, (Nat.zero_le 8), (fun s hs => by cases hs), HB6.out, Row.nil _ _ _⟩
            · have d1 := int_bne hk1
              rw [d1]
              have t3 := hu46.cell (blk_cell bX (j := 3) rfl) (fun h => h)
              have hll : LLp w4 w6 p ⟨#[a, e1, e2]⟩ (keyB x.who) es kd bd 0 (.slice none 0 0) [] := ⟨hu46, HB6.out, Row.nil _ _ _, (fun b hb => by cases hb), by omega, (fun s hs => by cases hs)⟩
              have HLL := Lib.hid hll
              clear hll hk1
              go_upto_block 3 with fail
              clear d1
              obtain ⟨m, hm⟩ : ∃ m, x.behind.length = m := ⟨_, rfl⟩
              have hmm := hrb.max
              rw [hm] at t3 hmm
              unfold maxLen at hmm
              obtain ⟨g3, o3, cap3, cur3, hv3, hh3, _⟩ := hl4.row.form (by rw [he.len]; omega)
              have heL := he.len
              rw [heL] at hv3
              subst hv3
              have HM := Lib.hid hm
              have HEL := Lib.hid heL
              clear hm heL
              go_cut [7] from 71 to 105 (fun v7 wx => LLe w4 wx p ⟨#[a, e1, e2]⟩ (keyB x.who) es kd bd m)
              case first =>
                go_wp2_with fail
                go_loopg [7] (8 : Nat) (fun gk v7 wr => ∃ (j : Nat) (pv : Value) (ps : List ByteArray), j ≤ 8 ∧ j ≤ m ∧ gk = 8 - j ∧ v7 = .int .i64 (j : Int) ∧ LLp w4 wr p ⟨#[a, e1, e2]⟩ (keyB x.who) es kd bd j pv ps)
                case atStart => exact ⟨0, _, _, Nat.zero_le _, Nat.zero_le _, rfl, rfl, HLL.out⟩
                case round =>
                  obtain ⟨j, pv, ps, hj8, hjm, rfl, rfl, hll⟩ := hrel
                  obtain ⟨w7, rfl⟩ : ∃ w7, w7 = wr := ⟨_, rfl⟩
                  have bX7 := hll.u.heap bX (fun h => h)
                  have t3 := blk_cell bX7 (j := 3) rfl
                  rw [HM.out] at t3
                  have HLL7 := Lib.hid hll
                  have y0 : (0 : Int) ≤ (j : Int) := by omega
                  by_cases hj : j < m
                  · by_cases hj2 : j < 8
                    · have y1 : (j : Int) < (m : Int) := by omega
                      have y2 : (j : Int) < 8 := by omega
                      go_upto_region 22 with fail
                      have hst3 := hh3
                      have bP7 := hll.b
                      have hl7 := hl4.fresh hll.u
                      obtain ⟨bi, hbi⟩ := get_some hrb.len (show j < x.behind.length by rw [HM.out]; exact hj)
                      obtain ⟨hbok, bB, oB, rfl, hbB, xbi⟩ := RdS.int (RdS.fresh (RdS.fresh hrb hu34) hll.u) hbi
                      refine wp_planC (fun W => W.heap[gX]? = w7.heap[gX]? ∧ W.heap[p]? = w7.heap[p]? ∧ W.heap[g3]? = w7.heap[g3]? ∧ W.cell? ⟨bB, oB + j, none⟩ = some (.int .i64 bi)) [0, 1, 2, 3, 4, 5, 6, 7, 8, 9, 10, 11, 12, 13, 14, 15, 16, 17, 18, 19, 20] [21, 22, 23, 24] 1 (by kernel_rfl) (by kernel_rfl) rfl rfl (fun c a d v w h => by cases d <;> exact h) (⟨rfl, rfl, rfl, xbi⟩) ?_
                      intro S HS _
                      have f1 : ∀ G : In S, G.w.cell? ⟨gX, 3, none⟩ = some (.slice (some ⟨bB, oB, none⟩) m cB) := fun G => (World.cell?_of_block (a := ⟨gX, 3, none⟩) ((HS.out _).1 G.h).1).trans t3
                      have f2 : ∀ G : In S, G.w.cell? ⟨p, 3, none⟩ = some pv := fun G => (World.cell?_of_block (a := ⟨p, 3, none⟩) ((HS.out _).1 G.h).2.1).trans (blk_cell bP7 (j := 3) rfl)
                      have f4 : ∀ G : In S, G.w.cell? ⟨bB, oB + j, none⟩ = some (.int .i64 bi) := fun G => ((HS.out _).1 G.h).2.2.2
                      obtain ⟨q, hqk, hq⟩ := back_ix bi k (by omega)
                      have hqe : q < es.length := by rw [HEL.out]; omega
                      have xq := hl7.row.at rfl (ecells_get es q 0 _ _ (ent_get hqe) rfl)
                      rw [Nat.add_zero] at xq
                      have f5 : ∀ G : In S, G.w.cell? ⟨g3, o3 + q * 5, none⟩ = some (.string (ent es q).id) := fun G => (World.cell?_of_block (a := ⟨g3, o3 + q * 5, none⟩) ((HS.out _).1 G.h).2.2.1).trans xq
                      have y3 : (0 : Int) ≤ (q : Int) := by omega
                      have y4 : (q : Int) < (k : Int) + 1 := by omega
                      simp only [pickIn, List.getElem?_toArray, List.getElem?_cons_succ, List.getElem?_cons_zero]
                      repeat (go_big_quiet_step (fail))
                      refine wpQuiet_nil ?_
                      clear f1 f2 f4 f5 xq
                      have hgX7 := lt_of_heap bX7
                      have hP7 := lt_of_heap bP7
                      have hh37 := hll.u.heap hh3 (fun h => h)
                      have hg37 := lt_of_heap hh37
                      have hd7 : Unch none_ w7 w7.drew := (Unch.refl none_ w7).drew
                      have ha7 : Unch none_ w7 (w7.drew.alloc (.cells #[.string (ent es q).id] 9)) := hd7.alloc _
                      have hrw7 := hll.row.unch hd7 (fun _ _ h => h)
                      have hpn : ∀ bb, pv.ownBlock = some bb → bb ≠ p := fun bb hbb e => by
                        obtain ⟨c1, h1⟩ := hll.row.blk hbb
                        rw [e, bP7] at h1
                        injection h1 with h1
                        injection h1 with _ h1
                        exact absurd h1 (by decide)
                      have HPN := Lib.hid hpn
                      have HOWN := Lib.hid hll.own
                      have HPAR := Lib.hid hll.par
                      clear hpn
                      refine tail_step ?_
                      go_wp2_with fail
                      refine tail_midS ((HS.out _).2 ⟨ha7.block _ hgX7 (fun h => h), ha7.block _ hP7 (fun h => h), ha7.block _ hg37 (fun h => h), ha7.cell xbi (fun h => h)⟩) (tail_all ?_)
                      clear xbi hq
                      go_wp2_with (at_builtin; refine wpList_append1 w7.drew rfl (.tmp 83) (.tmp 103) 27 9 _ 1 16 rfl Tryz.underlying27 info_str rfl (by omega) pv j (sv ps) (by rfl) hrw7 [.string (ent es q).id] rfl (by intro u hu; simp at hu; subst hu; rfl) (by rfl) (by simp only [maxLen]; omega) (by omega) ?_; intro v8 w8 hr8 hu8 hat8; have bP8 := hu8.heap (hd7.heap bP7 (fun h => h)) (fun h => HPN.out _ h rfl); have s3 := blk_cell bP8 (j := 3) rfl; have s3f := blk_free bP8 3; have BP8 := Lib.hid bP8; have HR8 := Lib.hid hr8; have HU8 := Lib.hid hu8; have HAT8 := Lib.hid hat8; obtain ⟨A8, c8, rfl, _⟩ := hr8.slice; clear hr8 hu8 hat8 bP8)
                      have hn8 : ∀ bb, (Value.slice A8 (j + 1) c8).ownBlock = some bb → bb ≠ p ∧ w4.heap.size ≤ bb := fun bb hbb => by
                        rcases HAT8.out with h1 | ⟨b', h1, h2⟩
                        · rw [h1] at hbb
                          exact ⟨HPN.out _ hbb, HOWN.out _ hbb⟩
                        · rw [h1] at hbb
                          injection hbb with hbb
                          have h2' : w7.heap.size ≤ b' := h2
                          have := hll.u.size
                          subst hbb
                          exact ⟨by omega, by omega⟩
                      have huS : Unch (fun i => i = p) w8 (w8.setCell ⟨p, 3, none⟩ (.slice A8 (j + 1) c8)) := (Unch.refl _ _).setCell _ (fun _ => rfl)
                      have hN : LLp w4 (w8.setCell ⟨p, 3, none⟩ (.slice A8 (j + 1) c8)) p ⟨#[a, e1, e2]⟩ (keyB x.who) es kd bd (j + 1) (.slice A8 (j + 1) c8) (ps ++ [(ent es q).id]) :=
                        ⟨((hll.u.trans hd7).step HU8.out (fun i hi e => absurd (HOWN.out _ e) (by omega))).step huS (fun i hi e => by omega), blk_set BP8.out 3 _, by rw [sv_app]; exact HR8.out.unch huS (fun bb hbb e => (hn8 bb hbb).1 e), fun bb hbb => (hn8 bb hbb).2, by omega, fun s hs => by
                          rcases List.mem_append.1 hs with hs | hs
                          · exact HPAR.out s hs
                          · simp at hs; subst hs; exact ⟨q, hqe, rfl⟩⟩
                      have HN := Lib.hid hN
                      clear hN huS hn8 s3 s3f
                      go_wp2
                      go_roundg (8 - (j + 1))
                      case measure => omega
                      case rel => exact ⟨j + 1, _, _, by omega, by omega, rfl, by go_num, HN.out⟩
                    · obtain rfl : j = 8 := by omega
                      go_wp2
                      go_meet
                      exact ⟨_, _, _, by omega, hll⟩
                  · obtain rfl : j = m := by omega
                    go_wp2
                    go_meet
                    exact ⟨_, _, _, fun h => h, hll⟩
              case rest =>
                obtain ⟨j, pv, ps, hjm, hll⟩ := hcut
                obtain ⟨w8, rfl⟩ : ∃ w8, w8 = wc := ⟨_, rfl⟩
                have t3 := blk_cell (hll.u.heap bX (fun h => h)) (j := 3) rfl
                rw [HM.out] at t3
                have HLL8 := Lib.hid hll
                have HJM := Lib.hid hjm
                have bP8 := hll.b
                clear hjm
                go_upto_if 109 with fail
                go_cut [110] from 111 to 118 (fun v110 wx => LLe w4 wx p ⟨#[a, e1, e2]⟩ (keyB x.who) es kd bd 0)
                case first =>
                  by_cases hm0 : m = 0
                  · subst hm0
                    have xk := (hl4.fresh hll.u).row.at rfl (ecells_get es k 0 _ _ (ent_get (by rw [HEL.out]; omega)) rfl)
                    rw [Nat.add_zero] at xk
                    have s3 := blk_cell bP8 (j := 3) rfl
                    have s3f := blk_free bP8 3
                    have BP8 := Lib.hid bP8
                    have hP8 := lt_of_heap bP8
                    clear bP8
                    go_wp2
                    go_meet
                    have huS : Unch (fun i => i = p) w8 (w8.setCell ⟨p, 3, none⟩ (.slice (some ⟨w8.heap.size, 0, none⟩) 1 1)) := (Unch.refl _ _).setCell _ (fun _ => rfl)
                    have hnew := blk_new (w8.setCell ⟨p, 3, none⟩ (.slice (some ⟨w8.heap.size, 0, none⟩) 1 1)) (.cells #[.string (ent es k).id] 9)
                    rw [show (w8.setCell ⟨p, 3, none⟩ (.slice (some ⟨w8.heap.size, 0, none⟩) 1 1)).heap.size = w8.heap.size by simp [World.setCell]] at hnew
                    exact ⟨1, .slice (some ⟨w8.heap.size, 0, none⟩) 1 1, [(ent es k).id], fun h => (by omega), (hll.u.step huS (fun i hi e => by omega)).alloc _, blk_alloc (blk_set BP8.out 3 _) _,
                      ⟨rfl, .inr ⟨w8.heap.size, 0, 1, _, rfl, hnew, Nat.le_refl _, by decide, by simp, rfl⟩⟩, fun bb hbb => (by
                        have : w8.heap.size = bb := by simpa [Value.ownBlock] using hbb
                        have := hll.u.size
                        omega), by omega, fun s hs => by simp at hs; subst hs; exact ⟨k, by rw [HEL.out]; omega, rfl⟩⟩
                  · go_wp2
                    go_meet
                    exact ⟨j, pv, ps, fun _ => rfl, hll⟩
                case rest =>
                  clear t3 HLL8 bP8 hll
                  obtain ⟨j, pv, ps, _, hll⟩ := hcut
                  obtain ⟨w9, rfl⟩ : ∃ w9, w9 = wc := ⟨_, rfl⟩
                  obtain ⟨A9, c9, rfl, hc9⟩ := hll.row.slice
                  have s3 := blk_cell hll.b (j := 3) rfl
                  have hso := sorted_ok (c := c9) (srow_rds hll.row) (by have := hll.le; omega)
                  have HSO := Lib.hid hso
                  have HLL9 := Lib.hid hll
                  clear hso hll
                  go_wp2_with fail
                  refine HSO.out.mono ?_
                  rintro e w10 ⟨v10, rfl, hs10⟩
                  have bP10 := hs10.hu.heap HLL9.out.b (fun h => h)
                  have r3 := blk_cell bP10 (j := 3) rfl
                  have r3f := blk_free bP10 3
                  have hP9 := lt_of_heap HLL9.out.b
                  have BP10 := Lib.hid bP10
                  obtain ⟨A10, c10, rfl, hc10⟩ := hs10.row.slice
                  clear bP10 s3
                  go_wp2
                  go_meet
                  have huS : Unch (fun i => i = p) w10 (w10.setCell ⟨p, 3, none⟩ (.slice A10 (sortS ps).length c10)) := (Unch.refl _ _).setCell _ (fun _ => rfl)
                  exact ⟨(HLL9.out.u.trans hs10.hu).step huS (fun i hi e => by omega), ⟨_, kd, _, .slice A10 (sortS ps).length c10, sortS ps, bd⟩, rfl, rfl, hbd, (by have h1 := sortS_len ps; have h2 := HLL9.out.row.1; have h3 := HLL9.out.le; rw [sv_len] at h2; show (sortS ps).length ≤ 8; omega), fun s hs => HLL9.out.par s (sortS_mem.1 hs), blk_set BP10.out 3 _,
                    hs10.row.unch huS (fun bb hbb e => by have := hs10.own bb hbb; omega)⟩
          case rest =>
            obtain ⟨hu47, e, heid, heaut, hebd, hepsl, hepar, heb, hrow⟩ := hcut
            obtain ⟨w9, rfl⟩ : ∃ w9, w9 = wc := ⟨_, rfl⟩
            have hl9 := hl4.fresh hu47
            obtain ⟨A9, c9, hpv, hc9⟩ := hrow.slice
            have hone : ∀ u ∈ e.cells, u.oneCell' = true := by
              intro u hu
              unfold Ent.cells at hu
              rw [hpv] at hu
              simp at hu
              rcases hu with rfl | rfl | rfl | rfl | rfl <;> rfl
            have hE : EntS w9 e := ⟨hrow, by rw [heid]; show 3 ≤ maxLen; decide, by rw [heaut]; exact keyB_max _, hebd, fun s hs => by
              obtain ⟨i, hi, hid⟩ := hepar s hs
              have := he.cl.hi i hi
              rw [hid] at this
              unfold maxLen; omega⟩
            have hN : LdOk (es ++ [e]) (k + 1) := he.add (by rw [heid, ← he1, ← he2]; rfl) (by omega) hepsl hepar
            have HN := Lib.hid hN
            have HE := Lib.hid hE
            have HONE := Lib.hid hone
            have q0 := blk_cell heb (j := 0) rfl
            have q1 := blk_cell heb (j := 1) rfl
            have q2 := blk_cell heb (j := 2) rfl
            have q3 := blk_cell heb (j := 3) rfl
            have q4 := blk_cell heb (j := 4) rfl
            have HEL := Lib.hid he.len
            have hel : es.length = k + 1 := he.len
            obtain ⟨ln, hln⟩ : ∃ ln, es.length = ln := ⟨_, rfl⟩
            rw [hln] at hel
            have HLN := Lib.hid hln
            have hrw9 := hl9.row
            rw [hln] at hrw9
            clear hN hE hone heid heaut heb hpv hrow hln
            go_wp2_with (at_builtin; refine wpList_append1 w9 rfl (.tmp 123) (.tmp 125) 23 35 _ 5 80 rfl Tryz.underlying23 info_ent rfl (by omega) u3 ln (ecells es) (by rfl) hrw9 e.cells rfl HONE.out (by rfl) (by simp only [maxLen]; omega) (by omega) ?_; intro v2 w10 hr10 hu10 hat10; have HR10 := Lib.hid hr10; have HU10 := Lib.hid hu10; have HAT10 := Lib.hid hat10; clear hr10 hu10 hat10)
            go_roundg (N - (k + 1))
            case measure => omega
            case rel =>
              have hr := HR10.out
              rw [← HLN.out] at hr
              exact ⟨k + 1, es ++ [e], by omega, rfl, by go_num, hl9.app HE.out hr HU10.out HAT10.out, HN.out⟩
    · obtain rfl : k = N := by omega
      rcases HN4.out with hkn | ⟨hk40, hkn⟩
      · subst hkn
        clear HN4
        go_wp2
        go_ret
        exact ⟨_, es, rfl, hl, he⟩
      · have z1 : (k : Int) < (n : Int) := by omega
        have z2 : ¬ (k : Int) < 40 := by omega
        have z3 : ¬ k < 40 := by omega
        have z4 : decide (k < 40) = false := decide_eq_false z3
        clear HN4 hk40
        go_wp2
        go_ret
        exact ⟨_, rfl, es, hl, he⟩
end Go.Proofs.YtgalnnmeamldhaaGreat
