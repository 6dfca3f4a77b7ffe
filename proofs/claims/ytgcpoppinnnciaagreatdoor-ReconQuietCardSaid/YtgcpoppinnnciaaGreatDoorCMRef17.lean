/-
  palaverlaw15.Laid: the walk.
  cmp.Compare at int and at string, cmp.Or at int.
  slices.IndexFunc, slices.ContainsFunc over entries.
-/
import Derived.Test.YtgcpoppinnnciaaGreatDoorCMRef10
import Derived.Deep.CutBlock
import Derived.Shelf.SlSorted.Search
import Derived.Shelf.Abstract
/- palaverlaw15.Laid: the walk. -/
set_option linter.unusedVariables false
set_option linter.unusedSimpArgs false
namespace Go.Proofs.YtgcpoppinnnciaaGreatDoor
open Go Go.RowKit Go.Proofs.YtgcpoppinnnciaaGreatDoor.Pal Go.Proofs.YtgcpoppinnnciaaGreatDoor.Plan

def rootB : ByteArray := ⟨#[114, 111, 111, 116]⟩
/-- What Laid's first k entries are. -/
structure LdOk (es : List Ent) (k : Nat) : Prop where
  len : es.length = k + 1
  cl : Closed es
  root : ∃ b, es[0]? = some ⟨rootB, 1, keyB 0, .slice none 0 0, [], b⟩
  ids : ∀ i, 1 ≤ i → i < es.length → ∃ a, (ent es i).id = idB a (i - 1)
  psl : ∀ e ∈ es, e.ps.length ≤ 8
def rootE : Ent := ⟨rootB, 1, keyB 0, .slice none 0 0, [], ⟨#[114]⟩⟩
theorem laid_start {w w1 : World} (hu : Unch none_ w w1) : LMid w (w1.alloc (Obj.cells #[.string ⟨#[114, 111, 111, 116]⟩, .int .i64 1, .string (keyB 0), .slice none 0 0, .string ⟨#[114]⟩] 114)) (.slice (some ⟨w1.heap.size, 0, none⟩) 1 1) [rootE] ∧ LdOk [rootE] 0 := by
  refine ⟨⟨hu.alloc _, fun b hb => ?_, ⟨rfl, .inr ⟨w1.heap.size, 0, 1, _, rfl, blk_new w1 _, Nat.le_refl _, by decide, by decide, rfl⟩⟩, fun e he => ?_⟩, rfl, ⟨by decide, fun i hi => ?_, fun i hi => ?_, fun i j hi hj _ => ?_, fun i s hi hs => ?_⟩, ⟨_, rfl⟩, fun i h1 h2 => ?_, fun e he => ?_⟩
  · have : w1.heap.size = b := by simpa [Value.ownBlock] using hb
    exact this ▸ hu.size
  · simp at he
    subst he
    exact ⟨Row.nil _ _ _, by decide, by decide, by decide, by intro p hp; cases hp⟩
  · obtain rfl : i = 0 := by simpa using hi
    decide
  · obtain rfl : i = 0 := by simpa using hi
    decide
  · simp at hi hj; omega
  · obtain rfl : i = 0 := by simpa using hi
    cases hs
  · simp at h2; omega
  · simp at he
    subst he
    decide
/-! ### The entry under way -/
def zeroEnt : Obj := .cells #[.string ⟨#[]⟩, .int .i64 0, .string ⟨#[]⟩, .slice none 0 0, .string ⟨#[]⟩] 114
def postA (id ky : ByteArray) : Array Value := #[.string id, .int .i64 2, .string ky, .slice none 0 0, .string ⟨#[116]⟩]
structure L6Pre (w4 : World) (a b c : UInt8) (ky : ByteArray) (D : Nat → Bool) (x : Nat → Value) (w' : World) : Prop where
  u : Unch none_ w4 w'
  d12 : D 12 = true → ∃ g, x 37 = .slice (some ⟨g, 0, none⟩) 3 3 ∧ w'.heap[g]? = some (.cells #[.int .u8 (a.toNat : Int), .int .u8 (b.toNat : Int), .int .u8 (c.toNat : Int)] 5 (0, 0))
  d13 : D 13 = true → D 12 = true ∧ x 38 = .string ⟨#[a, b, c]⟩
  d16 : D 16 = true → x 41 = .string ky
  d17 : D 17 = true → D 13 = true ∧ D 16 = true ∧ x 42 = .agg (postA ⟨#[a, b, c]⟩ ky)
  d18 : D 18 = true → ∃ p, x 6 = .pointer (some ⟨p, 0, none⟩) ∧ w4.heap.size ≤ p ∧ w'.heap[p]? = some zeroEnt
def L6Fin (w4 : World) (a b c : UInt8) (ky : ByteArray) (x : Nat → Value) (w' : World) : Prop :=
  Unch none_ w4 w' ∧ ∃ p, x 6 = .pointer (some ⟨p, 0, none⟩) ∧ w4.heap.size ≤ p ∧ w'.heap[p]? = some (.cells (postA ⟨#[a, b, c]⟩ ky) 114 (0, 0))
def L6I (w4 : World) (a b c : UInt8) (ky : ByteArray) (D : Nat → Bool) (x : Nat → Value) (w' : World) : Prop :=
  (D 19 = false ∧ L6Pre w4 a b c ky D x w') ∨ ((∀ i ∈ [12, 13, 16, 17, 18, 19], D i = true) ∧ L6Fin w4 a b c ky x w')
section
variable {w4 : World} {a b c : UInt8} {ky : ByteArray} {D : Nat → Bool} {x : Nat → Value} {w' w2 : World}
theorem L6Pre.fresh (h : L6Pre w4 a b c ky D x w') (hu : Unch none_ w' w2) : L6Pre w4 a b c ky D x w2 := by
  refine ⟨h.u.trans hu, fun hd => ?_, h.d13, h.d16, h.d17, fun hd => ?_⟩
  · obtain ⟨g, e1, e2⟩ := h.d12 hd; exact ⟨g, e1, hu.heap e2 (fun h => h)⟩
  · obtain ⟨p, e1, e2, e3⟩ := h.d18 hd; exact ⟨p, e1, e2, hu.heap e3 (fun h => h)⟩
theorem L6Pre.s12 (h : L6Pre w4 a b c ky D x w') (hi : D 12 = false) : L6Pre w4 a b c ky (fun j => decide (j = 12) || D j) (upd x 37 (.slice (some ⟨w'.heap.size, 0, none⟩) 3 3)) (w'.alloc (.cells #[.int .u8 (a.toNat : Int), .int .u8 (b.toNat : Int), .int .u8 (c.toNat : Int)] 5)) := by
  have hu : Unch none_ w' (w'.alloc (.cells #[.int .u8 (a.toNat : Int), .int .u8 (b.toNat : Int), .int .u8 (c.toNat : Int)] 5)) := (Unch.refl none_ w').alloc _
  have h' := h.fresh hu
  exact ⟨h'.u, fun _ => ⟨_, rfl, blk_new w' _⟩, (fun hd => by have := (h.d13 (by simpa using hd)).1; rw [hi] at this; cases this), fun hd => h.d16 (by simpa using hd), (fun hd => by have := (h.d13 (h.d17 (by simpa using hd)).1).1; rw [hi] at this; cases this), fun hd => h'.d18 (by simpa using hd)⟩
theorem L6Pre.s13 (h : L6Pre w4 a b c ky D x w') (hi : D 13 = false) (h12 : D 12 = true) : L6Pre w4 a b c ky (fun j => decide (j = 13) || D j) (upd x 38 (.string ⟨#[a, b, c]⟩)) w' :=
  ⟨h.u, fun hd => h.d12 (by simpa using hd), fun _ => ⟨by simpa using h12, rfl⟩, fun hd => h.d16 (by simpa using hd), (fun hd => by have := (h.d17 (by simpa using hd)).1; rw [hi] at this; cases this), fun hd => h.d18 (by simpa using hd)⟩
theorem L6Pre.s16 (h : L6Pre w4 a b c ky D x w') (hi : D 16 = false) : L6Pre w4 a b c ky (fun j => decide (j = 16) || D j) (upd x 41 (.string ky)) w' :=
  ⟨h.u, fun hd => h.d12 (by simpa using hd), (fun hd => by have := h.d13 (by simpa using hd); exact ⟨by simpa using this.1, this.2⟩), fun _ => rfl, (fun hd => by have := (h.d17 (by simpa using hd)).2.1; rw [hi] at this; cases this), fun hd => h.d18 (by simpa using hd)⟩
theorem L6Pre.s17 (h : L6Pre w4 a b c ky D x w') (h13 : D 13 = true) (h16 : D 16 = true) : L6Pre w4 a b c ky (fun j => decide (j = 17) || D j) (upd x 42 (.agg (postA ⟨#[a, b, c]⟩ ky))) w' :=
  ⟨h.u, fun hd => h.d12 (by simpa using hd), (fun hd => by have := h.d13 (by simpa using hd); exact ⟨by simpa using this.1, this.2⟩), fun hd => h.d16 (by simpa using hd), fun _ => ⟨by simpa using h13, by simpa using h16, rfl⟩, fun hd => h.d18 (by simpa using hd)⟩
theorem L6Pre.s18 (h : L6Pre w4 a b c ky D x w') : L6Pre w4 a b c ky (fun j => decide (j = 18) || D j) (upd x 6 (.pointer (some ⟨w'.heap.size, 0, none⟩))) (w'.alloc zeroEnt) := by
  have hu : Unch none_ w' (w'.alloc zeroEnt) := (Unch.refl none_ w').alloc _
  have h' := h.fresh hu
  exact ⟨h'.u, fun hd => h'.d12 (by simpa using hd), (fun hd => by have := h.d13 (by simpa using hd); exact ⟨by simpa using this.1, this.2⟩), fun hd => h.d16 (by simpa using hd), (fun hd => by have := h.d17 (by simpa using hd); exact ⟨by simpa using this.1, by simpa using this.2.1, this.2.2⟩), fun _ => ⟨_, rfl, h.u.size, blk_new w' zeroEnt⟩⟩
end
/-- The entry under way, behind the switch. -/
def LUw (w4 wx : World) (p : Nat) (id ky : ByteArray) : Prop :=
  Unch none_ w4 wx ∧ ∃ (kd : Int) (bd : ByteArray), bd.size ≤ maxLen ∧ wx.heap[p]? = some (.cells #[.string id, .int .i64 kd, .string ky, .slice none 0 0, .string bd] 114 (0, 0))
/-- .. and with its parents. -/
def LUf (w4 wx : World) (p : Nat) (id ky : ByteArray) (es : List Ent) : Prop :=
  Unch none_ w4 wx ∧ ∃ e : Ent, e.id = id ∧ e.author = ky ∧ e.body.size ≤ maxLen ∧ e.ps.length ≤ 8 ∧ (∀ s ∈ e.ps, ∃ i, i < es.length ∧ (ent es i).id = s) ∧ wx.heap[p]? = some (.cells e.cells.toArray 114 (0, 0)) ∧ Row wx 9 1 e.pv e.ps.length (sv e.ps)
structure LLp (w4 wx : World) (p : Nat) (id ky : ByteArray) (es : List Ent) (kd : Int) (bd : ByteArray) (j : Nat) (pv : Value) (ps : List ByteArray) : Prop where
  u : Unch none_ w4 wx
  b : wx.heap[p]? = some (.cells #[.string id, .int .i64 kd, .string ky, pv, .string bd] 114 (0, 0))
  row : Row wx 9 1 pv j (sv ps)
  own : ∀ b, pv.ownBlock = some b → w4.heap.size ≤ b
  le : j ≤ 8
  par : ∀ s ∈ ps, ∃ i, i < es.length ∧ (ent es i).id = s
def LLe (w4 wx : World) (p : Nat) (id ky : ByteArray) (es : List Ent) (kd : Int) (bd : ByteArray) (m : Nat) : Prop :=
  ∃ j pv ps, (j = 0 → m = 0) ∧ LLp w4 wx p id ky es kd bd j pv ps
theorem back_ix (bi : Int) (k : Nat) (hk : k ≤ 100) : ∃ q : Nat, q ≤ k ∧ wrap64 (↑k - wrap64 ((IntKind.u64.wrap bi).tmod (↑k + 1))) = (q : Int) := by
  have h0 : 0 ≤ IntKind.u64.wrap bi := by rw [IntKind.wrap_u64]; omega
  have h1 : 0 ≤ (IntKind.u64.wrap bi).tmod (↑k + 1) := Int.tmod_nonneg _ h0
  have h2 : (IntKind.u64.wrap bi).tmod (↑k + 1) < ↑k + 1 := Int.tmod_lt_of_pos _ (by omega)
  generalize (IntKind.u64.wrap bi).tmod (↑k + 1) = z at h1 h2
  have e1 : wrap64 z = z := by unfold wrap64; omega
  rw [e1]
  have e2 : wrap64 ((k : Int) - z) = k - z := by unfold wrap64; omega
  rw [e2]
  exact ⟨(k - z).toNat, by omega, by omega⟩
theorem LdOk.add {es : List Ent} {k : Nat} {a : UInt8} {e : Ent} (h : LdOk es k) (hid : e.id = idB a k) (hk : k < 90) (hps : e.ps.length ≤ 8) (hp : ∀ s ∈ e.ps, ∃ i, i < es.length ∧ (ent es i).id = s) : LdOk (es ++ [e]) (k + 1) := by
  have hl := h.len
  refine ⟨by simp [hl], h.cl.add (by omega) (by rw [hid, idB_size]; decide) (by rw [hid, idB_size]; decide) (fun i hi he => ?_) hp, ?_, fun i h1 h2 => ?_, fun e' he' => ?_⟩
  · rw [hid] at he
    by_cases h0 : i = 0
    · subst h0
      obtain ⟨b, hb⟩ := h.root
      rw [ent_of hb] at he
      have := congrArg ByteArray.size he
      rw [idB_size] at this
      exact absurd this (by show ¬ (rootB.size = 3); decide)
    · obtain ⟨a', ha'⟩ := h.ids i (by omega) hi
      rw [ha'] at he
      have := idB_inj (by omega) (by omega) he
      omega
  · obtain ⟨b, hb⟩ := h.root
    exact ⟨b, by rw [List.getElem?_append_left (by omega)]; exact hb⟩
  · rcases Nat.lt_or_ge i es.length with h3 | h3
    · rw [ent_app_lt h3]; exact h.ids i h1 h3
    · have : i = es.length := by simp at h2; omega
      subst this
      rw [ent_app_at, hl]
      exact ⟨a, hid⟩
  · rcases List.mem_append.1 he' with h1 | h1
    · exact h.psl e' h1
    · rw [List.mem_singleton.1 h1]; exact hps
theorem info_ent : (Tryz.prog.info? 114).map (fun i => (i.zero, i.size, i.bytes)) = some (some (.agg #[.string ⟨#[]⟩, .int .i64 0, .string ⟨#[]⟩, .slice none 0 0, .string ⟨#[]⟩]), 5, 80) := by kernel_rfl
theorem keyB_max (x : Int) : (keyB x).size ≤ maxLen := by show 1 ≤ maxLen; decide
theorem upd_same {y : Nat → Value} {d : Nat} {v : Value} (h : y d = v) : upd y d v = y := by
  funext e
  unfold upd
  split
  · rename_i he; subst he; exact h.symm
  · rfl
theorem conv3 (w : World) (g : Nat) (a b c : UInt8) (h : w.heap[g]? = some (.cells #[.int .u8 (a.toNat : Int), .int .u8 (b.toNat : Int), .int .u8 (c.toNat : Int)] 5 (0, 0))) :
    (convert 39 9 (.slice (some ⟨g, 0, none⟩) 3 3)).run Tryz.prog w = .ok (.string ⟨#[a, b, c]⟩) w := by
  refine run_convert_bytes_back (P := Tryz.prog) w 39 9 5 ⟨g, 0, none⟩ 3 [a, b, c] Tryz.underlying39 Tryz.underlying5 Tryz.underlying9 (fun j hj => ?_)
  have hj' : j < 3 := hj
  rcases (show j = 0 ∨ j = 1 ∨ j = 2 by omega) with rfl | rfl | rfl
  · exact blk_cell h rfl
  · exact blk_cell h rfl
  · exact blk_cell h rfl
theorem u8_of {z : Int} (h0 : 0 ≤ z) (h1 : z < 256) : ((UInt8.ofNat z.toNat).toNat : Int) = z := by
  rw [UInt8.toNat_ofNat']
  omega
end Go.Proofs.YtgcpoppinnnciaaGreatDoor
/- cmp.Compare at int and at string, cmp.Or at int. -/
set_option linter.unusedVariables false
set_option linter.unusedSimpArgs false
namespace Go.Proofs.YtgcpoppinnnciaaGreatDoor
open Go Go.RowKit Go.Proofs.YtgcpoppinnnciaaGreatDoor.Pal Go.Proofs.YtgcpoppinnnciaaGreatDoor.Plan

def cmpI (a b : Int) : Int := if a < b then -1 else if b < a then 1 else 0
def cmpS (s t : ByteArray) : Int := if bl s t then -1 else if bl t s then 1 else 0
theorem nanI {w : World} (a : Int) : Calls Tryz.prog 215 #[.int .i64 a] w fun e w' => e = .returned (.bool false) ∧ w = w' := by
  go_enter Tryz.func215, Tryz.ntmps215
  go_wp2
  go_ret
  exact ⟨by simp, rfl⟩
theorem nanS {w : World} (s : ByteArray) : Calls Tryz.prog 173 #[.string s] w fun e w' => e = .returned (.bool false) ∧ w = w' := by
  go_enter Tryz.func173, Tryz.ntmps173
  go_wp2
  go_ret
  exact ⟨by simp, rfl⟩
theorem compareI {w : World} (a b : Int) : Calls Tryz.prog 208 #[.int .i64 a, .int .i64 b] w fun e w' => e = .returned (.int .i64 (cmpI a b)) ∧ w = w' := by
  by_cases h1 : a < b
  · have hr : cmpI a b = -1 := by simp [cmpI, h1]
    rw [hr]
    clear hr
    go_enter Tryz.func208, Tryz.ntmps208
    go_wp2_with fail
    refine (nanI a).mono ?_
    rintro e w' ⟨rfl, rfl⟩
    go_wp2_with fail
    refine (nanI b).mono ?_
    rintro e w' ⟨rfl, rfl⟩
    go_wp2
    go_ret
    exact ⟨rfl, rfl⟩
  · by_cases h2 : b < a
    · have hr : cmpI a b = 1 := by simp [cmpI, h1, h2]
      rw [hr]
      clear hr
      go_enter Tryz.func208, Tryz.ntmps208
      go_wp2_with fail
      refine (nanI a).mono ?_
      rintro e w' ⟨rfl, rfl⟩
      go_wp2_with fail
      refine (nanI b).mono ?_
      rintro e w' ⟨rfl, rfl⟩
      go_wp2
      go_ret
      exact ⟨rfl, rfl⟩
    · have hr : cmpI a b = 0 := by simp [cmpI, h1, h2]
      rw [hr]
      clear hr
      go_enter Tryz.func208, Tryz.ntmps208
      go_wp2_with fail
      refine (nanI a).mono ?_
      rintro e w' ⟨rfl, rfl⟩
      go_wp2_with fail
      refine (nanI b).mono ?_
      rintro e w' ⟨rfl, rfl⟩
      go_wp2
      go_ret
      exact ⟨rfl, rfl⟩
theorem compareS {w : World} (s t : ByteArray) : Calls Tryz.prog 209 #[.string s, .string t] w fun e w' => e = .returned (.int .i64 (cmpS s t)) ∧ w = w' := by
  cases h1 : bl s t with
  | true =>
    have hr : cmpS s t = -1 := by simp [cmpS, h1]
    unfold bl at h1
    rw [hr]
    clear hr
    go_enter Tryz.func209, Tryz.ntmps209
    go_wp2_with fail
    refine (nanS s).mono ?_
    rintro e w' ⟨rfl, rfl⟩
    go_wp2_with fail
    refine (nanS t).mono ?_
    rintro e w' ⟨rfl, rfl⟩
    go_wp2
    go_ret
    exact ⟨rfl, rfl⟩
  | false =>
    cases h2 : bl t s with
    | true =>
      have hr : cmpS s t = 1 := by simp [cmpS, h1, h2]
      have hne := str_ne (s := s) (t := t) (fun e => by subst e; rw [h1] at h2; cases h2)
      unfold bl at h1 h2
      rw [hr]
      clear hr
      go_enter Tryz.func209, Tryz.ntmps209
      go_wp2_with fail
      refine (nanS s).mono ?_
      rintro e w' ⟨rfl, rfl⟩
      go_wp2_with fail
      refine (nanS t).mono ?_
      rintro e w' ⟨rfl, rfl⟩
      go_wp2
      go_ret
      exact ⟨rfl, rfl⟩
    | false =>
      have hr : cmpS s t = 0 := by simp [cmpS, h1, h2]
      obtain rfl := bl_total h1 h2
      unfold bl at h1
      clear h2
      rw [hr]
      clear hr
      go_enter Tryz.func209, Tryz.ntmps209
      go_wp2_with fail
      refine (nanS s).mono ?_
      rintro e w' ⟨rfl, rfl⟩
      go_wp2_with fail
      refine (nanS s).mono ?_
      rintro e w' ⟨rfl, rfl⟩
      go_wp2
      go_ret
      exact ⟨rfl, rfl⟩
/-- cmp.Or of two. -/
theorem or2 {w : World} {g c : Nat} {fr : Nat × Nat} {e : TypeId} (a b : Int) (h : w.heap[g]? = some (.cells #[.int .i64 a, .int .i64 b] e fr)) : Calls Tryz.prog 207 #[.slice (some ⟨g, 0, none⟩) 2 c] w fun e w' => e = .returned (.int .i64 (if a = 0 then b else a)) ∧ w = w' := by
  have x0 := blk_cell h (j := 0) rfl
  have x1 := blk_cell h (j := 1) rfl
  clear h
  obtain ⟨res, hres⟩ : ∃ res, (if a = 0 then b else a) = res := ⟨_, rfl⟩
  rw [hres]
  have HR := Lib.hid hres
  clear hres
  go_enter Tryz.func207, Tryz.ntmps207
  go_wp2
  go_loopg [5, 8] 2 (fun gk _ i wr => ∃ k : Nat, k ≤ 2 ∧ gk = 2 - k ∧ i = .int .i64 (k : Int) ∧ w = wr ∧ (1 ≤ k → a = 0) ∧ (2 ≤ k → b = 0))
  case atStart => exact ⟨0, by omega, rfl, rfl, rfl, by omega, by omega⟩
  case round =>
    obtain ⟨k, hk, rfl, rfl, rfl, ha, hb⟩ := hrel
    have HA := Lib.hid ha
    have HB := Lib.hid hb
    clear ha hb
    rcases (show k = 0 ∨ k = 1 ∨ k = 2 by omega) with rfl | rfl | rfl
    · by_cases h0 : a = 0
      · subst h0
        go_wp2
        go_roundg 1
        case measure => omega
        case rel => exact ⟨1, by omega, rfl, rfl, rfl, by simp, by omega⟩
      · have d := int_bne h0
        have H0 := Lib.hid h0
        clear h0
        go_wp2
        go_ret
        exact ⟨by rw [← HR.out, if_neg H0.out]; rfl, rfl⟩
    · by_cases h0 : b = 0
      · subst h0
        go_wp2
        go_roundg 0
        case measure => omega
        case rel => exact ⟨2, by omega, rfl, rfl, rfl, fun _ => HA.out (by omega), by simp⟩
      · have d := int_bne h0
        clear h0
        go_wp2
        go_ret
        exact ⟨by rw [← HR.out, if_pos (HA.out (by omega))]; rfl, rfl⟩
    · go_wp2
      go_ret
      exact ⟨by rw [← HR.out, if_pos (HA.out (by omega)), HB.out (by omega)]; rfl, rfl⟩
end Go.Proofs.YtgcpoppinnnciaaGreatDoor
/- slices.IndexFunc, slices.ContainsFunc over entries. -/
set_option linter.unusedVariables false
set_option linter.unusedSimpArgs false
namespace Go.Proofs.YtgcpoppinnnciaaGreatDoor
open Go Go.RowKit Go.Proofs.YtgcpoppinnnciaaGreatDoor.Pal Go.Proofs.YtgcpoppinnnciaaGreatDoor.Plan

def firstP (p : Nat → Bool) (n : Nat) : Option Nat := (List.range n).find? p
theorem firstP_none {p : Nat → Bool} {n : Nat} (h : ∀ j, j < n → p j = false) : firstP p n = none := by
  unfold firstP
  rw [List.find?_eq_none]
  intro x hx
  rw [h x (by simpa using hx)]
  decide
theorem firstP_some {p : Nat → Bool} : ∀ {n k : Nat}, k < n → p k = true → (∀ j, j < k → p j = false) → firstP p n = some k
  | 0, _, h, _, _ => by omega
  | n + 1, k, h, hk, hlt => by
    unfold firstP
    rw [List.range_succ, List.find?_append]
    by_cases hn : k < n
    · have := firstP_some hn hk hlt
      unfold firstP at this
      rw [this]; rfl
    · obtain rfl : k = n := by omega
      have := firstP_none hlt
      unfold firstP at this
      rw [this]
      simp [hk]
theorem firstP_any (p : Nat → Bool) (n : Nat) : (List.range n).any p = (firstP p n).isSome := by
  unfold firstP
  rw [Bool.eq_iff_iff, List.any_eq_true, List.find?_isSome]
/-- A predicate's contract: a closure (function g, what it captured: lb), at each entry of l. -/
def PredC (g : Nat) (lb : Array Value) (l : List Ent) (p : Nat → Bool) (w : World) : Prop :=
  ∀ W, Unch none_ w W → ∀ i, i < l.length → Calls Tryz.prog g (#[(ent l i).val] ++ lb) W fun e W' => e = .returned (.bool (p i)) ∧ Unch none_ W W'
theorem PredC.next {g : Nat} {lb : Array Value} {l : List Ent} {p : Nat → Bool} {w w1 : World} (h : PredC g lb l p w) (hu : Unch none_ w w1) : PredC g lb l p w1 := fun W h1 => h W (hu.trans h1)
theorem RdS.ent {w : World} {A : Option Addr} {n : Nat} {l : List Ent} (h : RdS w 5 EntR A n l) {k : Nat} (hk : k < n) : ∃ b o, A = some ⟨b, o, none⟩ ∧ b < w.heap.size ∧
    w.cell? ⟨b, o + k * 5, none⟩ = some (.string (ent l k).id) ∧ w.cell? ⟨b, o + k * 5 + 1, none⟩ = some (.int .i64 (ent l k).kind) ∧ w.cell? ⟨b, o + k * 5 + 2, none⟩ = some (.string (ent l k).author) ∧
    w.cell? ⟨b, o + k * 5 + 3, none⟩ = some (ent l k).pv ∧ w.cell? ⟨b, o + k * 5 + 4, none⟩ = some (.string (ent l k).body) := by
  obtain ⟨b, o, c, hA, hb, _, hc, hcell⟩ := h.at (ent_get (l := l) (i := k) (by rw [h.len]; exact hk))
  unfold EntR at hc
  subst hc
  exact ⟨b, o, hA, hb, hcell 0 _ rfl, hcell 1 _ rfl, hcell 2 _ rfl, hcell 3 _ rfl, hcell 4 _ rfl⟩
set_option maxHeartbeats 1000000 in
theorem indexFunc_ok {w : World} {A : Option Addr} {n c : Nat} {l : List Ent} (h : RdS w 5 EntR A n l) {g : Nat} {lb : Array Value} (eg : ∀ args w, (callFunc g args).run Tryz.prog w = .ok (.enter g args) w) {p : Nat → Bool} (hp : PredC g lb l p w) :
    Calls Tryz.prog 192 #[.slice A n c, .func (.func g) #[] lb] w fun e w' => e = .returned (.int .i64 (optI (firstP p n))) ∧ Unch none_ w w' := by
  have hn := h.max
  have hl := h.len
  unfold maxLen at hn
  obtain ⟨res, hres⟩ : ∃ res, firstP p n = res := ⟨_, rfl⟩
  rw [hres]
  have HR := Lib.hid hres
  have HP := Lib.hid hp
  have HL := Lib.hid hl
  clear hres hp hl
  go_enter Tryz.func192, Tryz.ntmps192
  go_wp2
  go_loopg [5, 8] n (fun gk _ i wr => ∃ k : Nat, k ≤ n ∧ gk = n - k ∧ i = .int .i64 (k : Int) ∧ Unch none_ w wr ∧ ∀ j, j < k → p j = false)
  case atStart => exact ⟨0, Nat.zero_le _, rfl, rfl, Unch.refl _ _, fun j hj => by omega⟩
  case round =>
    obtain ⟨k, hk, rfl, rfl, hu, hall⟩ := hrel
    obtain ⟨w2, rfl⟩ : ∃ w2, w2 = wr := ⟨_, rfl⟩
    have HALL := Lib.hid hall
    clear hall
    by_cases hkn : k < n
    · obtain ⟨b, o, rfl, hb, x0, x1, x2, x3, x4⟩ := RdS.ent (RdS.fresh h hu) hkn
      have z0 : (0 : Int) ≤ (k : Int) := by omega
      have z1 : (k : Int) < (n : Int) := by omega
      have hcall := HP.out w2 hu k (by rw [HL.out]; exact hkn)
      unfold Ent.val at hcall
      cases hq : p k with
      | true =>
        rw [hq] at hcall
        have HF := Lib.hid (firstP_some hkn hq HALL.out)
        clear hq
        go_wp2_with (go_at_fn g; refine hcall.mono ?_; rintro e w' ⟨rfl, hu3⟩)
        go_ret
        exact ⟨by rw [← HR.out, HF.out]; rfl, hu.trans hu3⟩
      | false =>
        rw [hq] at hcall
        have HQ := Lib.hid hq
        clear hq
        go_wp2_with (go_at_fn g; refine hcall.mono ?_; rintro e w' ⟨rfl, hu3⟩)
        go_roundg (n - (k + 1))
        case measure => omega
        case rel =>
          refine ⟨k + 1, by omega, rfl, by go_num, hu.trans hu3, fun j hj => ?_⟩
          rcases Nat.lt_or_ge j k with h1 | h1
          · exact HALL.out j h1
          · obtain rfl : j = k := by omega
            exact HQ.out
    · obtain rfl : k = n := by omega
      have HF := Lib.hid (firstP_none HALL.out)
      go_wp2
      go_ret
      exact ⟨by rw [← HR.out, HF.out]; rfl, hu⟩
theorem containsFunc_ok {w : World} {A : Option Addr} {n c : Nat} {l : List Ent} (h : RdS w 5 EntR A n l) {g : Nat} {lb : Array Value} (eg : ∀ args w, (callFunc g args).run Tryz.prog w = .ok (.enter g args) w) {p : Nat → Bool} (hp : PredC g lb l p w) :
    Calls Tryz.prog 212 #[.slice A n c, .func (.func g) #[] lb] w fun e w' => e = .returned (.bool ((List.range n).any p)) ∧ Unch none_ w w' := by
  have hc := indexFunc_ok (c := c) h eg hp
  rw [firstP_any]
  cases hf : firstP p n with
  | none =>
    rw [hf] at hc
    simp only [optI] at hc
    have HC := Lib.hid hc
    clear hc hf hp h
    go_enter Tryz.func212, Tryz.ntmps212
    go_wp2_with fail
    refine HC.out.mono ?_
    rintro e w' ⟨rfl, hu⟩
    go_wp2
    go_ret
    exact ⟨rfl, hu⟩
  | some k =>
    rw [hf] at hc
    simp only [optI] at hc
    have HC := Lib.hid hc
    have z0 : (0 : Int) ≤ (k : Int) := by omega
    clear hc hf hp h
    go_enter Tryz.func212, Tryz.ntmps212
    go_wp2_with fail
    refine HC.out.mono ?_
    rintro e w' ⟨rfl, hu⟩
    go_wp2
    go_ret
    exact ⟨rfl, hu⟩
end Go.Proofs.YtgcpoppinnnciaaGreatDoor
