/-
  palaverref15: Of.
  palaverref12: Has, Same; palaverlaw15: few, key, same.
  palaverref12: Sorted.
  palaverref12: Sorted: the walk.
  palaverlaw15.Laid: the plain part: one more entry leaves a list closed.
  palaverlaw15.Laid: entries as they grow.
  palaverlaw15: what is said, as it lies.
-/
import Derived.Test.YtgcpoppinnnciaaGreatDoorCMRd
/- palaverref15: Of. -/
set_option linter.unusedVariables false
set_option linter.unusedSimpArgs false
namespace Go.Proofs.YtgcpoppinnnciaaGreatDoor
open Go Go.RowKit Go.Proofs.YtgcpoppinnnciaaGreatDoor.Pal Go.Proofs.YtgcpoppinnnciaaGreatDoor.Plan

theorem results_c1 {P : Program} {fn : Func} {p : Tmp} {ty : TypeId} (h : fn.results = #[.cell p ty]) (tmps : Array Value) (w : World) (g : Nat) (t : TypeId) (cs : Array Value) (fr : Nat × Nat) (d : TypeDesc)
    (hp : tmps.getD p undef = .pointer (some ⟨g, 0, none⟩)) (hg : w.heap[g]? = some (.cells cs t fr))
    (hu : P.underlying ty = some d) (hd : (match d with | .struct _ | .array _ _ => true | _ => false) = true) (hi : (P.info? ty).map (·.size) = some cs.size) :
    (results fn tmps).run P w = .ok (.agg cs) w := by
  have hp' : tmps[p]?.getD undef = .pointer (some ⟨g, 0, none⟩) := by simpa using hp
  simp [results, h, hp', asAddr, run_loadVar_row w g t ty cs fr d hg hu hd hi]
def goodS (l : List Ent) (r : Nat) : Ms := ⟨l, r, goodL l r⟩
section
variable {w1 : World} {A : Option Addr} {n c : Nat} {l : List Ent} {r : Nat} {D : Nat → Bool} {x : Nat → Value} {w' : World}
end
/-! ### The set that is asked of -/
section
variable {w3 : World} {A : Option Addr} {n c : Nat} {A' : Option Addr} {c' r : Nat} {D : Nat → Bool} {x : Nat → Value} {w' w2 : World}
end
theorem goodU_ge (l : List Ent) (r : Nat) : ∀ (k j : Nat), k ≤ j → goodU l r k j = false
  | 0, _, _ => rfl
  | k + 1, j, h => by
    show (if j = k then _ else goodU l r k j) = false
    rw [if_neg (by omega)]
    exact goodU_ge l r k j (by omega)
theorem goodU_succ (l : List Ent) (r k j : Nat) : goodU l r (k + 1) j = if j = k then decide (k = r) || (!decide ((ent l k).kind = 1) && (past l k r && (Ms.mk l r (fun j => goodU l r k j && past l k j)).member (ent l k).author)) else goodU l r k j := rfl
end Go.Proofs.YtgcpoppinnnciaaGreatDoor
/- palaverref12: Has, Same; palaverlaw15: few, key, same. -/
set_option linter.unusedVariables false
set_option linter.unusedSimpArgs false
namespace Go.Proofs.YtgcpoppinnnciaaGreatDoor
open Go Go.RowKit Go.Proofs.YtgcpoppinnnciaaGreatDoor.Pal

/-! ### Has -/
def hasB (xs : List ByteArray) (s : ByteArray) : Bool := xs.any fun t => decide (t = s)
theorem hasB_t {xs : List ByteArray} {s : ByteArray} {k : Nat} (h : xs[k]? = some s) : hasB xs s = true := List.any_eq_true.2 ⟨s, List.mem_of_getElem? h, decide_eq_true rfl⟩
theorem hasB_f {xs : List ByteArray} {s : ByteArray} {n : Nat} (hl : xs.length = n) (h : ∀ (j : Nat) (e' : ByteArray), j < n → xs[j]? = some e' → e' ≠ s) : hasB xs s = false := by
  refine List.any_eq_false.2 fun t hm => ?_
  intro ht
  obtain rfl := of_decide_eq_true ht
  obtain ⟨j, hj⟩ := List.getElem?_of_mem hm
  exact h j t (by rw [← hl]; exact (List.getElem?_eq_some_iff.1 hj).1) hj rfl
theorem has_ok {w : World} {A : Option Addr} {n c : Nat} {xs : List ByteArray} (h : RdS w 1 StrR A n xs) (s : ByteArray) :
    Calls Tryz.prog 48 #[.slice A n c, .string s] w fun e w' => e = .returned (.bool (hasB xs s)) ∧ w = w' := by
  have hn := h.max
  unfold maxLen at hn
  go_enter Tryz.func48, Tryz.ntmps48
  go_wp2
  go_loopg [5] n (fun gk i wr => ∃ k : Nat, k ≤ n ∧ gk = n - k ∧ i = .int .i64 (k : Int) ∧ w = wr ∧ ∀ (j : Nat) (e' : ByteArray), j < k → xs[j]? = some e' → e' ≠ s)
  case atStart => exact ⟨0, Nat.zero_le _, rfl, rfl, rfl, fun j e' hj => by omega⟩
  case round =>
    obtain ⟨k, hk, rfl, rfl, rfl, hall⟩ := hrel
    have HALL := Lib.hid hall
    clear hall
    by_cases hkn : k < n
    · obtain ⟨e, he⟩ := get_some h.len hkn
      obtain ⟨b, o, rfl, hb, x0⟩ := RdS.str h he
      have z0 : (0 : Int) ≤ (k : Int) := by omega
      have z1 : (k : Int) < (n : Int) := by omega
      have HE := Lib.hid he
      clear he
      by_cases hid : e = s
      · subst hid
        have HF := Lib.hid (hasB_t HE.out)
        go_wp2
        go_ret
        rw [HF.out]
        exact ⟨rfl, rfl⟩
      · have hid2 := str_ne hid
        have hid3 := Lib.hid hid
        clear hid
        go_wp2
        go_roundg (n - (k + 1))
        case measure => omega
        case rel =>
          refine ⟨k + 1, by omega, rfl, by go_num, rfl, fun j e' hj he' => ?_⟩
          rcases Nat.lt_or_ge j k with h1 | h1
          · exact HALL.out j e' h1 he'
          · obtain rfl : j = k := by omega
            rw [HE.out] at he'
            obtain rfl := Option.some.inj he'
            exact hid3.out
    · obtain rfl : k = n := by omega
      have HF := Lib.hid (hasB_f h.len HALL.out)
      go_wp2
      go_ret
      rw [HF.out]
      exact ⟨rfl, rfl⟩

/-! ### Same -/
theorem same_t {α : Type} [DecidableEq α] {xs ys : List α} {n : Nat} (hx : xs.length = n) (hy : ys.length = n) (h : ∀ j, j < n → xs[j]? = ys[j]?) : decide (xs = ys) = true := by
  refine decide_eq_true (List.ext_getElem? fun i => ?_)
  by_cases hi : i < n
  · exact h i hi
  · rw [List.getElem?_eq_none (by omega), List.getElem?_eq_none (by omega)]
theorem same_f {α : Type} [DecidableEq α] {xs ys : List α} {k : Nat} {x y : α} (hx : xs[k]? = some x) (hy : ys[k]? = some y) (hne : x ≠ y) : decide (xs = ys) = false := by
  refine decide_eq_false fun h => hne ?_
  rw [h, hy] at hx
  exact (Option.some.inj hx).symm
theorem same_len {α : Type} [DecidableEq α] {xs ys : List α} (h : xs.length ≠ ys.length) : decide (xs = ys) = false := decide_eq_false fun e => h (by rw [e])
theorem refsame_ok {w : World} {A B : Option Addr} {n m c d : Nat} {xs ys : List ByteArray} (h : RdS w 1 StrR A n xs) (k : RdS w 1 StrR B m ys) :
    Calls Tryz.prog 12 #[.slice A n c, .slice B m d] w fun e w' => e = .returned (.bool (decide (xs = ys))) ∧ Unch none_ w w' := by
  have hn := h.max
  have hm := k.max
  unfold maxLen at hn hm
  by_cases hnm : n = m
  · subst hnm
    go_enter Tryz.func12, Tryz.ntmps12
    go_wp2
    go_loopg [5] n (fun gk i wr => ∃ k : Nat, k ≤ n ∧ gk = n - k ∧ i = .int .i64 (k : Int) ∧ Unch none_ w wr ∧ ∀ j : Nat, j < k → xs[j]? = ys[j]?)
    case atStart => exact ⟨0, Nat.zero_le _, rfl, rfl, Unch.refl _ _, fun j hj => by omega⟩
    case round =>
      obtain ⟨q, hq, rfl, rfl, hu, hall⟩ := hrel
      obtain ⟨w2, rfl⟩ : ∃ w2, w2 = wr := ⟨_, rfl⟩
      have HALL := Lib.hid hall
      clear hall
      by_cases hqn : q < n
      · obtain ⟨x, hx⟩ := get_some h.len hqn
        obtain ⟨y, hy⟩ := get_some k.len hqn
        obtain ⟨b, o, rfl, hb, x0⟩ := RdS.str (RdS.fresh h hu) hx
        obtain ⟨b', o', rfl, hb', y0⟩ := RdS.str (RdS.fresh k hu) hy
        have x0 := cellU x0
        have y0 := cellU y0
        have z0 : (0 : Int) ≤ (q : Int) := by omega
        have z1 : (q : Int) < (n : Int) := by omega
        have HX := Lib.hid hx
        have HY := Lib.hid hy
        clear hx hy
        by_cases hxy : x = y
        · subst hxy
          go_wp2
          refine wp_region_quiet_u (by kernel_rfl) (by kernel_rfl) (fun _ => ?_)
          repeat (go_big_quiet_step (fail))
          refine wpQuiet_nil ?_
          intro wq hw'
          obtain ⟨⟨wqq, huq⟩, hw''⟩ := hw'
          subst hw''
          go_wp2
          go_roundg (n - (q + 1))
          case measure => omega
          case rel =>
            refine ⟨q + 1, by omega, rfl, by go_num, hu.trans huq, fun j hj => ?_⟩
            rcases Nat.lt_or_ge j q with h1 | h1
            · exact HALL.out j h1
            · obtain rfl : j = q := by omega
              rw [HX.out, HY.out]
        · have hne := str_bne hxy
          have hne3 := str_ne hxy
          have HF := Lib.hid (same_f HX.out HY.out hxy)
          clear hxy
          go_wp2
          refine wp_region_quiet_u (by kernel_rfl) (by kernel_rfl) (fun _ => ?_)
          repeat (go_big_quiet_step (fail))
          refine wpQuiet_nil ?_
          intro wq hw'
          obtain ⟨⟨wqq, huq⟩, hw''⟩ := hw'
          subst hw''
          go_wp2
          go_ret
          rw [HF.out]
          exact ⟨rfl, hu.trans huq⟩
      · obtain rfl : q = n := by omega
        have HF := Lib.hid (same_t h.len k.len HALL.out)
        go_wp2
        go_ret
        rw [HF.out]
        exact ⟨rfl, hu⟩
  · have HF := Lib.hid (same_len (xs := xs) (ys := ys) (by rw [h.len, k.len]; exact hnm))
    have hne : ((n : Int) != (m : Int)) = true := int_bne (by omega)
    have hne2 : (n != m) = true := by simpa using hnm
    go_enter Tryz.func12, Tryz.ntmps12
    go_wp2
    go_ret
    rw [HF.out]
    exact ⟨rfl, Unch.refl _ _⟩
def keyN (x : Int) : Int := wrap64 (65 + wrap64 ((IntKind.u64.wrap x).tmod 5)) % 256
def keyB (x : Int) : ByteArray := ⟨#[UInt8.ofNat (keyN x).toNat]⟩
theorem keyN_toNat (x : Int) : (((UInt8.ofNat (keyN x).toNat).toNat : Nat) : Int) = keyN x := by
  have h1 : 0 ≤ keyN x := Int.emod_nonneg _ (by decide)
  have h2 : keyN x < 256 := Int.emod_lt_of_pos _ (by decide)
  generalize keyN x = y at h1 h2
  rw [UInt8.toNat_ofNat']
  omega
end Go.Proofs.YtgcpoppinnnciaaGreatDoor
/- palaverref12: Sorted. -/
set_option linter.unusedVariables false
set_option linter.unusedSimpArgs false
namespace Go.Proofs.YtgcpoppinnnciaaGreatDoor
open Go Go.RowKit Go.Proofs.YtgcpoppinnnciaaGreatDoor.Pal

/-! ### The plain law -/
def posS (s : ByteArray) (ys : List ByteArray) : Nat := (ys.takeWhile fun y => bl y s).length
def insS (s : ByteArray) (ys : List ByteArray) : List ByteArray := ys.take (posS s ys) ++ s :: ys.drop (posS s ys)
def addS (ys : List ByteArray) (s : ByteArray) : List ByteArray := if hasB ys s then ys else insS s ys
def sortS (xs : List ByteArray) : List ByteArray := xs.foldl addS []
theorem posS_le (s : ByteArray) (ys : List ByteArray) : posS s ys ≤ ys.length := by
  unfold posS
  exact (List.takeWhile_sublist _).length_le
theorem posS_lt {s : ByteArray} {ys : List ByteArray} {k : Nat} {y : ByteArray} (hk : k < posS s ys) (hy : ys[k]? = some y) : bl y s = true := by
  unfold posS at hk
  have h1 : (ys.takeWhile fun y => bl y s)[k]? = some y := by
    have h2 : ys = (ys.takeWhile fun y => bl y s) ++ (ys.dropWhile fun y => bl y s) := (List.takeWhile_append_dropWhile ..).symm
    rw [h2, List.getElem?_append_left hk] at hy
    exact hy
  have := List.all_takeWhile (p := fun y => bl y s) (l := ys)
  exact List.all_eq_true.1 this y (List.mem_of_getElem? h1)
theorem posS_at {s : ByteArray} {ys : List ByteArray} {y : ByteArray} (hy : ys[posS s ys]? = some y) : bl y s = false := by
  have h2 : ys = (ys.takeWhile fun y => bl y s) ++ (ys.dropWhile fun y => bl y s) := (List.takeWhile_append_dropWhile ..).symm
  have h3 : (ys.dropWhile fun y => bl y s)[0]? = some y := by
    have h4 := hy
    rw [h2] at h4
    have hp : posS s ((ys.takeWhile fun y => bl y s) ++ (ys.dropWhile fun y => bl y s)) = (ys.takeWhile fun y => bl y s).length := by rw [← h2]; rfl
    rw [hp, List.getElem?_append_right (Nat.le_refl _), Nat.sub_self] at h4
    exact h4
  have h5 := List.head?_dropWhile_not (fun y => bl y s) ys
  rw [List.head?_eq_getElem?, h3] at h5
  simpa using h5
theorem insS_len (s : ByteArray) (ys : List ByteArray) : (insS s ys).length = ys.length + 1 := by
  have := posS_le s ys
  unfold insS
  simp
  omega
theorem insS_mem {s x : ByteArray} {ys : List ByteArray} : x ∈ insS s ys ↔ x = s ∨ x ∈ ys := by
  unfold insS
  rw [List.mem_append, List.mem_cons]
  constructor
  · rintro (h | h | h)
    · exact .inr (List.mem_of_mem_take h)
    · exact .inl h
    · exact .inr (List.mem_of_mem_drop h)
  · rintro (h | h)
    · exact .inr (.inl h)
    · rw [← List.take_append_drop (posS s ys) ys, List.mem_append] at h
      rcases h with h | h
      · exact .inl h
      · exact .inr (.inr h)
theorem hasB_iff {xs : List ByteArray} {s : ByteArray} : hasB xs s = true ↔ s ∈ xs := by
  unfold hasB
  rw [List.any_eq_true]
  constructor
  · rintro ⟨t, ht, he⟩
    obtain rfl := of_decide_eq_true he
    exact ht
  · intro h
    exact ⟨s, h, decide_eq_true rfl⟩
theorem addS_mem {s x : ByteArray} {ys : List ByteArray} : x ∈ addS ys s ↔ x = s ∨ x ∈ ys := by
  unfold addS
  split
  · rename_i h
    rw [hasB_iff] at h
    constructor
    · exact .inr
    · rintro (rfl | h')
      · exact h
      · exact h'
  · exact insS_mem
theorem addS_len (ys : List ByteArray) (s : ByteArray) : (addS ys s).length ≤ ys.length + 1 := by
  unfold addS
  split
  · omega
  · rw [insS_len]; omega
theorem foldS_mem {x : ByteArray} : ∀ (xs ys : List ByteArray), x ∈ xs.foldl addS ys ↔ x ∈ xs ∨ x ∈ ys := by
  intro xs
  induction xs with
  | nil => intro ys; simp
  | cons a xs ih =>
    intro ys
    rw [List.foldl_cons, ih, addS_mem, List.mem_cons]
    constructor
    · rintro (h | h | h)
      · exact .inl (.inr h)
      · exact .inl (.inl h)
      · exact .inr h
    · rintro ((h | h) | h)
      · exact .inr (.inl h)
      · exact .inl h
      · exact .inr (.inr h)
theorem sortS_mem {x : ByteArray} {xs : List ByteArray} : x ∈ sortS xs ↔ x ∈ xs := by
  unfold sortS
  rw [foldS_mem]
  simp
theorem sortS_take {xs : List ByteArray} {k : Nat} {s : ByteArray} (h : xs[k]? = some s) : sortS (xs.take (k + 1)) = addS (sortS (xs.take k)) s := by
  have hk := (List.getElem?_eq_some_iff.1 h).1
  unfold sortS
  rw [List.take_succ_eq_append_getElem hk, (List.getElem?_eq_some_iff.1 h).2, List.foldl_append]
  rfl
theorem foldS_len : ∀ (xs ys : List ByteArray), (xs.foldl addS ys).length ≤ ys.length + xs.length := by
  intro xs
  induction xs with
  | nil => intro ys; simp
  | cons a xs ih =>
    intro ys
    rw [List.foldl_cons]
    have h1 := ih (addS ys a)
    have h2 := addS_len ys a
    rw [List.length_cons]
    omega
theorem sortS_len (xs : List ByteArray) : (sortS xs).length ≤ xs.length := by
  have := foldS_len xs []
  simpa [sortS] using this
/-- Sorted, each once. -/
theorem addS_sorted {s : ByteArray} {ys : List ByteArray} (h : ys.Pairwise fun a b => bl a b = true) : (addS ys s).Pairwise fun a b => bl a b = true := by
  unfold addS
  split
  · exact h
  · rename_i hn
    have hn' : s ∉ ys := fun hm => hn (hasB_iff.2 hm)
    unfold insS
    rw [List.pairwise_append]
    refine ⟨h.sublist (List.take_sublist _ _), ?_, ?_⟩
    · rw [List.pairwise_cons]
      refine ⟨fun y hy => ?_, h.sublist (List.drop_sublist _ _)⟩
      obtain ⟨i, hi⟩ := List.getElem?_of_mem hy
      rw [List.getElem?_drop] at hi
      have hlt : posS s ys < ys.length := by have := (List.getElem?_eq_some_iff.1 hi).1; omega
      have h0 := posS_at (s := s) (ys := ys) (List.getElem?_eq_getElem hlt)
      have hne : ys[posS s ys] ≠ s := fun e => hn' (e ▸ List.getElem_mem hlt)
      have h1 : bl s ys[posS s ys] = true := by
        cases hc : bl s ys[posS s ys] with
        | true => rfl
        | false => exact (hne (bl_total h0 hc)).elim
      cases i with
      | zero =>
        rw [Nat.add_zero, List.getElem?_eq_getElem hlt] at hi
        obtain rfl := Option.some.inj hi
        exact h1
      | succ i =>
        have h3 := (List.getElem?_eq_some_iff.1 hi).1
        have h4 := List.pairwise_iff_getElem.1 h (posS s ys) (posS s ys + (i + 1)) hlt h3 (by omega)
        rw [(List.getElem?_eq_some_iff.1 hi).2] at h4
        exact bl_trans h1 h4
    · intro a ha b hb
      obtain ⟨i, hi⟩ := List.getElem?_of_mem ha
      rw [List.getElem?_take] at hi
      split at hi
      · rename_i hip
        have h1 := posS_lt hip hi
        rcases List.mem_cons.1 hb with rfl | hb
        · exact h1
        · obtain ⟨j, hj⟩ := List.getElem?_of_mem hb
          rw [List.getElem?_drop] at hj
          have h3 := (List.getElem?_eq_some_iff.1 hi)
          have h4 := (List.getElem?_eq_some_iff.1 hj)
          have h5 := List.pairwise_iff_getElem.1 h i (posS s ys + j) h3.1 h4.1 (by omega)
          rw [h3.2, h4.2] at h5
          exact h5
      · cases hi
theorem sortS_sorted (xs : List ByteArray) : (sortS xs).Pairwise fun a b => bl a b = true := by
  unfold sortS
  have : ∀ (xs ys : List ByteArray), (ys.Pairwise fun a b => bl a b = true) → (xs.foldl addS ys).Pairwise fun a b => bl a b = true := by
    intro xs
    induction xs with
    | nil => exact fun ys h => h
    | cons a xs ih => exact fun ys h => ih _ (addS_sorted h)
  exact this xs [] List.Pairwise.nil
/-- A place made free: ys with x put in at j. -/
def gapS (ys : List ByteArray) (j : Nat) (x : ByteArray) : List ByteArray := ys.take j ++ x :: ys.drop j
theorem gapS_end (ys : List ByteArray) (x : ByteArray) : gapS ys ys.length x = ys ++ [x] := by simp [gapS]
theorem gapS_step {ys : List ByteArray} {j : Nat} {x y : ByteArray} (hj : ys[j]? = some y) : (gapS ys (j + 1) x).set (j + 1) y = gapS ys j y := by
  have hlt := (List.getElem?_eq_some_iff.1 hj).1
  have hy := (List.getElem?_eq_some_iff.1 hj).2
  unfold gapS
  rw [List.set_append_right _ _ (by simp; omega)]
  have : j + 1 - (ys.take (j + 1)).length = 0 := by simp; omega
  rw [this, List.set_cons_zero, List.take_succ_eq_append_getElem hlt, hy, List.drop_eq_getElem_cons hlt, hy]
  simp
theorem gapS_get {ys : List ByteArray} {j : Nat} {x y : ByteArray} (hj : ys[j]? = some y) : (gapS ys (j + 1) x)[j]? = some y := by
  have hlt := (List.getElem?_eq_some_iff.1 hj).1
  unfold gapS
  rw [List.getElem?_append_left (by simp; omega), List.getElem?_take_of_lt (by omega), hj]
theorem gapS_put {ys : List ByteArray} {j : Nat} {x s : ByteArray} (hj : j ≤ ys.length) : (gapS ys j x).set j s = gapS ys j s := by
  unfold gapS
  rw [List.set_append_right _ _ (by simp; omega)]
  have : j - (ys.take j).length = 0 := by simp; omega
  rw [this, List.set_cons_zero]
theorem gapS_len {ys : List ByteArray} {j : Nat} {x : ByteArray} (hj : j ≤ ys.length) : (gapS ys j x).length = ys.length + 1 := by
  unfold gapS; simp; omega
end Go.Proofs.YtgcpoppinnnciaaGreatDoor
/- palaverref12: Sorted: the walk. -/
set_option linter.unusedVariables false
set_option linter.unusedSimpArgs false
namespace Go.Proofs.YtgcpoppinnnciaaGreatDoor
open Go Go.RowKit Go.Proofs.YtgcpoppinnnciaaGreatDoor.Pal

def sv (xs : List ByteArray) : List Value := xs.map Value.string
theorem sv_len (xs : List ByteArray) : (sv xs).length = xs.length := by simp [sv]
theorem sv_get {xs : List ByteArray} {k : Nat} {x : ByteArray} (h : xs[k]? = some x) : (sv xs)[k]? = some (.string x) := by simp [sv, h]
theorem sv_set (xs : List ByteArray) (k : Nat) (x : ByteArray) : (sv xs).set k (.string x) = sv (xs.set k x) := by simp [sv, List.map_set]
theorem sv_app (xs ys : List ByteArray) : sv (xs ++ ys) = sv xs ++ sv ys := by simp [sv]
theorem info_str : (Tryz.prog.info? 9).map (fun i => (i.zero, i.size, i.bytes)) = some (some (.string ⟨#[]⟩), 1, 16) := by kernel_rfl
theorem srow_rds {w : World} {A : Option Addr} {n c : Nat} {ys : List ByteArray} (h : Row w 9 1 (.slice A n c) n (sv ys)) : RdS w 1 StrR A n ys := by
  have hl : ys.length = n := by have := h.1; rw [sv_len] at this; omega
  refine ⟨hl, h.max, fun hn => ?_⟩
  obtain ⟨g, o, cap, cur, hv, hh, _⟩ := h.form hn
  injection hv with h1 h2 h3
  refine ⟨g, o, h1, lt_of_heap hh, fun i x hx => ⟨[.string x], rfl, rfl, fun j u hj => ?_⟩⟩
  have : j = 0 := by have := (List.getElem?_eq_some_iff.1 hj).1; simp at this; omega
  subst this
  have hu : u = .string x := by simpa using hj.symm
  rw [hu, Nat.mul_one, Nat.add_zero]
  exact h.at (by rw [h1]) (sv_get hx)
theorem gapS_own {ys : List ByteArray} {j : Nat} {x : ByteArray} (hj : j ≤ ys.length) : (gapS ys j x)[j]? = some x := by
  unfold gapS
  rw [List.getElem?_append_right (by simp; omega)]
  have : j - (ys.take j).length = 0 := by simp; omega
  rw [this]
  rfl
/-- The sorted part, as it grows. -/
structure SMid (w wr : World) (v : Value) (m : Nat) (ys : List ByteArray) : Prop where
  hu : Unch none_ w wr
  own : ∀ b, v.ownBlock = some b → w.heap.size ≤ b
  row : Row wr 9 1 v m (sv ys)
theorem SMid.len {w wr : World} {v : Value} {m : Nat} {ys : List ByteArray} (h : SMid w wr v m ys) : ys.length = m := by have := h.row.1; rw [sv_len] at this; omega
theorem SMid.fresh {w wr w2 : World} {v : Value} {m : Nat} {ys : List ByteArray} (h : SMid w wr v m ys) (hu : Unch none_ wr w2) : SMid w w2 v m ys := ⟨h.hu.trans hu, h.own, h.row.unch hu (fun _ _ h => h)⟩
theorem SMid.app {w wr w2 : World} {v v2 : Value} {m : Nat} {ys : List ByteArray} {x : ByteArray} (h : SMid w wr v m ys) (hr : Row w2 9 1 v2 (m + 1) (sv ys ++ [.string x])) (hu : Unch (fun k => v.ownBlock = some k) wr w2)
    (hat : v2.ownBlock = v.ownBlock ∨ ∃ b, v2.ownBlock = some b ∧ wr.heap.size ≤ b) : SMid w w2 v2 (m + 1) (gapS ys m x) := by
  refine ⟨h.hu.step hu (fun k hk hb => absurd (h.own k hb) (by omega)), fun b hb => ?_, ?_⟩
  · rcases hat with h1 | ⟨b', h1, h2⟩
    · exact h.own b (h1 ▸ hb)
    · rw [h1] at hb; injection hb with hb; subst hb; exact Nat.le_trans h.hu.size h2
  · have : gapS ys m x = ys ++ [x] := by rw [← h.len]; exact gapS_end ys x
    rw [this, sv_app]
    exact hr
theorem SMid.store {w wr : World} {g o c m j : Nat} {ys : List ByteArray} (h : SMid w wr (.slice (some ⟨g, o, none⟩) m c) m ys) (hj : j < m) (y : ByteArray) : SMid w (wr.setCell ⟨g, o + j, none⟩ (.string y)) (.slice (some ⟨g, o, none⟩) m c) m (ys.set j y) := by
  have hg := h.own g rfl
  refine ⟨h.hu.setCell _ (fun hk => absurd hg (by simp at hk; omega)), h.own, ?_⟩
  have := h.row.store rfl j hj (.string y)
  rw [sv_set] at this
  exact this
theorem SMid.at {w wr : World} {g o c m j : Nat} {ys : List ByteArray} {y : ByteArray} (h : SMid w wr (.slice (some ⟨g, o, none⟩) m c) m ys) (hj : ys[j]? = some y) : wr.cell? ⟨g, o + j, none⟩ = some (.string y) := h.row.at rfl (sv_get hj)
theorem SMid.free {w wr : World} {g o c m : Nat} {ys : List ByteArray} (h : SMid w wr (.slice (some ⟨g, o, none⟩) m c) m ys) (j : Nat) : wr.frozen? ⟨g, j, none⟩ = false := h.row.free rfl j
set_option maxRecDepth 100000 in
set_option maxHeartbeats 2000000 in
theorem sorted_ok {w : World} {A : Option Addr} {n c : Nat} {xs : List ByteArray} (h : RdS w 1 StrR A n xs) (hn : n ≤ 1048576) :
    Calls Tryz.prog 18 #[.slice A n c] w fun e w' => ∃ v, e = .returned v ∧ SMid w w' v (sortS xs).length (sortS xs) := by
  go_enter Tryz.func18, Tryz.ntmps18
  go_wp2
  go_loopg [3, 4] n (fun gk v i wr => ∃ k : Nat, k ≤ n ∧ gk = n - k ∧ i = .int .i64 (k : Int) ∧ SMid w wr v (sortS (xs.take k)).length (sortS (xs.take k)))
  case atStart => exact ⟨0, Nat.zero_le _, rfl, rfl, ⟨Unch.refl _ _, fun b hb => (by cases hb), Row.nil _ _ _⟩⟩
  case round =>
    obtain ⟨k, hk, rfl, rfl, hs⟩ := hrel
    obtain ⟨w2, rfl⟩ : ∃ w2, w2 = wr := ⟨_, rfl⟩
    obtain ⟨ys, hys⟩ : ∃ ys, sortS (xs.take k) = ys := ⟨_, rfl⟩
    obtain ⟨m, hm⟩ : ∃ m, ys.length = m := ⟨_, rfl⟩
    have hmk : m ≤ k := by
      rw [← hm, ← hys]
      exact Nat.le_trans (sortS_len _) (List.length_take_le _ _)
    rw [hys, hm] at hs
    obtain ⟨B, cB, rfl, hcB⟩ := hs.row.slice
    by_cases hkn : k < n
    · obtain ⟨s, hsx⟩ := get_some h.len hkn
      have hst := sortS_take hsx
      rw [hys] at hst
      obtain ⟨bl', ol, rfl, hbl, xw⟩ := RdS.str h hsx
      have x0 := hs.hu.cell xw (fun h => h)
      have z0 : (0 : Int) ≤ (k : Int) := by omega
      have z1 : (k : Int) < (n : Int) := by omega
      have hrd := srow_rds hs.row
      cases hhas : hasB ys s with
      | true =>
        have hfo := has_ok (c := cB) hrd s
        rw [hhas] at hfo
        have hst2 : sortS (xs.take (k + 1)) = ys := by rw [hst]; unfold addS; rw [if_pos hhas]
        have HFO := Lib.hid hfo
        have HST := Lib.hid hst2
        clear hfo hhas hst hst2 hys hsx
        go_wp2_with fail
        refine HFO.out.mono ?_
        rintro e w' ⟨rfl, rfl⟩
        go_wp2
        go_roundg (n - (k + 1))
        case measure => omega
        case rel => exact ⟨k + 1, by omega, rfl, by go_num, by rw [HST.out, hm]; exact hs⟩
      | false =>
        have hfo := has_ok (c := cB) hrd s
        rw [hhas] at hfo
        have hst2 : sortS (xs.take (k + 1)) = gapS ys (posS s ys) s := by rw [hst]; unfold addS; rw [if_neg (by rw [hhas]; exact Bool.false_ne_true)]; rfl
        have HFO := Lib.hid hfo
        have HST := Lib.hid hst2
        clear hfo hhas hst hst2 hys hsx
        go_wp2_with fail
        refine HFO.out.mono ?_
        rintro e w' ⟨rfl, rfl⟩
        obtain ⟨p, hp⟩ : ∃ p, posS s ys = p := ⟨_, rfl⟩
        have hpm : p ≤ m := by rw [← hp, ← hm]; exact posS_le _ _
        rw [hp] at HST
        go_wp2
        go_loopg [5] p (fun gk i wr => ∃ q : Nat, q ≤ p ∧ gk = p - q ∧ i = .int .i64 (q : Int) ∧ Unch none_ w2 wr)
        case atStart => exact ⟨0, Nat.zero_le _, rfl, rfl, Unch.refl _ _⟩
        case round =>
          obtain ⟨q, hq, rfl, rfl, hu⟩ := hrel
          obtain ⟨w3, rfl⟩ : ∃ w3, w3 = wr := ⟨_, rfl⟩
          have hs3 := hs.fresh hu
          have x3 := cellU (hu.cell x0 (fun h => h))
          have z2 : (0 : Int) ≤ (q : Int) := by omega
          by_cases hqp : q < p
          · obtain ⟨y, hy⟩ := get_some hm (show q < m by omega)
            obtain ⟨by', oy, rfl, _, y0⟩ := RdS.str (srow_rds hs3.row) hy
            have y0 := cellU y0
            have hb : Op.bytesLess y.toList s.toList = true := posS_lt (by rw [hp]; exact hqp) hy
            have z3 : (q : Int) < (m : Int) := by omega
            clear hy
            go_wp2
            refine wp_region_quiet_u (by kernel_rfl) (by kernel_rfl) (fun _ => ?_)
            repeat (go_big_quiet_step (fail))
            refine wpQuiet_nil ?_
            intro wq hw'
            obtain ⟨⟨wqq, huq⟩, hw''⟩ := hw'
            subst hw''
            go_wp2
            go_roundg (p - (q + 1))
            case measure => omega
            case rel => exact ⟨q + 1, by omega, rfl, by go_num, hu.trans huq⟩
          · obtain rfl : q = p := by omega
            have hx3 := hu.cell x0 (fun h => h)
            clear hq hqp x3
            rcases Nat.lt_or_ge q m with hqm | hqm
            · obtain ⟨y, hy⟩ := get_some hm (show q < m by omega)
              obtain ⟨by', oy, rfl, _, y0⟩ := RdS.str (srow_rds hs3.row) hy
              have y0 := cellU y0
              have x3 := cellU hx3
              have hb : Op.bytesLess y.toList s.toList = false := posS_at (by rw [hp]; exact hy)
              have z3 : (q : Int) < (m : Int) := by omega
              clear hy
              go_wp2
              refine wp_region_quiet_u (by kernel_rfl) (by kernel_rfl) (fun _ => ?_)
              repeat (go_big_quiet_step (fail))
              refine wpQuiet_nil ?_
              intro wq hw'
              obtain ⟨⟨wqq, huq⟩, hw''⟩ := hw'
              subst hw''
              have hs4 := hs3.fresh huq
              clear x0 hx3 hs hs3 hrd HFO
              go_wp2_with (at_builtin; refine wpList_append1 wq rfl (.tmp 36) (.tmp 37) 25 9 _ 1 16 rfl Tryz.underlying25 info_str rfl (by omega) _ m (sv ys) (by rfl) hs4.row [.string ⟨#[]⟩] rfl (by intro u hu; simp at hu; subst hu; rfl) (by rfl) (by simp only [maxLen]; omega) (by omega) ?_; intro v5 w5 hr5 hu5 hat5; obtain ⟨g, o, cap, _, rfl, _⟩ := hr5.form (by omega); have hs5 := hs4.app hr5 hu5 hat5; clear hr5 hat5 hu5 hs4)
              go_loopg [6] (m - q) (fun gk i wr => ∃ (j : Nat) (x : ByteArray), q ≤ j ∧ j ≤ m ∧ gk = j - q ∧ i = .int .i64 (j : Int) ∧ SMid w wr (.slice (some ⟨g, o, none⟩) (m + 1) cap) (m + 1) (gapS ys j x))
              case atStart => exact ⟨m, ⟨#[]⟩, by omega, Nat.le_refl _, rfl, by go_num, hs5⟩
              case round =>
                obtain ⟨J, x, hqj, hjm, rfl, rfl, hs6⟩ := hrel
                obtain ⟨w6, rfl⟩ : ∃ w6, w6 = wr := ⟨_, rfl⟩
                have cJ := hs6.at (gapS_own (ys := ys) (j := J) (x := x) (by omega))
                have fJ := hs6.free (o + J)
                have z4 : (0 : Int) ≤ (J : Int) := by omega
                have z5 : (J : Int) < ((m + 1 : Nat) : Int) := by omega
                by_cases hj : q < J
                · obtain ⟨j, hJ⟩ : ∃ j', J = j' + 1 := ⟨J - 1, by omega⟩
                  obtain ⟨y, hy⟩ := get_some hm (show j < m by omega)
                  have cj := hs6.at (by rw [hJ]; exact gapS_get (x := x) hy)
                  have hs7 := hs6.store (j := J) (by omega) y
                  rw [hJ, gapS_step hy, ← hJ] at hs7
                  have z6 : (J : Int) - 1 = (j : Int) := by omega
                  have z7 : (0 : Int) ≤ (j : Int) := by omega
                  have z8 : (j : Int) < ((m + 1 : Nat) : Int) := by omega
                  have z9 : (q : Int) < (J : Int) := by omega
                  have HS7 := Lib.hid hs7
                  have HJ := Lib.hid hJ
                  clear hJ hs7 hs6 hs5
                  go_wp2
                  go_roundg (j - q)
                  case measure => have := HJ.out; omega
                  case rel => exact ⟨j, y, by omega, by omega, rfl, by go_num, HS7.out⟩
                · obtain rfl : J = q := by omega
                  have hs7 := hs6.store (j := J) (by omega) s
                  rw [gapS_put (by omega)] at hs7
                  have xs6 := hs6.hu.cell xw (fun h => h)
                  have HS7 := Lib.hid hs7
                  clear hs7 hs6 hs5 hj
                  go_wp2
                  go_roundg (n - (k + 1))
                  case measure => omega
                  case rel => exact ⟨k + 1, by omega, rfl, by go_num, by rw [HST.out, gapS_len (by omega), hm]; exact HS7.out⟩
            · have z3 : decide ((q : Int) < (m : Int)) = false := decide_eq_false (by omega)
              have z3' : decide (q < m) = false := decide_eq_false (by omega)
              have x3 := cellU hx3
              go_wp2
              refine wp_region_quiet_u (by kernel_rfl) (by kernel_rfl) (fun _ => ?_)
              repeat (go_big_quiet_step (fail))
              refine wpQuiet_nil ?_
              intro wq hw'
              obtain ⟨⟨wqq, huq⟩, hw''⟩ := hw'
              subst hw''
              have hs4 := hs3.fresh huq
              clear x0 hx3 hs hs3 hrd HFO
              go_wp2_with (at_builtin; refine wpList_append1 wq rfl (.tmp 36) (.tmp 37) 25 9 _ 1 16 rfl Tryz.underlying25 info_str rfl (by omega) _ m (sv ys) (by rfl) hs4.row [.string ⟨#[]⟩] rfl (by intro u hu; simp at hu; subst hu; rfl) (by rfl) (by simp only [maxLen]; omega) (by omega) ?_; intro v5 w5 hr5 hu5 hat5; obtain ⟨g, o, cap, _, rfl, _⟩ := hr5.form (by omega); have hs5 := hs4.app hr5 hu5 hat5; clear hr5 hat5 hu5 hs4)
              go_loopg [6] (m - q) (fun gk i wr => ∃ (j : Nat) (x : ByteArray), q ≤ j ∧ j ≤ m ∧ gk = j - q ∧ i = .int .i64 (j : Int) ∧ SMid w wr (.slice (some ⟨g, o, none⟩) (m + 1) cap) (m + 1) (gapS ys j x))
              case atStart => exact ⟨m, ⟨#[]⟩, by omega, Nat.le_refl _, rfl, by go_num, hs5⟩
              case round =>
                obtain ⟨J, x, hqj, hjm, rfl, rfl, hs6⟩ := hrel
                obtain ⟨w6, rfl⟩ : ∃ w6, w6 = wr := ⟨_, rfl⟩
                have cJ := hs6.at (gapS_own (ys := ys) (j := J) (x := x) (by omega))
                have fJ := hs6.free (o + J)
                have z4 : (0 : Int) ≤ (J : Int) := by omega
                have z5 : (J : Int) < ((m + 1 : Nat) : Int) := by omega
                by_cases hj : q < J
                · exact absurd hj (by omega)
                · obtain rfl : J = q := by omega
                  have hs7 := hs6.store (j := J) (by omega) s
                  rw [gapS_put (by omega)] at hs7
                  have xs6 := hs6.hu.cell xw (fun h => h)
                  have HS7 := Lib.hid hs7
                  clear hs7 hs6 hs5 hj
                  go_wp2
                  go_roundg (n - (k + 1))
                  case measure => omega
                  case rel => exact ⟨k + 1, by omega, rfl, by go_num, by rw [HST.out, gapS_len (by omega), hm]; exact HS7.out⟩
    · obtain rfl : k = n := by omega
      have hf : xs.take k = xs := List.take_of_length_le (by rw [h.len]; exact Nat.le_refl _)
      rw [hf] at hys
      have HYS := Lib.hid hys
      clear hys hf
      go_wp2
      go_ret
      exact ⟨_, rfl, by rw [HYS.out, hm]; exact hs⟩
end Go.Proofs.YtgcpoppinnnciaaGreatDoor
/- palaverlaw15.Laid: the plain part: one more entry leaves a list closed. -/
set_option linter.unusedVariables false
set_option linter.unusedSimpArgs false
namespace Go.Proofs.YtgcpoppinnnciaaGreatDoor
open Go Go.RowKit Go.Proofs.YtgcpoppinnnciaaGreatDoor.Pal

theorem ent_app_lt {l : List Ent} {e : Ent} {i : Nat} (hi : i < l.length) : ent (l ++ [e]) i = ent l i := by
  have h1 := ent_get hi
  have h2 : (l ++ [e])[i]? = some (ent l i) := by rw [List.getElem?_append_left hi]; exact h1
  exact ent_of h2
theorem ent_app_at {l : List Ent} {e : Ent} : ent (l ++ [e]) l.length = e := ent_of (by simp)
theorem Closed.add {l : List Ent} {e : Ent} (h : Closed l) (hl : l.length < 300) (h1 : 1 ≤ e.id.size) (h2 : e.id.size ≤ 64) (hid : ∀ i, i < l.length → (ent l i).id ≠ e.id)
    (hps : ∀ s ∈ e.ps, ∃ p, p < l.length ∧ (ent l p).id = s) : Closed (l ++ [e]) := by
  have hlen : (l ++ [e]).length = l.length + 1 := by simp
  refine ⟨by omega, fun i hi => ?_, fun i hi => ?_, fun i j hi hj he => ?_, fun i s hi hs => ?_⟩
  · rcases Nat.lt_or_ge i l.length with h3 | h3
    · rw [ent_app_lt h3]; exact h.lo i h3
    · obtain rfl : i = l.length := by omega
      rw [ent_app_at]; exact h1
  · rcases Nat.lt_or_ge i l.length with h3 | h3
    · rw [ent_app_lt h3]; exact h.hi i h3
    · obtain rfl : i = l.length := by omega
      rw [ent_app_at]; exact h2
  · rcases Nat.lt_or_ge i l.length with h3 | h3 <;> rcases Nat.lt_or_ge j l.length with h4 | h4
    · rw [ent_app_lt h3, ent_app_lt h4] at he
      exact h.ids i j h3 h4 he
    · obtain rfl : j = l.length := by omega
      rw [ent_app_lt h3, ent_app_at] at he
      exact absurd he (hid i h3)
    · obtain rfl : i = l.length := by omega
      rw [ent_app_lt h4, ent_app_at] at he
      exact absurd he.symm (hid j h4)
    · omega
  · rcases Nat.lt_or_ge i l.length with h3 | h3
    · rw [ent_app_lt h3] at hs
      obtain ⟨p, hp, h5⟩ := h.pars i s h3 hs
      exact ⟨p, hp, by rw [ent_app_lt (by omega)]; exact h5⟩
    · obtain rfl : i = l.length := by omega
      rw [ent_app_at] at hs
      obtain ⟨p, hp, h5⟩ := hps s hs
      exact ⟨p, hp, by rw [ent_app_lt hp]; exact h5⟩
/-- The id of the entry behind k others (k from 1 on): a letter, and the place's two digits. -/
def idB (a : UInt8) (k : Nat) : ByteArray := ⟨#[a, UInt8.ofNat (48 + k / 10), UInt8.ofNat (48 + k % 10)]⟩
theorem idB_inj {a b : UInt8} {i j : Nat} (hi : i < 100) (hj : j < 100) (h : idB a i = idB b j) : i = j := by
  unfold idB at h
  injection h with h
  have h1 : UInt8.ofNat (48 + i / 10) = UInt8.ofNat (48 + j / 10) := by have := congrArg (fun x => x[1]?) h; simpa using this
  have h2 : UInt8.ofNat (48 + i % 10) = UInt8.ofNat (48 + j % 10) := by have := congrArg (fun x => x[2]?) h; simpa using this
  have h3 := congrArg UInt8.toNat h1
  have h4 := congrArg UInt8.toNat h2
  rw [UInt8.toNat_ofNat', UInt8.toNat_ofNat'] at h3 h4
  omega
theorem idB_size (a : UInt8) (k : Nat) : (idB a k).size = 3 := rfl
end Go.Proofs.YtgcpoppinnnciaaGreatDoor
/- palaverlaw15.Laid: entries as they grow. -/
set_option linter.unusedVariables false
set_option linter.unusedSimpArgs false
namespace Go.Proofs.YtgcpoppinnnciaaGreatDoor
open Go Go.RowKit Go.Proofs.YtgcpoppinnnciaaGreatDoor.Pal

def ecells (es : List Ent) : List Value := es.flatMap Ent.cells
theorem cells_len (e : Ent) : e.cells.length = 5 := rfl
theorem ecells_get : ∀ (es : List Ent) (i j : Nat) (e : Ent) (u : Value), es[i]? = some e → e.cells[j]? = some u → (ecells es)[i * 5 + j]? = some u
  | [], i, j, e, u, h, _ => by cases i <;> cases h
  | a :: es, 0, j, e, u, h, hu => by
    obtain rfl : a = e := by simpa using h
    have hj := (List.getElem?_eq_some_iff.1 hu).1
    show (a.cells ++ ecells es)[0 * 5 + j]? = some u
    rw [List.getElem?_append_left (by omega), Nat.zero_mul, Nat.zero_add]
    exact hu
  | a :: es, i + 1, j, e, u, h, hu => by
    have h' : es[i]? = some e := by simpa using h
    have := ecells_get es i j e u h' hu
    show (a.cells ++ ecells es)[(i + 1) * 5 + j]? = some u
    rw [List.getElem?_append_right (by rw [cells_len]; omega), cells_len, show (i + 1) * 5 + j - 5 = i * 5 + j by omega]
    exact this
theorem ecells_app (es : List Ent) (e : Ent) : ecells (es ++ [e]) = ecells es ++ e.cells := by simp [ecells]
structure EntS (w : World) (e : Ent) : Prop where
  ps : Row w 9 1 e.pv e.ps.length (sv e.ps)
  sid : e.id.size ≤ maxLen
  saut : e.author.size ≤ maxLen
  sbody : e.body.size ≤ maxLen
  sps : ∀ p ∈ e.ps, p.size ≤ maxLen
theorem EntS.ok {w : World} {e : Ent} (h : EntS w e) : EntOk w e := by
  obtain ⟨A, c, hv, hc⟩ := h.ps.slice
  have hr := h.ps
  rw [hv] at hr
  exact ⟨⟨A, c, hv, hc, srow_rds hr⟩, h.sid, h.saut, h.sbody, h.sps⟩
structure LMid (w wr : World) (v : Value) (es : List Ent) : Prop where
  hu : Unch none_ w wr
  own : ∀ b, v.ownBlock = some b → w.heap.size ≤ b
  row : Row wr 114 5 v es.length (ecells es)
  ents : ∀ e ∈ es, EntS wr e
theorem LMid.rd {w wr : World} {A : Option Addr} {n c : Nat} {es : List Ent} (h : LMid w wr (.slice A n c) es) (hn : n = es.length) : Ents wr A n es := by
  subst hn
  refine ⟨⟨rfl, h.row.max, fun hn => ?_⟩, fun e he => (h.ents e he).ok⟩
  obtain ⟨g, o, cap, cur, hv, hh, _⟩ := h.row.form hn
  injection hv with h1 h2 h3
  refine ⟨g, o, h1, lt_of_heap hh, fun i x hx => ⟨x.cells, rfl, rfl, fun j u hj => ?_⟩⟩
  have := h.row.at (by rw [h1]) (ecells_get es i j x u hx hj)
  rw [← Nat.add_assoc] at this
  exact this
theorem EntS.fresh {w wr : World} {e : Ent} (h : EntS w e) (hu : Unch none_ w wr) : EntS wr e := ⟨h.ps.unch hu (fun _ _ h => h), h.sid, h.saut, h.sbody, h.sps⟩
theorem LMid.fresh {w wr w2 : World} {v : Value} {es : List Ent} (h : LMid w wr v es) (hu : Unch none_ wr w2) : LMid w w2 v es :=
  ⟨h.hu.trans hu, h.own, h.row.unch hu (fun _ _ h => h), fun e he => (h.ents e he).fresh hu⟩
/-- One more. -/
theorem LMid.app {w wr w2 : World} {v v2 : Value} {es : List Ent} {e : Ent} (h : LMid w wr v es) (hE : EntS wr e) (hr : Row w2 114 5 v2 (es.length + 1) (ecells es ++ e.cells)) (hu : Unch (fun k => v.ownBlock = some k) wr w2)
    (hat : v2.ownBlock = v.ownBlock ∨ ∃ b, v2.ownBlock = some b ∧ wr.heap.size ≤ b) : LMid w w2 v2 (es ++ [e]) := by
  refine ⟨h.hu.step hu (fun k hk hb => absurd (h.own k hb) (by omega)), fun b hb => ?_, ?_, fun x hx => ?_⟩
  · rcases hat with h1 | ⟨b', h1, h2⟩
    · exact h.own b (h1 ▸ hb)
    · rw [h1] at hb; injection hb with hb; subst hb; exact Nat.le_trans h.hu.size h2
  · rw [ecells_app]
    have : (es ++ [e]).length = es.length + 1 := by simp
    rw [this]
    exact hr
  · have hx' : EntS wr x := by
      rcases List.mem_append.1 hx with hx | hx
      · exact h.ents x hx
      · simp at hx; subst hx; exact hE
    refine ⟨hx'.ps.unch hu (fun k hk hv => ?_), hx'.sid, hx'.saut, hx'.sbody, hx'.sps⟩
    obtain ⟨c1, h1⟩ := hx'.ps.blk hk
    obtain ⟨c2, h2⟩ := h.row.blk hv
    rw [h1] at h2
    injection h2 with h2
    injection h2 with _ h2
    exact absurd h2 (by decide)
end Go.Proofs.YtgcpoppinnnciaaGreatDoor
/- palaverlaw15: what is said, as it lies. -/
set_option linter.unusedVariables false
set_option linter.unusedSimpArgs false
namespace Go.Proofs.YtgcpoppinnnciaaGreatDoor
open Go Go.RowKit Go.Proofs.YtgcpoppinnnciaaGreatDoor.Pal

structure Say where
  kind : Int
  who : Int
  whom : Int
  bv : Value
  behind : List Int
  name : Int
def Say.cells (x : Say) : List Value := [.int .i64 x.kind, .int .i64 x.who, .int .i64 x.whom, x.bv, .int .u8 x.name]
def Say.val (x : Say) : Value := .agg #[.int .i64 x.kind, .int .i64 x.who, .int .i64 x.whom, x.bv, .int .u8 x.name]
def IntR (x : Int) (c : List Value) : Prop := c = [.int .i64 x] ∧ i64ok x
def SayR (x : Say) (c : List Value) : Prop := c = x.cells
structure SayOk (w : World) (x : Say) : Prop where
  bs : ∃ A c, x.bv = .slice A x.behind.length c ∧ x.behind.length ≤ c ∧ RdS w 1 IntR A x.behind.length x.behind
  kind : i64ok x.kind
  who : i64ok x.who
  whom : i64ok x.whom
  name : 0 ≤ x.name ∧ x.name ≤ 255
structure Says (w : World) (A : Option Addr) (n : Nat) (l : List Say) : Prop where
  rd : RdS w 5 SayR A n l
  ok : ∀ x ∈ l, SayOk w x
section
variable {w w1 : World} {A : Option Addr} {n : Nat} {l : List Say}
theorem SayOk.fresh {x : Say} (h : SayOk w x) (hu : Unch none_ w w1) : SayOk w1 x := by
  obtain ⟨⟨A, c, h1, h2, h3⟩, a, b, c', d⟩ := h
  exact ⟨⟨A, c, h1, h2, RdS.fresh h3 hu⟩, a, b, c', d⟩
theorem Says.fresh (h : Says w A n l) (hu : Unch none_ w w1) : Says w1 A n l := ⟨RdS.fresh h.rd hu, fun e he => (h.ok e he).fresh hu⟩
theorem Says.len (h : Says w A n l) : l.length = n := h.rd.len
theorem Says.at (h : Says w A n l) {k : Nat} {x : Say} (hx : l[k]? = some x) : ∃ b o, A = some ⟨b, o, none⟩ ∧ b < w.heap.size ∧
    w.cell? ⟨b, o + k * 5, none⟩ = some (.int .i64 x.kind) ∧ w.cell? ⟨b, o + k * 5 + 1, none⟩ = some (.int .i64 x.who) ∧ w.cell? ⟨b, o + k * 5 + 2, none⟩ = some (.int .i64 x.whom) ∧
    w.cell? ⟨b, o + k * 5 + 3, none⟩ = some x.bv ∧ w.cell? ⟨b, o + k * 5 + 4, none⟩ = some (.int .u8 x.name) := by
  obtain ⟨b, o, c, hA, hb, _, hc, hcell⟩ := h.rd.at hx
  unfold SayR at hc
  subst hc
  exact ⟨b, o, hA, hb, hcell 0 _ rfl, hcell 1 _ rfl, hcell 2 _ rfl, hcell 3 _ rfl, hcell 4 _ rfl⟩
theorem RdS.int {xs : List Int} (h : RdS w 1 IntR A n xs) {k : Nat} {s : Int} (hs : xs[k]? = some s) : i64ok s ∧ ∃ b o, A = some ⟨b, o, none⟩ ∧ b < w.heap.size ∧ w.cell? ⟨b, o + k, none⟩ = some (.int .i64 s) := by
  obtain ⟨b, o, c, hA, hb, _, ⟨hc, hok⟩, hcell⟩ := h.at hs
  subst hc
  have := hcell 0 _ rfl
  rw [Nat.mul_one, Nat.add_zero] at this
  exact ⟨hok, b, o, hA, hb, this⟩
end
end Go.Proofs.YtgcpoppinnnciaaGreatDoor
