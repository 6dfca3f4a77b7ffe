/-
  slices over strings: IndexFunc, Index, Contains, Clone, DeleteFunc.
  slices.DeleteFunc over strings.
  recon: few, Ask.
-/
import Derived.Test.YtgcpoppinnnciaaGreatDoorCVW1
import Derived.Test.YtgcpoppinnnciaaGreatDoorCKM2
import Derived.Test.YtgcpoppinnnciaaGreatDoorCMRef17
import Derived.Test.YtgcpoppinnnciaaGreatDoorCBase
/- slices over strings: IndexFunc, Index, Contains, Clone, DeleteFunc. -/
set_option linter.unusedVariables false
set_option linter.unusedSimpArgs false
set_option maxRecDepth 100000
namespace Go.Proofs.YtgcpoppinnnciaaGreatDoor
open Go Go.RowKit Go.Proofs.YtgcpoppinnnciaaGreatDoor.Pal Go.Proofs.YtgcpoppinnnciaaGreatDoor.Plan

/-- A predicate's contract, in whatever world in which all but X is as it was. -/
def PredX (X : Nat → Prop) (g : Nat) (lb : Array Value) (p : ByteArray → Bool) (w : World) : Prop :=
  ∀ W, Unch X w W → ∀ s, Calls Tryz.prog g (#[.string s] ++ lb) W fun e W' => e = .returned (.bool (p s)) ∧ Unch none_ W W'
def firstS (p : ByteArray → Bool) (xs : List ByteArray) : Option Nat := xs.findIdx? p
theorem firstS_none {p : ByteArray → Bool} {xs : List ByteArray} (h : ∀ (j : Nat) (x : ByteArray), xs[j]? = some x → p x = false) : firstS p xs = none := by
  unfold firstS
  rw [List.findIdx?_eq_none_iff]
  intro x hx
  obtain ⟨j, hj⟩ := List.mem_iff_getElem?.1 hx
  rw [h j x hj]
theorem firstS_some {p : ByteArray → Bool} {xs : List ByteArray} {k : Nat} {x : ByteArray} (hk : xs[k]? = some x) (hp : p x = true) (h : ∀ (j : Nat) (y : ByteArray), j < k → xs[j]? = some y → p y = false) : firstS p xs = some k := by
  unfold firstS
  rw [List.findIdx?_eq_some_iff_getElem]
  obtain ⟨h1, h2⟩ := List.getElem?_eq_some_iff.1 hk
  refine ⟨h1, by rw [h2]; exact hp, fun j hj => ?_⟩
  rw [h j _ hj (List.getElem?_eq_getElem (by omega))]
  decide
set_option maxHeartbeats 1000000 in
theorem indexFuncS_ok {w : World} {A : Option Addr} {n c : Nat} {xs : List ByteArray} (h : RdS w 1 StrR A n xs) {X : Nat → Prop} {g : Nat} {lb : Array Value} (eg : ∀ args w, (callFunc g args).run Tryz.prog w = .ok (.enter g args) w) {p : ByteArray → Bool} (hp : PredX X g lb p w) :
    Calls Tryz.prog 53 #[.slice A n c, .func (.func g) #[] lb] w fun e w' => e = .returned (.int .i64 (optI (firstS p xs))) ∧ Unch none_ w w' := by
  have hn := h.max
  have hl := h.len
  unfold maxLen at hn
  obtain ⟨res, hres⟩ : ∃ res, firstS p xs = res := ⟨_, rfl⟩
  rw [hres]
  have HR := Lib.hid hres
  have HP := Lib.hid hp
  have HL := Lib.hid hl
  have HH := Lib.hid h
  clear hres hp hl h
  go_enter Tryz.func53, Tryz.ntmps53
  go_wp2
  go_loopg [5, 8] n (fun gk _ i wr => ∃ k : Nat, k ≤ n ∧ gk = n - k ∧ i = .int .i64 (k : Int) ∧ Unch none_ w wr ∧ ∀ j x, j < k → xs[j]? = some x → p x = false)
  case atStart => exact ⟨0, Nat.zero_le _, rfl, rfl, Unch.refl _ _, fun j x hj => by omega⟩
  case round =>
    obtain ⟨k, hk, rfl, rfl, hu, hall⟩ := hrel
    obtain ⟨w2, rfl⟩ : ∃ w2, w2 = wr := ⟨_, rfl⟩
    have HALL := Lib.hid hall
    clear hall
    by_cases hkn : k < n
    · obtain ⟨x, hx⟩ := get_some HL.out hkn
      obtain ⟨b, o, rfl, hb, x0⟩ := RdS.str (RdS.fresh HH.out hu) hx
      have z0 : (0 : Int) ≤ (k : Int) := by omega
      have z1 : (k : Int) < (n : Int) := by omega
      have hcall := HP.out w2 (hu.mono (fun _ _ h => h.elim)) x
      cases hq : p x with
      | true =>
        rw [hq] at hcall
        have HF := Lib.hid (firstS_some hx hq HALL.out)
        clear hq hx
        go_wp2_with (go_at_fn g; refine hcall.mono ?_; rintro e w' ⟨rfl, hu3⟩)
        go_ret
        exact ⟨by rw [← HR.out, HF.out]; rfl, hu.trans hu3⟩
      | false =>
        rw [hq] at hcall
        have HQ := Lib.hid hq
        have HX := Lib.hid hx
        clear hq hx
        go_wp2_with (go_at_fn g; refine hcall.mono ?_; rintro e w' ⟨rfl, hu3⟩)
        go_roundg (n - (k + 1))
        case measure => omega
        case rel =>
          refine ⟨k + 1, by omega, rfl, by go_num, hu.trans hu3, fun j y hj hy => ?_⟩
          rcases Nat.lt_or_ge j k with h1 | h1
          · exact HALL.out j y h1 hy
          · obtain rfl : j = k := by omega
            rw [HX.out] at hy
            injection hy with hy
            rw [← hy]
            exact HQ.out
    · obtain rfl : k = n := by omega
      have HF := Lib.hid (firstS_none (p := p) (xs := xs) (fun j x hj => HALL.out j x (by have := (List.getElem?_eq_some_iff.1 hj).1; rw [HL.out] at this; exact this) hj))
      go_wp2
      go_ret
      exact ⟨by rw [← HR.out, HF.out]; rfl, hu⟩
set_option maxHeartbeats 1000000 in
theorem indexS_ok {w : World} {A : Option Addr} {n c : Nat} {xs : List ByteArray} (h : RdS w 1 StrR A n xs) (s : ByteArray) :
    Calls Tryz.prog 64 #[.slice A n c, .string s] w fun e w' => e = .returned (.int .i64 (optI (firstS (fun x => decide (s = x)) xs))) ∧ w = w' := by
  have hn := h.max
  have hl := h.len
  unfold maxLen at hn
  obtain ⟨res, hres⟩ : ∃ res, firstS (fun x => decide (s = x)) xs = res := ⟨_, rfl⟩
  rw [hres]
  have HR := Lib.hid hres
  have HL := Lib.hid hl
  have HH := Lib.hid h
  clear hres hl h
  go_enter Tryz.func64, Tryz.ntmps64
  go_wp2
  go_loopg [5, 8] n (fun gk _ i wr => ∃ k : Nat, k ≤ n ∧ gk = n - k ∧ i = .int .i64 (k : Int) ∧ w = wr ∧ ∀ j x, j < k → xs[j]? = some x → decide (s = x) = false)
  case atStart => exact ⟨0, Nat.zero_le _, rfl, rfl, rfl, fun j x hj => by omega⟩
  case round =>
    obtain ⟨k, hk, rfl, rfl, rfl, hall⟩ := hrel
    have HALL := Lib.hid hall
    clear hall
    by_cases hkn : k < n
    · obtain ⟨x, hx⟩ := get_some HL.out hkn
      obtain ⟨b, o, rfl, hb, x0⟩ := RdS.str HH.out hx
      have z0 : (0 : Int) ≤ (k : Int) := by omega
      have z1 : (k : Int) < (n : Int) := by omega
      have hbq := str_beq (s := s) (t := x)
      cases hq : decide (s = x) with
      | true =>
        rw [hq] at hbq
        have HF := Lib.hid (firstS_some (p := fun x => decide (s = x)) hx hq HALL.out)
        clear hq hx
        go_wp2
        go_ret
        exact ⟨by rw [← HR.out, HF.out]; rfl, rfl⟩
      | false =>
        rw [hq] at hbq
        have HQ := Lib.hid hq
        have HX := Lib.hid hx
        clear hq hx
        go_wp2
        go_roundg (n - (k + 1))
        case measure => omega
        case rel =>
          refine ⟨k + 1, by omega, rfl, by go_num, rfl, fun j y hj hy => ?_⟩
          rcases Nat.lt_or_ge j k with h1 | h1
          · exact HALL.out j y h1 hy
          · obtain rfl : j = k := by omega
            rw [HX.out] at hy
            injection hy with hy
            rw [← hy]
            exact HQ.out
    · obtain rfl : k = n := by omega
      have HF := Lib.hid (firstS_none (p := fun x => decide (s = x)) (xs := xs) (fun j x hj => HALL.out j x (by have := (List.getElem?_eq_some_iff.1 hj).1; rw [HL.out] at this; exact this) hj))
      go_wp2
      go_ret
      exact ⟨by rw [← HR.out, HF.out]; rfl, rfl⟩
theorem containsS_ok {w : World} {A : Option Addr} {n c : Nat} {xs : List ByteArray} (h : RdS w 1 StrR A n xs) (s : ByteArray) :
    Calls Tryz.prog 34 #[.slice A n c, .string s] w fun e w' => e = .returned (.bool (xs.any fun x => decide (s = x))) ∧ w = w' := by
  have hc := indexS_ok (c := c) h s
  have ha : (xs.any fun x => decide (s = x)) = (firstS (fun x => decide (s = x)) xs).isSome := by
    unfold firstS
    rw [List.findIdx?_isSome]
  rw [ha]
  cases hf : firstS (fun x => decide (s = x)) xs with
  | none =>
    rw [hf] at hc
    simp only [optI] at hc
    have HC := Lib.hid hc
    clear hc hf h ha
    go_enter Tryz.func34, Tryz.ntmps34
    go_wp2_with (go_at_call 64; refine HC.out.mono ?_; rintro _ w2 ⟨rfl, rfl⟩)
    go_ret
    exact ⟨rfl, rfl⟩
  | some k =>
    rw [hf] at hc
    simp only [optI] at hc
    have HC := Lib.hid hc
    have z0 : (0 : Int) ≤ (k : Int) := by omega
    clear hc hf h ha
    go_enter Tryz.func34, Tryz.ntmps34
    go_wp2_with (go_at_call 64; refine HC.out.mono ?_; rintro _ w2 ⟨rfl, rfl⟩)
    go_ret
    exact ⟨rfl, rfl⟩
set_option maxHeartbeats 1000000 in
theorem cloneS_ok {w : World} {A : Option Addr} {n c : Nat} {xs : List ByteArray} (h : RdS w 1 StrR A n xs) (hc : A = none → c = 0) (hn : n ≤ 1000000) :
    Calls Tryz.prog 89 #[.slice A n c] w fun e w' => ∃ v, e = .returned v ∧ SMid w w' v n xs := by
  cases A with
  | none =>
    obtain rfl := hc rfl
    have h0 : n = 0 := by
      rcases Nat.eq_zero_or_pos n with h0 | h0
      · exact h0
      · obtain ⟨b, o, hA, _⟩ := h.get h0
        cases hA
    subst h0
    have hx : xs = [] := List.eq_nil_of_length_eq_zero h.len
    subst hx
    have hnil := Lib.run_eql_slice_nil (P := Tryz.prog) w 25 9 none 0 0 0 0 Tryz.underlying25
    clear h
    go_enter Tryz.func89, Tryz.ntmps89
    go_wp2
    go_ret
    exact ⟨_, rfl, Unch.refl _ _, (fun b hb => by cases hb), Row.nil _ _ _⟩
  | some A =>
    have hl := h.len
    have hsl := sv_len xs
    rw [hl] at hsl
    have hnews : ∀ j u, (sv xs)[j]? = some u → w.cell? (A.add j) = some u := fun j u hu => by
      simp only [sv, List.getElem?_map, Option.map_eq_some_iff] at hu
      obtain ⟨x, hx, rfl⟩ := hu
      obtain ⟨b, o, hA, _, hcell⟩ := RdS.str h hx
      injection hA with hA
      subst hA
      rw [Addr.add_lit]
      exact hcell
    have ha : Unch none_ w (w.alloc (.cells #[] 9)) := (Unch.refl none_ w).alloc _
    have hrow : Row (w.alloc (.cells #[] 9)) 9 1 (.slice (some ⟨w.heap.size, 0, none⟩) 0 0) 0 [] := ⟨rfl, .inr ⟨w.heap.size, 0, 0, #[], rfl, blk_new w _, Nat.le_refl _, Nat.zero_le _, by decide, rfl⟩⟩
    have HN := Lib.hid hnews
    have HSL := Lib.hid hsl
    clear hnews h hl hsl
    have hnil := Lib.run_eql_slice_nil (P := Tryz.prog) w 25 9 (some A) n c 0 0 Tryz.underlying25
    go_enter Tryz.func89, Tryz.ntmps89
    go_wp2_with (at_builtin; refine wpList_append _ rfl (.tmp 5) (.tmp 6) 25 9 _ 1 16 rfl Tryz.underlying25 info_str rfl (by omega) (.slice (some ⟨w.heap.size, 0, none⟩) 0 0) 0 [] (by rfl) hrow (some A) n c (sv xs) (by rfl) (by rw [HSL.out]; omega) (fun _ => ⟨A, rfl, fun j u hu => ha.cell (HN.out j u hu) (fun h => h)⟩) (fun h => by cases h) (by intro u hu; simp only [sv, List.mem_map] at hu; obtain ⟨x, _, rfl⟩ := hu; rfl) (by simp only [maxLen]; omega) (by omega) ?_; intro v' w' hr hu hat; have HR := Lib.hid hr; have HU := Lib.hid hu; have HAT := Lib.hid hat; clear hr hu hat)
    go_ret
    have hr := HR.out
    rw [Nat.zero_add, List.nil_append] at hr
    refine ⟨v', rfl, ha.step HU.out (fun i hi e => ?_), fun b hb => ?_, hr⟩
    · have : w.heap.size = i := by simpa [Value.ownBlock] using e
      omega
    · rcases HAT.out with h2 | ⟨b', h2, h3⟩
      · rw [h2] at hb
        have : w.heap.size = b := by simpa [Value.ownBlock] using hb
        omega
      · rw [h2] at hb
        injection hb with hb
        have h3' := Nat.le_trans ha.size h3
        omega
end Go.Proofs.YtgcpoppinnnciaaGreatDoor
/- slices.DeleteFunc over strings. -/
set_option linter.unusedVariables false
set_option linter.unusedSimpArgs false
set_option maxRecDepth 100000
namespace Go.Proofs.YtgcpoppinnnciaaGreatDoor
open Go Go.RowKit Go.Proofs.YtgcpoppinnnciaaGreatDoor.Pal Go.Proofs.YtgcpoppinnnciaaGreatDoor.Plan

/-- clear of a part of a row. -/
theorem run_clear_at {P : Program} (w : World) (t ty e : TypeId) (z : Value) (bytes : Nat) (ht : P.underlying t = some (.slice e)) (hinfo : (P.info? e).map (fun i => (i.zero, i.size, i.bytes)) = some (some z, 1, bytes)) (hz : z.cells = #[z]) (hz1 : z.oneCell' = true)
    (g o n c : Nat) (hn : 0 < n) (cur : Array Value) (hg : w.heap[g]? = some (.cells cur e (0, 0))) (ho : o + n ≤ cur.size) :
    (Builtin.clear_ #[t] ty #[.slice (some ⟨g, o, none⟩) n c]).run P w = .ok (.tuple #[]) (w.setRow g (cur.toList.take o ++ List.replicate n z ++ cur.toList.drop (o + n)).toArray) := by
  obtain ⟨i0, hi, hzz⟩ := Option.map_eq_some_iff.1 hinfo
  simp only [Prod.mk.injEq] at hzz
  obtain ⟨hz0, hs1, hb1⟩ := hzz
  have hzc : Builtin.zeroCells #[z] n = Array.replicate n z := by
    apply Array.ext
    · simp [Builtin.zeroCells]
    · intro i h1 h2
      simp [Builtin.zeroCells, Nat.mod_one]
  have hst := run_storeCells_at P g o e (List.replicate n z) 0 cur w hg (by simpa using ho) (by intro v hv; simp at hv; rw [hv.2]; exact hz1)
  rw [Nat.add_zero, List.length_replicate] at hst
  obtain ⟨m, rfl⟩ : ∃ m, n = m + 1 := ⟨n - 1, by omega⟩
  simp [Builtin.clear_, run_underlying ht, zeroValue, typeInfo, hi, hz0, hz, hzc, hst]
/-- Between two rounds: q of the first t are kept, ahead. -/
structure DlI (p : ByteArray → Bool) (xs ys : List ByteArray) (q t : Nat) : Prop where
  len : ys.length = xs.length
  lt : q < t
  hd : ys.take q = (xs.take t).filter (fun x => !p x)
  tl : ys.drop t = xs.drop t
theorem DlI.start {p : ByteArray → Bool} {xs : List ByteArray} {k : Nat} (h : firstS p xs = some k) : DlI p xs xs k (k + 1) := by
  unfold firstS at h
  rw [List.findIdx?_eq_some_iff_getElem] at h
  obtain ⟨hk, hp, hlt⟩ := h
  refine ⟨rfl, by omega, ?_, rfl⟩
  rw [List.take_add_one, List.getElem?_eq_getElem hk, List.filter_append]
  have h1 : (xs.take k).filter (fun x => !p x) = xs.take k := by
    rw [List.filter_eq_self]
    intro a ha
    obtain ⟨j, hj⟩ := List.mem_iff_getElem?.1 ha
    rw [List.getElem?_take] at hj
    split at hj
    · rename_i hjk
      have := hlt j hjk
      rw [List.getElem?_eq_getElem (by omega)] at hj
      injection hj with hj
      rw [← hj]
      simpa using this
    · cases hj
  rw [h1]
  simp [hp]
theorem DlI.at {p : ByteArray → Bool} {xs ys : List ByteArray} {q t : Nat} (h : DlI p xs ys q t) : ys[t]? = xs[t]? := by
  have h1 : (ys.drop t)[0]? = (xs.drop t)[0]? := by rw [h.tl]
  simpa using h1
theorem DlI.skip {p : ByteArray → Bool} {xs ys : List ByteArray} {q t : Nat} (h : DlI p xs ys q t) {x : ByteArray} (hx : xs[t]? = some x) (hp : p x = true) : DlI p xs ys q (t + 1) := by
  refine ⟨h.len, by have := h.lt; omega, ?_, ?_⟩
  · rw [h.hd, List.take_add_one, hx, List.filter_append]
    simp [hp]
  · rw [← List.drop_drop, ← List.drop_drop, h.tl]
theorem DlI.keep {p : ByteArray → Bool} {xs ys : List ByteArray} {q t : Nat} (h : DlI p xs ys q t) {x : ByteArray} (hx : xs[t]? = some x) (hp : p x = false) : DlI p xs (ys.set q x) (q + 1) (t + 1) := by
  have ht := (List.getElem?_eq_some_iff.1 hx).1
  have hlt := h.lt
  have hq : q < ys.length := by rw [h.len]; omega
  refine ⟨by rw [List.length_set]; exact h.len, by omega, ?_, ?_⟩
  · rw [List.take_add_one (i := t), hx, List.filter_append, ← h.hd]
    rw [List.take_add_one, List.getElem?_set_self hq, List.take_set_of_le (Nat.le_refl _)]
    simp [hp]
  · rw [List.drop_set_of_lt (by omega), ← List.drop_drop, ← List.drop_drop, h.tl]
theorem DlI.done {p : ByteArray → Bool} {xs ys : List ByteArray} {q : Nat} (h : DlI p xs ys q xs.length) : ys.take q = xs.filter (fun x => !p x) := by
  rw [h.hd, List.take_length]
set_option maxHeartbeats 2000000 in
theorem deleteFunc_ok {w : World} {A : Option Addr} {n c : Nat} {xs : List ByteArray} (h : Row w 9 1 (.slice A n c) n (sv xs)) {g : Nat} {lb : Array Value} (eg : ∀ args w, (callFunc g args).run Tryz.prog w = .ok (.enter g args) w) {p : ByteArray → Bool} (hp : PredX (fun k => (Value.slice A n c).ownBlock = some k) g lb p w) (hn : n ≤ 1000000) :
    Calls Tryz.prog 36 #[.slice A n c, .func (.func g) #[] lb] w fun e w' => ∃ m, e = .returned (.slice A m c) ∧ Row w' 9 1 (.slice A m c) m (sv (xs.filter fun x => !p x)) ∧ Unch (fun k => (Value.slice A n c).ownBlock = some k) w w' := by
  have hl := (srow_rds h).len
  have hix := indexFuncS_ok (c := c) (srow_rds h) eg hp
  cases hf : firstS p xs with
  | none =>
    rw [hf] at hix
    simp only [optI] at hix
    have hall : xs.filter (fun x => !p x) = xs := by
      unfold firstS at hf
      rw [List.findIdx?_eq_none_iff] at hf
      rw [List.filter_eq_self]
      intro a ha
      rw [hf a ha]
      rfl
    rw [hall]
    have HIX := Lib.hid hix
    have HR := Lib.hid h
    clear hix h hf hall hp
    go_enter Tryz.func36, Tryz.ntmps36
    go_wp2_with (go_at_call 53; refine HIX.out.mono ?_; rintro _ w2 ⟨rfl, hu2⟩)
    go_ret
    exact ⟨n, rfl, HR.out.unch hu2 (fun _ _ h => h), hu2.mono (fun _ _ h => h.elim)⟩
  | some k =>
    rw [hf] at hix
    simp only [optI] at hix
    have hI := DlI.start hf
    have hk : k < n := by
      unfold firstS at hf
      rw [List.findIdx?_eq_some_iff_getElem] at hf
      obtain ⟨h1, _⟩ := hf
      omega
    obtain ⟨gb, o, cap, cur, hv, hh, hnc, hsz, htk⟩ := h.form (by omega)
    injection hv with h1 h2 h3
    subst h1; subst h3
    have z0 : (0 : Int) ≤ (k : Int) := by omega
    have HIX := Lib.hid hix
    have HR := Lib.hid h
    have HI := Lib.hid hI
    have HP := Lib.hid hp
    have HL := Lib.hid hl
    clear hix h hf hI hp hl hh htk hsz cur
    go_enter Tryz.func36, Tryz.ntmps36
    go_wp2_with (go_at_call 53; refine HIX.out.mono ?_; rintro _ w2 ⟨rfl, hu2⟩; have HU2 := Lib.hid hu2; clear hu2)
    go_loopg [5, 6, 7] (n - (k + 1)) (fun gk i5 i6 _ wr => ∃ (q t : Nat) (ys : List ByteArray), gk = n - t ∧ t ≤ n ∧ i5 = .int .i64 (q : Int) ∧ i6 = .int .i64 (t : Int) ∧ DlI p xs ys q t ∧ Row wr 9 1 (.slice (some ⟨gb, o, none⟩) n c) n (sv ys) ∧ Unch (fun k => k = gb) w wr)
    case atStart => exact ⟨k, k + 1, xs, rfl, by omega, rfl, by go_num, HI.out, HR.out.unch HU2.out (fun _ _ h => h), HU2.out.mono (fun _ _ h => h.elim)⟩
    case round =>
      obtain ⟨q, t, ys, rfl, ht, rfl, rfl, hd, hr, hu⟩ := hrel
      obtain ⟨w3, rfl⟩ : ∃ w3, w3 = wr := ⟨_, rfl⟩
      have hqt := hd.lt
      have y0 : (0 : Int) ≤ (q : Int) := by omega
      have y1 : (q : Int) < (n : Int) := by omega
      have y2 : (0 : Int) ≤ (t : Int) := by omega
      by_cases htn : t < n
      · have y3 : (t : Int) < (n : Int) := by omega
        obtain ⟨x, hx⟩ := get_some HL.out htn
        have hy := hd.at
        rw [hx] at hy
        have x0 := hr.at rfl (sv_get hy)
        obtain ⟨yq, hyq⟩ := get_some (hd.len.trans HL.out) (show q < n by omega)
        have xq := hr.at rfl (sv_get hyq)
        have fq := hr.free rfl (o + q)
        have hcall := HP.out w3 (hu.mono (fun k _ e => by rw [e]; rfl)) x
        have HD := Lib.hid hd
        have HR3 := Lib.hid hr
        have HU3 := Lib.hid hu
        have HX := Lib.hid hx
        clear hd hr hu hx hy hyq
        cases hq : p x with
        | true =>
          rw [hq] at hcall
          have HN := Lib.hid (HD.out.skip HX.out hq)
          clear hq
          go_wp2_with (go_at_fn g; refine hcall.mono ?_; rintro e w4 ⟨rfl, hu4⟩)
          go_roundg (n - (t + 1))
          case measure => omega
          case rel => exact ⟨q, t + 1, ys, rfl, by omega, rfl, by go_num, HN.out, HR3.out.unch hu4 (fun _ _ h => h), HU3.out.trans (hu4.mono (fun _ _ h => h.elim))⟩
        | false =>
          rw [hq] at hcall
          have HN := Lib.hid (HD.out.keep HX.out hq)
          clear hq
          go_wp2_with (go_at_fn g; refine hcall.mono ?_; rintro e w4 ⟨rfl, hu4⟩; have xq4 := hu4.cell xq (fun h => h); have fq4 := (HR3.out.unch hu4 (fun _ _ h => h)).free rfl (o + q); have HU4 := Lib.hid hu4; clear hu4 xq fq)
          go_roundg (n - (t + 1))
          case measure => omega
          case rel =>
            have hr4 := (HR3.out.unch HU4.out (fun _ _ h => h)).store rfl q (by omega) (.string x)
            rw [sv_set] at hr4
            exact ⟨q + 1, t + 1, _, rfl, by omega, by go_num, by go_num, HN.out, hr4, (HU3.out.trans (HU4.out.mono (fun _ _ h => h.elim))).setCell _ (fun _ => rfl)⟩
      · obtain rfl : t = n := by omega
        have hr0 := hr
        rcases hr.2 with ⟨_, h0⟩ | ⟨gb2, o2, cap, cur, hv, hh, hnc2, hcm, hsz, htk⟩
        · omega
        injection hv with h1 h3 h4
        injection h1 with h1
        injection h1 with h1 h5
        subst h1; subst h5; subst h4
        rw [Nat.mul_one] at hsz htk
        have hclr := run_clear_at (P := Tryz.prog) w3 25 0 9 (.string ⟨#[]⟩) 16 Tryz.underlying25 info_str rfl rfl gb (o + q) (t - q) (c - q) (by omega) cur hh (by omega)
        have HD := Lib.hid hd
        have HR3 := Lib.hid hr
        have HU3 := Lib.hid hu
        have HH := Lib.hid hh
        have HTK := Lib.hid htk
        clear hd hr hu hh htk hr0 HP HIX HI HR HU2
        go_wp2_with fail
        go_ret
        have hq : sv (xs.filter fun x => !p x) = sv (ys.take q) := by
          have hd := HD.out
          rw [← HL.out] at hd
          rw [hd.done]
        have hsl : cur.toList.length = cur.size := Array.length_toList
        refine ⟨q, rfl, ?_, (HU3.out.mono (Y := fun k => (Value.slice (some ⟨gb, o, none⟩) t c).ownBlock = some k) (fun k _ e => by rw [e]; rfl)).setRow _ _ (fun _ => rfl)⟩
        rw [hq]
        have htq : (ys.take q).length = q := by
          rw [List.length_take, HD.out.len, HL.out]
          omega
        refine ⟨by rw [sv_len, htq]; omega, .inr ⟨gb, o, c, _, rfl, setRow_heap _ _ _ _ _ _ HH.out, by omega, hcm, ?_, ?_⟩⟩
        · rw [List.size_toArray, List.length_append, List.length_append, List.length_take, List.length_replicate, List.length_drop, hsl]
          omega
        · rw [Nat.mul_one, List.toList_toArray, List.drop_append_of_le_length (by rw [List.length_take, hsl]; omega), List.drop_take, show o + q - o = q by omega]
          rw [List.take_append_of_le_length (by rw [List.length_take, List.length_drop, hsl]; omega), List.take_take, Nat.min_self]
          have h1 : ((cur.toList.drop o).take t).take q = (sv ys).take q := by rw [HTK.out]
          rw [List.take_take, Nat.min_eq_left (by omega)] at h1
          rw [h1]
          unfold sv
          rw [List.map_take]
end Go.Proofs.YtgcpoppinnnciaaGreatDoor
/- recon: few, Ask. -/
set_option linter.unusedVariables false
set_option linter.unusedSimpArgs false
set_option maxRecDepth 100000
namespace Go.Proofs.YtgcpoppinnnciaaGreatDoor
open Go Go.RowKit Go.Proofs.YtgcpoppinnnciaaGreatDoor.Pal Go.Proofs.YtgcpoppinnnciaaGreatDoor.Plan

/-- A frame as it lies. -/
structure Fr where
  kind : Int
  dst : Int
  iv : Value
  ids : List ByteArray
  bits : ByteArray
  tv : Value
  texts : List ByteArray
def Fr.cells (f : Fr) : List Value := [.int .i64 f.kind, .int .i64 f.dst, f.iv, .string f.bits, f.tv]
def fcells (fs : List Fr) : List Value := fs.flatMap Fr.cells
/-- What it says. -/
structure FrP where
  kind : Int
  dst : Int
  ids : List ByteArray
  bits : ByteArray
  texts : List ByteArray
def Fr.p (f : Fr) : FrP := ⟨f.kind, f.dst, f.ids, f.bits, f.texts⟩
structure FrOk (W : World) (f : Fr) : Prop where
  i : Row W 9 1 f.iv f.ids.length (sv f.ids)
  t : Row W 9 1 f.tv f.texts.length (sv f.texts)
structure FMid (w W : World) (v : Value) (fs : List Fr) : Prop where
  u : Unch none_ w W
  own : ∀ b, v.ownBlock = some b → w.heap.size ≤ b
  row : Row W 35 5 v fs.length (fcells fs)
  ok : ∀ f ∈ fs, FrOk W f
theorem FrOk.fresh {W W' : World} {f : Fr} (h : FrOk W f) (hu : Unch none_ W W') : FrOk W' f := ⟨h.i.unch hu (fun _ _ h => h), h.t.unch hu (fun _ _ h => h)⟩
theorem FMid.fresh {w W W' : World} {v : Value} {fs : List Fr} (h : FMid w W v fs) (hu : Unch none_ W W') : FMid w W' v fs := ⟨h.u.trans hu, h.own, h.row.unch hu (fun _ _ h => h), fun f hf => (h.ok f hf).fresh hu⟩
theorem FMid.later {w w0 W : World} {v : Value} {fs : List Fr} (h : FMid w W v fs) (hu : Unch none_ w0 w) : FMid w0 W v fs := ⟨hu.trans h.u, fun b hb => Nat.le_trans hu.size (h.own b hb), h.row, h.ok⟩
theorem FMid.nil (w : World) : FMid w w (.slice none 0 0) [] := ⟨Unch.refl _ _, (fun b hb => by cases hb), Row.nil _ _ _, fun f hf => by cases hf⟩
theorem row_newsS {w : World} {A : Option Addr} {n c : Nat} {xs : List Value} (h : Row w 9 1 (.slice A n c) n xs) : (0 < n → ∃ ad, A = some ad ∧ ∀ j u, xs[j]? = some u → w.cell? (ad.add j) = some u) ∧ (A = none → c = 0) := by
  rcases h.2 with ⟨hv, h0⟩ | ⟨g, o, cap, cur, hv, hh, _⟩
  · injection hv with h1 h2 h3
    exact ⟨fun h => by omega, fun _ => h3⟩
  · injection hv with h1 h2 h3
    subst h1
    exact ⟨fun _ => ⟨_, rfl, fun j u hu => by rw [Addr.add_lit]; exact h.at rfl hu⟩, fun h => by cases h⟩
/-- Few. -/
theorem few_ok (A : Option Addr) (n c : Nat) (w : World) (hc : n ≤ c) (hA : A = none → c = 0) (hn : n ≤ 1000000000) :
    Calls Tryz.prog 25 #[.slice A n c] w fun e w' => e = .returned (.slice A (min n 64) c) ∧ w = w' := by
  cases A with
  | none =>
    obtain rfl := hA rfl
    obtain rfl : n = 0 := by omega
    go_enter Tryz.func25, Tryz.ntmps25
    go_wp2
    go_ret
    exact ⟨rfl, rfl⟩
  | some A =>
    obtain ⟨m, hm⟩ : ∃ m, min n 64 = m := ⟨_, rfl⟩
    rw [hm]
    have h1 : min (n : Int) 64 = (m : Int) := by omega
    have h2 : (0 : Int) ≤ (m : Int) := by omega
    have h3 : (m : Int) ≤ (c : Int) := by omega
    have h4 : m ≤ c := by omega
    clear hm
    go_enter Tryz.func25, Tryz.ntmps25
    go_wp2
    go_ret
    exact ⟨rfl, rfl⟩
theorem ask1_ok (s : ByteArray) (W : World) : Calls Tryz.prog 40 #[.string s] W fun e W' => e = .returned (.bool (!decide (s.size = 32))) ∧ Unch none_ W W' := by
  have hb : ((s.size : Int) != 32) = !decide (s.size = 32) := by
    rw [Bool.eq_iff_iff, bne_iff_ne, Bool.not_eq_true', decide_eq_false_iff_not]
    omega
  go_enter Tryz.func40, Tryz.ntmps40
  go_wp2
  go_ret
  exact ⟨by rw [← hb]; rfl, Unch.refl _ _⟩
/-- What is asked of ids. -/
def askL (ids : List ByteArray) : List ByteArray := (sortS ids).filter fun s => decide (s.size = 32)
def askF (ids : List ByteArray) : List FrP := if askL ids = [] then [] else [⟨3, 0, (askL ids).take 64, ⟨#[]⟩, []⟩]
theorem askF_nil {ids : List ByteArray} (h : askL ids = []) : askF ids = [] := if_pos h
theorem askF_one {ids : List ByteArray} (h : askL ids ≠ []) : askF ids = [⟨3, 0, (askL ids).take 64, ⟨#[]⟩, []⟩] := if_neg h
theorem row_firstN {w : World} {A : Option Addr} {n c m : Nat} {xs : List ByteArray} (h : Row w 9 1 (.slice A n c) n (sv xs)) (hm : m ≤ n) (h0 : 0 < n) : Row w 9 1 (.slice A m c) m (sv (xs.take m)) := by
  rcases h.2 with ⟨_, h1⟩ | ⟨g, o, cap, cur, hv, _⟩
  · omega
  injection hv with h1 h2 h3
  subst h1
  have := h.take m hm
  rw [Nat.mul_one] at this
  rw [show sv (xs.take m) = (sv xs).take m by simp [sv, List.map_take]]
  exact this
theorem FMid.one {w W : World} {g : Nat} {f : Fr} (hu : Unch none_ w W) (hg : w.heap.size ≤ g) (hh : W.heap[g]? = some (.cells f.cells.toArray 35 (0, 0))) (hi : FrOk W f) : FMid w W (.slice (some ⟨g, 0, none⟩) 1 1) [f] := by
  refine ⟨hu, fun b hb => ?_, ⟨rfl, .inr ⟨g, 0, 1, _, rfl, hh, Nat.le_refl _, by decide, ?_, ?_⟩⟩, fun x hx => ?_⟩
  · have : g = b := by simpa [Value.ownBlock] using hb
    omega
  · rw [List.size_toArray]; exact Nat.le_refl _
  · simp [fcells, Fr.cells]
  · rw [List.mem_singleton] at hx
    subst hx
    exact hi
set_option maxHeartbeats 2000000 in
theorem ask_ok {w : World} {A : Option Addr} {n c : Nat} {ids : List ByteArray} (hrd : RdS w 1 StrR A n ids) (hn : n ≤ 1000000) :
    Calls Tryz.prog 11 #[.slice A n c] w fun e w' => ∃ v fs, e = .returned v ∧ FMid w w' v fs ∧ fs.map Fr.p = askF ids := by
  have hlen := hrd.len
  have hu1 : Unch none_ w (w.alloc (.cells #[.slice A n c] 25)) := (Unch.refl none_ w).alloc _
  have b1 := blk_new w (.cells #[.slice A n c] 25)
  have HS := Lib.hid (sortedS_ok (RdS.fresh hrd hu1) (by omega) (blk_cell b1 (j := 0) rfl))
  have HU1 := Lib.hid hu1
  have e1 : ∀ args w, (callFunc 40 args).run Tryz.prog w = .ok (.enter 40 args) w := enters_of Tryz.func40 (by kernel_rfl) rfl
  clear hrd hu1 b1
  go_enter Tryz.func11, Tryz.ntmps11
  go_wp2_with (go_at_call 39; refine (values_ok _ _ _ _).mono ?_; rintro _ w1 ⟨rfl, rfl⟩)
  refine HS.out.mono ?_
  rintro _ w2 ⟨v, L, rfl, hp, hso, hs⟩
  have hll := hp.length_eq
  have HCP := Lib.hid (compactR_ok hs.row (by omega) hp hso)
  have HSM := Lib.hid hs
  clear hp hso hs HS
  go_wp2_with fail
  refine HCP.out.mono ?_
  rintro _ w3 ⟨A2, m, c2, rfl, hc2, hr3, hown, hu23⟩
  have hown3 : ∀ g, (Value.slice A2 m c2).ownBlock = some g → w.heap.size ≤ g := fun g hg => Nat.le_trans HU1.out.size (HSM.out.own g (hown g hg))
  have hu3 : Unch none_ w w3 := (HU1.out.trans HSM.out.hu).step hu23 (fun i hi e => by have := HSM.out.own i e; have := HU1.out.size; omega)
  have hm1 : m ≤ 1000000 := by
    have h1 := (srow_rds hr3).len
    have h2 := sortS_len ids
    omega
  have HDF := Lib.hid (deleteFunc_ok (p := fun s => !decide (s.size = 32)) (g := 40) (lb := #[]) hr3 e1 (fun W hu s => ask1_ok s W) hm1)
  have HOWN := Lib.hid hown3
  have HU3 := Lib.hid hu3
  clear hr3 hown hu23 hown3 hu3 HCP HSM
  go_wp2_with fail
  refine HDF.out.mono ?_
  rintro _ w4 ⟨k, rfl, hr4, hu34⟩
  have hfl : (sortS ids).filter (fun x => !(fun s : ByteArray => !decide (s.size = 32)) x) = askL ids := by
    unfold askL
    apply List.filter_congr
    intro x _
    simp
  rw [hfl] at hr4
  have hu4 : Unch none_ w w4 := HU3.out.step hu34 (fun i hi e => by have := HOWN.out i e; omega)
  have hlk := (srow_rds hr4).len
  have hkm : k ≤ 1000000 := by
    have h1 : (askL ids).length ≤ (sortS ids).length := List.length_filter_le _ _
    have h2 := sortS_len ids
    omega
  obtain ⟨_, hA0⟩ := row_newsS hr4
  have hck : k ≤ c2 := by
    obtain ⟨A', c', hv, hc'⟩ := hr4.slice
    injection hv with _ _ h3
    omega
  have HR4 := Lib.hid hr4
  have HU4 := Lib.hid hu4
  have HL := Lib.hid hlk
  clear hr4 hu4 hu34 hfl hlk HDF HOWN HU3
  by_cases hk0 : k = 0
  · subst hk0
    have hnil : askL ids = [] := List.eq_nil_of_length_eq_zero HL.out
    go_wp2_with fail
    go_ret
    exact ⟨_, [], rfl, (FMid.nil w4).later HU4.out, by rw [askF_nil hnil]; rfl⟩
  · have z1 : ((k : Int) == 0) = false := by rw [beq_eq_false_iff_ne]; omega
    have hne : askL ids ≠ [] := fun e => by
      have := HL.out
      rw [e] at this
      exact hk0 this.symm
    have HFW := Lib.hid (few_ok A2 k c2 w4 hck hA0 (by omega))
    have hrow := row_firstN HR4.out (m := min k 64) (by omega) (by omega)
    obtain ⟨q, hq⟩ : ∃ q, min k 64 = q := ⟨_, rfl⟩
    rw [hq] at HFW hrow
    have HROW := Lib.hid hrow
    have HQ := Lib.hid hq
    clear hrow hq
    go_wp2_with (go_at_call 25; refine HFW.out.mono ?_; rintro _ w5 ⟨rfl, rfl⟩)
    go_ret
    have hlt : ((askL ids).take q).length = q := by
      rw [List.length_take, HL.out]
      have := HQ.out
      omega
    have hlt64 : (askL ids).take 64 = (askL ids).take q := by
      rcases Nat.lt_or_ge k 64 with h | h
      · rw [List.take_of_length_le (by rw [HL.out]; omega), List.take_of_length_le (by rw [HL.out]; have := HQ.out; omega)]
      · have := HQ.out
        rw [show q = 64 by omega]
    have hua := (Unch.refl none_ w4).alloc (.cells #[.int .i64 3, .int .i64 0, .slice A2 q c2, .string ⟨#[]⟩, .slice none 0 0] 35)
    refine ⟨_, [⟨3, 0, .slice A2 q c2, (askL ids).take q, ⟨#[]⟩, .slice none 0 0, []⟩], rfl, FMid.one (HU4.out.trans hua) (by have := HU4.out.size; exact this) (blk_new _ _) ⟨?_, Row.nil _ _ _⟩, ?_⟩
    · simp only []
      rw [hlt]
      exact HROW.out.unch hua (fun _ _ h => h)
    · rw [askF_one hne, hlt64]
      rfl
end Go.Proofs.YtgcpoppinnnciaaGreatDoor
