/-
  wots: chains, secrets.
  wots: each chain so many steps behind its secret; what others know of a key.
  wots: a digest's digits; signing.
  wots: the public to which a signature leads.
-/
import Derived.Test.YtgcpoppinnnciaaGreatDoorCSH3
import Derived.Test.YtgcpoppinnnciaaGreatDoorCKM2
import Derived.Test.YtgcpoppinnnciaaGreatDoorCPlanQ
/- wots: chains, secrets. -/
set_option linter.unusedVariables false
set_option linter.unusedSimpArgs false
namespace Go.Proofs.YtgcpoppinnnciaaGreatDoor
open Go Go.RowKit Go.Proofs.YtgcpoppinnnciaaGreatDoor.Pal Go.Proofs.YtgcpoppinnnciaaGreatDoor.Plan

/-- A row of texts, laid at once. -/
theorem RdS.ofBlk {w : World} {g : Nat} {t : TypeId} {fr : Nat × Nat} {l : List ByteArray} (hl : l.length ≤ maxLen) (h : w.heap[g]? = some (.cells (l.map Value.string).toArray t fr)) : RdS w 1 StrR (some ⟨g, 0, none⟩) l.length l :=
  ⟨rfl, hl, fun _ => ⟨g, 0, rfl, lt_of_heap h, fun i x hx => ⟨[.string x], rfl, rfl, fun j u hj => by
    match j, hj with
    | 0, hj =>
      simp only [List.getElem?_cons_zero, Option.some.injEq] at hj
      subst hj
      simp [World.cell?, h, hx]⟩⟩⟩
theorem and255 : ∀ k : Nat, k < 67 → bits BinOp.and IntKind.i64 (k : Int) 255 = (k : Int) := by
  have h : ∀ k : Fin 67, bits BinOp.and IntKind.i64 (k.val : Int) 255 = (k.val : Int) := by decide
  exact fun k hk => h ⟨k, hk⟩
def byteT (k : Nat) : ByteArray := ⟨(numB 1 k).toArray⟩
def shortT (k : Nat) : ByteArray := ⟨(numB 2 k).toArray⟩
theorem byteT_size (k : Nat) : (byteT k).size = 1 := by show (numB 1 k).toArray.size = 1; rw [List.size_toArray, numB_len]
theorem shortT_size (k : Nat) : (shortT k).size = 2 := by show (numB 2 k).toArray.size = 2; rw [List.size_toArray, numB_len]
/-- So many steps on a chain. -/
def chainF (K : Nat → Int) (k : Nat) (x : ByteArray) : Nat → ByteArray
  | 0 => x
  | n + 1 => tagF K 1 [byteT k, chainF K k x n]
theorem chainF_size (K : Nat → Int) (k : Nat) {x : ByteArray} (hx : x.size ≤ 1000000) : ∀ n, (chainF K k x n).size ≤ 1000000
  | 0 => hx
  | n + 1 => by rw [chainF, tagF_size]; omega
theorem inputL_len2 (tag : Nat) (a b : ByteArray) : (inputL tag [a, b]).length = 9 + a.size + b.size := by
  simp [inputL, partL_len]
  omega
theorem inputL_len3 (tag : Nat) (a b c : ByteArray) : (inputL tag [a, b, c]).length = 13 + a.size + b.size + c.size := by
  simp [inputL, partL_len]
  omega
set_option maxRecDepth 100000 in
set_option maxHeartbeats 1000000 in
theorem chain_ok (K : Nat → Int) (k : Nat) (hk : k < 67) (x : ByteArray) (hx : x.size ≤ 1000000) (n : Nat) (hn : n ≤ 1000) (w : World) (hK : Kys K w) :
    Calls Tryz.prog 179 #[.int .i64 (k : Int), .string x, .int .i64 (n : Int)] w fun e w' => e = .returned (.string (chainF K k x n)) ∧ Unch none_ w w' := by
  obtain ⟨res, hres⟩ : ∃ r, chainF K k x n = r := ⟨_, rfl⟩
  rw [hres]
  have HRES := Lib.hid hres
  clear hres
  have ha := and255 k hk
  have m1 : (0 : Int) ≤ (n : Int) := by omega
  have m2 : (n : Int) ≤ 1000 := by omega
  have m3 : min (n : Int) 1000 = (n : Int) := by omega
  have hob := octByte_ok k (by omega)
  rw [show (⟨(numB 1 k).toArray⟩ : ByteArray) = byteT k from rfl] at hob
  have hbs := byteT_size k
  go_enter Tryz.func179, Tryz.ntmps179
  go_wp2_with (go_at_call 73; refine (hob _).mono ?_; rintro _ w1 ⟨rfl, hu1⟩)
  go_loopg [1, 18] n (fun gk sx i wr => ∃ (j : Nat), gk = n - j ∧ j ≤ n ∧ i = .int .i64 (j : Int) ∧ sx = .string (chainF K k x j) ∧ Unch none_ w wr)
  case atStart => exact ⟨0, rfl, by omega, rfl, rfl, hu1⟩
  case round =>
    obtain ⟨j, rfl, hj, rfl, rfl, hu⟩ := hrel
    obtain ⟨w2, rfl⟩ : ∃ w2, w2 = wr := ⟨_, rfl⟩
    by_cases hjn : j < n
    · have y0 : (0 : Int) ≤ (j : Int) := by omega
      have y1 : (j : Int) < (n : Int) := by omega
      have hcs := chainF_size K k hx j
      have hst : tagF K 1 [byteT k, chainF K k x j] = chainF K k x (j + 1) := rfl
      generalize chainF K k x j = y at *
      have hu2 : Unch none_ w (w2.alloc (.cells (([byteT k, y].map Value.string).toArray) 9)) := hu.alloc _
      have htg := tag_ok K 1 (by omega) (some ⟨w2.heap.size, 0, none⟩) 2 2 [byteT k, y] _ (hK.unch hu2 (fun h => h)) (RdS.ofBlk (by unfold maxLen; simp) (blk_new w2 _)) rfl (fun p hp => by
        simp only [List.mem_cons, List.not_mem_nil, or_false] at hp
        rcases hp with rfl | rfl <;> omega) (by rw [inputL_len2]; omega)
      rw [hst] at htg
      have HST := Lib.hid hst
      clear hst
      go_wp2_with (go_at_call 47; refine htg.mono ?_; rintro _ w3 ⟨rfl, hu3⟩)
      go_roundg (n - (j + 1))
      case measure => omega
      case rel => exact ⟨j + 1, rfl, by omega, by go_num, rfl, hu2.trans hu3⟩
    · obtain rfl : j = n := by omega
      have hR := HRES.out
      subst hR
      go_wp2_with fail
      go_ret
      exact ⟨rfl, hu⟩
theorem leafs_ok (leaf : Nat) (hl : leaf < 65536) (w : World) :
    Calls Tryz.prog 149 #[.int .i64 (leaf : Int)] w fun e w' => e = .returned (.tuple #[.string (shortT leaf), .bool true]) ∧ Unch none_ w w' := by
  have hos := octShort_ok leaf hl
  rw [show (⟨(numB 2 leaf).toArray⟩ : ByteArray) = shortT leaf from rfl] at hos
  go_enter Tryz.func149, Tryz.ntmps149
  go_wp2_with (go_at_call 110; refine (hos _).mono ?_; rintro _ w1 ⟨rfl, hu1⟩)
  refine bodyPost_ret (results_tmp2 rfl _ _ _) rfl ⟨rfl, hu1⟩
/-- Texts laid out for the call. -/
theorem tags_ok (K : Nat → Int) (tag : Nat) (ht : tag < 256) (l : List ByteArray) (hl : l.length ≤ 1000) (hp : ∀ p ∈ l, p.size ≤ 1000000000) (W : World) (hK : Kys K W) :
    Calls Tryz.prog 47 #[.int .i64 (tag : Int), .slice (some ⟨W.heap.size, 0, none⟩) l.length l.length] (W.alloc (.cells ((l.map Value.string).toArray) 9)) fun e w' => e = .returned (.string (tagF K tag l)) ∧ Unch none_ W w' := by
  have hu : Unch none_ W (W.alloc (.cells ((l.map Value.string).toArray) 9)) := (Unch.refl _ _).alloc _
  have hlen : ∀ l : List ByteArray, (∀ p ∈ l, p.size ≤ 1000000000) → (l.flatMap partL).length ≤ l.length * 1000000004 := fun l => by
    induction l with
    | nil => simp
    | cons p r ih =>
      intro h
      have h1 := ih (fun q hq => h q (List.mem_cons_of_mem _ hq))
      have h2 := h p (List.mem_cons_self ..)
      rw [List.flatMap_cons, List.length_append, partL_len, List.length_cons]
      omega
  have h1 := hlen l hp
  exact (tag_ok K tag ht (some ⟨W.heap.size, 0, none⟩) l.length l.length l _ (hK.unch hu (fun h => h)) (RdS.ofBlk (by unfold maxLen; omega) (blk_new W _)) rfl (fun p h => by have := hp p h; omega) (by simp only [inputL, List.length_cons]; omega)).mono fun e w' ⟨he, hw⟩ => ⟨he, hu.trans hw⟩
theorem tag1_ok (K : Nat → Int) (tag : Nat) (ht : tag < 256) (a : ByteArray) (ha : a.size ≤ 1000000000) (W : World) (hK : Kys K W) (g : Nat) (hg : g = W.heap.size) :
    Calls Tryz.prog 47 #[.int .i64 (tag : Int), .slice (some ⟨g, 0, none⟩) 1 1] (W.alloc (.cells #[.string a] 9)) fun e w' => e = .returned (.string (tagF K tag [a])) ∧ Unch none_ W w' := by
  subst hg
  exact tags_ok K tag ht [a] (by simp) (fun p hp => by simp only [List.mem_cons, List.not_mem_nil, or_false] at hp; subst hp; exact ha) W hK
theorem tag2_ok (K : Nat → Int) (tag : Nat) (ht : tag < 256) (a b : ByteArray) (ha : a.size ≤ 1000000000) (hb : b.size ≤ 1000000000) (W : World) (hK : Kys K W) (g : Nat) (hg : g = W.heap.size) :
    Calls Tryz.prog 47 #[.int .i64 (tag : Int), .slice (some ⟨g, 0, none⟩) 2 2] (W.alloc (.cells #[.string a, .string b] 9)) fun e w' => e = .returned (.string (tagF K tag [a, b])) ∧ Unch none_ W w' := by
  subst hg
  exact tags_ok K tag ht [a, b] (by simp) (fun p hp => by simp only [List.mem_cons, List.not_mem_nil, or_false] at hp; rcases hp with rfl | rfl <;> assumption) W hK
theorem tag3_ok (K : Nat → Int) (tag : Nat) (ht : tag < 256) (a b c : ByteArray) (ha : a.size ≤ 1000000000) (hb : b.size ≤ 1000000000) (hc : c.size ≤ 1000000000) (W : World) (hK : Kys K W) (g : Nat) (hg : g = W.heap.size) :
    Calls Tryz.prog 47 #[.int .i64 (tag : Int), .slice (some ⟨g, 0, none⟩) 3 3] (W.alloc (.cells #[.string a, .string b, .string c] 9)) fun e w' => e = .returned (.string (tagF K tag [a, b, c])) ∧ Unch none_ W w' := by
  subst hg
  exact tags_ok K tag ht [a, b, c] (by simp) (fun p hp => by simp only [List.mem_cons, List.not_mem_nil, or_false] at hp; rcases hp with rfl | rfl | rfl <;> assumption) W hK
/-- Where a chain begins. -/
def secretF (K : Nat → Int) (seed : ByteArray) (leaf k : Nat) : ByteArray := tagF K 2 [seed, shortT leaf, byteT k]
set_option maxRecDepth 100000 in
theorem secret_ok (K : Nat → Int) (seed : ByteArray) (hs : seed.size ≤ 1000000) (leaf : Nat) (hl : leaf < 65536) (k : Nat) (hk : k < 67) (w : World) (hK : Kys K w) :
    Calls Tryz.prog 178 #[.string seed, .int .i64 (leaf : Int), .int .i64 (k : Int)] w fun e w' => e = .returned (.tuple #[.string (secretF K seed leaf k), .bool true]) ∧ Unch none_ w w' := by
  obtain ⟨res, hres⟩ : ∃ r, secretF K seed leaf k = r := ⟨_, rfl⟩
  rw [hres]
  have HRES := Lib.hid hres
  clear hres
  have y0 : (0 : Int) ≤ (k : Int) := by omega
  have y1 : (k : Int) < 67 := by omega
  have hob := octByte_ok k (by omega)
  rw [show (⟨(numB 1 k).toArray⟩ : ByteArray) = byteT k from rfl] at hob
  have hbs := byteT_size k
  have hss := shortT_size leaf
  have hlf := leafs_ok leaf hl
  have htg : ∀ W, Unch none_ w W → ∀ g, g = W.heap.size → Calls Tryz.prog 47 #[.int .i64 2, .slice (some ⟨g, 0, none⟩) 3 3] (W.alloc (.cells #[.string seed, .string (shortT leaf), .string (byteT k)] 9)) fun e w' => e = .returned (.string res) ∧ Unch none_ W w' := fun W hu g hg => by
    have := tag3_ok K 2 (by omega) seed (shortT leaf) (byteT k) (by omega) (by omega) (by omega) W (hK.unch hu (fun h => h)) g hg
    rw [show tagF K 2 [seed, shortT leaf, byteT k] = res from HRES.out] at this
    exact this
  generalize byteT k = tb at *
  generalize shortT leaf = tl at *
  go_enter Tryz.func178, Tryz.ntmps178
  go_wp2_with (first
    | (go_at_call 73; refine (hob _).mono ?_; rintro _ w2 ⟨rfl, hu2⟩)
    | (go_at_call 149; refine (hlf _).mono ?_; rintro _ w1 ⟨rfl, hu1⟩)
    | (go_at_call 47; refine (htg _ (hu1.trans hu2) _ rfl).mono ?_; rintro _ w3 ⟨rfl, hu3⟩))
  refine bodyPost_ret (results_tmp2 rfl _ _ _) rfl ⟨rfl, (hu1.trans hu2).trans hu3⟩
end Go.Proofs.YtgcpoppinnnciaaGreatDoor
/- wots: each chain so many steps behind its secret; what others know of a key. -/
set_option linter.unusedVariables false
set_option linter.unusedSimpArgs false
namespace Go.Proofs.YtgcpoppinnnciaaGreatDoor
open Go Go.RowKit Go.Proofs.YtgcpoppinnnciaaGreatDoor.Pal Go.Proofs.YtgcpoppinnnciaaGreatDoor.Plan

def valF (K : Nat → Int) (seed : ByteArray) (leaf : Nat) (steps : Nat → Nat) (k : Nat) : ByteArray := chainF K k (secretF K seed leaf k) (steps k)
def valuesF (K : Nat → Int) (seed : ByteArray) (leaf : Nat) (steps : Nat → Nat) (n : Nat) : List ByteArray := (List.range n).map (valF K seed leaf steps)
theorem valuesF_len (K : Nat → Int) (seed : ByteArray) (leaf : Nat) (steps : Nat → Nat) (n : Nat) : (valuesF K seed leaf steps n).length = n := by simp [valuesF]
theorem valuesF_succ (K : Nat → Int) (seed : ByteArray) (leaf : Nat) (steps : Nat → Nat) (n : Nat) : valuesF K seed leaf steps (n + 1) = valuesF K seed leaf steps n ++ [valF K seed leaf steps n] := by simp [valuesF, List.range_succ]
/-- The contract of a function value: how many steps on chain k. -/
def StepC (g : Nat) (lb : Array Value) (steps : Nat → Nat) (w : World) : Prop := ∀ W, Unch none_ w W → ∀ k, k < 67 → Calls Tryz.prog g (#[.int .i64 (k : Int)] ++ lb) W fun e w' => e = .returned (.int .i64 (steps k : Int)) ∧ Unch none_ W w'
set_option maxRecDepth 100000 in
set_option maxHeartbeats 1000000 in
theorem wvalues_ok (K : Nat → Int) (seed : ByteArray) (hs : seed.size ≤ 1000000) (leaf : Nat) (hl : leaf < 65536) (g : Nat) (lb : Array Value) (steps : Nat → Nat) (hst : ∀ k, steps k ≤ 1000) (eg : ∀ args w, (callFunc g args).run Tryz.prog w = .ok (.enter g args) w) (w : World) (hK : Kys K w) (hg : StepC g lb steps w) :
    Calls Tryz.prog 150 #[.string seed, .int .i64 (leaf : Int), .func (.func g) #[] lb] w fun e w' => ∃ v, e = .returned v ∧ SMid w w' v 67 (valuesF K seed leaf steps 67) := by
  go_enter Tryz.func150, Tryz.ntmps150
  go_wp2_with fail
  go_loopg [7, 8, 9, 10, 11] 67 (fun gk v _ _ _ i wr => ∃ (k : Nat), gk = 67 - k ∧ k ≤ 67 ∧ i = .int .i64 (k : Int) ∧ SMid w wr v k (valuesF K seed leaf steps k))
  case atStart => exact ⟨0, rfl, by omega, rfl, ⟨Unch.refl _ _, fun b hb => (by cases hb), Row.nil _ _ _⟩⟩
  case round =>
    obtain ⟨k, rfl, hk, rfl, hm⟩ := hrel
    obtain ⟨w2, rfl⟩ : ∃ w2, w2 = wr := ⟨_, rfl⟩
    have HM := Lib.hid hm
    obtain ⟨A, c, rfl, hc⟩ := hm.row.slice
    by_cases hk67 : k < 67
    · have y0 : (0 : Int) ≤ (k : Int) := by omega
      have y1 : (k : Int) < 67 := by omega
      have hnx := valuesF_succ K seed leaf steps k
      have hsec := fun W (hu : Unch none_ w2 W) => secret_ok K seed hs leaf hl k hk67 W (hK.unch (hm.hu.trans hu) (fun h => h))
      have hsz := tagF_size K 2 [seed, shortT leaf, byteT k]
      have hch := fun W (hu : Unch none_ w2 W) => chain_ok K k hk67 (secretF K seed leaf k) (by rw [secretF, hsz]; omega) (steps k) (hst k) W (hK.unch (hm.hu.trans hu) (fun h => h))
      have hgc := fun W (hu : Unch none_ w2 W) => hg W (hm.hu.trans hu) k hk67
      rw [show chainF K k (secretF K seed leaf k) (steps k) = valF K seed leaf steps k from rfl] at hch
      generalize valF K seed leaf steps k = y at *
      generalize secretF K seed leaf k = x at *
      generalize hvl : valuesF K seed leaf steps k = vl at *
      have HVL := Lib.hid hvl
      have HNX := Lib.hid hnx
      clear hvl hnx hm hsz
      go_wp2_with (first
        | (go_at_call 178; refine (hsec _ (Unch.refl _ _)).mono ?_; rintro _ w3 ⟨rfl, hu3⟩)
        | (go_at_call 179; refine (hch _ (hu3.trans hu4)).mono ?_; rintro _ w5 ⟨rfl, hu5⟩)
        | ((with_reducible refine (hgc _ hu3).mono ?_); rintro _ w4 ⟨rfl, hu4⟩)
        | (at_builtin; refine wpList_append1 w5 rfl (.tmp 21) (.tmp 28) 25 9 _ 1 16 rfl Tryz.underlying25 info_str rfl (by omega) (.slice A k c) k (sv vl) (by rfl) (HM.out.fresh ((hu3.trans hu4).trans hu5)).row [.string y] rfl (by intro u hu; simp at hu; subst hu; rfl) (by rfl) (by simp only [maxLen]; omega) (by omega) ?_; intro v6 w6 hr6 hu6 hat6; have hs6 := (HM.out.fresh ((hu3.trans hu4).trans hu5)).app1 hr6 hu6 hat6; have HS6 := Lib.hid hs6; clear hr6 hu6 hat6 hs6))
      go_roundg (67 - (k + 1))
      case measure => omega
      case rel => exact ⟨k + 1, rfl, by omega, by go_num, by rw [HNX.out]; exact HS6.out⟩
    · obtain rfl : k = 67 := by omega
      go_wp2_with fail
      go_ret
      exact ⟨_, rfl, HM.out⟩
/-- What others know of a key. -/
def wpubF (K : Nat → Int) (seed : ByteArray) (leaf : Nat) : ByteArray := tagF K 3 (valuesF K seed leaf (fun _ => 15) 67)
theorem chainF_32 (K : Nat → Int) (k : Nat) {x : ByteArray} (hx : x.size = 32) : ∀ n, (chainF K k x n).size = 32
  | 0 => hx
  | n + 1 => by rw [chainF, tagF_size]
theorem valuesF_32 {K : Nat → Int} {seed : ByteArray} {leaf : Nat} {steps : Nat → Nat} {n : Nat} : ∀ p ∈ valuesF K seed leaf steps n, p.size = 32 := fun p hp => by
  simp only [valuesF, List.mem_map] at hp
  obtain ⟨k, _, rfl⟩ := hp
  exact chainF_32 K k (tagF_size ..) _
theorem flat_const {l : List ByteArray} {m : Nat} (h : ∀ p ∈ l, p.size = m) : (l.flatMap partL).length = l.length * (m + 4) := by
  induction l with
  | nil => simp
  | cons p r ih =>
    rw [List.flatMap_cons, List.length_append, partL_len, List.length_cons, ih (fun q hq => h q (List.mem_cons_of_mem _ hq)), h p (List.mem_cons_self ..), Nat.add_mul]
    omega
theorem tagRow_ok (K : Nat → Int) (tag : Nat) (ht : tag < 256) (l : List ByteArray) (n : Nat) (hn : n ≤ 1000000) (hl : l.length = n) (hp : ∀ p ∈ l, p.size = 32) {w W : World} (hK : Kys K W) {v : Value} (h : SMid w W v n l) :
    Calls Tryz.prog 47 #[.int .i64 (tag : Int), v] W fun e w' => e = .returned (.string (tagF K tag l)) ∧ Unch none_ W w' := by
  obtain ⟨A, c, rfl, hc⟩ := h.row.slice
  have h1 := flat_const hp
  exact tag_ok K tag ht A n c l W hK (srow_rds h.row) hl (fun p h => by have := hp p h; omega) (by simp only [inputL, List.length_cons]; omega)
theorem const15_ok (w : World) : StepC 151 #[] (fun _ => 15) w := by
  intro W hu k hk
  go_enter Tryz.func151, Tryz.ntmps151
  go_wp2
  go_ret
  exact ⟨rfl, Unch.refl _ _⟩
set_option maxRecDepth 100000 in
theorem wpub_ok (K : Nat → Int) (seed : ByteArray) (hs : seed.size ≤ 1000000) (leaf : Nat) (hl : leaf < 65536) (w : World) (hK : Kys K w) :
    Calls Tryz.prog 106 #[.string seed, .int .i64 (leaf : Int)] w fun e w' => e = .returned (.tuple #[.string (wpubF K seed leaf), .bool true]) ∧ Unch none_ w w' := by
  have hlf := leafs_ok leaf hl
  generalize shortT leaf = tl at *
  have hvs := fun W (hu : Unch none_ w W) => wvalues_ok K seed hs leaf hl 151 #[] (fun _ => 15) (fun _ => by omega) (enters_of Tryz.func151 (by kernel_rfl) rfl) W (hK.unch hu (fun h => h)) (const15_ok W)
  have htg := fun (W W' : World) (v : Value) (hu : Unch none_ w W') (h : SMid W W' v 67 (valuesF K seed leaf (fun _ => 15) 67)) => tagRow_ok K 3 (by omega) _ 67 (by omega) (valuesF_len ..) valuesF_32 (hK.unch hu (fun h => h)) h
  rw [show tagF K 3 (valuesF K seed leaf (fun _ => 15) 67) = wpubF K seed leaf from rfl] at htg
  generalize wpubF K seed leaf = res at *
  generalize valuesF K seed leaf (fun _ => 15) 67 = vl at *
  go_enter Tryz.func106, Tryz.ntmps106
  go_wp2_with (first
    | (go_at_call 149; refine (hlf _).mono ?_; rintro _ w1 ⟨rfl, hu1⟩)
    | (go_at_call 150; refine (hvs _ hu1).mono ?_; rintro _ w2 ⟨v, rfl, hm⟩)
    | (go_at_call 47; refine (htg _ _ _ (hu1.trans hm.hu) hm).mono ?_; rintro _ w3 ⟨rfl, hu3⟩))
  refine bodyPost_ret (results_tmp2 rfl _ _ _) rfl ⟨rfl, (hu1.trans hm.hu).trans hu3⟩
end Go.Proofs.YtgcpoppinnnciaaGreatDoor
/- wots: a digest's digits; signing. -/
set_option linter.unusedVariables false
set_option linter.unusedSimpArgs false
namespace Go.Proofs.YtgcpoppinnnciaaGreatDoor
open Go Go.RowKit Go.Proofs.YtgcpoppinnnciaaGreatDoor.Pal Go.Proofs.YtgcpoppinnnciaaGreatDoor.Plan

theorem and15_u8 : ∀ k : Nat, k < 256 → bits BinOp.and IntKind.u8 (k : Int) 15 = ((k % 16 : Nat) : Int) := by
  have h : ∀ k : Fin 256, bits BinOp.and IntKind.u8 (k.val : Int) 15 = ((k.val % 16 : Nat) : Int) := by decide +kernel
  exact fun k hk => h ⟨k, hk⟩
theorem and15_i64 : ∀ k : Nat, k < 1024 → bits BinOp.and IntKind.i64 (k : Int) 15 = ((k % 16 : Nat) : Int) := by
  have h : ∀ k : Fin 1024, bits BinOp.and IntKind.i64 (k.val : Int) 15 = ((k.val % 16 : Nat) : Int) := by decide +kernel
  exact fun k hk => h ⟨k, hk⟩
/-- A row under way, in a block of the call's own. -/
structure VMid (e : TypeId) (w wr : World) (v : Value) (m : Nat) (xs : List Value) : Prop where
  hu : Unch none_ w wr
  own : ∀ b, v.ownBlock = some b → w.heap.size ≤ b
  row : Row wr e 1 v m xs
theorem VMid.fresh {e : TypeId} {w wr w2 : World} {v : Value} {m : Nat} {xs : List Value} (h : VMid e w wr v m xs) (hu : Unch none_ wr w2) : VMid e w w2 v m xs := ⟨h.hu.trans hu, h.own, h.row.unch hu (fun _ _ h => h)⟩
theorem VMid.app {e : TypeId} {w wr w2 : World} {v v2 : Value} {m n : Nat} {xs ys : List Value} (h : VMid e w wr v m xs) (hr : Row w2 e 1 v2 n ys) (hu : Unch (fun k => v.ownBlock = some k) wr w2)
    (hat : v2.ownBlock = v.ownBlock ∨ ∃ b, v2.ownBlock = some b ∧ wr.heap.size ≤ b) : VMid e w w2 v2 n ys :=
  ⟨h.hu.step hu (fun k hk hb => absurd (h.own k hb) (by omega)), fun b hb => by
    rcases hat with h1 | ⟨b', h1, h2⟩
    · exact h.own b (h1 ▸ hb)
    · rw [h1] at hb; injection hb with hb; subst hb; exact Nat.le_trans h.hu.size h2, hr⟩
/-- Some values, laid for the call, appended. -/
theorem wpList_appendM {P : Program} {ops : Array Oper} {rest : List Oper} {op : Oper} {a : Act} {Q : Exit → Act → World → Prop} (w : World) (hgd : op.guard = none) (s x : Operand) (t e : TypeId) (z : Value) (bytes : Nat)
    (hop : op.op = .call { callee := .builtin .append, args := #[s, x], argTypes := #[t, t] }) (ht : P.underlying t = some (.slice e)) (hinfo : (P.info? e).map (fun i => (i.zero, i.size, i.bytes)) = some (some z, 1, bytes)) (hzs : z.cells.size = 1)
    (v : Value) (n : Nat) (xs : List Value) (hs : a.eval s = v) (hr : Row w e 1 v n xs) (news : List Value) (m : Nat) (hm : news.length = m) (h1 : ∀ u ∈ news, u.oneCell' = true)
    (hx : a.eval x = .slice (some ⟨w.heap.size, 0, none⟩) m m) (h63 : n + m ≤ maxLen) (hbytes : (n + m) * bytes ≤ 140737488355328)
    (h : ∀ v' w', Row w' e 1 v' (n + m) (xs ++ news) → Unch (fun k => v.ownBlock = some k) w w' → (v'.ownBlock = v.ownBlock ∨ ∃ b, v'.ownBlock = some b ∧ w.heap.size ≤ b) → wpList P ops Q rest (a.put op.dst v') w') :
    wpList P ops Q (op :: rest) a (w.alloc (.cells news.toArray e)) := by
  have hu : Unch none_ w (w.alloc (.cells news.toArray e)) := (Unch.refl _ _).alloc _
  refine wpList_append _ hgd s x t e z 1 bytes hop ht hinfo hzs (by omega) v n xs hs (hr.unch hu (fun _ _ h => h)) (some ⟨w.heap.size, 0, none⟩) m m news hx (by omega)
    (fun _ => ⟨_, rfl, World.news_of_block (heap_alloc_new w _)⟩) (fun h => by cases h) h1 h63 hbytes ?_
  intro v' w' h2 h3 h4
  refine h v' w' h2 ?_ ?_
  · refine ⟨h3.os, h3.tape, h3.output, Nat.le_trans (by simp) h3.size, fun k hk hX => ?_⟩
    exact (h3.block k (by simp; omega) hX).trans (Below.heap_alloc w _ k hk)
  · rcases h4 with h4 | ⟨b, hb, hlt⟩
    · exact .inl h4
    · exact .inr ⟨b, hb, by simp at hlt; omega⟩
theorem info_int : (Tryz.prog.info? 3).map (fun i => (i.zero, i.size, i.bytes)) = some (some (.int .i64 0), 1, 8) := by kernel_rfl
def iv (l : List Nat) : List Value := l.map fun n : Nat => Value.int .i64 (n : Int)
theorem iv_app (a b : List Nat) : iv (a ++ b) = iv a ++ iv b := by simp [iv]
def digA (d : ByteArray) (k : Nat) : List Nat := (d.data.toList.take k).flatMap fun b => [b.toNat / 16, b.toNat % 16]
def lackA (d : ByteArray) (k : Nat) : Nat := ((d.data.toList.take k).map fun b => 30 - b.toNat / 16 - b.toNat % 16).sum
/-- A digest's digits. -/
def digitsF (d : ByteArray) : List Nat := digA d 32 ++ [lackA d 32 / 256, lackA d 32 / 16 % 16, lackA d 32 % 16]
theorem byte_at {d : ByteArray} {k : Nat} (h : k < d.size) : ∃ b : UInt8, d.data.toList[k]? = some b ∧ d.data.toList.getD k 0 = b := by
  have hl : k < d.data.toList.length := by have := Lib.size_eq d; omega
  exact ⟨d.data.toList[k], List.getElem?_eq_getElem hl, by rw [List.getD_eq_getElem?_getD, List.getElem?_eq_getElem hl]; rfl⟩
theorem digA_succ {d : ByteArray} {k : Nat} {b : UInt8} (h : d.data.toList[k]? = some b) : digA d (k + 1) = digA d k ++ [b.toNat / 16, b.toNat % 16] := by
  unfold digA
  rw [List.take_add_one, h]
  simp
theorem digA_len {d : ByteArray} : ∀ {k : Nat}, k ≤ d.size → (digA d k).length = 2 * k
  | 0, _ => rfl
  | k + 1, h => by
    obtain ⟨b, hb, _⟩ := byte_at (d := d) (k := k) (by omega)
    rw [digA_succ hb, List.length_append, digA_len (by omega)]
    rfl
theorem digitsF_len {d : ByteArray} (h : d.size = 32) : (digitsF d).length = 67 := by
  simp [digitsF, digA_len (d := d) (k := 32) (by omega)]
theorem lackA_succ {d : ByteArray} {k : Nat} {b : UInt8} (h : d.data.toList[k]? = some b) : lackA d (k + 1) = lackA d k + (30 - b.toNat / 16 - b.toNat % 16) := by
  unfold lackA
  rw [List.take_add_one, h]
  simp
theorem lackA_le (d : ByteArray) : ∀ k, lackA d k ≤ 30 * k
  | 0 => by simp [lackA]
  | k + 1 => by
    have ih := lackA_le d k
    cases h : d.data.toList[k]? with
    | none =>
      have e : lackA d (k + 1) = lackA d k := by
        unfold lackA
        rw [List.take_add_one, h]
        simp only [Option.toList_none, List.append_nil]
      rw [e]
      omega
    | some b => rw [lackA_succ h]; omega
theorem digitsF_le {d : ByteArray} : ∀ n ∈ digitsF d, n ≤ 15 := by
  intro n hn
  have h := lackA_le d 32
  simp only [digitsF, List.mem_append, List.mem_cons, List.not_mem_nil, or_false, digA, List.mem_flatMap] at hn
  rcases hn with ⟨b, _, hb⟩ | rfl | rfl | rfl
  · have := UInt8.toNat_lt b
    rcases hb with rfl | rfl <;> omega
  · omega
  · omega
  · omega
set_option maxRecDepth 100000 in
set_option maxHeartbeats 1000000 in
theorem digits_ok (d : ByteArray) (hd : d.size = 32) (w : World) :
    Calls Tryz.prog 154 #[.string d] w fun e w' => ∃ v, e = .returned (.tuple #[v, .bool true]) ∧ VMid 3 w w' v 67 (iv (digitsF d)) := by
  have hcv := Lib.run_convert_string_bytes (P := Tryz.prog) w 9 39 5 d Tryz.underlying9 Tryz.underlying39 Tryz.underlying5
  have HCELL := Lib.hid (fun j (hj : j < d.size) => Lib.bytesWorld_cell w 5 d j hj)
  have hub := unch_bytes w 5 d
  rw [hd] at hcv
  obtain ⟨cp, hcp⟩ : ∃ cp, grownCap w 32 0 5 = cp := ⟨_, rfl⟩
  rw [hcp] at hcv
  generalize Lib.bytesWorld w 5 d = w3 at *
  generalize hgb : w.heap.size = gb at *
  have HGB := Lib.hid hgb
  have HUB := Lib.hid hub
  clear hcp hgb hub
  go_enter Tryz.func154, Tryz.ntmps154
  go_wp2_with fail
  clear hcv
  go_loopg [4, 5, 7, 14] 32 (fun gk v l _ i wr => ∃ (k : Nat), gk = 32 - k ∧ k ≤ 32 ∧ i = .int .i64 (k : Int) ∧ l = .int .i64 (lackA d k : Int) ∧ VMid 3 w3 wr v (2 * k) (iv (digA d k)))
  case atStart => exact ⟨0, rfl, by omega, rfl, rfl, ⟨Unch.refl _ _, fun b hb => (by cases hb), by have : iv (digA d 0) = [] := rfl; rw [this]; exact Row.nil _ _ _⟩⟩
  case round =>
    obtain ⟨k, rfl, hk, rfl, rfl, hm⟩ := hrel
    obtain ⟨w2, rfl⟩ : ∃ w2, w2 = wr := ⟨_, rfl⟩
    have hu := hm.hu
    have HM := Lib.hid hm
    have HU := Lib.hid hu
    obtain ⟨A, c, rfl, hc⟩ := hm.row.slice
    by_cases hk32 : k < 32
    · have y0 : (0 : Int) ≤ (k : Int) := by omega
      have y1 : (k : Int) < 32 := by omega
      obtain ⟨b, hb, hb2⟩ := byte_at (d := d) (k := k) (by omega)
      have x0 := hu.cell (HCELL.out k (by omega)) (fun h => h)
      have hlt := UInt8.toNat_lt b
      have ha := and15_u8 b.toNat (by omega)
      have hd1 := digA_succ hb
      have hl1 := lackA_succ hb
      have hll := lackA_le d k
      rw [hb2] at x0
      generalize b.toNat = bn at *
      have z1 : (bn : Int) < 256 := by omega
      have z2 : (0 : Int) ≤ (bn : Int) := by omega
      have hd2 : iv (digA d (k + 1)) = iv (digA d k) ++ [.int .i64 ((bn : Int) / 16), .int .i64 ((bn % 16 : Nat) : Int)] := by rw [hd1, iv_app]; rfl
      have hl2 : ((lackA d k : Nat) : Int) + (30 - (bn : Int) / 16 - ((bn % 16 : Nat) : Int)) = ((lackA d (k + 1) : Nat) : Int) := by omega
      have HD := Lib.hid hd2
      have HL := Lib.hid hl2
      have hr1 : (0 : Int) ≤ 30 - (bn : Int) / 16 - ((bn % 16 : Nat) : Int) := by omega
      have hr2 : (30 : Int) - (bn : Int) / 16 - ((bn % 16 : Nat) : Int) ≤ 30 := by omega
      obtain ⟨lo, hlo⟩ : ∃ z, z = bn % 16 := ⟨_, rfl⟩
      rw [← hlo] at ha HD HL hr1 hr2
      have hlo2 : lo ≤ 15 := by omega
      have ho2 : (lo : Int) ≤ 15 := by omega
      have ho1 : (0 : Int) ≤ (lo : Int) := by omega
      generalize hLK : lackA d k = lk at *
      have HLK := Lib.hid hLK
      have HLO := Lib.hid hlo
      clear hLK hlo hd2 hl2 hd1 hl1 hb2 hb hm hu
      generalize hDA : iv (digA d k) = xs at *
      have HDA := Lib.hid hDA
      clear hDA
      go_wp2_with (at_builtin; refine wpList_appendM w2 rfl (.tmp 18) (.tmp 25) 52 3 _ 8 rfl Tryz.underlying52 info_int rfl (.slice A (2 * k) c) (2 * k) xs (by rfl) HM.out.row [.int .i64 ((bn : Int) / 16), .int .i64 (lo : Int)] 2 rfl (by intro u hu; simp at hu; rcases hu with rfl | rfl <;> rfl) (by rfl) (by simp only [maxLen]; omega) (by omega) ?_; intro v6 w6 hr6 hu6 hat6; have hs6 := HM.out.app hr6 hu6 hat6; have HS6 := Lib.hid hs6; have HU6 := Lib.hid hu6; clear hr6 hu6 hat6 hs6)
      go_roundg (32 - (k + 1))
      case measure => omega
      case rel => exact ⟨k + 1, rfl, by omega, by go_num, by rw [HL.out], by rw [HD.out]; exact HS6.out⟩
    · obtain rfl : k = 32 := by omega
      have hll := lackA_le d 32
      have hdg : iv (digitsF d) = iv (digA d 32) ++ [.int .i64 ((lackA d 32 : Int) / 256), .int .i64 ((lackA d 32 / 16 % 16 : Nat) : Int), .int .i64 ((lackA d 32 % 16 : Nat) : Int)] := by rw [digitsF, iv_app]; rfl
      generalize iv (digA d 32) = xs at *
      generalize lackA d 32 = lk at *
      have z1 : (0 : Int) ≤ (lk : Int) := by omega
      have z2 : (lk : Int) ≤ 960 := by omega
      have a1 := and15_i64 lk (by omega)
      have a2 := and15_i64 (lk / 16) (by omega)
      have e2 : ((lk / 16 : Nat) : Int) = (lk : Int) / 16 := by omega
      rw [e2] at a2
      obtain ⟨q1, hq1⟩ : ∃ q, q = lk / 16 % 16 := ⟨_, rfl⟩
      obtain ⟨q2, hq2⟩ : ∃ q, q = lk % 16 := ⟨_, rfl⟩
      rw [← hq1] at a2 hdg
      rw [← hq2] at a1 hdg
      have HDG := Lib.hid hdg
      clear hdg hq1 hq2 hm hu e2
      go_wp2_with (at_builtin; refine wpList_appendM w2 rfl (.tmp 38) (.tmp 46) 52 3 _ 8 rfl Tryz.underlying52 info_int rfl (.slice A (2 * 32) c) (2 * 32) xs (by rfl) HM.out.row [.int .i64 ((lk : Int) / 256), .int .i64 (q1 : Int), .int .i64 (q2 : Int)] 3 rfl (by intro u hu; simp at hu; rcases hu with rfl | rfl | rfl <;> rfl) (by rfl) (by simp only [maxLen]; omega) (by omega) ?_; intro v6 w6 hr6 hu6 hat6; have hs6 := HM.out.app hr6 hu6 hat6; have HS6 := Lib.hid hs6; have HU6 := Lib.hid hu6; clear hr6 hu6 hat6 hs6)
      refine bodyPost_ret (results_tmp2 rfl _ _ _) rfl ⟨v6, rfl, HUB.out.trans HS6.out.hu, fun b hb => Nat.le_trans HUB.out.size (HS6.out.own b hb), ?_⟩
      rw [HDG.out]
      exact HS6.out.row
/-- The digits, laid: the contract of the closure that reads them. -/
theorem sign1_ok (ds : List Nat) (hl : ds.length = 67) (bv : Nat) (A : Option Addr) (c : Nat) (w : World) (hb : w.cell? ⟨bv, 0, none⟩ = some (.slice A 67 c)) (hr : Row w 3 1 (.slice A 67 c) 67 (iv ds)) :
    StepC 155 #[.pointer (some ⟨bv, 0, none⟩)] (fun k => ds.getD k 0) w := by
  intro W hu k hk
  have y0 : (0 : Int) ≤ (k : Int) := by omega
  have y1 : (k : Int) < 67 := by omega
  have hbw := hu.cell hb (fun h => h)
  obtain ⟨g, o, cap, cur, hv, hh, _⟩ := hr.form (by omega)
  injection hv with h1 h2 h3
  subst h1
  have hat : (iv ds)[k]? = some (.int .i64 ((ds.getD k 0 : Nat) : Int)) := by
    have : k < ds.length := by omega
    rw [iv, List.getElem?_map, List.getElem?_eq_getElem this, List.getD_eq_getElem?_getD, List.getElem?_eq_getElem this]
    rfl
  have x0 := hu.cell (hr.at rfl hat) (fun h => h)
  show Calls Tryz.prog 155 #[.int .i64 (k : Int), .pointer (some ⟨bv, 0, none⟩)] W fun e w' => e = .returned (.int .i64 ((ds.getD k 0 : Nat) : Int)) ∧ Unch none_ W w'
  generalize ds.getD k 0 = z at *
  go_enter Tryz.func155, Tryz.ntmps155
  go_wp2
  go_ret
  exact ⟨rfl, Unch.refl _ _⟩
def stepsF (d : ByteArray) (k : Nat) : Nat := (digitsF d).getD k 0
theorem stepsF_le (d : ByteArray) (k : Nat) : stepsF d k ≤ 15 := by
  unfold stepsF
  rw [List.getD_eq_getElem?_getD]
  cases h : (digitsF d)[k]? with
  | none => simp
  | some n => exact digitsF_le n (List.mem_of_getElem? h)
theorem SMid.later {w w1 w2 : World} {v : Value} {m : Nat} {ys : List ByteArray} (hu : Unch none_ w w1) (h : SMid w1 w2 v m ys) : SMid w w2 v m ys := ⟨hu.trans h.hu, fun b hb => Nat.le_trans hu.size (h.own b hb), h.row⟩
/-- A digest's signature. -/
def wsignF (K : Nat → Int) (seed : ByteArray) (leaf : Nat) (d : ByteArray) : List ByteArray := valuesF K seed leaf (stepsF d) 67
set_option maxRecDepth 100000 in
set_option maxHeartbeats 1000000 in
theorem wsign_ok (K : Nat → Int) (seed : ByteArray) (hs : seed.size ≤ 1000000) (leaf : Nat) (hl : leaf < 65536) (d : ByteArray) (hd : d.size = 32) (w : World) (hK : Kys K w) :
    Calls Tryz.prog 111 #[.string seed, .int .i64 (leaf : Int), .string d] w fun e w' => ∃ v, e = .returned (.tuple #[v, .bool true]) ∧ SMid w w' v 67 (wsignF K seed leaf d) := by
  have hlf := leafs_ok leaf hl
  generalize shortT leaf = tl at *
  have hdg := digits_ok d hd
  have hdl := digitsF_len hd
  have hvs := fun (W : World) (bv : Nat) (A : Option Addr) (c : Nat) (hu : Unch none_ w W) (hb : W.cell? ⟨bv, 0, none⟩ = some (.slice A 67 c)) (hr : Row W 3 1 (.slice A 67 c) 67 (iv (digitsF d))) => wvalues_ok K seed hs leaf hl 155 #[.pointer (some ⟨bv, 0, none⟩)] (stepsF d) (fun k => by have := stepsF_le d k; omega) (enters_of Tryz.func155 (by kernel_rfl) rfl) W (hK.unch hu (fun h => h)) (sign1_ok (digitsF d) hdl bv A c W hb hr)
  rw [show valuesF K seed leaf (stepsF d) 67 = wsignF K seed leaf d from rfl] at hvs
  generalize wsignF K seed leaf d = vl at *
  generalize iv (digitsF d) = dl at *
  go_enter Tryz.func111, Tryz.ntmps111
  go_wp2_with (first
    | (go_at_call 149; refine (hlf _).mono ?_; rintro _ w1 ⟨rfl, hu1⟩)
    | (go_at_call 154; refine (hdg _).mono ?_; rintro _ w2 ⟨vd, rfl, hmd⟩; obtain ⟨A, c, rfl, hc⟩ := hmd.row.slice)
    | (go_at_call 150; refine (hvs _ w2.heap.size A c ((hu1.trans hmd.hu).alloc _) (by simp [go_sem]) (hmd.row.unch ((Unch.refl none_ _).alloc _) (fun _ _ h => h))).mono ?_; rintro _ w3 ⟨v, rfl, hm⟩))
  refine bodyPost_ret (results_tmp2 rfl _ _ _) rfl ⟨v, rfl, SMid.later ((hu1.trans hmd.hu).alloc _) hm⟩
end Go.Proofs.YtgcpoppinnnciaaGreatDoor
/- wots: the public to which a signature leads. -/
set_option linter.unusedVariables false
set_option linter.unusedSimpArgs false
namespace Go.Proofs.YtgcpoppinnnciaaGreatDoor
open Go Go.RowKit Go.Proofs.YtgcpoppinnnciaaGreatDoor.Pal Go.Proofs.YtgcpoppinnnciaaGreatDoor.Plan

def recV (K : Nat → Int) (d : ByteArray) (sig : List ByteArray) (k : Nat) : ByteArray := chainF K k (sig.getD k ⟨#[]⟩) (15 - stepsF d k)
def recL (K : Nat → Int) (d : ByteArray) (sig : List ByteArray) (n : Nat) : List ByteArray := (List.range n).map (recV K d sig)
theorem recL_len (K : Nat → Int) (d : ByteArray) (sig : List ByteArray) (n : Nat) : (recL K d sig n).length = n := by simp [recL]
theorem recL_succ (K : Nat → Int) (d : ByteArray) (sig : List ByteArray) (n : Nat) : recL K d sig (n + 1) = recL K d sig n ++ [recV K d sig n] := by simp [recL, List.range_succ]
/-- The public to which a signature leads. -/
def recoverF (K : Nat → Int) (d : ByteArray) (sig : List ByteArray) : ByteArray := tagF K 3 (recL K d sig 67)
theorem recL_32 {K : Nat → Int} {d : ByteArray} {sig : List ByteArray} (h : ∀ p ∈ sig, p.size = 32) (hl : sig.length = 67) : ∀ p ∈ recL K d sig 67, p.size = 32 := fun p hp => by
  simp only [recL, List.mem_map, List.mem_range] at hp
  obtain ⟨k, hk, rfl⟩ := hp
  refine chainF_32 K k ?_ _
  rw [List.getD_eq_getElem?_getD, List.getElem?_eq_getElem (by omega)]
  exact h _ (List.getElem_mem _)
set_option maxRecDepth 100000 in
set_option maxHeartbeats 1000000 in
theorem recover_ok (K : Nat → Int) (d : ByteArray) (hd : d.size = 32) (A : Option Addr) (c : Nat) (sig : List ByteArray) (w : World) (hK : Kys K w) (hr : RdS w 1 StrR A 67 sig) (h32 : ∀ p ∈ sig, p.size = 32) :
    Calls Tryz.prog 161 #[.string d, .slice A 67 c] w fun e w' => e = .returned (.tuple #[.string (recoverF K d sig), .bool true]) ∧ Unch none_ w w' := by
  have hl := hr.len
  have hdg := digits_ok d hd
  have hdl := digitsF_len hd
  have htg := fun (W W' : World) (v : Value) (hu : Unch none_ w W') (h : SMid W W' v 67 (recL K d sig 67)) => tagRow_ok K 3 (by omega) _ 67 (by omega) (recL_len ..) (recL_32 h32 hl) (hK.unch hu (fun h => h)) h
  rw [show tagF K 3 (recL K d sig 67) = recoverF K d sig from rfl] at htg
  obtain ⟨res, hres⟩ : ∃ r, recoverF K d sig = r := ⟨_, rfl⟩
  rw [hres] at htg ⊢
  have HTG := Lib.hid htg
  clear htg hres
  go_enter Tryz.func161, Tryz.ntmps161
  go_wp2_with (go_at_call 154; refine (hdg _).mono ?_; rintro _ w1 ⟨vd, rfl, hmd⟩; obtain ⟨A1, c1, rfl, hc1⟩ := hmd.row.slice)
  obtain ⟨g, o1, cap, cur, hv, hh, _⟩ := hmd.row.form (by omega)
  injection hv with h1 h2 h3
  subst h1
  clear h2 h3 hh
  have HMD := Lib.hid hmd
  clear hmd
  go_loopg [8, 9, 10, 25] 67 (fun gk v _ _ i wr => ∃ (k : Nat), gk = 67 - k ∧ k ≤ 67 ∧ i = .int .i64 (k : Int) ∧ SMid w1 wr v k (recL K d sig k))
  case atStart => exact ⟨0, rfl, by omega, rfl, ⟨Unch.refl _ _, fun b hb => (by cases hb), Row.nil _ _ _⟩⟩
  case round =>
    obtain ⟨k, rfl, hk, rfl, hm⟩ := hrel
    obtain ⟨w2, rfl⟩ : ∃ w2, w2 = wr := ⟨_, rfl⟩
    have HM := Lib.hid hm
    obtain ⟨A2, c2, rfl, hc2⟩ := hm.row.slice
    by_cases hk67 : k < 67
    · have y0 : (0 : Int) ≤ (k : Int) := by omega
      have y1 : (k : Int) < 67 := by omega
      obtain ⟨x, hx⟩ := get_some hl hk67
      have hu2 := HMD.out.hu.trans hm.hu
      obtain ⟨bb, o, rfl, _, x0⟩ := RdS.str (RdS.fresh hr hu2) hx
      have hx32 := h32 x (List.mem_of_getElem? hx)
      have hat : (iv (digitsF d))[k]? = some (.int .i64 ((stepsF d k : Nat) : Int)) := by
        have : k < (digitsF d).length := by omega
        rw [iv, stepsF, List.getElem?_map, List.getElem?_eq_getElem this, List.getD_eq_getElem?_getD, List.getElem?_eq_getElem this]
        rfl
      have x1 := hm.hu.cell (HMD.out.row.at rfl hat) (fun h => h)
      have hle := stepsF_le d k
      have hnx := recL_succ K d sig k
      have hch := fun W (hu : Unch none_ w2 W) => chain_ok K k hk67 x (by omega) (15 - stepsF d k) (by omega) W (hK.unch (hu2.trans hu) (fun h => h))
      rw [show chainF K k x (15 - stepsF d k) = recV K d sig k by rw [recV, List.getD_eq_getElem?_getD, hx]; rfl] at hch
      have he : (15 : Int) - ((stepsF d k : Nat) : Int) = ((15 - stepsF d k : Nat) : Int) := by omega
      generalize 15 - stepsF d k = q at *
      generalize stepsF d k = st at *
      generalize recV K d sig k = y at *
      generalize hvl : recL K d sig k = vl at *
      have HVL := Lib.hid hvl
      have HNX := Lib.hid hnx
      clear hvl hnx hm hat
      go_wp2_with (first
        | (go_at_call 179; refine (hch _ (Unch.refl _ _)).mono ?_; rintro _ w5 ⟨rfl, hu5⟩)
        | (at_builtin; refine wpList_append1 w5 rfl (.tmp 30) (.tmp 39) 25 9 _ 1 16 rfl Tryz.underlying25 info_str rfl (by omega) (.slice A2 k c2) k (sv vl) (by rfl) (HM.out.fresh hu5).row [.string y] rfl (by intro u hu; simp at hu; subst hu; rfl) (by rfl) (by simp only [maxLen]; omega) (by omega) ?_; intro v6 w6 hr6 hu6 hat6; have hs6 := (HM.out.fresh hu5).app1 hr6 hu6 hat6; have HS6 := Lib.hid hs6; clear hr6 hu6 hat6 hs6))
      go_roundg (67 - (k + 1))
      case measure => omega
      case rel => exact ⟨k + 1, rfl, by omega, by go_num, by rw [HNX.out]; exact HS6.out⟩
    · obtain rfl : k = 67 := by omega
      have hu2 := HMD.out.hu.trans hm.hu
      go_wp2_with (go_at_call 47; refine (HTG.out _ _ _ hu2 HM.out).mono ?_; rintro _ w3 ⟨rfl, hu3⟩)
      refine bodyPost_ret (results_tmp2 rfl _ _ _) rfl ⟨rfl, hu2.trans hu3⟩
end Go.Proofs.YtgcpoppinnnciaaGreatDoor
