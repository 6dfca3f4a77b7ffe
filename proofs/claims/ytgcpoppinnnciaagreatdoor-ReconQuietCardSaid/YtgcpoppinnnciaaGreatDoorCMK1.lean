/-
  merkle: trees of digests: the root.
  merkle: a leaf's path.
  merkle: the root to which a path leads.
-/
import Derived.Test.YtgcpoppinnnciaaGreatDoorCWT1
/- merkle: trees of digests: the root. -/
set_option linter.unusedVariables false
set_option linter.unusedSimpArgs false
namespace Go.Proofs.YtgcpoppinnnciaaGreatDoor
open Go Go.RowKit Go.Proofs.YtgcpoppinnnciaaGreatDoor.Pal Go.Proofs.YtgcpoppinnnciaaGreatDoor.Plan

theorem inS_unch {P : Program} {f : FuncId} {args : Array Value} {v : Value} {w : World} {S : World → Prop} (HS : Hid (∀ W, S W ↔ Unch none_ w W)) (h : QC P f args v w) (G : In S) : Calls P f args G.w fun e w'' => e = .returned v ∧ ∃ g' : In S, w'' = g'.w :=
  (h G.w ((HS.out _).1 G.h)).mono fun e w'' ⟨he, hu⟩ => ⟨he, ⟨w'', (HS.out _).2 (((HS.out _).1 G.h).trans hu)⟩, rfl⟩
theorem RdS.drop {α : Type} {w : World} {size : Nat} {R : α → List Value → Prop} {b o n : Nat} {xs : List α} (h : RdS w size R (some ⟨b, o, none⟩) n xs) (i : Nat) (hi : i ≤ n) : RdS w size R (some ⟨b, o + i * size, none⟩) (n - i) (xs.drop i) :=
  ⟨by rw [List.length_drop, h.len], by have := h.max; omega, fun hn => by
    obtain ⟨b2, o2, hA, hb, hc⟩ := h.get (by omega)
    injection hA with hA
    injection hA with h1 h2
    subst h1; subst h2
    refine ⟨b, o + i * size, rfl, hb, fun k x hx => ?_⟩
    rw [List.getElem?_drop] at hx
    obtain ⟨c, e1, e2, e3⟩ := hc (i + k) x hx
    refine ⟨c, e1, e2, fun j u hj => ?_⟩
    rw [show o + i * size + k * size + j = o + (i + k) * size + j by rw [Nat.add_mul]; omega]
    exact e3 j u hj⟩
theorem leaves_ok (h : Nat) (hh : h ≤ 4) (w : World) : Calls Tryz.prog 69 #[.int .i64 ((2 ^ h : Nat) : Int)] w fun e w' => e = .returned (.bool true) ∧ w = w' := by
  have hc : h = 0 ∨ h = 1 ∨ h = 2 ∨ h = 3 ∨ h = 4 := by omega
  have b0 : bits BinOp.and IntKind.i64 1 0 = 0 := by decide
  have b1 : bits BinOp.and IntKind.i64 2 1 = 0 := by decide
  have b2 : bits BinOp.and IntKind.i64 4 3 = 0 := by decide
  have b3 : bits BinOp.and IntKind.i64 8 7 = 0 := by decide
  have b4 : bits BinOp.and IntKind.i64 16 15 = 0 := by decide
  rcases hc with rfl | rfl | rfl | rfl | rfl
  all_goals
    go_enter Tryz.func69, Tryz.ntmps69
    go_wp2
    go_ret
    exact ⟨rfl, rfl⟩
/-- The root of so many leaves. -/
def rootF (K : Nat → Int) : Nat → List ByteArray → ByteArray
  | 0, l => l.getD 0 ⟨#[]⟩
  | h + 1, l => tagF K 4 [rootF K h (l.take (2 ^ h)), rootF K h (l.drop (2 ^ h))]
theorem rootF_32 (K : Nat → Int) : ∀ (h : Nat) (l : List ByteArray), l.length = 2 ^ h → (∀ p ∈ l, p.size = 32) → (rootF K h l).size = 32
  | 0, l, hl, hp => by
    rw [rootF, List.getD_eq_getElem?_getD, List.getElem?_eq_getElem (by omega)]
    exact hp _ (List.getElem_mem _)
  | h + 1, l, _, _ => tagF_size ..
set_option maxRecDepth 100000 in
set_option maxHeartbeats 1000000 in
theorem root_ok (K : Nat → Int) : ∀ (h : Nat), h ≤ 4 → ∀ (b o c n : Nat) (l : List ByteArray) (w : World), Kys K w → n = 2 ^ h → n ≤ c → c ≤ maxLen → RdS w 1 StrR (some ⟨b, o, none⟩) n l → (∀ p ∈ l, p.size = 32) →
    Calls Tryz.prog 70 #[.slice (some ⟨b, o, none⟩) n c] w fun e w' => e = .returned (.string (rootF K h l)) ∧ Unch none_ w w'
  | 0, _, b, o, c, n, l, w, hK, hn, hnc, hcm, hr, hp => by
    subst hn
    have hl := hr.len
    obtain ⟨x, hx⟩ := get_some hl (i := 0) (by omega)
    obtain ⟨bb, oo, hA, _, x0⟩ := RdS.str hr hx
    injection hA with hA
    injection hA with h1 h2
    subst h1; subst h2
    have hres : rootF K 0 l = x := by rw [rootF, List.getD_eq_getElem?_getD, hx]; rfl
    rw [hres]
    have x1 : w.cell? ⟨b, o, none⟩ = some (.string x) := x0
    go_enter Tryz.func70, Tryz.ntmps70
    go_wp2
    go_ret
    exact ⟨rfl, Unch.refl _ _⟩
  | h + 1, hh, b, o, c, n, l, w, hK, hn, hnc, hcm, hr, hp => by
    obtain ⟨m, hm⟩ : ∃ m : Nat, m = 2 ^ h := ⟨_, rfl⟩
    have hnm : n = m + m := by rw [hn, hm, Nat.pow_succ]; omega
    have hm1 : 1 ≤ m := by rw [hm]; exact Nat.one_le_two_pow
    unfold maxLen at hcm
    subst hnm
    have hl := hr.len
    have hL : QC Tryz.prog 70 #[.slice (some ⟨b, o, none⟩) m c] (.string (rootF K h (l.take m))) w := fun W hu =>
      root_ok K h (by omega) b o c m (l.take m) W (hK.unch hu (fun h => h)) hm (by omega) (by unfold maxLen; omega) (RdS.take (RdS.fresh hr hu) m (by omega)) (fun p h => hp p (List.mem_of_mem_take h))
    have hR : QC Tryz.prog 70 #[.slice (some ⟨b, o + m, none⟩) m (c - m)] (.string (rootF K h (l.drop m))) w := fun W hu => by
      have hd := RdS.drop (RdS.fresh hr hu) m (by omega)
      rw [Nat.mul_one, show m + m - m = m by omega] at hd
      exact root_ok K h (by omega) b (o + m) (c - m) m (l.drop m) W (hK.unch hu (fun h => h)) hm (by omega) (by unfold maxLen; omega) hd (fun p h => hp p (List.mem_of_mem_drop h))
    have s1 := rootF_32 K h (l.take m) (by rw [List.length_take]; omega) (fun p h => hp p (List.mem_of_mem_take h))
    have s2 := rootF_32 K h (l.drop m) (by rw [List.length_drop]; omega) (fun p h => hp p (List.mem_of_mem_drop h))
    have hres : rootF K (h + 1) l = tagF K 4 [rootF K h (l.take m), rootF K h (l.drop m)] := by rw [rootF, hm]
    have htg := fun (W : World) (hu : Unch none_ w W) => tag2_ok K 4 (by omega) (rootF K h (l.take m)) (rootF K h (l.drop m)) (by omega) (by omega) W (hK.unch hu (fun h => h)) _ rfl
    rw [← hres] at htg
    have HRES := Lib.hid hres
    clear hres s1 s2
    generalize rootF K h (l.take m) = a1 at *
    generalize rootF K h (l.drop m) = a2 at *
    generalize rootF K (h + 1) l = res at *
    have HL := Lib.hid hL
    have HR := Lib.hid hR
    have HTG := Lib.hid htg
    clear hL hR htg hn hm hl hr hp
    have z1 : (1 : Int) ≤ (m : Int) := by omega
    have z2 : ((m + m : Nat) : Int) / 2 = (m : Int) := by omega
    have z5 : ((m : Int) + (m : Int)) / 2 = (m : Int) := by omega
    have z6 : ((m : Int) + (m : Int)).tdiv 2 = (m : Int) := by rw [Int.tdiv_eq_ediv_of_nonneg (by omega)]; omega
    have z7 : ((m : Int) + (m : Int) == 1) = false := by rw [beq_eq_false_iff_ne]; omega
    have z3 : (m : Int) ≤ (c : Int) := by omega
    have z4 : (m : Int) + (m : Int) ≤ (c : Int) := by omega
    go_enter Tryz.func70, Tryz.ntmps70
    go_wp2_with fail
    refine wp_planQ (fun W => Unch none_ w W) [0, 1, 2, 3, 4, 5, 6, 7, 8, 9, 10, 11] [12, 13, 14] (by kernel_rfl) (by kernel_rfl) rfl rfl ((Unch.refl _ _).drew) ?_
    intro S HS _
    simp only [pickIn, List.getElem?_toArray, List.getElem?_cons_succ, List.getElem?_cons_zero]
    repeat (go_big_quiet_step (first | (with_reducible exact inS_unch HS HL.out _) | (with_reducible exact inS_unch HS HR.out _)))
    refine wpQuiet_nil ?_
    intro W hW
    obtain ⟨⟨W, hW⟩, rfl⟩ := hW
    replace hW := (HS.out _).1 hW
    go_wp2_with (go_at_call 47; refine (HTG.out _ hW).mono ?_; rintro _ w3 ⟨rfl, hu3⟩)
    go_ret
    exact ⟨rfl, hW.trans hu3⟩
theorem mroot_ok (K : Nat → Int) (h : Nat) (hh : h ≤ 4) (b o c : Nat) (l : List ByteArray) (w : World) (hK : Kys K w) (hnc : 2 ^ h ≤ c) (hcm : c ≤ maxLen) (hr : RdS w 1 StrR (some ⟨b, o, none⟩) (2 ^ h) l) (hp : ∀ p ∈ l, p.size = 32) :
    Calls Tryz.prog 42 #[.slice (some ⟨b, o, none⟩) (2 ^ h) c] w fun e w' => e = .returned (.tuple #[.string (rootF K h l), .bool true]) ∧ Unch none_ w w' := by
  have hlv := leaves_ok h hh
  have hrt := fun (W : World) (hu : Unch none_ w W) => root_ok K h hh b o c (2 ^ h) l W (hK.unch hu (fun h => h)) rfl hnc hcm (RdS.fresh hr hu) hp
  have hz : 2 ^ h ≤ 16 := by
    have : 2 ^ h ≤ 2 ^ 4 := Nat.pow_le_pow_right (by decide) hh
    exact this
  generalize rootF K h l = res at *
  generalize 2 ^ h = n at *
  go_enter Tryz.func42, Tryz.ntmps42
  go_wp2_with (first
    | (go_at_call 69; refine (hlv _).mono ?_; rintro _ w1 ⟨rfl, rfl⟩)
    | (go_at_call 70; refine (hrt _ (Unch.refl _ _)).mono ?_; rintro _ w2 ⟨rfl, hu2⟩))
  refine bodyPost_ret (results_tmp2 rfl _ _ _) rfl ⟨rfl, hu2⟩
end Go.Proofs.YtgcpoppinnnciaaGreatDoor
/- merkle: a leaf's path. -/
set_option linter.unusedVariables false
set_option linter.unusedSimpArgs false
namespace Go.Proofs.YtgcpoppinnnciaaGreatDoor
open Go Go.RowKit Go.Proofs.YtgcpoppinnnciaaGreatDoor.Pal Go.Proofs.YtgcpoppinnnciaaGreatDoor.Plan

theorem xor1 : ∀ q : Nat, q < 16 → bits BinOp.xor IntKind.i64 (q : Int) 1 = ((q ^^^ 1 : Nat) : Int) := by
  have h : ∀ k : Fin 16, bits BinOp.xor IntKind.i64 (k.val : Int) 1 = ((k.val ^^^ 1 : Nat) : Int) := by decide +kernel
  exact fun k hk => h ⟨k, hk⟩
def atF (i j : Nat) : Nat := i / 2 ^ j ^^^ 1
theorem atF_le {h j i : Nat} (hh : h ≤ 4) (hj : j < h) (hi : i < 2 ^ h) : atF i j * 2 ^ j + 2 ^ j ≤ 2 ^ h ∧ atF i j < 16 := by
  have H : ∀ (h : Fin 5) (j : Fin 4) (i : Fin 16), j.val < h.val → i.val < 2 ^ h.val → atF i.val j.val * 2 ^ j.val + 2 ^ j.val ≤ 2 ^ h.val ∧ atF i.val j.val < 16 := by decide +kernel
  have h16 : 2 ^ h ≤ 16 := Nat.pow_le_pow_right (n := 2) (by decide) hh
  exact H ⟨h, by omega⟩ ⟨j, by omega⟩ ⟨i, by omega⟩ hj hi
/-- What stands beside a leaf, and above. -/
def besF (K : Nat → Int) (l : List ByteArray) (i j : Nat) : ByteArray := rootF K j ((l.drop (atF i j * 2 ^ j)).take (2 ^ j))
def pathF (K : Nat → Int) (l : List ByteArray) (i h : Nat) : List ByteArray := (List.range h).map (besF K l i)
theorem pathF_len (K : Nat → Int) (l : List ByteArray) (i h : Nat) : (pathF K l i h).length = h := by simp [pathF]
theorem pathF_succ (K : Nat → Int) (l : List ByteArray) (i h : Nat) : pathF K l i (h + 1) = pathF K l i h ++ [besF K l i h] := by simp [pathF, List.range_succ]
theorem besF_32 {K : Nat → Int} {l : List ByteArray} {h i j : Nat} (hh : h ≤ 4) (hj : j < h) (hi : i < 2 ^ h) (hl : l.length = 2 ^ h) (hp : ∀ p ∈ l, p.size = 32) : (besF K l i j).size = 32 := by
  have := (atF_le hh hj hi).1
  exact rootF_32 K j _ (by rw [List.length_take, List.length_drop]; omega) (fun p hm => hp p (List.mem_of_mem_drop (List.mem_of_mem_take hm)))
theorem pathF_32 {K : Nat → Int} {l : List ByteArray} {h i : Nat} (hh : h ≤ 4) (hi : i < 2 ^ h) (hl : l.length = 2 ^ h) (hp : ∀ p ∈ l, p.size = 32) : ∀ p ∈ pathF K l i h, p.size = 32 := fun p hm => by
  simp only [pathF, List.mem_map, List.mem_range] at hm
  obtain ⟨j, hj, rfl⟩ := hm
  exact besF_32 hh hj hi hl hp
set_option maxRecDepth 100000 in
set_option maxHeartbeats 1000000 in
theorem path_ok (K : Nat → Int) (h : Nat) (hh : h ≤ 4) (b o c : Nat) (l : List ByteArray) (i : Nat) (hi : i < 2 ^ h) (w : World) (hK : Kys K w) (hnc : 2 ^ h ≤ c) (hcm : c ≤ maxLen) (hr : RdS w 1 StrR (some ⟨b, o, none⟩) (2 ^ h) l) (hp : ∀ p ∈ l, p.size = 32) :
    Calls Tryz.prog 112 #[.slice (some ⟨b, o, none⟩) (2 ^ h) c, .int .i64 (i : Int)] w fun e w' => ∃ v, e = .returned (.tuple #[v, .bool true]) ∧ SMid w w' v h (pathF K l i h) := by
  have hlv := leaves_ok h hh
  have hl := hr.len
  have hz : 2 ^ h ≤ 16 := Nat.pow_le_pow_right (n := 2) (by decide) hh
  have hrt := fun (j : Nat) (hj : j < h) (W : World) (hu : Unch none_ w W) => root_ok K j (by omega) b (o + atF i j * 2 ^ j) (c - atF i j * 2 ^ j) (2 ^ j) ((l.drop (atF i j * 2 ^ j)).take (2 ^ j)) W (hK.unch hu (fun h => h)) rfl (Nat.le_sub_of_add_le (Nat.le_trans (by rw [Nat.add_comm]; exact (atF_le hh hj hi).1) hnc)) (Nat.le_trans (Nat.sub_le ..) hcm) (by
    have := (atF_le hh hj hi).1
    have hd := RdS.drop (RdS.fresh hr hu) (atF i j * 2 ^ j) (Nat.le_trans (Nat.le_add_right ..) this)
    rw [Nat.mul_one] at hd
    exact RdS.take hd (2 ^ j) (Nat.le_sub_of_add_le (by rw [Nat.add_comm]; exact this))) (fun p hm => hp p (List.mem_of_mem_drop (List.mem_of_mem_take hm)))
  obtain ⟨n, hn⟩ : ∃ n : Nat, n = 2 ^ h := ⟨_, rfl⟩
  have hin : i < n := by omega
  have hn16 : n ≤ 16 := by omega
  have hnc2 : n ≤ c := by omega
  have HRT := Lib.hid hrt
  rw [← hn] at hlv ⊢
  have HN := Lib.hid hn
  unfold maxLen at hcm
  clear hrt hz hr hp hl hn
  have y0 : (0 : Int) ≤ (i : Int) := by omega
  have y1 : (i : Int) < (n : Int) := by omega
  have d1 : decide ((i : Int) < 0) = false := decide_eq_false (by omega)
  have d2 : decide ((n : Int) ≤ (i : Int)) = false := decide_eq_false (by omega)
  have d3 : decide (n ≤ i) = false := decide_eq_false (by omega)
  go_enter Tryz.func112, Tryz.ntmps112
  go_wp2_with (go_at_call 69; refine (hlv _).mono ?_; rintro _ w1 ⟨rfl, rfl⟩)
  go_loopg [6, 7, 8] h (fun gk v nn _ wr => ∃ (j : Nat), gk = h - j ∧ j ≤ h ∧ nn = .int .i64 ((2 ^ j : Nat) : Int) ∧ SMid w wr v j (pathF K l i j))
  case atStart => exact ⟨0, rfl, by omega, rfl, ⟨Unch.refl _ _, fun b hb => (by cases hb), Row.nil _ _ _⟩⟩
  case round =>
    obtain ⟨j, rfl, hj, rfl, hm⟩ := hrel
    obtain ⟨w2, rfl⟩ : ∃ w2, w2 = wr := ⟨_, rfl⟩
    have HM := Lib.hid hm
    obtain ⟨A2, c2, rfl, hc2⟩ := hm.row.slice
    by_cases hjh : j < h
    · have hle := atF_le hh hjh hi
      have hN1 : 2 ^ (j + 1) = 2 * 2 ^ j := by rw [Nat.pow_succ]; omega
      have hNlt : 2 ^ j < 2 ^ h := Nat.pow_lt_pow_right (by decide) hjh
      have hN0 : 0 < 2 ^ j := Nat.two_pow_pos j
      have hq16 : i / 2 ^ j < 16 := by have := Nat.div_le_self i (2 ^ j); omega
      have hx := xor1 (i / 2 ^ j) hq16
      have hat : i / 2 ^ j ^^^ 1 = atF i j := rfl
      rw [hat] at hx
      have hrt := HRT.out j hjh
      have hnx := pathF_succ K l i j
      rw [show rootF K j ((l.drop (atF i j * 2 ^ j)).take (2 ^ j)) = besF K l i j from rfl] at hrt
      have hnh := HN.out
      rw [← hnh] at hle hNlt
      have HN1 := Lib.hid hN1
      generalize 2 ^ j = N at *
      generalize hq : i / N = q at *
      generalize hat2 : atF i j = a at *
      generalize han : a * N = an at *
      generalize besF K l i j = y at *
      generalize hvl : pathF K l i j = vl at *
      have e1 : (i : Int) / (N : Int) = (q : Int) := by rw [← hq]; rfl
      have e2 : (a : Int) * (N : Int) = (an : Int) := by rw [← han]; rfl
      have e3 : (N : Int) * 2 = ((2 ^ (j + 1) : Nat) : Int) := by rw [HN1.out]; omega
      have n0 : (1 : Int) ≤ (N : Int) := by omega
      have n1 : (N : Int) < (n : Int) := by omega
      have n2 : ((N : Int) == 0) = false := by rw [beq_eq_false_iff_ne]; omega
      have q0 : (0 : Int) ≤ (q : Int) := by omega
      have q1 : (q : Int) < 16 := by omega
      have n3 : (N : Int) ≤ 16 := by omega
      have a2 : (0 : Int) ≤ (a : Int) := by omega
      have a3 : (a : Int) < 16 := by omega
      have n4 : (n : Int) ≤ 16 := by omega
      have n5 : (an : Int) + (N : Int) ≤ (c : Int) := by omega
      have a0 : (0 : Int) ≤ (an : Int) := by omega
      have a1 : (an : Int) + (N : Int) ≤ (n : Int) := by omega
      have HVL := Lib.hid hvl
      have HNX := Lib.hid hnx
      have HE3 := Lib.hid e3
      clear hvl hnx hm hnh hq hat2 han hat hN1 e3
      have HRT2 := Lib.hid (fun W (hu : Unch none_ w2 W) => hrt W (HM.out.hu.trans hu))
      clear hrt
      go_wp2_with (first
        | (go_at_call 70; refine (HRT2.out _ (Unch.refl _ _)).mono ?_; rintro _ w5 ⟨rfl, hu5⟩)
        | (at_builtin; refine wpList_append1 w5 rfl (.tmp 33) (.tmp 45) 25 9 _ 1 16 rfl Tryz.underlying25 info_str rfl (by omega) (.slice A2 j c2) j (sv vl) (by rfl) (HM.out.fresh hu5).row [.string y] rfl (by intro u hu; simp at hu; subst hu; rfl) (by rfl) (by simp only [maxLen]; omega) (by omega) ?_; intro v6 w6 hr6 hu6 hat6; have hs6 := (HM.out.fresh hu5).app1 hr6 hu6 hat6; have HS6 := Lib.hid hs6; clear hr6 hu6 hat6 hs6))
      go_roundg (h - (j + 1))
      case measure => omega
      case rel => exact ⟨j + 1, rfl, by omega, by rw [HE3.out], by rw [HNX.out]; exact HS6.out⟩
    · obtain rfl : j = h := by omega
      have hnh := HN.out
      rw [← hnh]
      clear hnh hi hnc hm
      go_wp2_with fail
      refine bodyPost_ret (results_tmp2 rfl _ _ _) rfl ⟨_, rfl, HM.out⟩
end Go.Proofs.YtgcpoppinnnciaaGreatDoor
/- merkle: the root to which a path leads. -/
set_option linter.unusedVariables false
set_option linter.unusedSimpArgs false
namespace Go.Proofs.YtgcpoppinnnciaaGreatDoor
open Go Go.RowKit Go.Proofs.YtgcpoppinnnciaaGreatDoor.Pal Go.Proofs.YtgcpoppinnnciaaGreatDoor.Plan

theorem and1 : ∀ q : Nat, q < 16 → bits BinOp.and IntKind.i64 (q : Int) 1 = ((q % 2 : Nat) : Int) := by
  have h : ∀ k : Fin 16, bits BinOp.and IntKind.i64 (k.val : Int) 1 = ((k.val % 2 : Nat) : Int) := by decide +kernel
  exact fun k hk => h ⟨k, hk⟩
/-- The root to which a path leads. -/
def foldF (K : Nat → Int) : ByteArray → Nat → List ByteArray → ByteArray
  | x, _, [] => x
  | x, i, p :: r => foldF K (tagF K 4 (if i % 2 = 1 then [p, x] else [x, p])) (i / 2) r
theorem foldF_32 (K : Nat → Int) : ∀ (l : List ByteArray) (x : ByteArray) (i : Nat), x.size = 32 → (foldF K x i l).size = 32
  | [], x, i, h => h
  | p :: r, x, i, h => by rw [foldF]; exact foldF_32 K r _ _ (tagF_size K 4 _)
theorem tagP_ok (K : Nat → Int) (a b : ByteArray) (ha : a.size = 32) (hb : b.size = 32) (W : World) (hK : Kys K W) :
    Calls Tryz.prog 47 #[.int .i64 4, .slice (some ⟨W.heap.size, 0, none⟩) 2 2] (W.alloc (.cells #[.string a, .string b] 237)) fun e w' => e = .returned (.string (tagF K 4 [a, b])) ∧ Unch none_ W w' := by
  have hu : Unch none_ W (W.alloc (.cells #[.string a, .string b] 237)) := (Unch.refl _ _).alloc _
  exact (tag_ok K 4 (by omega) (some ⟨W.heap.size, 0, none⟩) 2 2 [a, b] _ (hK.unch hu (fun h => h)) (RdS.ofBlk (l := [a, b]) (by unfold maxLen; simp) (blk_new W _)) rfl (fun p hp => by
    simp only [List.mem_cons, List.not_mem_nil, or_false] at hp
    rcases hp with rfl | rfl <;> omega) (by rw [inputL_len2]; omega)).mono fun e w' ⟨he, hw⟩ => ⟨he, hu.trans hw⟩
set_option maxRecDepth 100000 in
set_option maxHeartbeats 1000000 in
theorem fold_ok (K : Nat → Int) (x : ByteArray) (hx : x.size = 32) (i : Nat) (A : Option Addr) (m c : Nat) (l : List ByteArray) (w : World) (hK : Kys K w) (hm : m ≤ 4) (hi : i < 2 ^ m) (hr : RdS w 1 StrR A m l) (hp : ∀ p ∈ l, p.size = 32) :
    Calls Tryz.prog 162 #[.string x, .int .i64 (i : Int), .slice A m c] w fun e w' => e = .returned (.tuple #[.string (foldF K x i l), .bool true]) ∧ Unch none_ w w' := by
  have hl := hr.len
  obtain ⟨R, hR⟩ : ∃ r, foldF K x i l = r := ⟨_, rfl⟩
  rw [hR]
  have h16 : 2 ^ m ≤ 16 := Nat.pow_le_pow_right (n := 2) (by decide) hm
  have hc : ((2 ^ m : Nat) : Int) = (2 : Int) ^ m := by push_cast; rfl
  obtain ⟨P, hP⟩ : ∃ P : Int, (2 : Int) ^ m = P := ⟨_, rfl⟩
  have y0 : (0 : Int) ≤ (i : Int) := by omega
  have y1 : (i : Int) < P := by omega
  have y4 : P ≤ 16 := by omega
  have y2 : (0 : Int) ≤ (m : Int) := by omega
  have y3 : (m : Int) ≤ 4 := by omega
  have d1 : decide (4 < (m : Int)) = false := decide_eq_false (by omega)
  have d2 : decide ((i : Int) < 0) = false := decide_eq_false (by omega)
  have d3 : decide (P ≤ (i : Int)) = false := decide_eq_false (by omega)
  have hi16 : i < 16 := by omega
  clear hc
  have HI := Lib.hid hi
  have HR := Lib.hid hR
  clear hi hR h16
  go_enter Tryz.func162, Tryz.ntmps162
  go_wp2_with fail
  go_loopg [0, 1, 9, 10, 27] m (fun gk sx si _ _ sk wr => ∃ (k : Nat) (x : ByteArray) (i : Nat), gk = m - k ∧ k ≤ m ∧ sk = .int .i64 (k : Int) ∧ sx = .string x ∧ si = .int .i64 (i : Int) ∧ x.size = 32 ∧ i < 16 ∧ foldF K x i (l.drop k) = R ∧ Unch none_ w wr)
  case atStart => exact ⟨0, x, i, rfl, by omega, rfl, rfl, rfl, hx, hi16, HR.out, Unch.refl _ _⟩
  case round =>
    clear hx y0 y1 d2 d3 hi16
    obtain ⟨k, x, i, rfl, hk, rfl, rfl, rfl, hx, hi16, hR, hu⟩ := hrel
    obtain ⟨w2, rfl⟩ : ∃ w2, w2 = wr := ⟨_, rfl⟩
    by_cases hkm : k < m
    · have z0 : (0 : Int) ≤ (k : Int) := by omega
      have z1 : (k : Int) < (m : Int) := by omega
      have z2 : (0 : Int) ≤ (i : Int) := by omega
      have z3 : (i : Int) < 16 := by omega
      obtain ⟨p, hpk⟩ := get_some hl hkm
      obtain ⟨bb, o, rfl, _, x0⟩ := RdS.str (RdS.fresh hr hu) hpk
      have hps := hp p (List.mem_of_getElem? hpk)
      have hdr : l.drop k = p :: l.drop (k + 1) := by
        have hkl : k < l.length := by omega
        rw [List.drop_eq_getElem_cons hkl]
        rw [List.getElem?_eq_getElem hkl] at hpk
        rw [Option.some.inj hpk]
      rw [hdr, foldF] at hR
      have ha := and1 i hi16
      obtain ⟨j, hj⟩ : ∃ j, i / 2 = j := ⟨_, rfl⟩
      rw [hj] at hR
      have e1 : (i : Int) / 2 = (j : Int) := by omega
      have hj16 : j < 16 := by omega
      clear hj
      have hK2 := hK.unch hu (fun h => h)
      have htg := fun (a b : ByteArray) (ha : a.size = 32) (hb : b.size = 32) => tagP_ok K a b ha hb w2 hK2
      by_cases hb : i % 2 = 1
      · rw [if_pos hb] at hR
        rw [hb] at ha
        have htg2 := htg p x hps hx
        obtain ⟨y, hy⟩ : ∃ y, tagF K 4 [p, x] = y := ⟨_, rfl⟩
        have hys : y.size = 32 := by rw [← hy]; exact tagF_size K 4 _
        rw [hy] at hR htg2
        have HR2 := Lib.hid hR
        clear hR HR hy htg
        go_wp2_with (go_at_call 47; refine htg2.mono ?_; rintro _ w3 ⟨rfl, hu3⟩)
        go_roundg (m - (k + 1))
        case measure => omega
        case rel => exact ⟨k + 1, y, j, rfl, by omega, by go_num, rfl, rfl, hys, hj16, HR2.out, hu.trans hu3⟩
      · rw [if_neg hb] at hR
        have hb0 : i % 2 = 0 := by omega
        rw [hb0] at ha
        have htg2 := htg x p hx hps
        obtain ⟨y, hy⟩ : ∃ y, tagF K 4 [x, p] = y := ⟨_, rfl⟩
        have hys : y.size = 32 := by rw [← hy]; exact tagF_size K 4 _
        rw [hy] at hR htg2
        have HR2 := Lib.hid hR
        clear hR HR hy htg
        go_wp2_with (go_at_call 47; refine htg2.mono ?_; rintro _ w3 ⟨rfl, hu3⟩)
        go_roundg (m - (k + 1))
        case measure => omega
        case rel => exact ⟨k + 1, y, j, rfl, by omega, by go_num, rfl, rfl, hys, hj16, HR2.out, hu.trans hu3⟩
    · obtain rfl : k = m := by omega
      rw [List.drop_of_length_le (by omega), foldF] at hR
      subst hR
      go_wp2_with fail
      refine bodyPost_ret (results_tmp2 rfl _ _ _) rfl ⟨rfl, hu⟩
end Go.Proofs.YtgcpoppinnnciaaGreatDoor
