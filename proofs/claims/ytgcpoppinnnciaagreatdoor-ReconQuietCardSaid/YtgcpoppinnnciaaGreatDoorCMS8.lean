/-
  slices.SortStableFunc over entries, by a number.
-/
import Derived.Test.YtgcpoppinnnciaaGreatDoorCMS7
/- slices.SortStableFunc over entries, by a number. -/
set_option linter.unusedVariables false
set_option linter.unusedSimpArgs false
namespace Go.Proofs.YtgcpoppinnnciaaGreatDoor
open Go Go.RowKit Go.Proofs.YtgcpoppinnnciaaGreatDoor.Pal Go.Proofs.YtgcpoppinnnciaaGreatDoor.Plan

theorem merge_ok {g : Nat} {lb : Array Value} {K : Ent → Nat} {X : Ent → Prop} {w : World} {blk off n c : Nat} (hn : n ≤ 300) (hc : CmpK g lb K X blk w) : ∀ d, MergeC g lb K X w blk off n c d := by
  intro d
  induction d with
  | zero =>
    intro w' P L R S a m b _ _ hL _ _ _ _ _ _ _ _ hd
    exact absurd (List.length_pos_iff.2 hL) (by omega)
  | succ d ih =>
    intro w' P L R S a m b hu h hL hR hsL hsR hXL hXR ha hm hb hd
    have hc' := hc.next hu
    have hl1 := List.length_pos_iff.2 hL
    have hr1 := List.length_pos_iff.2 hR
    subst hm
    subst hb
    by_cases h1 : L.length = 1
    · obtain ⟨x, rfl⟩ := List.length_eq_one_iff.1 h1
      exact merge_left (R := R) (by simpa using h) hn hc' (hXL x (by simp)) hXR hsR ha rfl
    · by_cases h2 : R.length = 1
      · obtain ⟨x, rfl⟩ := List.length_eq_one_iff.1 h2
        exact merge_right (L := L) (by simpa using h) hn hc' (hXR x (by simp)) hXL hsL ha rfl h1
      · exact merge_gen h hn hc' hXL hXR hsL hsR ha rfl rfl (by omega) (by omega) (by omega) (fun w2 P L R S a m b hu2 => ih w2 P L R S a m b (hu.trans hu2))
/-! ### Blocks -/
def Full (K : Ent → Nat) (bs : Nat) (Ds : List (List Ent)) : Prop := ∀ l ∈ Ds, Srt K l ∧ l.length = bs
theorem Full.len {K : Ent → Nat} {bs : Nat} : ∀ {Ds : List (List Ent)}, Full K bs Ds → Ds.flatten.length = bs * Ds.length
  | [], _ => by simp
  | l :: Ds, h => by
    have ih := Full.len (Ds := Ds) (fun x hx => h x (by simp [hx]))
    rw [List.flatten_cons, List.length_append, ih, (h l (by simp)).2, List.length_cons, Nat.mul_add]
    omega
theorem Full.snoc {K : Ent → Nat} {bs : Nat} {Ds : List (List Ent)} {l : List Ent} (h : Full K bs Ds) (hs : Srt K l) (hl : l.length = bs) : Full K bs (Ds ++ [l]) := fun x hx => by
  rcases List.mem_append.1 hx with hx | hx
  · exact h x hx
  · simp at hx; subst hx; exact ⟨hs, hl⟩
/-- The first blocks are sorted, twenty and twenty. -/
structure Stb1 (K : Ent → Nat) (w wr : World) (blk off n c : Nat) (xs : List Ent) (a : Nat) (Ds : List (List Ent)) (T : List Ent) : Prop where
  full : Full K 20 Ds
  perm : (Ds.flatten ++ T).Perm xs
  row : SR wr blk off n c (Ds.flatten ++ T)
  la : Ds.flatten.length = a
  u : Unch (fun k => k = blk) w wr
/-- All blocks are sorted, bs and bs; a shorter one last. -/
structure Stb2 (K : Ent → Nat) (w wr : World) (blk off n c : Nat) (xs : List Ent) (bs : Nat) (Ds : List (List Ent)) (M : List Ent) : Prop where
  full : Full K bs Ds
  srt : Srt K M
  le : M.length ≤ bs
  perm : (Ds.flatten ++ M).Perm xs
  row : SR wr blk off n c (Ds.flatten ++ M)
  u : Unch (fun k => k = blk) w wr
/-- .. while two and two are merged. -/
structure Stb3 (K : Ent → Nat) (w wr : World) (blk off n c : Nat) (xs : List Ent) (bs a : Nat) (Es Ds : List (List Ent)) (M : List Ent) : Prop where
  efull : Full K (2 * bs) Es
  full : Full K bs Ds
  srt : Srt K M
  le : M.length ≤ bs
  perm : (Es.flatten ++ (Ds.flatten ++ M)).Perm xs
  row : SR wr blk off n c (Es.flatten ++ (Ds.flatten ++ M))
  la : Es.flatten.length = a
  u : Unch (fun k => k = blk) w wr
def S1 (K : Ent → Nat) (w wr : World) (blk off n c : Nat) (xs : List Ent) (a : Nat) : Prop := ∃ Ds T, Stb1 K w wr blk off n c xs a Ds T
def S2 (K : Ent → Nat) (w wr : World) (blk off n c : Nat) (xs : List Ent) (bs : Nat) : Prop := ∃ Ds M, Stb2 K w wr blk off n c xs bs Ds M
def S3 (K : Ent → Nat) (w wr : World) (blk off n c : Nat) (xs : List Ent) (bs a : Nat) : Prop := ∃ Es Ds M, Stb3 K w wr blk off n c xs bs a Es Ds M
def StableP (K : Ent → Nat) (w : World) (blk off n c : Nat) (xs : List Ent) (e : Ending) (w' : World) : Prop := e = .returned (.tuple #[]) ∧ ∃ ys : List Ent, ys.Perm xs ∧ Srt K ys ∧ SR w' blk off n c ys ∧ Unch (fun k => k = blk) w w'
section
variable {g : Nat} {lb : Array Value} {K : Ent → Nat} {X : Ent → Prop} {w wr : World} {blk off n c : Nat} {xs : List Ent} {a bs : Nat}
/-- One more block of twenty. -/
theorem S1.step (h : S1 K w wr blk off n c xs a) (hn : n ≤ 300) (hc : CmpK g lb K X blk w) (hX : ∀ x ∈ xs, X x) {b : Nat} (hb : b = a + 20) (hbn : b ≤ n) :
    Calls Tryz.prog 222 #[.slice (some ⟨blk, off, none⟩) n c, .int .i64 (a : Int), .int .i64 (b : Int), .func (.func g) #[] lb] wr fun e w' => e = .returned (.tuple #[]) ∧ S1 K w w' blk off n c xs b := by
  obtain ⟨Ds, T, h⟩ := h
  have hlen := h.row.len
  rw [List.length_append, h.la] at hlen
  have l1 : (T.take 20).length = 20 := by rw [List.length_take]; omega
  have hr := h.row
  rw [← List.take_append_drop 20 T] at hr
  refine (insertion_ok hr hn (hc.next h.u) (fun x hx => hX x (h.perm.mem_iff.1 (List.mem_append_right _ (List.mem_of_mem_take hx)))) h.la (by rw [l1, hb])).mono ?_
  rintro e w' ⟨rfl, M, p1, p2, p3, p4⟩
  have lM : M.length = 20 := by rw [p1.length_eq, l1]
  refine ⟨rfl, Ds ++ [M], T.drop 20, h.full.snoc p2 lM, ?_, by simpa [List.append_assoc] using p3, by rw [List.flatten_append, List.length_append, h.la]; simp [lM, hb], h.u.trans p4⟩
  refine List.Perm.trans ?_ h.perm
  rw [List.flatten_append, List.append_assoc]
  refine List.Perm.append_left _ ?_
  have : (M ++ T.drop 20).Perm (T.take 20 ++ T.drop 20) := List.Perm.append_right _ p1
  rw [List.take_append_drop] at this
  simpa using this
/-- The last block. -/
theorem S1.last (h : S1 K w wr blk off n c xs a) (hn : n ≤ 300) (hc : CmpK g lb K X blk w) (hX : ∀ x ∈ xs, X x) (hbn : n < a + 20) :
    Calls Tryz.prog 222 #[.slice (some ⟨blk, off, none⟩) n c, .int .i64 (a : Int), .int .i64 (n : Int), .func (.func g) #[] lb] wr fun e w' => e = .returned (.tuple #[]) ∧ S2 K w w' blk off n c xs 20 := by
  obtain ⟨Ds, T, h⟩ := h
  have hlen := h.row.len
  rw [List.length_append, h.la] at hlen
  refine (insertion_ok (S := []) (by simpa using h.row) hn (hc.next h.u) (fun x hx => hX x (h.perm.mem_iff.1 (List.mem_append_right _ hx))) h.la (by omega)).mono ?_
  rintro e w' ⟨rfl, M, p1, p2, p3, p4⟩
  refine ⟨rfl, Ds, M, h.full, p2, by rw [p1.length_eq]; omega, (List.Perm.append_left _ p1).trans h.perm, by simpa using p3, h.u.trans p4⟩
theorem S2.start (h : S2 K w wr blk off n c xs bs) : S3 K w wr blk off n c xs bs 0 := by
  obtain ⟨Ds, M, h⟩ := h
  exact ⟨[], Ds, M, (by intro l hl; cases hl), h.full, h.srt, h.le, by simpa using h.perm, by simpa using h.row, rfl, h.u⟩
theorem S2.fin (h : S2 K w wr blk off n c xs bs) (hbs : n ≤ bs) (h0 : 0 < bs) : ∃ ys : List Ent, ys.Perm xs ∧ Srt K ys ∧ SR wr blk off n c ys ∧ Unch (fun k => k = blk) w wr := by
  obtain ⟨Ds, M, h⟩ := h
  have hlen := h.row.len
  rw [List.length_append, h.full.len] at hlen
  refine ⟨_, h.perm, ?_, h.row, h.u⟩
  cases Ds with
  | nil => simpa using h.srt
  | cons l Ds =>
    rw [List.length_cons, Nat.mul_add, Nat.mul_one] at hlen
    have e1 : Ds = [] := by
      cases Ds with
      | nil => rfl
      | cons l2 Ds => rw [List.length_cons, Nat.mul_add, Nat.mul_one] at hlen; omega
    subst e1
    have e2 : M = [] := List.eq_nil_of_length_eq_zero (by omega)
    subst e2
    simpa using (h.full l (by simp)).1
theorem perm_mid {α : Type} {A B B' C : List α} (h : B'.Perm B) : (A ++ (B' ++ C)).Perm (A ++ (B ++ C)) := List.Perm.append_left _ (List.Perm.append_right _ h)
/-- Two blocks are merged. -/
theorem S3.step (h : S3 K w wr blk off n c xs bs a) (hn : n ≤ 300) (hc : CmpK g lb K X blk w) (hX : ∀ x ∈ xs, X x) (h0 : 0 < bs) {m b : Nat} (hm : m = a + bs) (hb : b = a + 2 * bs) (hbn : b ≤ n) :
    Calls Tryz.prog 234 #[.slice (some ⟨blk, off, none⟩) n c, .int .i64 (a : Int), .int .i64 (m : Int), .int .i64 (b : Int), .func (.func g) #[] lb] wr fun e w' => e = .returned (.tuple #[]) ∧ S3 K w w' blk off n c xs bs b := by
  obtain ⟨Es, Ds, M, h⟩ := h
  have hlen := h.row.len
  rw [List.length_append, List.length_append, h.la, h.full.len] at hlen
  obtain ⟨l1, l2, Ds', M', e0, f1, f2, f3, f4⟩ : ∃ l1 l2 Ds' M', Ds.flatten ++ M = l1 ++ (l2 ++ (Ds'.flatten ++ M')) ∧ (Srt K l1 ∧ l1.length = bs) ∧ (Srt K l2 ∧ l2.length = bs) ∧ Full K bs Ds' ∧ (Srt K M' ∧ M'.length ≤ bs) := by
    have hle := h.le
    cases Ds with
    | nil => rw [List.length_nil, Nat.mul_zero] at hlen; omega
    | cons l1 Ds =>
      cases Ds with
      | nil =>
        rw [List.length_cons, List.length_nil, Nat.zero_add, Nat.mul_one] at hlen
        exact ⟨l1, M, [], [], by simp, h.full l1 (by simp), ⟨h.srt, by omega⟩, (by intro l hl; cases hl), List.Pairwise.nil, by simp⟩
      | cons l2 Ds =>
        exact ⟨l1, l2, Ds, M, by simp [List.append_assoc], h.full l1 (by simp), h.full l2 (by simp), fun l hl => h.full l (by simp [hl]), h.srt, hle⟩
  have hr := h.row
  have hp := h.perm
  rw [e0] at hr hp
  have hX' : ∀ x ∈ Es.flatten ++ (l1 ++ (l2 ++ (Ds'.flatten ++ M'))), X x := fun x hx => hX x (hp.mem_iff.1 hx)
  refine (merge_ok hn (hc.next h.u) (l1.length + l2.length) wr Es.flatten l1 l2 (Ds'.flatten ++ M') a m b (Unch.refl _ _) hr (fun e => by rw [e] at f1; have := f1.2; simp at this; omega) (fun e => by rw [e] at f2; have := f2.2; simp at this; omega) f1.1 f2.1 (fun x hx => hX' x (by simp [hx])) (fun x hx => hX' x (by simp [hx])) h.la (by rw [f1.2, hm]) (by rw [f2.2]; omega) (Nat.le_refl _)).mono ?_
  rintro e w' ⟨rfl, N, p1, p2, p3, p4⟩
  have lN : N.length = 2 * bs := by rw [p1.length_eq, List.length_append, f1.2, f2.2]; omega
  refine ⟨rfl, Es ++ [N], Ds', M', h.efull.snoc p2 lN, f3, f4.1, f4.2, ?_, by simpa [List.append_assoc] using p3, by rw [List.flatten_append, List.length_append, h.la]; simp [lN, hb], h.u.trans p4⟩
  refine List.Perm.trans ?_ hp
  have := perm_mid (A := Es.flatten) (C := Ds'.flatten ++ M') p1
  simpa [List.append_assoc] using this
/-- The rest: two are left to merge. -/
theorem S3.last (h : S3 K w wr blk off n c xs bs a) (hn : n ≤ 300) (hc : CmpK g lb K X blk w) (hX : ∀ x ∈ xs, X x) (h0 : 0 < bs) {m : Nat} (hm : m = a + bs) (hmn : m < n) (hb : n < a + 2 * bs) :
    Calls Tryz.prog 234 #[.slice (some ⟨blk, off, none⟩) n c, .int .i64 (a : Int), .int .i64 (m : Int), .int .i64 (n : Int), .func (.func g) #[] lb] wr fun e w' => e = .returned (.tuple #[]) ∧ S2 K w w' blk off n c xs (2 * bs) := by
  obtain ⟨Es, Ds, M, h⟩ := h
  have hlen := h.row.len
  have hle := h.le
  rw [List.length_append, List.length_append, h.la, h.full.len] at hlen
  obtain ⟨l1, rfl⟩ : ∃ l1, Ds = [l1] := by
    cases Ds with
    | nil => rw [List.length_nil, Nat.mul_zero] at hlen; omega
    | cons l1 Ds =>
      cases Ds with
      | nil => exact ⟨l1, rfl⟩
      | cons l2 Ds => rw [List.length_cons, List.length_cons, Nat.mul_add, Nat.mul_add, Nat.mul_one] at hlen; omega
  have f1 := h.full l1 (by simp)
  rw [List.length_singleton, Nat.mul_one] at hlen
  have hX' : ∀ x ∈ Es.flatten ++ ([l1].flatten ++ M), X x := fun x hx => hX x (h.perm.mem_iff.1 hx)
  refine (merge_ok hn (hc.next h.u) (l1.length + M.length) wr Es.flatten l1 M [] a m n (Unch.refl _ _) (by simpa using h.row) (fun e => by rw [e] at f1; have := f1.2; simp at this; omega) (fun e => by rw [e] at hlen; simp at hlen; omega) f1.1 h.srt (fun x hx => hX' x (by simp [hx])) (fun x hx => hX' x (by simp [hx])) h.la (by rw [f1.2, hm]) (by omega) (Nat.le_refl _)).mono ?_
  rintro e w' ⟨rfl, N, p1, p2, p3, p4⟩
  refine ⟨rfl, Es, N, h.efull, p2, by rw [p1.length_eq, List.length_append, f1.2]; omega, ?_, by simpa using p3, h.u.trans p4⟩
  refine (List.Perm.append_left _ p1).trans ?_
  have := h.perm
  simpa using this
/-- The rest is one. -/
theorem S3.one (h : S3 K w wr blk off n c xs bs a) (h0 : 0 < bs) (hmn : n ≤ a + bs) : S2 K w wr blk off n c xs (2 * bs) := by
  obtain ⟨Es, Ds, M, h⟩ := h
  have hlen := h.row.len
  have hle := h.le
  rw [List.length_append, List.length_append, h.la, h.full.len] at hlen
  cases Ds with
  | nil => exact ⟨Es, M, h.efull, h.srt, by omega, by simpa using h.perm, by simpa using h.row, h.u⟩
  | cons l1 Ds =>
    rw [List.length_cons, Nat.mul_add, Nat.mul_one] at hlen
    have e2 : M = [] := List.eq_nil_of_length_eq_zero (by omega)
    subst e2
    have e1 : Ds = [] := by
      cases Ds with
      | nil => rfl
      | cons l2 Ds => rw [List.length_cons, Nat.mul_add, Nat.mul_one] at hlen; omega
    subst e1
    have f1 := h.full l1 (by simp)
    exact ⟨Es, l1, h.efull, f1.1, by omega, by simpa using h.perm, by simpa using h.row, h.u⟩
end
set_option maxRecDepth 100000 in
set_option maxHeartbeats 2000000 in
theorem stable_ok {w : World} {blk off n c : Nat} {xs : List Ent} (h : SR w blk off n c xs) (hn : n ≤ 300) {g : Nat} {lb : Array Value} {K : Ent → Nat} {X : Ent → Prop} (hc : CmpK g lb K X blk w) (hX : ∀ x ∈ xs, X x) :
    Calls Tryz.prog 230 #[.slice (some ⟨blk, off, none⟩) n c, .int .i64 (n : Int), .func (.func g) #[] lb] w (StableP K w blk off n c xs) := by
  have HC := Lib.hid hc
  have HX := Lib.hid hX
  have H0 : Hid (S1 K w w blk off n c xs 0) := ⟨[], xs, (by intro l hl; cases hl), by simp, by simpa using h, rfl, Unch.refl _ _⟩
  clear hc hX h
  go_enter Tryz.func230, Tryz.ntmps230
  go_wp2
  go_loopg [7, 8] (n + 1) (fun gk i7 i8 wr => ∃ a b : Nat, gk = n + 1 - a ∧ i7 = .int .i64 (a : Int) ∧ i8 = .int .i64 (b : Int) ∧ a ≤ n ∧ b = a + 20 ∧ S1 K w wr blk off n c xs a)
  case atStart => exact ⟨0, 20, rfl, rfl, rfl, Nat.zero_le _, rfl, H0.out⟩
  case round =>
    obtain ⟨a, b, rfl, rfl, rfl, han, hb, hS⟩ := hrel
    obtain ⟨w2, rfl⟩ : ∃ w2, w2 = wr := ⟨_, rfl⟩
    have HS1 := Lib.hid hS
    clear hS
    by_cases hbn : b ≤ n
    · have hst := HS1.out.step hn HC.out HX.out hb hbn
      have b1 : b ≤ a + 20 := by omega
      have b2 : a + 20 ≤ b := by omega
      have HST := Lib.hid hst
      clear hst hb
      go_wp2_with fail
      refine HST.out.mono ?_
      rintro e w' ⟨rfl, h1⟩
      have H1 := Lib.hid h1
      clear h1
      go_wp2
      go_roundg (n + 1 - b)
      case measure => omega
      case rel => exact ⟨b, b + 20, rfl, rfl, by go_num, hbn, rfl, H1.out⟩
    · have hst := HS1.out.last hn HC.out HX.out (by omega)
      have HST := Lib.hid hst
      clear hst hb
      go_wp2_with fail
      refine HST.out.mono ?_
      rintro e w' ⟨rfl, h1⟩
      have H1 := Lib.hid h1
      clear h1
      go_wp2
      go_loopg [6, 7, 8, 9] (n + 1 - 20) (fun gk i6 i7 i8 i9 wr => ∃ bs : Nat, gk = n + 1 - bs ∧ i6 = .int .i64 (bs : Int) ∧ 20 ≤ bs ∧ bs ≤ 1000 ∧ S2 K w wr blk off n c xs bs)
      case atStart => exact ⟨20, rfl, rfl, by omega, by omega, H1.out⟩
      case round =>
        obtain ⟨bs, rfl, rfl, h20, h1000, hS⟩ := hrel
        obtain ⟨w3, rfl⟩ : ∃ w3, w3 = wr := ⟨_, rfl⟩
        have HS2 := Lib.hid hS
        clear hS
        by_cases hbs : bs < n
        · have z1 : (bs : Int) < (n : Int) := by omega
          obtain ⟨b2s, hb2⟩ : ∃ b, 2 * bs = b := ⟨_, rfl⟩
          have z2 : 2 * (bs : Int) = (b2s : Int) := by omega
          have z2' : (bs : Int) * 2 = (b2s : Int) := by omega
          have b21 : b2s ≤ 2 * bs := by omega
          have b22 : 2 * bs ≤ b2s := by omega
          have HB2 := Lib.hid hb2
          clear hb2
          go_wp2
          go_loopg [7, 8] (n + 1) (fun gk i7 i8 wr => ∃ a b : Nat, gk = n + 1 - a ∧ i7 = .int .i64 (a : Int) ∧ i8 = .int .i64 (b : Int) ∧ a ≤ n ∧ b = a + 2 * bs ∧ S3 K w wr blk off n c xs bs a)
          case atStart => exact ⟨0, b2s, rfl, rfl, rfl, Nat.zero_le _, by omega, HS2.out.start⟩
          case round =>
            obtain ⟨a, b, rfl, rfl, rfl, han, hb, hS⟩ := hrel
            obtain ⟨w4, rfl⟩ : ∃ w4, w4 = wr := ⟨_, rfl⟩
            have HS3 := Lib.hid hS
            have hb1 : b ≤ a + 2 * bs := by omega
            have hb2 : a + 2 * bs ≤ b := by omega
            obtain ⟨m, hm⟩ : ∃ m, m = a + bs := ⟨_, rfl⟩
            have z3 : (a : Int) + (bs : Int) = (m : Int) := by omega
            by_cases hbn : b ≤ n
            · have hst := HS3.out.step hn HC.out HX.out (by omega) hm hb hbn
              have HST := Lib.hid hst
              clear hst hb hm hS
              go_wp2_with fail
              refine HST.out.mono ?_
              rintro e w' ⟨rfl, h1⟩
              have H1 := Lib.hid h1
              clear h1
              go_wp2
              go_roundg (n + 1 - b)
              case measure => omega
              case rel => exact ⟨b, b + 2 * bs, rfl, rfl, by rw [HB2.out]; go_num, hbn, rfl, H1.out⟩
            · by_cases hmn : m < n
              · have hst := HS3.out.last hn HC.out HX.out (by omega) hm hmn (by omega)
                have HST := Lib.hid hst
                have z4 : (m : Int) < (n : Int) := by omega
                clear hst hb hm hS
                go_wp2_with fail
                refine HST.out.mono ?_
                rintro e w' ⟨rfl, h1⟩
                have H1 := Lib.hid h1
                rw [HB2.out] at H1
                clear h1
                go_wp2
                go_roundg (n + 1 - b2s)
                case measure => omega
                case rel => exact ⟨b2s, rfl, rfl, by omega, by omega, H1.out⟩
              · have hst := HS3.out.one (by omega) (by omega)
                have HST := Lib.hid hst
                rw [HB2.out] at HST
                have z4 : ¬ (m : Int) < (n : Int) := by omega
                clear hst hb hm hS
                go_wp2
                go_roundg (n + 1 - b2s)
                case measure => omega
                case rel => exact ⟨b2s, rfl, rfl, by omega, by omega, HST.out⟩
        · have z1 : ¬ (bs : Int) < (n : Int) := by omega
          have hst := HS2.out.fin (by omega) (by omega)
          have HST := Lib.hid hst
          clear hst
          go_wp2
          go_end0
          obtain ⟨ys, p1, p2, p3, p4⟩ := HST.out
          exact ⟨rfl, ys, p1, p2, p3, p4⟩
set_option maxRecDepth 100000 in
theorem sortStable_ok {w : World} {blk off n c : Nat} {xs : List Ent} (h : SR w blk off n c xs) (hn : n ≤ 300) {g : Nat} {lb : Array Value} {K : Ent → Nat} {X : Ent → Prop} (hc : CmpK g lb K X blk w) (hX : ∀ x ∈ xs, X x) :
    Calls Tryz.prog 217 #[.slice (some ⟨blk, off, none⟩) n c, .func (.func g) #[] lb] w (StableP K w blk off n c xs) := by
  have hs := stable_ok h hn hc hX
  have HS := Lib.hid hs
  clear hs h hc hX
  go_enter Tryz.func217, Tryz.ntmps217
  go_wp2_with fail
  refine HS.out.mono ?_
  rintro e w' ⟨rfl, h1⟩
  have H1 := Lib.hid h1
  clear h1
  go_wp2
  go_end0
  exact ⟨rfl, H1.out⟩
end Go.Proofs.YtgcpoppinnnciaaGreatDoor
