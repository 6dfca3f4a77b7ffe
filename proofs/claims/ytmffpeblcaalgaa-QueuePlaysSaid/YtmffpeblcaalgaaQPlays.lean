/-
  The walk of QueuePlays: the box and the law's own rows go side by side.
-/
import Derived.Test.YtmffpeblcaalgaaQPlain
import Derived.Test.YtmffpeblcaalgaaOpen
set_option linter.unusedVariables false
set_option linter.unusedSimpArgs false
namespace Go.Proofs.Ytmffpeblcaalgaa
open Go Go.RowKit Go.Proofs.Ytmffpeblcaalgaa.Pal Go.Proofs.Ytmffpeblcaalgaa.Plan

structure QAct where
  kind : Int
  from_ : Int
  text : ByteArray
def QActR (x : QAct) (c : List Value) : Prop := c = [.int .i64 x.kind, .int .i64 x.from_, .string x.text] ∧ i64ok x.kind ∧ i64ok x.from_

structure QP (w0 w : World) (B L : Nat) (vs : List Value) (pl turn : Nat) (rows : List (List ByteArray)) (N : Nat) (us : List Value) (rowsN : List (List Value)) : Prop where
  qb : QB w0 w B L vs pl turn rows
  now : Rws w 39 9 N us rowsN
  nnew : ∀ k, rfoot N us k → w0.heap.size ≤ k
  disj : ∀ k, rfoot N us k → ¬ foot B L vs k
section
variable {w0 w w1 : World} {B L pl turn t' N : Nat} {vs vs' us us' : List Value} {rows rows' : List (List ByteArray)} {rowsN rowsN' : List (List Value)}
theorem QP.stepBox (h : QP w0 w B L vs pl turn rows N us rowsN) (hb : Box w1 B L vs' pl t' rows') (hu : Unch (foot B L vs) w w1) (hf : ∀ k, foot B L vs' k → foot B L vs k ∨ w.heap.size ≤ k) : QP w0 w1 B L vs' pl t' rows' N us rowsN :=
  ⟨h.qb.next hb hu hf, h.now.unch hu h.disj, h.nnew, fun k hk hk' => by
    rcases hf k hk' with h1 | h1
    · exact h.disj k hk h1
    · have := h.now.lt hk; omega⟩
theorem QB.lt (h : QB w0 w B L vs pl turn rows) {k : Nat} (hk : foot B L vs k) : k < w.heap.size := by
  rcases hk with rfl | rfl | ⟨v, hv, hk⟩
  · exact lt_of_heap h.box.hB
  · exact lt_of_heap h.box.hL
  · obtain ⟨i, hi⟩ := List.getElem?_of_mem hv
    have hil : i < rows.length := by rw [← h.box.len]; exact (List.getElem?_eq_some_iff.1 hi).1
    obtain ⟨cur, hc⟩ := (h.box.row i v _ hi (List.getElem?_eq_getElem hil)).blk hk
    exact lt_of_heap hc
theorem QP.stepNow (h : QP w0 w B L vs pl turn rows N us rowsN) (hr : Rws w1 39 9 N us' rowsN') (hu : Unch (rfoot N us) w w1) (hf : ∀ k, rfoot N us' k → rfoot N us k ∨ w.heap.size ≤ k) : QP w0 w1 B L vs pl turn rows N us' rowsN' :=
  ⟨h.qb.other hu h.nnew h.disj, hr, fun k hk => by
    rcases hf k hk with h1 | h1
    · exact h.nnew k h1
    · have := h.qb.unch.size; omega, fun k hk hk' => by
    rcases hf k hk with h1 | h1
    · exact h.disj k h1 hk'
    · have := h.qb.lt hk'; omega⟩
theorem QP.drewN (h : QP w0 w B L vs pl turn rows N us rowsN) (m : Nat) : QP w0 (w.drewN m) B L vs pl turn rows N us rowsN :=
  h.stepBox (h.qb.drewN m).box ((Unch.refl _ _).drewN m) (fun _ h => .inl h)
end
/-- What a round of the play knows. -/
def PRel (w0 w : World) (B L pl turn n N : Nat) (v : Value) : Prop :=
  ∃ vs rows us, QP w0 w B L vs pl turn rows N us (rows.map strs) ∧ rows.length = n ∧ (∀ r ∈ rows, r.length ≤ pl) ∧ turn < n ∧ v = .int .i64 (qlen rows : Int)

set_option maxRecDepth 100000 in
set_option maxHeartbeats 4000000 in
theorem queuePlays_core (n pl : Nat) (g1 : 1 ≤ n) (g2 : n ≤ 16) (g3 : 1 ≤ pl) (g4 : pl ≤ 64) (b o : Nat) (len cap : Nat) (hlen : len ≤ 200) (l : List QAct) (w : World) (hl : RdS w 3 QActR (some ⟨b, o, none⟩) len l) (hbw : 0 < len → b < w.heap.size) (hcap : len ≤ cap) :
    Calls Try.prog 5 #[.int .i64 (n : Int), .int .i64 (pl : Int), .slice (some ⟨b, o, none⟩) len cap] w (lawPost w) := by
  have h1 : ¬ (200 : Int) < (len : Int) := by omega
  have k1 : ¬ ((n : Int) < 1) := by omega
  have k2 : ¬ (16 < (n : Int)) := by omega
  have k3 : ¬ ((pl : Int) < 1) := by omega
  have k4 : ¬ (64 < (pl : Int)) := by omega
  have hmk := fun W => run_make_row' (P := Try.prog) 36 39 (.slice none 0 0) 24 Try.underlying36 info_strs rfl .i64 .i64 n (by omega) (by omega) W
  go_enter Try.func5, Try.ntmps5
  go_wp2_with fail
  refine (qawake _).mono ?_
  rintro e w1 ⟨rfl, hu1⟩
  go_wp2_with fail
  refine (QB.made hu1 n pl g1 g2 g3 g4 _ _ rfl rfl).mono ?_
  rintro e w2 ⟨B, L, vs, rfl, hq⟩
  go_wp2_with fail
  go_loopw [8, 9, 10, 11] (fun now turn nn i wr => ∃ k N t : Nat, k ≤ len ∧ i = .int .i64 (k : Int) ∧ now = .slice (some ⟨N, 0, none⟩) n n ∧ turn = .int .i64 (t : Int) ∧ PRel w wr B L pl t n N nn) (fun _ _ _ i _ => len - (intOf i).toNat)
  case atStart =>
    refine ⟨0, _, 0, Nat.zero_le _, rfl, rfl, rfl, vs, List.replicate n [], List.replicate n (.slice none 0 0), ⟨?_, ?_, ?_, ?_⟩, by simp, ?_, by omega, by rw [qlen_replicate]; rfl⟩
    · exact hq.other (X := none_) ((Unch.refl _ _).alloc _) (fun _ h => h.elim) (fun _ h => h.elim)
    · have := Rws.made w2 39 9 n
      simpa [strs] using this
    · intro k hk; rw [rfoot_made hk]; exact hq.unch.size
    · intro k hk hk'; have := hq.lt hk'; rw [rfoot_made hk] at this; omega
    · intro r hr; obtain rfl := List.eq_of_mem_replicate hr; exact Nat.zero_le _
  case round =>
    obtain ⟨k, N, t, hk, rfl, rfl, rfl, vs, rows, us, hp, hrl, hrp, ht, rfl⟩ := hrel
    by_cases hlt : k < len
    · obtain ⟨x, hx⟩ : ∃ x, l[k]? = some x := ⟨_, List.getElem?_eq_getElem (by rw [hl.len]; exact hlt)⟩
      obtain ⟨kd, fr, tx⟩ := x
      obtain ⟨b', o', c, hA', hb', hc3, ⟨rfl, hkd, hfr⟩, hcell⟩ := (hl.unch hp.qb.unch (fun _ _ h => h) (fun _ _ h => h)).at hx
      obtain ⟨rfl, rfl⟩ : b = b' ∧ o = o' := by injection hA' with h; injection h with h1 h2; exact ⟨h1, h2⟩
      have x0 := hcell 0 _ rfl
      rw [Nat.add_zero] at x0
      have x1 := hcell 1 _ rfl
      have x2 := hcell 2 _ rfl
      clear hA' hcell hc3 hx
      have HL := Lib.hid hl
      have HK := Lib.hid hkd
      have HP := Lib.hid hrp
      have HR := Lib.hid hrl
      clear hl hkd hrp hrl
      have z0 : (0 : Int) ≤ (k : Int) := by omega
      have z1 : (k : Int) < (len : Int) := by omega
      have hlen16 : rows.length ≤ 16 := by rw [HR.out]; exact g2
      have hr64 : ∀ r ∈ rows, r.length ≤ 64 := fun r hr => Nat.le_trans (HP.out r hr) g4
      have hp1 := hp.drewN 1
      by_cases hk0 : kd = 0
      · subst hk0
        by_cases hf : fr < 0 ∨ (n : Int) ≤ fr
        · have hf' : fr < 0 ∨ (rows.length : Int) ≤ fr := by rw [HR.out]; exact hf
          have HF := Lib.hid hf'
          by_cases hf0 : fr < 0
          · clear hf hf'
            go_wp2_with fail
            refine wp_plan1 b [0, 1, 2, 3, 4, 5, 6, 7, 8, 9, 10] [11, 12] 0 (by kernel_rfl) (by kernel_rfl) rfl rfl (fun c a d v w h => by cases d <;> exact h) ?_
            intro S HS _ s1
            simp only [pickIn, List.getElem?_toArray, List.getElem?_cons_succ, List.getElem?_cons_zero]
            repeat (go_big_quiet_step (fail))
            refine wpQuiet_nil ?_
            refine tail_all ?_
            go_wp2_with fail
            refine (put_arg hp1.qb.box hlen16 fr HF.out tx).mono ?_
            rintro e w3 ⟨rfl, rfl⟩
            go_wp2_with fail
            refine (hp1.qb.len hlen16 hr64 _ rfl).mono ?_
            rintro e w4 ⟨rfl, rfl⟩
            go_wp2
            go_roundw
            case rel => exact ⟨k + 1, N, t, by omega, by go_num, rfl, rfl, vs, rows, us, hp1, HR.out, HP.out, ht, rfl⟩
            case measure => simp [intOf]; omega
          · have hf1 : (n : Int) ≤ fr := hf.resolve_left hf0
            clear hf hf'
            go_wp2_with fail
            refine wp_plan1 b [0, 1, 2, 3, 4, 5, 6, 7, 8, 9, 10] [11, 12] 0 (by kernel_rfl) (by kernel_rfl) rfl rfl (fun c a d v w h => by cases d <;> exact h) ?_
            intro S HS _ s1
            simp only [pickIn, List.getElem?_toArray, List.getElem?_cons_succ, List.getElem?_cons_zero]
            repeat (go_big_quiet_step (fail))
            refine wpQuiet_nil ?_
            refine tail_all ?_
            go_wp2_with fail
            refine (put_arg hp1.qb.box hlen16 fr HF.out tx).mono ?_
            rintro e w3 ⟨rfl, rfl⟩
            go_wp2_with fail
            refine (hp1.qb.len hlen16 hr64 _ rfl).mono ?_
            rintro e w4 ⟨rfl, rfl⟩
            go_wp2
            go_roundw
            case rel => exact ⟨k + 1, N, t, by omega, by go_num, rfl, rfl, vs, rows, us, hp1, HR.out, HP.out, ht, rfl⟩
            case measure => simp [intOf]; omega
        · obtain ⟨j, rfl⟩ : ∃ j : Nat, fr = (j : Int) := ⟨fr.toNat, by omega⟩
          have hjn : j < n := by omega
          have hj0 : (0 : Int) ≤ (j : Int) := by omega
          have hj1 : (j : Int) < (n : Int) := by omega
          have hj2 : ¬ ((j : Int) < 0) := by omega
          clear hf
          obtain ⟨r, hr⟩ : ∃ r, rows[j]? = some r := ⟨_, List.getElem?_eq_getElem (by rw [HR.out]; exact hjn)⟩
          have HRj := Lib.hid hr
          have hrpl : r.length ≤ pl := HP.out r (List.mem_of_getElem? hr)
          by_cases hfull : pl ≤ r.length
          · go_wp2_with fail
            refine wp_plan1 b [0, 1, 2, 3, 4, 5, 6, 7, 8, 9, 10] [11, 12] 0 (by kernel_rfl) (by kernel_rfl) rfl rfl (fun c a d v w h => by cases d <;> exact h) ?_
            intro S HS _ s1
            simp only [pickIn, List.getElem?_toArray, List.getElem?_cons_succ, List.getElem?_cons_zero]
            repeat (go_big_quiet_step (fail))
            refine wpQuiet_nil ?_
            refine tail_all ?_
            go_wp2_with fail
            refine (put_busy hp1.qb.box hlen16 g4 j r HRj.out hfull tx).mono ?_
            rintro e w3 ⟨rfl, m, rfl⟩
            have hp2 := hp.drewN (1 + m)
            obtain ⟨A2, c2, _, _, _, d2⟩ := hp.now.cells (i := j) (r := strs r) (by simp [HRj.out])
            rw [show (strs r).length = r.length by simp [strs]] at d2
            have hge : (pl : Int) ≤ (r.length : Int) := by omega
            clear hr
            go_wp2_with fail
            refine (hp2.qb.len hlen16 hr64 _ rfl).mono ?_
            rintro e w4 ⟨rfl, rfl⟩
            go_wp2
            go_roundw
            case rel => exact ⟨k + 1, N, t, by omega, by go_num, rfl, rfl, vs, rows, us, hp2, HR.out, HP.out, ht, rfl⟩
            case measure => simp [intOf]; omega
          · go_wp2_with fail
            refine wp_plan1 b [0, 1, 2, 3, 4, 5, 6, 7, 8, 9, 10] [11, 12] 0 (by kernel_rfl) (by kernel_rfl) rfl rfl (fun c a d v w h => by cases d <;> exact h) ?_
            intro S HS _ s1
            simp only [pickIn, List.getElem?_toArray, List.getElem?_cons_succ, List.getElem?_cons_zero]
            repeat (go_big_quiet_step (fail))
            refine wpQuiet_nil ?_
            refine tail_all ?_
            go_wp2_with fail
            refine (put_ok hp1.qb.box hlen16 g4 j r HRj.out (by omega) tx).mono ?_
            rintro e w3 ⟨rfl, vs', hb3, hu3, hf3⟩
            have hp2 := hp1.stepBox hb3 hu3 hf3
            obtain ⟨A2, c2, hv2, hlc2, hrow2, d2⟩ := hp2.now.cells (i := j) (r := strs r) (by simp [HRj.out])
            rw [show (strs r).length = r.length by simp [strs]] at d2 hv2 hrow2 hlc2
            have hge : ¬ (pl : Int) ≤ (r.length : Int) := by omega
            have hub := hp2.qb.unch
            have e0 := hub.trans (Unch.refl _ _)
            have xx : ∀ q v, wr.cell? ⟨b, q, none⟩ = some v → w3.cell? ⟨b, q, none⟩ = some v := fun q v h => hu3.cell (w := wr.drewN 1) h (fun hk => by have := hp1.qb.new b hk; have := hbw (by omega); omega)
            have y0 := xx _ _ x0
            have y1 := xx _ _ x1
            have y2 := xx _ _ x2
            have dfN : w3.frozen? ⟨N, j, none⟩ = false := blk_free hp2.now.hL j
            have hbN : b ≠ N := fun e => by have := hp2.nnew N (.inl rfl); have := hbw (by omega); omega
            have hne2 := fun k hk => hp2.now.rowne (by decide) hv2 (k := k) hk
            have HV2 := Lib.hid hv2
            clear hr xx e0 hv2
            go_wp2_with fail
            refine wp_plan2 b N [0, 1, 2, 3, 4, 5, 6, 7, 8, 9, 10, 11, 12, 13, 14, 15, 16, 17, 18] [19, 20, 21, 22] 2 (by kernel_rfl) (by kernel_rfl) rfl rfl (fun c a d v w h => by cases d <;> exact h) ?_
            intro S HS _ s1 s2
            simp only [pickIn, List.getElem?_toArray, List.getElem?_cons_succ, List.getElem?_cons_zero]
            repeat (go_big_quiet_step (fail))
            refine wpQuiet_nil ?_
            refine tail_step ?_
            go_wp2
            refine tail_midS ((HS.out _).2 ⟨(Below.heap_alloc _ _ _ (by have := hub.size; have := hbw (by omega); simp; omega)), (Below.heap_alloc _ _ _ (lt_of_heap hp2.now.hL))⟩) ?_
            refine tail_step ?_
            have hrow3 : Row w3.drew 9 1 (.slice A2 r.length c2) r.length (strs r) := hrow2.move fun _ _ => rfl
            refine wpList_append1 w3.drew rfl (.tmp 114) (.tmp 120) 39 9 _ 1 16 rfl Try.underlying39 info_str rfl (by omega) (.slice A2 r.length c2) r.length (strs r) (by rfl) hrow3 [.string tx] rfl (by intro u hu; simp at hu; subst hu; rfl) (by rfl) (by simp only [maxLen]; omega) (by omega) ?_
            intro v' w4 hr4 hu4 hat4
            obtain ⟨A4, c4, rfl, _⟩ := hr4.slice
            have hu4' : Unch (fun k => (Value.slice A2 r.length c2).ownBlock = some k) w3 w4 := ⟨hu4.os, hu4.tape, hu4.output, hu4.size, hu4.block⟩
            have hbo : ∀ k, (Value.slice A2 r.length c2).ownBlock = some k → k ≠ b := fun k hk e => by
              have := hp2.nnew k (.inr ⟨_, List.mem_of_getElem? HV2.out, hk⟩); have := hbw (by omega); omega
            refine wpList_nil (tail_midS ((HS.out _).2 ⟨hu4.block b (by have := hub.size; have := hbw (by omega); simp; omega) (fun hk => hbo b hk rfl), hu4.block N (by simpa using lt_of_heap hp2.now.hL) (fun hk => hne2 N hk rfl)⟩) (tail_all ?_))
            have e2 : w4.cell? ⟨N, j, none⟩ = _ := hu4'.cell d2 (fun hk => hne2 N hk rfl)
            have e3 : w4.frozen? ⟨N, j, none⟩ = false := hu4'.frozen (lt_of_heap hp2.now.hL) dfN (fun hk => hne2 N hk rfl)
            have hst := hp2.now.set (by decide) (r' := strs (r ++ [tx])) HV2.out (w1 := w4) (v' := .slice A4 (r.length + 1) c4) (by simpa [strs] using hr4) hu4' (fun k hk => by
              rcases hat4 with h1 | ⟨b', h1, h2⟩
              · exact .inl (h1 ▸ hk)
              · rw [h1] at hk; injection hk with hk; subst hk; exact .inr (by simpa using h2))
            have hp3 := hp2.stepNow hst.1 hst.2.1 hst.2.2
            rw [← List.map_set] at hp3
            have hq3 := qlen_set HRj.out (r ++ [tx])
            rw [List.length_append, List.length_singleton] at hq3
            have HQ : Hid ((qlen rows : Int) + 1 = (qlen (rows.set j (r ++ [tx])) : Int)) := by unfold Hid; omega
            have hrp3 : ∀ q ∈ rows.set j (r ++ [tx]), q.length ≤ pl := set_le HP.out (by simp; omega)
            have hq4 : qlen (rows.set j (r ++ [tx])) ≤ 16 * 64 := by
              have h5 := qlen_le _ 64 fun q hq => Nat.le_trans (hrp3 q hq) g4
              rw [List.length_set] at h5
              have := Nat.mul_le_mul_right 64 hlen16
              omega
            have hq5 : (qlen rows : Int) ≤ 1024 := by have := HQ.out; omega
            have Hp3 := Lib.hid hp3
            have Hrp3 := Lib.hid hrp3
            clear hst hp3 hq3 hrp3 hr4 hat4 hrow3 hq4
            go_wp2_with fail
            refine (Hp3.out.qb.len (by rw [List.length_set]; exact hlen16) (fun q hq => Nat.le_trans (Hrp3.out q hq) g4) _ rfl).mono ?_
            rintro e w5 ⟨rfl, rfl⟩
            have hq6 : ((qlen (rows.set j (r ++ [tx])) : Int) != (qlen rows : Int) + 1) = false := by rw [HQ.out]; simp
            go_wp2
            go_roundw
            case rel => exact ⟨k + 1, N, t, by omega, by go_num, rfl, rfl, _, _, _, Hp3.out, by rw [List.length_set]; exact HR.out, Hrp3.out, ht, by rw [HQ.out]⟩
            case measure => simp [intOf]; omega
      · have hk0' : (kd == 0) = false := by simpa using hk0
        by_cases hk1 : kd = 1
        · subst hk1
          have hqb : qlen rows ≤ 1024 := by
            have h5 := qlen_le _ 64 hr64
            have := Nat.mul_le_mul_right 64 hlen16
            omega
          by_cases hz : qlen rows = 0
          · have hq0 : ((qlen rows : Int) == 0) = true := by simp [hz]
            have hq1 : ¬ (0 : Int) < (qlen rows : Int) := by omega
            have hz' := Lib.hid hz
            clear hz
            go_wp2_with fail
            refine (take_none hp.qb.box hlen16 (by rw [HR.out]; omega) (by rw [HR.out]; exact ht) (qlen_zero hz'.out)).mono ?_
            rintro e w3 ⟨rfl, m, rfl⟩
            have hp2 := hp.drewN m
            go_wp2_with fail
            refine (hp2.qb.len hlen16 hr64 _ rfl).mono ?_
            rintro e w4 ⟨rfl, rfl⟩
            go_wp2
            go_roundw
            case rel => exact ⟨k + 1, N, t, by omega, by go_num, rfl, rfl, vs, rows, us, hp2, HR.out, HP.out, ht, rfl⟩
            case measure => simp [intOf]; omega
          · have hq0 : ((qlen rows : Int) == 0) = false := by simpa using hz
            have hq1 : (0 : Int) < (qlen rows : Int) := by omega
            have hq2 : decide (0 < qlen rows) = true := by simp; omega
            obtain ⟨i, f, tx1, r, hi, hfe, hfn, hrf, hmin⟩ := exists_first rows t n HR.out ht (qlen_pos (by omega))
            have HF := Lib.hid hfe
            have HM := Lib.hid hmin
            have HRF := Lib.hid hrf
            clear hz hfe hmin hrf
            go_wp2_with fail
            refine (take_some hp.qb.box hlen16 (by rw [HR.out]; omega) (by rw [HR.out]; exact ht) i f tx1 r (by rw [HR.out]; exact hi) (by rw [HR.out]; exact HF.out) (by rw [HR.out]; exact HM.out) HRF.out).mono ?_
            rintro e w3 ⟨rfl, vs', hb3, hu3, hf3⟩
            rw [HR.out] at hb3
            have hp2 := hp.stepBox hb3 hu3 hf3
            go_wp2_with fail
            have ht0 : ((t : Nat) : Int) = (((t + 0) % n : Nat) : Int) := by rw [Nat.add_zero, Nat.mod_eq_of_lt ht]
            go_loopg [9] i (fun gk tv wr => ∃ j : Nat, j ≤ i ∧ gk = i - j ∧ tv = .int .i64 (((t + j) % n : Nat) : Int) ∧ w3 = wr)
            case atStart => exact ⟨0, Nat.zero_le _, rfl, by rw [← ht0], rfl⟩
            case round =>
              obtain ⟨j, hj, rfl, rfl, rfl⟩ := hrel
              have hqn : (t + j) % n < n := Nat.mod_lt _ (by omega)
              obtain ⟨q, Hq⟩ : ∃ q, Hid (q = (t + j) % n) := ⟨_, rfl⟩
              have hq' : q < n := by rw [Hq.out]; exact hqn
              rw [← Hq.out]
              by_cases hji : j < i
              · have hr0 : rows[q]? = some [] := by rw [Hq.out]; exact HM.out j hji
                obtain ⟨A2, c2, _, _, _, d2⟩ := hp2.now.cells (i := q) (r := []) (by simp [hr0, strs])
                rw [List.length_nil] at d2
                obtain ⟨q2, Hq2⟩ : ∃ q2, Hid (q2 = (t + (j + 1)) % n) := ⟨_, rfl⟩
                have e0 : ((q : Int) + 1) % (n : Int) = (q2 : Int) := by
                  rw [Hq2.out, Hq.out, show t + (j + 1) = t + j + 1 by omega]
                  simp
                clear hr0
                go_wp2
                go_roundg (i - (j + 1))
                case measure => omega
                case rel => exact ⟨j + 1, by omega, rfl, by rw [← Hq2.out, ← e0], rfl⟩
              · obtain rfl : j = i := by omega
                obtain rfl : q = f := by rw [Hq.out]; exact HF.out
                obtain ⟨A2, c2, hv2, hlc2, hrow2, d2⟩ := hp2.now.cells (i := q) (r := strs (tx1 :: r)) (by simp [HRF.out])
                rw [show (strs (tx1 :: r)).length = r.length + 1 by simp [strs]] at d2 hv2 hlc2 hrow2
                obtain ⟨g, og, cap2, cur, hA2, _, _, _, _⟩ := hrow2.form (by simp)
                injection hA2 with hA3 _ hA5
                subst hA3
                subst hA5
                have ct : w3.cell? ⟨g, og, none⟩ = some (.string tx1) := hrow2.at rfl (j := 0) (by simp [strs])
                have hdrop := hrow2.drop rfl 1 (by simp)
                obtain ⟨t', Ht'⟩ : ∃ t', Hid (t' = (q + 1) % n) := ⟨_, rfl⟩
                have e1 : ((q : Int) + 1) % (n : Int) = (t' : Int) := by rw [Ht'.out]; simp
                have ht'n : t' < n := by rw [Ht'.out]; exact Nat.mod_lt _ (by omega)
                have hNf : w3.frozen? ⟨N, q, none⟩ = false := blk_free hp2.now.hL q
                have hqs := qlen_set HRF.out r
                rw [List.length_cons] at hqs
                have HQ : Hid ((qlen rows : Int) - 1 = (qlen (rows.set q r) : Int)) := by unfold Hid; omega
                have hrp3 : ∀ a ∈ rows.set q r, a.length ≤ pl := set_le HP.out (by have := HP.out _ (List.mem_of_getElem? HRF.out); simp at this; omega)
                have Hrp3 := Lib.hid hrp3
                have hfin : ∀ (A' : Option Addr) (c' : Nat), Row w3 9 1 (.slice A' r.length c') r.length (strs r) → (∀ k, (Value.slice A' r.length c').ownBlock = some k → k = g) →
                    QP w (w3.setCell ⟨N, q, none⟩ (.slice A' r.length c')) B L vs' pl t' (rows.set q r) N (us.set q (.slice A' r.length c')) ((rows.set q r).map strs) := by
                  intro A' c' hr' hk'
                  have h1 := hp2.now.set (by decide) (w1 := w3) (r' := strs r) (v' := .slice A' r.length c') hv2 (by simpa [strs] using hr') (Unch.refl _ _) (fun k hk => .inl (by rw [hk' k hk]; rfl))
                  have h2 := hp2.stepNow h1.1 h1.2.1 h1.2.2
                  rw [← List.map_set, ← Ht'.out] at h2
                  exact h2
                have hq1000 : (qlen rows : Int) ≤ 1024 := by omega
                clear hqs hrp3
                by_cases hc1 : c2 = 1
                · subst hc1
                  obtain rfl : r = [] := List.eq_nil_of_length_eq_zero (by omega)
                  have hd1 : Row w3 9 1 (.slice (some ⟨g, og, none⟩) 0 0) 0 (strs []) := by simpa [strs] using hdrop
                  have Hfin := Lib.hid (hfin (some ⟨g, og, none⟩) 0 hd1 (fun k hk => by simp [Value.ownBlock] at hk; exact hk.symm))
                  clear hfin hdrop hd1 hrow2 hv2
                  simp only [List.length_nil, Nat.zero_add] at d2 hlc2 Hfin
                  go_wp2_with fail
                  refine (Hfin.out.qb.len (by rw [List.length_set]; exact hlen16) (fun a ha => Nat.le_trans (Hrp3.out a ha) g4) _ rfl).mono ?_
                  rintro e w4 ⟨rfl, rfl⟩
                  have hq6 : ((qlen (rows.set q []) : Int) != (qlen rows : Int) - 1) = false := by rw [HQ.out]; simp
                  go_wp2
                  go_roundw
                  case rel => exact ⟨k + 1, N, t', by omega, by go_num, rfl, rfl, _, _, _, Hfin.out, by rw [List.length_set]; exact HR.out, Hrp3.out, ht'n, by rw [HQ.out]⟩
                  case measure => simp [intOf]; omega
                · have hd1 : Row w3 9 1 (.slice (some ⟨g, og + 1, none⟩) r.length (c2 - 1)) r.length (strs r) := by simpa [strs, hc1, Addr.add] using hdrop
                  have Hfin := Lib.hid (hfin _ _ hd1 (fun k hk => by simp [Value.ownBlock] at hk; exact hk.symm))
                  clear hfin hdrop hd1 hrow2 hv2
                  go_wp2_with fail
                  refine (Hfin.out.qb.len (by rw [List.length_set]; exact hlen16) (fun a ha => Nat.le_trans (Hrp3.out a ha) g4) _ rfl).mono ?_
                  rintro e w4 ⟨rfl, rfl⟩
                  have hq6 : ((qlen (rows.set q r) : Int) != (qlen rows : Int) - 1) = false := by rw [HQ.out]; simp
                  go_wp2
                  go_roundw
                  case rel => exact ⟨k + 1, N, t', by omega, by go_num, rfl, rfl, _, _, _, Hfin.out, by rw [List.length_set]; exact HR.out, Hrp3.out, ht'n, by rw [HQ.out]⟩
                  case measure => simp [intOf]; omega
        · have hk1' : (kd == 1) = false := by simpa using hk1
          go_wp2_with fail
          refine (clear_ok hp.qb.box).mono ?_
          rintro e w3 ⟨rfl, vs', hb3, hu3, hf3⟩
          rw [HR.out] at hb3
          have hp2 := hp.stepBox hb3 hu3 hf3
          have hmade := Rws.made w3 39 9 n
          have hp3 : QP w (w3.alloc (.cells (madeCells #[.slice none 0 0] n) 39)) B L vs' pl t (List.replicate n []) w3.heap.size (List.replicate n (.slice none 0 0)) ((List.replicate n []).map strs) := by
            refine ⟨hp2.qb.other (X := none_) ((Unch.refl _ _).alloc _) (fun _ h => h.elim) (fun _ h => h.elim), by simpa [strs] using hmade, fun k hk => ?_, fun k hk hk' => ?_⟩
            · rw [rfoot_made hk]; exact hp2.qb.unch.size
            · have := hp2.qb.lt hk'; rw [rfoot_made hk] at this; omega
          have Hp3 := Lib.hid hp3
          clear hp3 hmade hp2 hb3 hu3 hf3
          go_wp2_with fail
          refine (Hp3.out.qb.len (by rw [List.length_replicate]; exact g2) (fun r hr => by obtain rfl := List.eq_of_mem_replicate hr; exact Nat.zero_le _) 0 (qlen_replicate n)).mono ?_
          rintro e w4 ⟨rfl, rfl⟩
          go_wp2
          go_roundw
          case rel => exact ⟨k + 1, _, t, by omega, by go_num, rfl, rfl, _, _, _, Hp3.out, by simp, (fun r hr => by obtain rfl := List.eq_of_mem_replicate hr; exact Nat.zero_le _), ht, by rw [qlen_replicate]; rfl⟩
          case measure => simp [intOf]; omega
    · obtain rfl : k = len := by omega
      go_wp2
      go_ret
      exact ⟨rfl, hp.qb.unch⟩

set_option maxRecDepth 100000 in
set_option maxHeartbeats 1000000 in
theorem queuePlays_empty (n pl : Nat) (g1 : 1 ≤ n) (g2 : n ≤ 16) (g3 : 1 ≤ pl) (g4 : pl ≤ 64) (A : Option Addr) (cap : Nat) (w : World) :
    Calls Try.prog 5 #[.int .i64 (n : Int), .int .i64 (pl : Int), .slice A 0 cap] w (lawPost w) := by
  have k1 : ¬ ((n : Int) < 1) := by omega
  have k2 : ¬ (16 < (n : Int)) := by omega
  have k3 : ¬ ((pl : Int) < 1) := by omega
  have k4 : ¬ (64 < (pl : Int)) := by omega
  have hmk := fun W => run_make_row' (P := Try.prog) 36 39 (.slice none 0 0) 24 Try.underlying36 info_strs rfl .i64 .i64 n (by omega) (by omega) W
  go_enter Try.func5, Try.ntmps5
  go_wp2_with fail
  refine (qawake _).mono ?_
  rintro e w1 ⟨rfl, hu1⟩
  go_wp2_with fail
  refine (QB.made hu1 n pl g1 g2 g3 g4 _ _ rfl rfl).mono ?_
  rintro e w2 ⟨B, L, vs, rfl, hq⟩
  go_wp2_with fail
  refine wp_loop_rounds 1 ?_
  rw [rounds_succ]
  go_wp2
  go_ret
  exact ⟨rfl, hq.unch.alloc _⟩
set_option maxRecDepth 100000 in
set_option maxHeartbeats 1000000 in
theorem queuePlays_bad (s p : Int) (hbad : s < 1 ∨ 16 < s ∨ p < 1 ∨ 64 < p) (A : Option Addr) (len cap : Nat) (hlen : len ≤ 200) (w : World) :
    Calls Try.prog 5 #[.int .i64 s, .int .i64 p, .slice A len cap] w (lawPost w) := by
  have h1 : ¬ (200 : Int) < (len : Int) := by omega
  have HB := Lib.hid hbad
  by_cases k1 : s < 1
  · clear hbad
    go_enter Try.func5, Try.ntmps5
    go_wp2_with fail
    refine (qawake _).mono ?_
    rintro e w1 ⟨rfl, hu1⟩
    go_wp2_with fail
    refine (qnew_bad s p HB.out _).mono ?_
    rintro e w2 ⟨rfl, rfl⟩
    go_wp2
    go_ret
    exact ⟨rfl, hu1⟩
  · by_cases k2 : 16 < s
    · clear hbad
      go_enter Try.func5, Try.ntmps5
      go_wp2_with fail
      refine (qawake _).mono ?_
      rintro e w1 ⟨rfl, hu1⟩
      go_wp2_with fail
      refine (qnew_bad s p HB.out _).mono ?_
      rintro e w2 ⟨rfl, rfl⟩
      go_wp2
      go_ret
      exact ⟨rfl, hu1⟩
    · by_cases k3 : p < 1
      · clear hbad
        go_enter Try.func5, Try.ntmps5
        go_wp2_with fail
        refine (qawake _).mono ?_
        rintro e w1 ⟨rfl, hu1⟩
        go_wp2_with fail
        refine (qnew_bad s p HB.out _).mono ?_
        rintro e w2 ⟨rfl, rfl⟩
        go_wp2
        go_ret
        exact ⟨rfl, hu1⟩
      · have k4 : 64 < p := by omega
        clear hbad
        go_enter Try.func5, Try.ntmps5
        go_wp2_with fail
        refine (qawake _).mono ?_
        rintro e w1 ⟨rfl, hu1⟩
        go_wp2_with fail
        refine (qnew_bad s p HB.out _).mono ?_
        rintro e w2 ⟨rfl, rfl⟩
        go_wp2
        go_ret
        exact ⟨rfl, hu1⟩
set_option maxRecDepth 100000 in
set_option maxHeartbeats 1000000 in
theorem queuePlays_long (s p : Int) (A : Option Addr) (len cap : Nat) (hlen : 200 < len) (w : World) :
    Calls Try.prog 5 #[.int .i64 s, .int .i64 p, .slice A len cap] w (lawPost w) := by
  have h1 : (200 : Int) < (len : Int) := by omega
  go_enter Try.func5, Try.ntmps5
  go_wp2_with fail
  refine (qawake _).mono ?_
  rintro e w' ⟨rfl, hu⟩
  go_wp2
  go_ret
  exact ⟨rfl, hu⟩
theorem queuePlays_walk (s p : Int) (A : Option Addr) (len cap : Nat) (l : List QAct) (w : World) (hl : RdS w 3 QActR A len l) (hcap : len ≤ cap) :
    Calls Try.prog 5 #[.int .i64 s, .int .i64 p, .slice A len cap] w (lawPost w) := by
  by_cases hlen : 200 < len
  · exact queuePlays_long s p A len cap hlen w
  by_cases hbad : s < 1 ∨ 16 < s ∨ p < 1 ∨ 64 < p
  · exact queuePlays_bad s p hbad A len cap (by omega) w
  obtain ⟨n, rfl⟩ : ∃ n : Nat, s = (n : Int) := ⟨s.toNat, by omega⟩
  obtain ⟨pl, rfl⟩ : ∃ n : Nat, p = (n : Int) := ⟨p.toNat, by omega⟩
  rcases Nat.eq_zero_or_pos len with h0 | h0
  · subst h0
    exact queuePlays_empty n pl (by omega) (by omega) (by omega) (by omega) A cap w
  · obtain ⟨b, o, rfl, hb, _⟩ := hl.get h0
    exact queuePlays_core n pl (by omega) (by omega) (by omega) (by omega) b o len cap (by omega) l w hl (fun _ => hb) hcap
theorem open_qact {H : Type} {enc : TypeId × Value → H} {w : World} {base : Nat} {spare : Nat → Bool} {held : Bool} (fuel : Nat) (cs : List Value) (y : DataW H × List MemPlace)
    (h : DataW.trod enc Try.prog w base spare held fuel 38 cs = some y) : ∃ z : QAct, QActR z cs := by
  obtain ⟨xs, n, rfl, _, hl, hxl, hf⟩ := DataW.trod_struct Try.underlying38 h
  obtain ⟨c0, c1, c2, rfl⟩ := list3 (show cs.length = 3 from hl)
  obtain ⟨x0, e0⟩ := get_some (n := 3) hxl (i := 0) (by decide)
  obtain ⟨x1, e1⟩ := get_some (n := 3) hxl (i := 1) (by decide)
  obtain ⟨x2, e2⟩ := get_some (n := 3) hxl (i := 2) (by decide)
  obtain ⟨m0, h0, _, g0⟩ := DataW.trod_int Try.underlying3 ((hf 0 _ rfl).trans e0)
  obtain ⟨m1, h1, _, g1⟩ := DataW.trod_int Try.underlying3 ((hf 1 _ rfl).trans e1)
  obtain ⟨m2, h2, _, g2⟩ := DataW.trod_string Try.underlying9 ((hf 2 _ rfl).trans e2)
  have h0' : [c0] = [.int .i64 m0] := h0
  have h1' : [c1] = [.int .i64 m1] := h1
  have h2' : [c2] = [.string m2] := h2
  injection h0' with h0'
  injection h1' with h1'
  injection h2' with h2'
  subst h0'; subst h1'; subst h2'
  exact ⟨⟨m0, m1, m2⟩, rfl, i64_wf g0, i64_wf g1⟩
end Go.Proofs.Ytmffpeblcaalgaa
