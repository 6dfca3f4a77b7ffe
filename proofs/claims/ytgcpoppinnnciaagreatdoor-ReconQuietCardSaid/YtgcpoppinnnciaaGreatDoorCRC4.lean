/-
  recon: Asks.
  The law's eyes on frames: two lists, two frames, two lists of frames that say the same.
  palaverlaw18: ask.
  palaverlaw18: asks.
  recon: Greet; the law's laid: a set of what is laid.
  palaverlaw18: laid.
-/
import Derived.Test.YtgcpoppinnnciaaGreatDoorCRC1
import Derived.Test.YtgcpoppinnnciaaGreatDoorCVW6
/- recon: Asks. -/
set_option linter.unusedVariables false
set_option linter.unusedSimpArgs false
set_option maxRecDepth 100000
namespace Go.Proofs.YtgcpoppinnnciaaGreatDoor
open Go Go.RowKit Go.Proofs.YtgcpoppinnnciaaGreatDoor.Pal Go.Proofs.YtgcpoppinnnciaaGreatDoor.Plan

theorem info_frm : (Tryz.prog.info? 35).map (fun i => (i.zero, i.size, i.bytes)) = some (some (.agg #[.int .i64 0, .int .i64 0, .slice none 0 0, .string ⟨#[]⟩, .slice none 0 0]), 5, 80) := by kernel_rfl
theorem fcells_len (fs : List Fr) : (fcells fs).length = fs.length * 5 := by
  induction fs with
  | nil => rfl
  | cons f fs ih =>
    show (f.cells ++ fcells fs).length = _
    rw [List.length_append, ih, List.length_cons]
    show 5 + _ = _
    omega
theorem FMid.form {w W : World} {v : Value} {fs : List Fr} (h : FMid w W v fs) :
    ∃ A c, v = .slice A fs.length c ∧ fs.length ≤ c ∧ (A = none → c = 0) ∧ (0 < fs.length → ∃ ad, A = some ad ∧ ∀ j u, (fcells fs)[j]? = some u → W.cell? (ad.add j) = some u) := by
  rcases h.row.2 with ⟨hv, h0⟩ | ⟨g, o, cap, cur, hv, hh, hn, _⟩
  · exact ⟨none, 0, by rw [hv, h0], by omega, fun _ => rfl, fun h => by omega⟩
  · refine ⟨_, cap, hv, hn, (fun e => by cases e), fun _ => ⟨_, rfl, fun j u hu => ?_⟩⟩
    rw [Addr.add_lit]
    exact h.row.at hv hu
theorem FMid.ones {w W : World} {v : Value} {fs : List Fr} (h : FMid w W v fs) : ∀ u ∈ fcells fs, u.oneCell' = true := by
  intro u hu
  obtain ⟨f, hf, hu⟩ := List.mem_flatMap.1 hu
  obtain ⟨A, c, hi, _⟩ := (h.ok f hf).i.slice
  obtain ⟨B, d, ht, _⟩ := (h.ok f hf).t.slice
  unfold Fr.cells at hu
  rw [hi, ht] at hu
  simp only [List.mem_cons, List.not_mem_nil, or_false] at hu
  rcases hu with rfl | rfl | rfl | rfl | rfl <;> rfl
theorem FMid.app {w W W' : World} {v v2 v' : Value} {fs fs2 : List Fr} (h1 : FMid w W v fs) (h2 : FMid w W v2 fs2) (hr : Row W' 35 5 v' (fs.length + fs2.length) (fcells fs ++ fcells fs2))
    (hu : Unch (fun k => v.ownBlock = some k) W W') (hat : v'.ownBlock = v.ownBlock ∨ ∃ b, v'.ownBlock = some b ∧ W.heap.size ≤ b) : FMid w W' v' (fs ++ fs2) := by
  refine ⟨h1.u.step hu (fun k hk hb => absurd (h1.own k hb) (by omega)), fun b hb => ?_, ?_, fun f hf => ?_⟩
  · rcases hat with e | ⟨b', e, h3⟩
    · exact h1.own b (e ▸ hb)
    · rw [e] at hb; injection hb with hb; subst hb; exact Nat.le_trans h1.u.size h3
  · rw [List.length_append, show fcells (fs ++ fs2) = fcells fs ++ fcells fs2 from List.flatMap_append]
    exact hr
  · have hf' : FrOk W f := by
      rcases List.mem_append.1 hf with hf | hf
      · exact h1.ok f hf
      · exact h2.ok f hf
    have hne : ∀ {x n xs}, Row W 9 1 x n xs → ∀ k, x.ownBlock = some k → ¬ v.ownBlock = some k := fun hx k hk hv => by
      obtain ⟨c1, e1⟩ := hx.blk hk
      obtain ⟨c2, e2⟩ := h1.row.blk hv
      rw [e1] at e2
      injection e2 with e2
      injection e2 with _ e2
      exact absurd e2 (by decide)
    exact ⟨hf'.i.unch hu (hne hf'.i), hf'.t.unch hu (hne hf'.t)⟩
theorem FMid.app2 {w W W' : World} {v v2 v' : Value} {fs fs2 : List Fr} {n1 n2 : Nat} (h1 : FMid w W v fs) (h2 : FMid w W v2 fs2) (e1 : fs.length = n1) (e2 : fs2.length = n2) (hr : Row W' 35 5 v' (n1 + n2) (fcells fs ++ fcells fs2))
    (hu : Unch (fun k => v.ownBlock = some k) W W') (hat : v'.ownBlock = v.ownBlock ∨ ∃ b, v'.ownBlock = some b ∧ W.heap.size ≤ b) : FMid w W' v' (fs ++ fs2) := by
  subst e1
  subst e2
  exact h1.app h2 hr hu hat
/-- A single frame, read. -/
theorem FMid.at1 {w W : World} {v : Value} {f : Fr} (h : FMid w W v [f]) : ∃ g o c A d B e, v = .slice (some ⟨g, o, none⟩) 1 c ∧ f.iv = .slice A f.ids.length d ∧ (A = none → d = 0) ∧ f.tv = .slice B f.texts.length e ∧ RdS W 1 StrR A f.ids.length f.ids ∧ RdS W 1 StrR B f.texts.length f.texts ∧
    W.cell? ⟨g, o, none⟩ = some (.int .i64 f.kind) ∧ W.cell? ⟨g, o + 1, none⟩ = some (.int .i64 f.dst) ∧ W.cell? ⟨g, o + 2, none⟩ = some (.slice A f.ids.length d) ∧ W.cell? ⟨g, o + 3, none⟩ = some (.string f.bits) ∧ W.cell? ⟨g, o + 4, none⟩ = some (.slice B f.texts.length e) := by
  obtain ⟨g, o, cap, cur, hv, _⟩ := h.row.form (show 0 < 1 from Nat.one_pos)
  have hi := (h.ok f (List.mem_singleton_self f)).i
  have ht := (h.ok f (List.mem_singleton_self f)).t
  obtain ⟨A, d, hi1, _⟩ := hi.slice
  obtain ⟨B, e, ht1, _⟩ := ht.slice
  have hat : ∀ j u, (fcells [f])[j]? = some u → W.cell? ⟨g, o + j, none⟩ = some u := fun j u hu => h.row.at hv hu
  have hi2 := hi
  rw [hi1] at hi
  rw [ht1] at ht
  refine ⟨g, o, cap, A, d, B, e, hv, hi1, (row_newsS hi).2, ht1, srow_rds hi, srow_rds ht, hat 0 _ rfl, hat 1 _ rfl, ?_, hat 3 _ rfl, ?_⟩
  · have := hat 2 _ rfl
    rw [this, hi1]
  · have := hat 4 _ rfl
    rw [this, ht1]
theorem ask2_ok {W : World} {b : Nat} {A : Option Addr} {q c : Nat} {xs : List ByteArray} (hb : W.cell? ⟨b, 2, none⟩ = some (.slice A q c)) (hrd : RdS W 1 StrR A q xs) (s : ByteArray) :
    Calls Tryz.prog 90 #[.string s, .pointer (some ⟨b, 0, none⟩)] W fun e W' => e = .returned (.bool (xs.any fun x => decide (s = x))) ∧ Unch none_ W W' := by
  have HC := Lib.hid (containsS_ok (c := c) hrd s)
  clear hrd
  go_enter Tryz.func90, Tryz.ntmps90
  go_wp2_with (go_at_call 34; refine HC.out.mono ?_; rintro _ w2 ⟨rfl, rfl⟩)
  go_ret
  exact ⟨rfl, Unch.refl _ _⟩
/-- What is asked of a frame's own and of more. -/
def asksR (own more : List ByteArray) : List ByteArray := if askL own = [] then more else more.filter fun s => !(((askL own).take 64).any fun x => decide (s = x))
def asksF (own more : List ByteArray) : List FrP := askF own ++ askF (asksR own more)
theorem askF_len (l : List ByteArray) : (askF l).length ≤ 1 := by
  unfold askF
  split
  · exact Nat.zero_le _
  · exact Nat.le_refl _

theorem asks_end {w w1 w3 w4 : World} {v v2 : Value} {fs gs : List Fr} (hf : FMid w w1 v fs) (hu : Unch none_ w1 w3) (hg : FMid w3 w4 v2 gs) : FMid w w4 v fs ∧ FMid w w4 v2 gs := ⟨(hf.fresh hu).fresh hg.u, hg.later (hf.u.trans hu)⟩
set_option maxHeartbeats 400000 in
theorem asks_ok {w : World} {A : Option Addr} {n c : Nat} {own : List ByteArray} (h1 : RdS w 1 StrR A n own) {B : Option Addr} {m d : Nat} {more : List ByteArray} (h2 : RdS w 1 StrR B m more) (hd : B = none → d = 0) (hn : n ≤ 100000) (hm : m ≤ 100000) :
    Calls Tryz.prog 56 #[.slice A n c, .slice B m d] w fun e w' => ∃ v fs, e = .returned v ∧ FMid w w' v fs ∧ fs.map Fr.p = asksF own more := by
  have HA1 := Lib.hid (ask_ok h1 (c := c) (by omega))
  have HR2 := Lib.hid h2
  have HD := Lib.hid hd
  clear h1 h2 hd
  by_cases hnil : askL own = []
  · have hspec : asksF own more = askF more := by
      unfold asksF asksR
      rw [askF_nil hnil, if_pos hnil]
      rfl
    rw [hspec]
    clear hspec
    have HN := Lib.hid hnil
    clear hnil
    go_enter Tryz.func56, Tryz.ntmps56
    go_wp2_with fail
    refine HA1.out.mono ?_
    rintro _ w1 ⟨v, fs, rfl, hf, hfp⟩
    rw [askF_nil HN.out] at hfp
    obtain rfl : fs = [] := List.map_eq_nil_iff.1 hfp
    obtain ⟨A1, c1, rfl, hc1, hA1, _⟩ := hf.form
    have HA2 := Lib.hid (ask_ok (RdS.fresh HR2.out hf.u) (c := d) (by omega))
    have HF := Lib.hid hf
    clear hf hfp HA1 HR2 HN
    have HX1 := Lib.hid hA1
    have HX2 := Lib.hid hc1
    clear hA1 hc1
    have HL1 := Lib.hid (askF_len more)
    go_wp2_with fail
    go_loopg [1, 12] 0 (fun gk v i wr => v = .slice B m d ∧ i = .int .i64 0 ∧ wr = w1)
    case atStart => exact ⟨rfl, rfl, rfl⟩
    case round =>
    obtain ⟨rfl, rfl, rfl⟩ := hrel
    go_wp2_with fail
    with_reducible refine HA2.out.mono ?_
    rintro _ w2 ⟨v2, fs2, rfl, hf2, hfp2⟩
    obtain ⟨A2, c2, rfl, hc2, hA2, hn2⟩ := hf2.form
    have hF := HF.out.fresh hf2.u
    have hF2 := hf2.later HF.out.u
    have hl2 : fs2.length ≤ 1 := by
      have := HL1.out
      rw [← hfp2, List.length_map] at this
      exact this
    obtain ⟨n2, en2⟩ : ∃ k, fs2.length = k := ⟨_, rfl⟩
    have hfl := fcells_len fs2
    rw [en2] at hl2 hn2 hc2 hfl hF2 ⊢
    have HFF := Lib.hid hF
    have HF2 := Lib.hid hF2
    have HN2 := Lib.hid hn2
    have HA2' := Lib.hid hA2
    have HONE := Lib.hid hF2.ones
    have HP2 := Lib.hid hfp2
    have HFL := Lib.hid hfl
    have HEN := Lib.hid en2
    clear hF hF2 hn2 hA2 hf2 hfp2 HA2 HF HL1 hfl en2
    go_wp2_with (at_builtin; refine wpList_append w2 rfl (.tmp 21) (.tmp 23) 30 35 _ 5 80 rfl Tryz.underlying30 info_frm rfl (by omega) (.slice A1 0 c1) 0 [] (by rfl) HFF.out.row A2 n2 c2 (fcells fs2) (by rfl) HFL.out HN2.out HA2'.out HONE.out (by simp only [maxLen]; omega) (by omega) ?_; intro v' w' hr hu hat; rw [Nat.zero_add] at hr; obtain ⟨A', c', hv', _⟩ := hr.slice; have HR := Lib.hid hr; have HU := Lib.hid hu; have HAT := Lib.hid hat; clear hr hu hat; subst hv')
    go_ret
    exact ⟨_, [] ++ fs2, rfl, FMid.app2 (n1 := 0) HFF.out HF2.out rfl HEN.out (by rw [Nat.zero_add]; exact HR.out) HU.out HAT.out, HP2.out⟩
  · have hspec : asksF own more = [⟨3, 0, (askL own).take 64, ⟨#[]⟩, []⟩] ++ askF (more.filter fun s => !(((askL own).take 64).any fun x => decide (s = x))) := by
      unfold asksF asksR
      rw [askF_one hnil, if_neg hnil]
    rw [hspec]
    clear hspec
    have HFO := Lib.hid (askF_one hnil)
    clear hnil
    obtain ⟨F, hF⟩ : ∃ F, (askL own).take 64 = F := ⟨_, rfl⟩
    rw [hF] at HFO ⊢
    clear hF
    have e1 : ∀ args w, (callFunc 90 args).run Tryz.prog w = .ok (.enter 90 args) w := enters_of Tryz.func90 (by kernel_rfl) rfl
    have E1 := Lib.hid e1
    clear e1
    go_enter Tryz.func56, Tryz.ntmps56
    go_wp2_with fail
    refine HA1.out.mono ?_
    rintro _ w1 ⟨v, fs, rfl, hf, hfp⟩
    rw [HFO.out] at hfp
    obtain ⟨f, rfl, hfp'⟩ : ∃ f, fs = [f] ∧ f.p = ⟨3, 0, F, ⟨#[]⟩, []⟩ := by
      cases fs with
      | nil => cases hfp
      | cons f t =>
        cases t with
        | nil =>
          refine ⟨f, rfl, ?_⟩
          simp only [List.map_cons, List.map_nil, List.cons.injEq, and_true] at hfp
          exact hfp
        | cons _ _ => simp at hfp
    obtain ⟨g, o, c1, A1, d1, B1, e1, rfl, hiv, hd1, htv, hri, hrt, y0, y1, y2, y3, y4⟩ := hf.at1
    have hids : f.ids = F := congrArg FrP.ids hfp'
    rw [hids] at hri hiv y2
    have y1' : w1.cell? ⟨g, o + 1, none⟩ = some (.int .i64 f.dst) := y1
    obtain ⟨q, hq⟩ : ∃ q, F.length = q := ⟨_, rfl⟩
    obtain ⟨r, hr⟩ : ∃ r, f.texts.length = r := ⟨_, rfl⟩
    rw [hq] at hri hiv y2
    rw [hr] at hrt htv y4
    have hub : Unch none_ w1 (w1.alloc (.cells #[.int .i64 f.kind, .int .i64 f.dst, .slice A1 q d1, .string f.bits, .slice B1 r e1] 35)) := (Unch.refl none_ w1).alloc _
    have hbb := blk_new w1 (.cells #[.int .i64 f.kind, .int .i64 f.dst, .slice A1 q d1, .string f.bits, .slice B1 r e1] 35)
    have hsz : (w1.alloc (.cells #[.int .i64 f.kind, .int .i64 f.dst, .slice A1 q d1, .string f.bits, .slice B1 r e1] 35)).heap.size = w1.heap.size + 1 := by simp
    have HCL := Lib.hid (cloneS_ok (c := d) (RdS.fresh HR2.out (hf.u.trans hub)) HD.out (by omega))
    have HF := Lib.hid hf
    have HUB := Lib.hid hub
    have HBB := Lib.hid hbb
    have HSZ := Lib.hid hsz
    have HRI := Lib.hid hri
    have HFP := Lib.hid (show [f].map Fr.p = [⟨3, 0, F, ⟨#[]⟩, []⟩] by rw [List.map_cons, hfp']; rfl)
    have HRL := Lib.hid HR2.out.len
    have HQ := Lib.hid hq
    clear hf hub hbb hsz hri hrt hfp hfp' hids HA1 HR2 HFO hq hiv htv hr
    go_wp2_with fail
    go_loopg [1, 12] 1 (fun gk v i wr => (gk = 1 ∧ v = .slice B m d ∧ i = .int .i64 0 ∧ wr = w1) ∨ (gk = 0 ∧ i = .int .i64 1 ∧ ∃ (k c3 : Nat) (A3 : Option Addr), v = .slice A3 k c3 ∧ k ≤ m ∧ Unch none_ w1 wr ∧ Row wr 9 1 (.slice A3 k c3) k (sv (more.filter fun s => !(F.any fun x => decide (s = x))))))
    case atStart => exact .inl ⟨rfl, rfl, rfl, rfl⟩
    case round =>
    rcases hrel with ⟨rfl, rfl, rfl, hwr⟩ | ⟨rfl, rfl, k, c3, A3, rfl, hkm, hu4, hr4⟩
    · subst hwr
      go_wp2_with fail
      with_reducible refine HCL.out.mono ?_
      rintro _ w3 ⟨v3, rfl, hs3⟩
      obtain ⟨A3, c3, rfl, hc3⟩ := hs3.row.slice
      have hu3 := HUB.out.trans hs3.hu
      have hown3 : ∀ k, (Value.slice A3 m c3).ownBlock = some k → wr.heap.size + 1 ≤ k := fun k hk => by have := hs3.own k hk; rw [HSZ.out] at this; exact this
      have hbb3 := hs3.hu.heap HBB.out (fun h => h)
      have hdf := deleteFunc_ok (p := fun s => F.any fun x => decide (s = x)) (g := 90) (lb := #[.pointer (some ⟨wr.heap.size, 0, none⟩)]) hs3.row E1.out (fun W hu s => ask2_ok (c := d1) (hu.cell (blk_cell hbb3 (j := 2) rfl) (fun e => by have h9 := hown3 wr.heap.size e; omega)) (RdS.fresh HRI.out (hu3.step hu (fun i hi e => by have := hown3 i e; omega))) s) (by omega)
      have HDF := Lib.hid hdf
      have HU3 := Lib.hid hu3
      have HOWN := Lib.hid hown3
      clear hdf hu3 hown3 hs3 hbb3 HCL HBB
      go_wp2_with fail
      with_reducible refine HDF.out.mono ?_
      rintro _ w4 ⟨k, rfl, hr4, hu34⟩
      have hu4 : Unch none_ wr w4 := HU3.out.step hu34 (fun i hi e => by have := HOWN.out i e; omega)
      have hlk := (srow_rds hr4).len
      have hkm : k ≤ m := by
        rw [← hlk, ← HRL.out]
        exact List.length_filter_le _ _
      have HR4 := Lib.hid hr4
      have HU4 := Lib.hid hu4
      clear hr4 hu34 hu4 hlk HDF HU3 HOWN
      go_wp2_with fail
      go_roundg 0
      case measure => omega
      case rel => exact .inr ⟨rfl, rfl, k, c3, A3, rfl, hkm, HU4.out, HR4.out⟩
    have HA2 := Lib.hid (ask_ok (c := c3) (srow_rds hr4) (by omega))
    have HU4 := Lib.hid hu4
    have HL1 := Lib.hid (askF_len (more.filter fun s => !(F.any fun x => decide (s = x))))
    obtain ⟨w4', rfl⟩ : ∃ w2, w2 = wr := ⟨_, rfl⟩
    clear hr4 hu4 HCL HBB
    go_wp2_with (first
      | (go_at_call 11; with_reducible refine HA2.out.mono ?_; rintro _ w4 ⟨v2, fs2, rfl, hf2, hfp2⟩
         have hl2 : fs2.length ≤ 1 := by
           have := HL1.out
           rw [← hfp2, List.length_map] at this
           exact this
         obtain ⟨hF, hF2⟩ := asks_end HF.out HU4.out hf2
         obtain ⟨A2, c2, rfl, hc2, hA2, hn2⟩ := hF2.form
         have hfl := fcells_len fs2
         obtain ⟨n2, en2⟩ : ∃ k, fs2.length = k := ⟨_, rfl⟩
         rw [en2] at hl2 hn2 hc2 hfl
         have HFF := Lib.hid hF
         have HF2 := Lib.hid hF2
         have HN2 := Lib.hid hn2
         have HA2' := Lib.hid hA2
         have HONE := Lib.hid hF2.ones
         have HP2 := Lib.hid hfp2
         have HFL := Lib.hid hfl
         have HEN := Lib.hid en2
         have hr0 := hF.row
         have HR0 := Lib.hid hr0
         try rw [en2]
         clear hr0 hF hF2 hn2 hA2 hf2 hfp2 hfl en2)
      | (at_builtin; refine wpList_append w4 rfl (.tmp 21) (.tmp 23) 30 35 _ 5 80 rfl Tryz.underlying30 info_frm rfl (by omega) (.slice (some ⟨g, o, none⟩) 1 c1) 1 (fcells [f]) (by rfl) HR0.out A2 n2 c2 (fcells fs2) (by rfl) HFL.out HN2.out HA2'.out HONE.out (by simp only [maxLen]; omega) (by omega) ?_
         intro v' w' hr hu hat
         obtain ⟨A', c', hv', _⟩ := hr.slice
         have HR := Lib.hid hr
         have HU := Lib.hid hu
         have HAT := Lib.hid hat
         clear hr hu hat
         subst hv'))
    go_ret
    exact ⟨_, [f] ++ fs2, rfl, FMid.app2 HFF.out HF2.out rfl HEN.out HR.out HU.out HAT.out, by rw [List.map_append, HFP.out, HP2.out]; rfl⟩
end Go.Proofs.YtgcpoppinnnciaaGreatDoor
/- The law's eyes on frames: two lists, two frames, two lists of frames that say the same. -/
set_option linter.unusedVariables false
set_option linter.unusedSimpArgs false
set_option maxRecDepth 100000
namespace Go.Proofs.YtgcpoppinnnciaaGreatDoor
open Go Go.RowKit Go.Proofs.YtgcpoppinnnciaaGreatDoor.Pal Go.Proofs.YtgcpoppinnnciaaGreatDoor.Plan

theorem FrOk.open {W : World} {f : Fr} (h : FrOk W f) : ∃ A c B d, f.iv = .slice A f.ids.length c ∧ f.tv = .slice B f.texts.length d ∧ RdS W 1 StrR A f.ids.length f.ids ∧ RdS W 1 StrR B f.texts.length f.texts := by
  obtain ⟨A, c, h1, _⟩ := h.i.slice
  obtain ⟨B, d, h2, _⟩ := h.t.slice
  have hi := h.i
  have ht := h.t
  rw [h1] at hi
  rw [h2] at ht
  exact ⟨A, c, B, d, h1, h2, srow_rds hi, srow_rds ht⟩
theorem fcells_get {f : Fr} : ∀ {fs : List Fr} {k j : Nat} {u : Value}, fs[k]? = some f → f.cells[j]? = some u → (fcells fs)[k * 5 + j]? = some u
  | [], _, _, _, hf, _ => by cases hf
  | x :: t, 0, j, u, hf, hu => by
    have hf : some x = some f := hf
    injection hf with hf
    subst hf
    show (x.cells ++ fcells t)[0 * 5 + j]? = some u
    rw [List.getElem?_append_left (by rw [Nat.zero_mul, Nat.zero_add]; exact (List.getElem?_eq_some_iff.1 hu).1), Nat.zero_mul, Nat.zero_add]
    exact hu
  | x :: t, k + 1, j, u, hf, hu => by
    have hl : x.cells.length = 5 := rfl
    show (x.cells ++ fcells t)[(k + 1) * 5 + j]? = some u
    rw [List.getElem?_append_right (by rw [hl]; omega), hl, show (k + 1) * 5 + j - 5 = k * 5 + j by omega]
    exact fcells_get (by simpa using hf) hu
/-- A frame of a row, read. -/
theorem FMid.at {w W : World} {A : Option Addr} {n c : Nat} {fs : List Fr} (h : FMid w W (.slice A n c) fs) {k : Nat} {f : Fr} (hf : fs[k]? = some f) : ∃ g o A1 d B e, A = some ⟨g, o, none⟩ ∧ f.iv = .slice A1 f.ids.length d ∧ f.tv = .slice B f.texts.length e ∧
    W.cell? ⟨g, o + k * 5, none⟩ = some (.int .i64 f.kind) ∧ W.cell? ⟨g, o + k * 5 + 1, none⟩ = some (.int .i64 f.dst) ∧ W.cell? ⟨g, o + k * 5 + 2, none⟩ = some (.slice A1 f.ids.length d) ∧ W.cell? ⟨g, o + k * 5 + 3, none⟩ = some (.string f.bits) ∧ W.cell? ⟨g, o + k * 5 + 4, none⟩ = some (.slice B f.texts.length e) := by
  have hk : k < fs.length := (List.getElem?_eq_some_iff.1 hf).1
  obtain ⟨g, o, cap, cur, hv, _⟩ := h.row.form (by omega)
  injection hv with hA _ _
  subst hA
  obtain ⟨A1, d, B, e, h1, h2, _, _⟩ := (h.ok f (List.mem_of_getElem? hf)).open
  have hget : ∀ j u, f.cells[j]? = some u → W.cell? ⟨g, o + k * 5 + j, none⟩ = some u := fun j u hu => by
    have := fcells_get hf hu
    have := h.row.at rfl this
    rw [← Nat.add_assoc] at this
    exact this
  refine ⟨g, o, A1, d, B, e, rfl, h1, h2, hget 0 _ rfl, hget 1 _ rfl, ?_, hget 3 _ rfl, ?_⟩
  · have := hget 2 _ rfl
    rw [this, h1]
  · have := hget 4 _ rfl
    rw [this, h2]
end Go.Proofs.YtgcpoppinnnciaaGreatDoor
/- palaverlaw18: ask. -/
set_option linter.unusedVariables false
set_option linter.unusedSimpArgs false
set_option maxRecDepth 100000
namespace Go.Proofs.YtgcpoppinnnciaaGreatDoor
open Go Go.RowKit Go.Proofs.YtgcpoppinnnciaaGreatDoor.Pal Go.Proofs.YtgcpoppinnnciaaGreatDoor.Plan

theorem sortS_filter (p : ByteArray → Bool) (xs : List ByteArray) : sortS (xs.filter p) = (sortS xs).filter p :=
  bl_uniq (sortS_sorted _) ((sortS_sorted xs).filter p) (fun x => by simp only [sortS_mem, List.mem_filter])
theorem filter_take_t {p : ByteArray → Bool} {xs : List ByteArray} {k : Nat} {x : ByteArray} (h : xs[k]? = some x) (hp : p x = true) : (xs.take (k + 1)).filter p = (xs.take k).filter p ++ [x] := by
  rw [List.take_add_one, h, List.filter_append]
  simp [hp]
theorem filter_take_f {p : ByteArray → Bool} {xs : List ByteArray} {k : Nat} {x : ByteArray} (h : xs[k]? = some x) (hp : p x = false) : (xs.take (k + 1)).filter p = (xs.take k).filter p := by
  rw [List.take_add_one, h, List.filter_append]
  simp [hp]
theorem filter_take_len (p : ByteArray → Bool) (xs : List ByteArray) (k : Nat) : ((xs.take k).filter p).length ≤ k := Nat.le_trans (List.length_filter_le _ _) (by rw [List.length_take]; omega)
def p32 (s : ByteArray) : Bool := decide (s.size = 32)
end Go.Proofs.YtgcpoppinnnciaaGreatDoor
/- palaverlaw18: asks. -/
set_option linter.unusedVariables false
set_option linter.unusedSimpArgs false
set_option maxRecDepth 100000
namespace Go.Proofs.YtgcpoppinnnciaaGreatDoor
open Go Go.RowKit Go.Proofs.YtgcpoppinnnciaaGreatDoor.Pal Go.Proofs.YtgcpoppinnnciaaGreatDoor.Plan

def pAll (_ : ByteArray) : Bool := true
def pNot (F : List ByteArray) (s : ByteArray) : Bool := !(F.any fun x => decide (s = x))
theorem pNot_has (F : List ByteArray) (s : ByteArray) : pNot F s = !hasB F s := by
  unfold pNot hasB
  congr 1
  exact congrArg F.any (funext fun x => decide_eq_decide.2 eq_comm)
end Go.Proofs.YtgcpoppinnnciaaGreatDoor
/- recon: Greet; the law's laid: a set of what is laid. -/
set_option linter.unusedVariables false
set_option linter.unusedSimpArgs false
set_option maxRecDepth 100000
namespace Go.Proofs.YtgcpoppinnnciaaGreatDoor
open Go Go.RowKit Go.Proofs.YtgcpoppinnnciaaGreatDoor.Pal Go.Proofs.YtgcpoppinnnciaaGreatDoor.Plan

/-- What the heads of a set are, whenever they are asked. -/
def HeadsP (b : Nat) (L : List ByteArray) (w : World) : Prop :=
  ∀ W, Unch none_ w W → Calls Tryz.prog 26 #[.pointer (some ⟨b, 0, none⟩)] W fun e w' => ∃ v, e = .returned v ∧ SMid W w' v L.length L
set_option maxHeartbeats 1000000 in
theorem greet_ok {w : World} {b : Nat} {L : List ByteArray} (h : HeadsP b L w) (hl : L.length ≤ 64) :
    Calls Tryz.prog 9 #[.pointer (some ⟨b, 0, none⟩)] w fun e w' => ∃ A c, e = .returned (.agg #[.int .i64 1, .int .i64 0, .slice A L.length c, .string ⟨#[]⟩, .slice none 0 0]) ∧ SMid w w' (.slice A L.length c) L.length L := by
  have hua := (Unch.refl none_ w).alloc (.cells #[.int .i64 0, .int .i64 0, .slice none 0 0, .string ⟨#[]⟩, .slice none 0 0] 35)
  have hb := blk_new w (.cells #[.int .i64 0, .int .i64 0, .slice none 0 0, .string ⟨#[]⟩, .slice none 0 0] 35)
  have HH := Lib.hid (h _ hua)
  have HUA := Lib.hid hua
  have HB := Lib.hid hb
  clear h hua hb
  generalize hn : L.length = n at *
  go_enter Tryz.func9, Tryz.ntmps9
  go_wp2_with fail
  with_reducible refine HH.out.mono ?_
  rintro _ w2 ⟨v, rfl, hs⟩
  obtain ⟨A, c, rfl, hc⟩ := hs.row.slice
  have hfw := few_ok A n c w2 hc (row_newsS hs.row).2 (by omega)
  rw [show min n 64 = n by omega] at hfw
  have hb2 := hs.hu.heap HB.out (fun h => h)
  have HFW := Lib.hid hfw
  have HS := Lib.hid (SMid.later HUA.out hs)
  have HB2 := Lib.hid hb2
  clear hs hfw hb2 HH HB
  go_wp2_with fail
  with_reducible refine HFW.out.mono ?_
  rintro _ w3 ⟨rfl, rfl⟩
  have z0 := blk_cell HB2.out (j := 0) rfl
  have z1 := blk_cell HB2.out (j := 1) rfl
  have z2 := blk_cell HB2.out (j := 2) rfl
  have z3 := blk_cell HB2.out (j := 3) rfl
  have z4 := blk_cell HB2.out (j := 4) rfl
  have zf := blk_free HB2.out
  go_wp2_with fail
  refine bodyPost_ret (results_cell_row rfl _ _ w.heap.size _ _ _ _ rfl (set5 HB2.out) Tryz.underlying35 rfl (by kernel_rfl)) rfl ⟨A, c, rfl, ?_⟩
  exact HS.out.other HB2.out (by decide) (Nat.le_refl _) unch_set5
end Go.Proofs.YtgcpoppinnnciaaGreatDoor
/- palaverlaw18: laid. -/
set_option linter.unusedVariables false
set_option linter.unusedSimpArgs false
set_option maxRecDepth 100000
namespace Go.Proofs.YtgcpoppinnnciaaGreatDoor
open Go Go.RowKit Go.Proofs.YtgcpoppinnnciaaGreatDoor.Pal Go.Proofs.YtgcpoppinnnciaaGreatDoor.Plan

/-- Whether the k-th is handed over. -/
def tst (o : Int) (k : Nat) : Bool := (o / 2 ^ (k % 16)).tmod 2 == 0
/-- What is there behind the first k. -/
def laidF (K : Nat → Int) (room : ByteArray) (all : List ByteArray) (o : Int) : Nat → List Ent
  | 0 => []
  | k + 1 => if tst o k = true then addV K room (laidF K room all o k) (all.getD k ⟨#[]⟩) else laidF K room all o k
theorem laidF_t {K : Nat → Int} {room : ByteArray} {all : List ByteArray} {o : Int} {k : Nat} (h : tst o k = true) : laidF K room all o (k + 1) = addV K room (laidF K room all o k) (all.getD k ⟨#[]⟩) := by
  show (if tst o k = true then _ else _) = _
  rw [if_pos h]
theorem laidF_f {K : Nat → Int} {room : ByteArray} {all : List ByteArray} {o : Int} {k : Nat} (h : tst o k = false) : laidF K room all o (k + 1) = laidF K room all o k := by
  show (if tst o k = true then _ else _) = _
  rw [if_neg (by rw [h]; decide)]
theorem AddP.next {K : Nat → Int} {n0 b : Nat} {room : ByteArray} {es : List Ent} {bs : Asc} {s : ByteArray} {w w' : World} {x : Ending} (h : AddP K n0 b room es bs s w x w') :
    Unch (fun k => n0 ≤ k) w w' ∧ (∃ id z, x = .returned (.tuple #[.string id, .int .i64 z])) ∧ ∃ es' bs' p', VS n0 w' b room es' bs' p' ∧ sts es' = addV K room (sts es) s ∧ es'.length ≤ es.length + 1 ∧ ((∀ e ∈ es, e.id.size = 32) → ∀ e ∈ es', e.id.size = 32) := by
  obtain ⟨hu, id, z, hx, hz⟩ := h
  refine ⟨hu, ⟨id, z, hx⟩, ?_⟩
  rcases hz with ⟨hd, _, _, p', h⟩ | ⟨hd, _, pv, hc, ⟨hz, p', h⟩ | ⟨hz, p', h⟩⟩
  · exact ⟨_, _, p', h, by unfold addV; rw [if_neg (by rw [hd]; rintro ⟨h, _⟩; cases h)], by omega, fun h => h⟩
  · exact ⟨_, _, p', h, by unfold addV; rw [if_neg (by rw [chkZ_sts K room es s pv, ← hc]; exact fun h => hz h.2)], by omega, fun h => h⟩
  · refine ⟨_, _, p', h, ?_, by rw [List.length_append]; exact Nat.le_refl _, fun h e he => ?_⟩
    · unfold addV
      rw [if_pos ⟨hd, by rw [chkZ_sts K room es s pv, ← hc, hz]⟩, sts_app]
      rfl
    · rcases List.mem_append.1 he with he | he
      · exact h e he
      · rw [List.mem_singleton] at he
        subst he
        exact idF_size K s
def LaidP (K : Nat → Int) (w : World) (all : List ByteArray) (o : Int) (n : Nat) (room : ByteArray) (x : Ending) (w' : World) : Prop :=
  ∃ b es bs p, x = .returned (.pointer (some ⟨b, 0, none⟩)) ∧ VS w.heap.size w' b room es bs p ∧ sts es = laidF K room all o n ∧ es.length ≤ n ∧ (∀ e ∈ es, e.id.size = 32) ∧ Unch none_ w w'
set_option maxHeartbeats 1000000 in
theorem laid18_ok (K : Nat → Int) {w : World} {A : Option Addr} {n c : Nat} {all : List ByteArray} (h : RdS w 1 StrR A n all) (hK : Kys K w) (hsz : ∀ s ∈ all, s.size ≤ 1100000) (room : ByteArray) (hr : room.size = 32) (o : Int) (ho : 0 ≤ o ∧ o ≤ 65535) :
    Calls Tryz.prog 6 #[.slice A n c, .string room, .int .u16 o] w fun x w' => LaidP K w all o n room x w' := by
  obtain ⟨fin, hfin⟩ : ∃ F, LaidP K w all o n room = F := ⟨_, rfl⟩
  rw [hfin]
  have FIN := Lib.hid hfin
  have HRD := Lib.hid h
  have HK := Lib.hid hK
  have HSZ := Lib.hid hsz
  have HPN := Lib.hid h.len
  have hn := h.max
  unfold maxLen at hn
  have HNEW := Lib.hid (vnew_ok room hr w)
  obtain ⟨ho1, ho2⟩ := ho
  clear hfin h hK hsz
  go_enter Tryz.func6, Tryz.ntmps6
  go_wp2_with fail
  with_reducible refine HNEW.out.mono ?_
  rintro _ w1 ⟨b, p, rfl, hv, hu1⟩
  have HV1 := Lib.hid hv
  have HU1 := Lib.hid hu1
  clear hv hu1 HNEW
  go_wp2_with fail
  go_loopg [8] n (fun gk i wr => ∃ (k : Nat) (es : List Ent) (bs : Asc) (p : Plc), gk = n - k ∧ k ≤ n ∧ i = .int .i64 (k : Int) ∧ VS w.heap.size wr b room es bs p ∧ sts es = laidF K room all o k ∧ es.length ≤ k ∧ (∀ e ∈ es, e.id.size = 32) ∧ Unch none_ w wr)
  case atStart => exact ⟨0, [], [], p, rfl, by omega, rfl, HV1.out, rfl, Nat.le_refl _, (fun e he => by cases he), HU1.out⟩
  case round =>
    obtain ⟨k, es, bs, p, rfl, hk, rfl, hv, hst, hel, h32, hu⟩ := hrel
    obtain ⟨w2, rfl⟩ : ∃ w2, w2 = wr := ⟨_, rfl⟩
    have HV := Lib.hid hv
    have HU := Lib.hid hu
    have HST := Lib.hid hst
    have H32 := Lib.hid h32
    clear hv hu HV1 HU1 hst h32
    have z0 : (0 : Int) ≤ (k : Int) := by omega
    by_cases hkn : k < n
    · have z1 : (k : Int) < (n : Int) := by omega
      obtain ⟨s, hs⟩ := get_some HPN.out hkn
      obtain ⟨bb, o', hA, _, x0⟩ := RdS.str (RdS.fresh HRD.out HU.out) hs
      subst hA
      have HA := Lib.hid (vadd_ok K HV.out (HK.out.unch HU.out (fun h => h)) s (by have := HSZ.out s (List.mem_of_getElem? hs); omega))
      have hgd : all.getD k ⟨#[]⟩ = s := by rw [List.getD_eq_getElem?_getD, hs]; rfl
      have HGD := Lib.hid hgd
      clear hs hgd
      go_upto_region 5 with fail
      go_cut [22] from 17 to 22 (fun v wx => v = .bool (tst o k) ∧ w2 = wx)
      case first =>
        go_wp2_with fail
        go_meet
        exact ⟨rfl, rfl⟩
      case rest =>
        obtain ⟨rfl, hwc⟩ := hcut
        subst hwc
        cases ht : tst o k with
        | false =>
          have HT := Lib.hid ht
          clear ht
          go_wp2_with fail
          go_roundg (n - (k + 1))
          case measure => omega
          case rel => exact ⟨k + 1, es, bs, p, rfl, by omega, by go_num, HV.out, by rw [HST.out, laidF_f HT.out], by omega, H32.out, HU.out⟩
        | true =>
          have HT := Lib.hid ht
          clear ht
          go_wp2_with fail
          with_reducible refine HA.out.mono ?_
          rintro e w3 hadd
          obtain ⟨hu3, ⟨id, z, rfl⟩, es', bs', p', hv', hst', hl', h32'⟩ := hadd.next
          rw [HST.out] at hst'
          have HST' := Lib.hid hst'
          have H32' := Lib.hid (h32' H32.out)
          have HV3 := Lib.hid hv'
          have HU3 := Lib.hid (HU.out.step hu3 (fun i hi e => by omega))
          clear hv' hadd hu3 HA hst' h32'
          go_wp2_with fail
          go_roundg (n - (k + 1))
          case measure => omega
          case rel => exact ⟨k + 1, es', bs', p', rfl, by omega, by go_num, HV3.out, by rw [HST'.out, laidF_t HT.out, HGD.out], by omega, H32'.out, HU3.out⟩
    · obtain rfl : k = n := by omega
      go_wp2_with fail
      rw [← FIN.out]
      exact ⟨b, es, bs, p, rfl, HV.out, HST.out, hel, H32.out, HU.out⟩
end Go.Proofs.YtgcpoppinnnciaaGreatDoor
