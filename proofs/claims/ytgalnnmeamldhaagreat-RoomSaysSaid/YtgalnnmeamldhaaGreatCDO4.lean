/-
  dag.Order: the walk.
-/
import Derived.Test.YtgalnnmeamldhaaGreatCDO3
import Derived.Test.YtgalnnmeamldhaaGreatCDG1
/- dag.Order: the walk. -/
set_option linter.unusedVariables false
set_option linter.unusedSimpArgs false
namespace Go.Proofs.YtgalnnmeamldhaaGreat
open Go Go.RowKit Go.Proofs.YtgalnnmeamldhaaGreat.Pal Go.Proofs.YtgalnnmeamldhaaGreat.Plan

structure OI (w wr : World) (bl bkk : Nat) (lm km : Asc) (f : DK → Value × List ByteArray) (bp br : Nat) (m left : Asc) : Prop where
  ow : OW w wr bl bkk lm km f
  it : Sit wr bp br m left
  hb : bp < w.heap.size
  hr : w.heap.size ≤ br
section
variable {w wr w2 w3 : World} {bl bkk : Nat} {lm km lm2 : Asc} {f : DK → Value × List ByteArray} {bp br : Nat} {m left left2 : Asc}
theorem OW.ne_iter (h : OW w wr bl bkk lm km f) (hi : Sit wr bp br m left) {a : DK} {k : Nat} (hk : (f a).1.ownBlock = some k) : k ≠ br := fun e => by
  obtain ⟨cur, hc⟩ := (h.fam.row a).blk hk
  obtain ⟨es, clock, since, seen, c0, h1, h2, _⟩ := hi
  subst e
  rw [h2] at hc; cases hc
theorem sm_ne_iter {b : Nat} {mm : Asc} (h : Sm wr b mm) (hi : Sit wr bp br m left) : b ≠ br := fun e => by
  obtain ⟨es, clock, hc, _⟩ := h
  obtain ⟨es', clock', since, seen, c0, h1, h2, _⟩ := hi
  subst e
  rw [h2] at hc; cases hc
theorem OI.next (h : OI w wr bl bkk lm km f bp br m left) (hu : Unch (fun j => j = br) wr w2) (hs : Sit w2 bp br m left2) : OI w w2 bl bkk lm km f bp br m left2 :=
  ⟨⟨h.ow.hu.step hu (fun i hi e => by have := h.hr; omega), h.ow.fam.unch hu (fun a b hb e => h.ow.ne_iter h.it hb e), h.ow.left.unch hu (fun e => sm_ne_iter h.ow.left h.it e), h.ow.kids.unch hu (fun e => sm_ne_iter h.ow.kids h.it e), h.ow.kget, h.ow.hl, h.ow.hk, h.ow.hne⟩, hs, h.hb, h.hr⟩
theorem OI.leftput (h : OI w wr bl bkk lm km f bp br m left) (hu : Unch (fun j => j = bl) wr w2) (hs : Sm w2 bl lm2) : OI w w2 bl bkk lm2 km f bp br m left :=
  ⟨h.ow.leftput hu hs, h.it.unch hu (fun e => by have := h.hb; have := h.ow.hl; omega) (fun e => sm_ne_iter h.ow.left h.it e.symm), h.hb, h.hr⟩
theorem OI.row (h : OI w wr bl bkk lm km f bp br m left) (a : DK) (ha : ∀ s, a ≠ .kid s) {v : Value} {ys : List ByteArray} (hr : Row w2 9 1 v ys.length (sv ys)) (hu : Unch (fun k => (f a).1.ownBlock = some k) wr w2) (hat : ∀ b, v.ownBlock = some b → (f a).1.ownBlock = some b ∨ wr.heap.size ≤ b) :
    OI w w2 bl bkk lm km (putF f a v ys) bp br m left :=
  ⟨h.ow.row a ha hr hu hat, h.it.unch hu (fun e => by have := h.ow.fam.own a _ e; have := h.hb; omega) (fun e => h.ow.ne_iter h.it e rfl), h.hb, h.hr⟩
theorem OI.kidrow (h : OI w wr bl bkk lm km f bp br m left) (s : ByteArray) {v : Value} {ys : List ByteArray} (hr : Row w2 9 1 v ys.length (sv ys)) (hu : Unch (fun k => (f (.kid s)).1.ownBlock = some k) wr w2) (hat : ∀ b, v.ownBlock = some b → (f (.kid s)).1.ownBlock = some b ∨ wr.heap.size ≤ b)
    (hu3 : Unch (fun j => j = bkk) w2 w3) (hs : Sm w3 bkk (mput km s v)) : OI w w3 bl bkk lm (mput km s v) (putF f (.kid s) v ys) bp br m left := by
  have hit2 := h.it.unch hu (fun e => by have := h.ow.fam.own _ _ e; have := h.hb; omega) (fun e => h.ow.ne_iter h.it e rfl)
  have hkids2 := h.ow.kids.unch hu (fun e => h.ow.fam.not_map h.ow.kids e rfl)
  exact ⟨h.ow.kidrow s hr hu hat hu3 hs, hit2.unch hu3 (fun e => by have := h.ow.hk; have := h.hb; omega) (fun e => sm_ne_iter hkids2 hit2 e.symm), h.hb, h.hr⟩
/-- The blocks of append's result. -/
theorem hat_of {v v' : Value} {n : Nat} (h : v'.ownBlock = v.ownBlock ∨ ∃ b, v'.ownBlock = some b ∧ n ≤ b) : ∀ b, v'.ownBlock = some b → v.ownBlock = some b ∨ n ≤ b := fun b hb => by
  rcases h with h | ⟨b', h1, h2⟩
  · exact .inl (h ▸ hb)
  · rw [h1] at hb; injection hb with hb; exact .inr (hb ▸ h2)
end
set_option maxRecDepth 100000 in
set_option maxHeartbeats 8000000 in
theorem dorder_ok {w : World} {bd bp bk : Nat} {es : List Ent} {pv : Nat → Value} (h : Dg w bd bp bk es es.length pv) (hC : Closed es) :
    Calls Tryz.prog 26 #[.pointer (some ⟨bd, 0, none⟩)] w fun e w' => ∃ v ys, e = .returned v ∧ OrdP es ys ∧ LeastP es ys ∧ ys.length = es.length ∧ SMid w w' v ys.length ys := by
  have hmm := @run_makeMap Tryz.prog
  have h300 := hC.len
  have hsid : ∀ i, i < es.length → (ent es i).id.size ≤ maxLen := fun i hi => by have := hC.hi i hi; unfold maxLen; omega
  have hsps : ∀ i p, i < es.length → p ∈ parsL es i → p.size ≤ maxLen := fun i p hi hp => by
    obtain ⟨q, hq, e⟩ := hC.pars i p hi (sortS_mem.1 hp)
    rw [← e]
    exact hsid q (by omega)
  have HSID := Lib.hid hsid
  have HSPS := Lib.hid hsps
  have HC := Lib.hid hC
  have HDG := Lib.hid h
  have hbp := h.par.lt
  have c0 := blk_cell h.blk (j := 0) rfl
  clear h hsid hsps
  obtain ⟨n, hn⟩ : ∃ n, es.length = n := ⟨_, rfl⟩
  have HN := Lib.hid hn
  rw [hn] at h300
  clear hn
  go_enter Tryz.func26, Tryz.ntmps26
  go_upto_region 5 with fail
  have m1 := Sm.made w
  have m2 := Sm.made (w.alloc (.map #[] 0))
  have hu2 : Unch none_ w ((w.alloc (.map #[] 0)).alloc (.map #[] 0)) := ((Unch.refl none_ w).alloc _).alloc _
  have m1' := m1.unch ((Unch.refl none_ (w.alloc (.map #[] 0))).alloc (.map #[] 0)) (fun h => h)
  have hs1 : (w.alloc (.map #[] 0)).heap.size = w.heap.size + 1 := by simp
  rw [hs1] at m2
  obtain ⟨bl, hbl⟩ : ∃ bl, w.heap.size = bl := ⟨_, rfl⟩
  obtain ⟨bkk, hbkk⟩ : ∃ bkk, w.heap.size + 1 = bkk := ⟨_, rfl⟩
  have hO := OW.start hu2 m1' m2 (Nat.le_refl _) (by omega) (by omega)
  rw [hbkk, hbl] at hO
  rw [hbkk, hbl]
  have c2 := hu2.cell c0 (fun h => h)
  clear m1 m2 m1' c0 hs1
  generalize (w.alloc (.map #[] 0)).alloc (.map #[] 0) = w2 at *
  have hpar := HDG.out.par.unch hu2 (fun h => h)
  have HO := Lib.hid hO
  have HPAR := Lib.hid hpar
  clear hO hpar
  go_wp2_with (at_range; refine wpList_sm_range w2 rfl (.tmp 23) 79 rfl 9 27 Tryz.underlying79 bp _ rfl HPAR.out ?_; intro w3 hsit hu3 hsz3; have HSIT := Lib.hid hsit; have HU3 := Lib.hid hu3; clear hsit hu3 hsz3)
  go_simp
  obtain ⟨br, hbr⟩ : ∃ br, w2.heap.size = br := ⟨_, rfl⟩
  have n1 : w.heap.size ≤ br := by have := hu2.size; omega
  rw [hbr] at HSIT ⊢
  have H0 : Hid (OI w w3 bl bkk [] [] f0 bp br (idA es allT pv es.length) (idA es allT pv es.length)) := Lib.hid ⟨HO.out.fresh HU3.out, HSIT.out, hbp, n1⟩
  have HK0 : Hid (KidsP es (dO es (idA es allT pv es.length)) f0) := Lib.hid ⟨fun s => List.nodup_nil, fun s x => by
    constructor
    · intro h; cases h
    · rintro ⟨i, a, _, b⟩
      unfold dO at b
      rw [tB_start a, Bool.false_and] at b; cases b⟩
  have HL0 : Hid (LeftP es (tB es (idA es allT pv es.length)) []) := Lib.hid fun i hi ht => by rw [tB_start hi] at ht; cases ht
  have HR0 : Hid (RdP es (tB es (idA es allT pv es.length)) f0) := Lib.hid ⟨List.nodup_nil, fun x => by
    constructor
    · intro h; cases h
    · rintro ⟨i, a, _, b, _⟩
      rw [tB_start a] at b; cases b⟩
  clear hbr HSIT HU3 HO HPAR c2 hu2
  go_loopg [5, 7, 8, 10] ((idA es allT pv es.length).length) (fun gk r5 _ _ _ wr => ∃ (left lm km : Asc) (f : DK → Value × List ByteArray), gk = left.length ∧ r5 = (f .rdy).1 ∧ OI w wr bl bkk lm km f bp br (idA es allT pv es.length) left ∧ KidsP es (dO es left) f ∧ LeftP es (tB es left) lm ∧ RdP es (tB es left) f ∧ f .out = (.slice none 0 0, []))
  case atStart => exact ⟨_, _, _, _, rfl, rfl, H0.out, HK0.out, HL0.out, HR0.out, rfl⟩
  case round =>
    clear H0 HK0 HL0 HR0
    obtain ⟨left, lm, km, f, rfl, rfl, hoi, hkp, hlp, hrp, hfo⟩ := hrel
    obtain ⟨w4, rfl⟩ : ∃ w4, w4 = wr := ⟨_, rfl⟩
    have HOI := Lib.hid hoi
    have HKP := Lib.hid hkp
    have HLP := Lib.hid hlp
    have HRP := Lib.hid hrp
    have HFO := Lib.hid hfo
    clear hoi hkp hlp hrp hfo
    go_wp2_with (at_next; refine wpList_sit_next2 w4 rfl (.tmp 24) rfl bp br _ left rfl HOI.out.it ?c1 ?c2)
    case c2 =>
      rintro ⟨k, v, w5, hp, hsit5, hu5, hsz5, hent⟩
      dsimp only
      have hoi5 := HOI.out.next hu5 hsit5
      obtain ⟨i0, hi0, _, rfl, rfl⟩ := idA_ix (HOI.out.it.mem _ hp)
      obtain ⟨A, m, c, hpv, hc, hrd⟩ := HDG.out.ps i0 hi0
      have hml := hrd.len
      have HP := Lib.hid hp
      have HOI5 := Lib.hid hoi5
      have HRD := Lib.hid hrd
      have HML := Lib.hid hml
      have HI0 := Lib.hid hi0
      have hsi := HSID.out i0 hi0
      have hsl5 := hoi5.ow.left
      have HSL5 := Lib.hid hsl5
      rw [hpv] at hent
      clear hp hsit5 hu5 hsz5 hoi5 hpv hrd hml hi0 hsl5
      obtain ⟨id0, hid0⟩ : ∃ id0, (ent es i0).id = id0 := ⟨_, rfl⟩
      rw [hid0] at hent hsi HP HOI5 ⊢
      have HID0 := Lib.hid hid0
      clear hid0
      go_simp
      go_wp2_with (at_mapUpdate; refine wpList_sm_put w5 rfl (.tmp 30) (.tmp 31) (.tmp 33) 61 rfl 9 3 Tryz.underlying61 Tryz.underlying9 bl lm rfl HSL5.out id0 rfl hsi (.int .i64 (m : Int)) (by rfl) ?_; intro w6 hsm6 hu6; have HSM6 := Lib.hid hsm6; have HU6 := Lib.hid hu6; clear hsm6 hu6)
      go_simp
      obtain ⟨lm2, hlm2⟩ : ∃ lm2, mput lm id0 (.int .i64 (m : Int)) = lm2 := ⟨_, rfl⟩
      obtain ⟨left2, hleft2⟩ : ∃ left2, (left.filter fun q => decide (q.1 ≠ id0)) = left2 := ⟨_, rfl⟩
      have hlp6 := HLP.out.put HC.out HI0.out (T2 := tB es left2) (fun i hi => by rw [← hleft2, ← HID0.out]; exact tB_step HC.out HI0.out hi)
      rw [HID0.out, HML.out, hlm2] at hlp6
      have hsm6 := HSM6.out
      rw [hlm2] at hsm6
      have hoi6 := HOI5.out.leftput HU6.out hsm6
      rw [hleft2] at hoi6
      have HOI6 := Lib.hid hoi6
      have HLP6 := Lib.hid hlp6
      have HLF := Lib.hid hleft2
      have hnow := tB_now (es := es) (i0 := i0) (left := left) (by rw [HID0.out]; exact HP.out)
      have HNOW := Lib.hid hnow
      have hmx := HRD.out.max
      unfold maxLen at hmx
      obtain ⟨vr, hvr⟩ : ∃ vr, (f .rdy).1 = vr := ⟨_, rfl⟩
      have HVR := Lib.hid hvr
      clear hsm6 hoi6 hlp6 hnow hleft2 hlm2 hent HSL5 HSM6 HU6 HOI5
      rw [hvr]
      clear hvr
      go_loopg [10, 36] m (fun gk _ i36 wr => ∃ (t : Nat) (km2 : Asc) (f2 : DK → Value × List ByteArray), gk = m - t ∧ t ≤ m ∧ i36 = .int .i64 (t : Int) ∧ OI w wr bl bkk lm2 km2 f2 bp br (idA es allT pv es.length) left2 ∧ KidsP es (dB es left i0 t) f2 ∧ f2 .rdy = f .rdy ∧ f2 .out = f .out)
      case atStart => exact ⟨0, _, _, rfl, Nat.zero_le _, rfl, HOI6.out, HKP.out.of (fun i s _ => dB_zero es left i0 i s) (fun s => rfl), rfl, rfl⟩
      case round =>
        clear HOI6
        obtain ⟨t, km2, f2, rfl, ht, rfl, hoi, hkp, hfr, hfo⟩ := hrel
        obtain ⟨w7, rfl⟩ : ∃ w7, w7 = wr := ⟨_, rfl⟩
        have HOI7 := Lib.hid hoi
        have HKP7 := Lib.hid hkp
        have HFR7 := Lib.hid hfr
        have HFO7 := Lib.hid hfo
        clear hkp hfr hfo
        by_cases htm : t < m
        · have zt : (t : Int) < (m : Int) := by omega
          obtain ⟨p, hp⟩ := get_some HML.out htm
          obtain ⟨bb, oo, rfl, _, xp⟩ := RdS.str (RdS.fresh HRD.out hoi.ow.hu) hp
          have hsp := HSPS.out i0 p HI0.out (List.mem_of_getElem? hp)
          obtain ⟨vk, hvk⟩ : ∃ vk, (f2 (.kid p)).1 = vk := ⟨_, rfl⟩
          obtain ⟨kl, hkl⟩ : ∃ kl, (f2 (.kid p)).2 = kl := ⟨_, rfl⟩
          obtain ⟨q, hq⟩ : ∃ q, kl.length = q := ⟨_, rfl⟩
          have hlk := look_s1 hoi.ow.kids hsp (hoi.ow.kget p)
          have hrow := hoi.ow.fam.row (.kid p)
          have hq3 := HKP7.out.klen HC.out p
          rw [hvk] at hlk
          rw [hvk, hkl, hq] at hrow
          rw [hkl, hq] at hq3
          have hnd := Lib.hid (dB_now hp HNOW.out)
          have hst := Lib.hid fun i x => dB_step (es := es) (left := left) hp i x
          have HROW := Lib.hid hrow
          have HVK := Lib.hid hvk
          have HKL := Lib.hid hkl
          have HQ := Lib.hid hq
          clear hoi hp hvk hkl hq hrow
          go_wp2_with (first
            | (at_builtin; refine wpList_append1 w7 rfl (.tmp 44) (.tmp 46) 27 9 _ 1 16 rfl Tryz.underlying27 info_str rfl (by omega) vk q (sv kl) (by rfl) HROW.out [.string id0] rfl (by intro u hu; simp at hu; subst hu; rfl) (by rfl) (by simp only [maxLen]; omega) (by omega) ?_; intro v8 w8 hr8 hu8 hat8; have HR8 := Lib.hid hr8; have HU8 := Lib.hid hu8; have HAT8 := Lib.hid (hat_of hat8); have HKS8 := Lib.hid (HOI7.out.ow.kids.unch hu8 (fun e => HOI7.out.ow.fam.not_map HOI7.out.ow.kids (by rw [HVK.out]; exact e) rfl)); obtain ⟨A8, c8, rfl, _⟩ := hr8.slice; clear hr8 hu8 hat8)
            | (at_mapUpdate; refine wpList_sm_put w8 rfl (.tmp 40) (.tmp 41) (.tmp 47) 79 rfl 9 27 Tryz.underlying79 Tryz.underlying9 bkk km2 rfl HKS8.out p rfl hsp (.slice A8 (q + 1) c8) (by rfl) ?_; intro w9 hsm9 hu9; have HSM9 := Lib.hid hsm9; have HU9 := Lib.hid hu9; clear hsm9 hu9))
          go_simp
          go_wp2
          go_roundg (m - (t + 1))
          case measure => omega
          case rel =>
            have hr9 : Row w8 9 1 (.slice A8 (q + 1) c8) (kl ++ [id0]).length (sv (kl ++ [id0])) := by
              rw [List.length_append, List.length_singleton, HQ.out, sv_app]; exact HR8.out
            have hoi9 := HOI7.out.kidrow p hr9 (by rw [HVK.out]; exact HU8.out) (by rw [HVK.out]; exact HAT8.out) HU9.out HSM9.out
            have hkp9 := HKP7.out.add HC.out HI0.out (s := p) hnd.out (fun i x _ => hst.out i x) (.slice A8 (q + 1) c8)
            rw [HKL.out, HID0.out] at hkp9
            exact ⟨t + 1, _, _, rfl, by omega, by go_num, hoi9, hkp9, by rw [putF_ne _ _ _ (fun h => by cases h)]; exact HFR7.out, by rw [putF_ne _ _ _ (fun h => by cases h)]; exact HFO7.out⟩
        · obtain rfl : t = m := by omega
          have hkpe := HKP7.out.of (D2 := dO es left2) (f2 := f2) (fun i s hi => by
            have := dB_end HC.out (left := left) HI0.out hi s
            rw [HML.out, HID0.out, HLF.out] at this
            exact this) (fun s => rfl)
          have hT : ∀ i, i < es.length → tB es left2 i = (tB es left i || decide (i = i0)) := fun i hi => by
            rw [← HLF.out, ← HID0.out]; exact tB_step HC.out HI0.out hi
          have hless : left2.length < left.length := by rw [← HLF.out]; exact left_less HP.out
          have hrp7 := HRP.out.of HFR7.out
          have hfo7 := HFO7.out.trans HFO.out
          have HKPE := Lib.hid hkpe
          have HT := Lib.hid hT
          have HRP7 := Lib.hid hrp7
          have HFO8 := Lib.hid hfo7
          clear hoi hkpe hT hrp7 hfo7
          by_cases hm0 : t = 0
          · have t0 : (t : Int) = 0 := by omega
            have t0' : decide ((t : Int) = 0) = true := decide_eq_true t0
            obtain ⟨kl, hkl⟩ : ∃ kl, (f2 .rdy).2 = kl := ⟨_, rfl⟩
            obtain ⟨q, hq⟩ : ∃ q, kl.length = q := ⟨_, rfl⟩
            have hvk : (f2 .rdy).1 = vr := by rw [HFR7.out]; exact HVR.out
            have hrow := HOI7.out.ow.fam.row .rdy
            have hq3 := HRP7.out.len HC.out
            rw [hvk, hkl, hq] at hrow
            rw [hkl, hq] at hq3
            have HROW := Lib.hid hrow
            have HVK := Lib.hid hvk
            have HKL := Lib.hid hkl
            have HQ := Lib.hid hq
            have HM0 := Lib.hid hm0
            clear hkl hq hrow hvk hm0
            go_wp2_with (at_builtin; refine wpList_append1 w7 rfl (.tmp 52) (.tmp 54) 27 9 _ 1 16 rfl Tryz.underlying27 info_str rfl (by omega) vr q (sv kl) (by rfl) HROW.out [.string id0] rfl (by intro u hu; simp at hu; subst hu; rfl) (by rfl) (by simp only [maxLen]; omega) (by omega) ?_; intro v8 w8 hr8 hu8 hat8; have HR8 := Lib.hid hr8; have HU8 := Lib.hid hu8; have HAT8 := Lib.hid (hat_of hat8); clear hr8 hu8 hat8)
            go_roundg (left2.length)
            case measure => exact hless
            case rel =>
              have hr9 : Row w8 9 1 v8 (kl ++ [id0]).length (sv (kl ++ [id0])) := by
                rw [List.length_append, List.length_singleton, HQ.out, sv_app]; exact HR8.out
              have hoi9 := HOI7.out.row .rdy (fun s h => by cases h) hr9 (by rw [HVK.out]; exact HU8.out) (by rw [HVK.out]; exact HAT8.out)
              have hrp9 := HRP7.out.add HC.out HI0.out HNOW.out HT.out (by rw [HML.out]; exact HM0.out) v8
              rw [HKL.out, HID0.out] at hrp9
              exact ⟨left2, lm2, km2, _, rfl, by rw [putF_at], hoi9, HKPE.out.of (fun _ _ _ => rfl) (fun s => putF_ne _ _ _ (fun h => by cases h)), HLP6.out, hrp9, by rw [putF_ne _ _ _ (fun h => by cases h)]; exact HFO8.out⟩
          · have t0 : ¬ (t : Int) = 0 := by omega
            have t0' : decide ((t : Int) = 0) = false := decide_eq_false t0
            go_wp2
            go_roundg (left2.length)
            case measure => exact hless
            case rel => exact ⟨left2, lm2, km2, _, rfl, by rw [HFR7.out]; exact HVR.out.symm, HOI7.out, HKPE.out, HLP6.out, HRP7.out.skip HT.out (by rw [HML.out]; exact hm0), HFO8.out⟩
    case c1 =>
      intro hl
      subst hl
      obtain ⟨vr, hvr⟩ : ∃ vr, (f .rdy).1 = vr := ⟨_, rfl⟩
      have hrow := HOI.out.ow.fam.row .rdy
      have hq3 := HRP.out.len HC.out
      have hso := sortO_ok hrow (by omega)
      rw [hvr] at hso ⊢
      have HSO := Lib.hid hso
      have HVR := Lib.hid hvr
      clear hrow hvr hso
      go_simp
      go_wp2_with fail
      refine HSO.out.mono ?_
      rintro e w5 ⟨rfl, L, hp, hs, hr, hu⟩
      have hr' := hr
      rw [← hp.length_eq] at hr'
      have how := HOI.out.ow.row .rdy (fun s h => by cases h) (v := vr) (ys := L) hr' (by rw [HVR.out]; exact hu) (fun b hb => .inl (by rw [HVR.out]; exact hb))
      have hp3 := P3.start HC.out HKP.out HLP.out HRP.out (by rw [HFO.out]) hp hs vr
      have hvr3 : (putF f .rdy vr L .rdy).1 = vr := by rw [putF_at]
      have hvo3 : (putF f .rdy vr L .out).1 = .slice none 0 0 := by rw [putF_ne _ _ _ (fun h => by cases h), HFO.out]
      obtain ⟨f3, hf3⟩ : ∃ f3, putF f .rdy vr L = f3 := ⟨_, rfl⟩
      rw [hf3] at how hp3 hvr3 hvo3
      have HOW := Lib.hid how
      have HP3 := Lib.hid hp3
      have HVR3 := Lib.hid hvr3
      have HVO3 := Lib.hid hvo3
      clear hr hu hr' hp hs how hp3 hvr3 hvo3 hf3 HSO HOI HKP HLP HRP HFO HVR
      go_wp2_with fail
      go_loopg [5, 6, 11, 13, 14, 15] n (fun gk r5 r6 _ _ _ _ wr => ∃ (ys : List ByteArray) (lm km : Asc) (f : DK → Value × List ByteArray), gk = n - ys.length ∧ r5 = (f .rdy).1 ∧ r6 = (f .out).1 ∧ OW w wr bl bkk lm km f ∧ P3 es ys lm f)
      case atStart => exact ⟨[], _, _, f3, rfl, HVR3.out.symm, HVO3.out.symm, HOW.out, HP3.out⟩
      case round =>
        clear HOW HP3 HVR3 HVO3
        obtain ⟨ys, lm, km, f, rfl, rfl, rfl, how, hp3⟩ := hrel
        obtain ⟨w6, rfl⟩ : ∃ w6, w6 = wr := ⟨_, rfl⟩
        have hrow := how.fam.row .rdy
        have hrl := hp3.rlen HC.out
        have HOW := Lib.hid how
        have HP3 := Lib.hid hp3
        clear how hp3
        obtain ⟨R, hR⟩ : ∃ R, (f .rdy).2 = R := ⟨_, rfl⟩
        rw [hR] at hrow hrl
        cases R with
        | nil =>
          obtain ⟨A, c, hv, hc⟩ := hrow.slice
          rw [hv]
          have hfin := HP3.out.fin HC.out hR
          have HFIN := Lib.hid hfin
          clear hrow hR hv hfin hc
          go_wp2
          go_ret
          refine ⟨_, ys, rfl, HP3.out.ord, HP3.out.least, HFIN.out, HOW.out.hu, HOW.out.fam.own .out, ?_⟩
          have := HOW.out.fam.row .out
          rw [HP3.out.out] at this
          exact this
        | cons x R =>
          obtain ⟨g, o, cap, cur, hv, hh, hcap, _, _⟩ := hrow.form (by simp)
          rw [hv] at hrow ⊢
          have hdrop := hrow.drop rfl 1 (by simp)
          have hx := hrow.at rfl (j := 0) (u := .string x) rfl
          rw [Nat.add_zero] at hx
          simp only [List.length_cons] at hdrop hrow hrl hcap ⊢
          obtain ⟨rl, hrll⟩ : ∃ rl, R.length = rl := ⟨_, rfl⟩
          rw [hrll] at hdrop hrow hrl hcap ⊢
          obtain ⟨vd, hvd⟩ : ∃ vd, Value.slice (if cap = 1 then some ⟨g, o, none⟩ else some ⟨g, o + 1, none⟩) rl (cap - 1) = vd := ⟨_, rfl⟩
          have hdrop2 : Row w6 9 1 vd R.length (sv R) := by
            rw [hrll, ← hvd]
            simpa [sv, Addr.add] using hdrop
          have hown : ∀ b, vd.ownBlock = some b → (f .rdy).1.ownBlock = some b := fun b hb => by
            rw [hv]
            rw [← hvd] at hb
            by_cases hc1 : cap = 1
            · rw [if_pos hc1] at hb; exact hb
            · rw [if_neg hc1] at hb; exact hb
          have hks := HOW.out.kget x
          obtain ⟨Ak, ck, hvk, hckk⟩ := (HOW.out.fam.row (.kid x)).slice
          obtain ⟨ks, hkse⟩ : ∃ ks, (f (.kid x)).2 = ks := ⟨_, rfl⟩
          obtain ⟨kn, hkn⟩ : ∃ kn, ks.length = kn := ⟨_, rfl⟩
          have hknd := HP3.out.kids.nd x
          have hkl3 := HP3.out.kids.klen HC.out x
          rw [hkse, hkn] at hvk
          rw [hkse] at hknd hkl3
          rw [hkn] at hkl3
          rw [hvk] at hks
          obtain ⟨j0, hj0, hid0, _⟩ := HP3.out.head hR
          have hsx := HSID.out j0 hj0
          rw [hid0] at hsx
          have how1 := HOW.out.row .rdy (fun s h => by cases h) (w2 := w6) hdrop2 (Unch.refl _ _) (fun b hb => .inl (hown b hb))
          have hys : ys.length ≤ 300 := by have := HP3.out.ord.len HC.out; have := HN.out; omega
          have hout := how1.fam.row .out
          rw [putF_ne _ _ _ (fun h => by cases h), HP3.out.out] at hout
          obtain ⟨vo, hvo⟩ : ∃ vo, (f .out).1 = vo := ⟨_, rfl⟩
          obtain ⟨q, hq⟩ : ∃ q, ys.length = q := ⟨_, rfl⟩
          rw [hvo, hq] at hout
          rw [hq] at hys
          rw [hvo]
          have HR := Lib.hid hR
          have HRL := Lib.hid hrll
          have HV := Lib.hid hv
          have HVD := Lib.hid hvd
          have HOW1 := Lib.hid how1
          have HOUT := Lib.hid hout
          have HVO := Lib.hid hvo
          have HQ := Lib.hid hq
          have HKS := Lib.hid hks
          have HVK := Lib.hid hvk
          have HKSE := Lib.hid hkse
          have HKN := Lib.hid hkn
          have HKND := Lib.hid hknd
          clear hR hrow hdrop hdrop2 hv hrll hh hvd hown hks hvk hkse hkn hknd hid0 hj0 how1 hout hvo hq
          have z0 : (0 : Int) < (rl : Int) + 1 := by omega
          go_upto_region 19 with fail
          go_cut [5] from 64 to 65 (fun v5 wx => vd = v5 ∧ w6 = wx)
          case first =>
            by_cases hc1 : cap = 1
            · subst hc1
              go_wp2
              go_meet
              exact ⟨by rw [← HVD.out]; simp; omega, rfl⟩
            · have hc2 : 1 < cap := by omega
              go_wp2
              go_meet
              exact ⟨by rw [← HVD.out]; simp [hc1], rfl⟩
          case rest =>
            obtain ⟨rfl, rfl⟩ := hcut
            go_wp2_with (at_builtin; refine wpList_append1 w6 rfl (.tmp 66) (.tmp 68) 27 9 _ 1 16 rfl Tryz.underlying27 info_str rfl (by omega) vo q (sv ys) (by rfl) HOUT.out [.string x] rfl (by intro u hu; simp at hu; subst hu; rfl) (by rfl) (by simp only [maxLen]; omega) (by omega) ?_; intro v8 w8 hr8 hu8 hat8; have hlk := look_s1 (HOW1.out.row (ys := ys ++ [x]) .out (fun s h => by cases h) (by rw [List.length_append, List.length_singleton, HQ.out, sv_app]; exact hr8) (by rw [putF_ne _ _ _ (fun h => by cases h), HVO.out]; exact hu8) (by rw [putF_ne _ _ _ (fun h => by cases h), HVO.out]; exact hat_of hat8)).kids hsx HKS.out; have HR8 := Lib.hid hr8; have HU8 := Lib.hid hu8; have HAT8 := Lib.hid (hat_of hat8); clear hr8 hu8 hat8)
            have hr9 : Row w8 9 1 v8 (ys ++ [x]).length (sv (ys ++ [x])) := by
              rw [List.length_append, List.length_singleton, HQ.out, sv_app]; exact HR8.out
            have how8 := HOW1.out.row .out (fun s h => by cases h) hr9 (by rw [putF_ne _ _ _ (fun h => by cases h), HVO.out]; exact HU8.out) (by rw [putF_ne _ _ _ (fun h => by cases h), HVO.out]; exact HAT8.out)
            obtain ⟨hp4, hxn⟩ := HP3.out.tell HC.out HR.out vd v8 HKSE.out
            have hf1k : putF (putF f .rdy vd R) .out v8 (ys ++ [x]) (.kid x) = f (.kid x) := by rw [putF_ne _ _ _ (fun h => by cases h), putF_ne _ _ _ (fun h => by cases h)]
            have hf1r : (putF (putF f .rdy vd R) .out v8 (ys ++ [x]) .rdy).1 = vd := by rw [putF_ne _ _ _ (fun h => by cases h), putF_at]
            have hf1o : (putF (putF f .rdy vd R) .out v8 (ys ++ [x]) .out).1 = v8 := by rw [putF_at]
            have hless : n - (ys.length + 1) < n - ys.length := by
              have h1 := hp4.ord.len HC.out
              rw [List.length_append, List.length_singleton, HN.out] at h1
              omega
            obtain ⟨f1, hf1⟩ : ∃ f1, putF (putF f .rdy vd R) .out v8 (ys ++ [x]) = f1 := ⟨_, rfl⟩
            rw [hf1] at how8 hp4 hf1k hf1r hf1o
            have HOW8 := Lib.hid how8
            have HP4 := Lib.hid hp4
            have HXN := Lib.hid hxn
            have HF1K := Lib.hid hf1k
            have HF1R := Lib.hid hf1r
            have HF1O := Lib.hid hf1o
            clear hr9 how8 hp4 hxn hf1k hf1r hf1o hf1 hlk HOW1 HOUT HR8 HU8 HAT8
            go_loopg [5, 13, 14, 15, 74] kn (fun gk r5 _ _ _ i74 wr => ∃ (t : Nat) (lm2 : Asc) (f2 : DK → Value × List ByteArray), gk = kn - t ∧ t ≤ kn ∧ r5 = (f2 .rdy).1 ∧ i74 = .int .i64 (t : Int) ∧ OW w wr bl bkk lm2 km f2 ∧ P4 es ys x ks t lm2 f2 ∧ (∀ a, a ≠ .rdy → f2 a = f1 a))
            case atStart => exact ⟨0, _, f1, rfl, Nat.zero_le _, HF1R.out.symm, rfl, HOW8.out, HP4.out, fun _ _ => rfl⟩
            case round =>
              clear HOW8 HP4 HF1R
              obtain ⟨t, lm2, f2, rfl, ht, rfl, rfl, how, hp4, hfe⟩ := hrel
              obtain ⟨w9, rfl⟩ : ∃ w9, w9 = wr := ⟨_, rfl⟩
              have HOW9 := Lib.hid how
              have HP9 := Lib.hid hp4
              have HFE := Lib.hid hfe
              by_cases htk : t < kn
              · have zt : (t : Int) < (kn : Int) := by omega
                obtain ⟨k, hk⟩ := get_some HKN.out htk
                have hfk : f2 (.kid x) = f (.kid x) := (hfe _ (fun h => by cases h)).trans HF1K.out
                have hrk := how.fam.row (.kid x)
                rw [hfk, HVK.out, HKSE.out, HKN.out] at hrk
                obtain ⟨bb, oo, rfl, _, xk⟩ := RdS.str (srow_rds hrk) hk
                obtain ⟨i, hi, rfl, hpx⟩ := hp4.kids.at (x := x) (by rw [hfk]; exact HKSE.out) hk
                obtain ⟨hmg, hny⟩ := hp4.now HC.out HXN.out HKND.out hi hk hpx
                have hsi := HSID.out i hi
                obtain ⟨zz, hzz⟩ : ∃ zz, leftN es (ys ++ [x]) i = zz := ⟨_, rfl⟩
                rw [hzz] at hmg
                have hzb : zz ≤ 300 := by
                  rw [← hzz]
                  refine Nat.le_trans (List.length_filter_le _ _) (sub_ids HC.out (parsL_nodup es i) fun s hs => ?_)
                  obtain ⟨q', hq', e'⟩ := HC.out.pars i s hi (sortS_mem.1 hs)
                  exact ⟨q', by omega, e'⟩
                have hlk := look_i1 how.left hsi (x := .int .i64 ((zz : Int) + 1)) (by rw [hmg]; rfl)
                have hrr := how.fam.row .rdy
                have hrl2 := hp4.rlen HC.out
                obtain ⟨R2, hR2⟩ : ∃ R2, (f2 .rdy).2 = R2 := ⟨_, rfl⟩
                obtain ⟨n2, hn2⟩ : ∃ n2, R2.length = n2 := ⟨_, rfl⟩
                rw [hR2, hn2] at hrr hrl2
                obtain ⟨A2, c2, hv2, hc2⟩ := hrr.slice
                rw [hv2] at hrr ⊢
                have hsrt := hp4.kid.sorted
                rw [hR2] at hsrt
                obtain ⟨kk, hkk⟩ : ∃ kk, (ent es i).id = kk := ⟨_, rfl⟩
                have HLF9 := Lib.hid how.left
                have HI := Lib.hid hi
                have HKT := Lib.hid hk
                have HPX := Lib.hid hpx
                have HZZ := Lib.hid hzz
                have HRR := Lib.hid hrr
                have HR2 := Lib.hid hR2
                have HN2 := Lib.hid hn2
                have HV2 := Lib.hid hv2
                have HSRT := Lib.hid hsrt
                have HKK := Lib.hid hkk
                rw [hkk] at xk hsi hlk
                clear how hp4 hfe hk hfk hrk hi hpx hmg hny hzz hrr hR2 hn2 hv2 hsrt hkk
                by_cases hz0 : zz = 0
                · subst hz0
                  have hlk1 : (Instr.lookup 61 (.map (some bl)) (.string kk) false).run Tryz.prog w9 = .ok (.int .i64 1) w9 := by simpa using hlk
                  clear hlk
                  go_wp2_with (at_mapUpdate; refine wpList_sm_put w9 rfl (.tmp 78) (.tmp 79) (.tmp 81) 61 rfl 9 3 Tryz.underlying61 Tryz.underlying9 bl lm2 rfl HLF9.out kk rfl hsi (.int .i64 0) (by rfl) ?_; intro w10 hsm10 hu10; have hlk2 := look_i1 hsm10 hsi (x := .int .i64 0) (by rw [mget_mput, if_pos rfl]; rfl); have HSM10 := Lib.hid hsm10; have HU10 := Lib.hid hu10; clear hsm10 hu10)
                  have hsm10 := HSM10.out
                  rw [← HKK.out, show (Value.int .i64 0) = .int .i64 ((leftN es (ys ++ [x]) i : Nat) : Int) by rw [HZZ.out]; rfl] at hsm10
                  have how10 := HOW9.out.leftput HU10.out hsm10
                  have hr10 := how10.fam.row .rdy
                  rw [HR2.out, HV2.out, HN2.out] at hr10
                  have hbs := binsearch_ok (s := kk) (c := c2) (srow_rds hr10) HSRT.out (by omega)
                  have hu11 : Unch none_ w10 (w10.alloc (.cells #[.string kk] 9)) := (Unch.refl none_ w10).alloc _
                  have how11 := how10.fresh hu11
                  have hr11 := how11.fam.row .rdy
                  rw [HR2.out, HV2.out, HN2.out] at hr11
                  have hpl := posS_le kk R2
                  rw [HN2.out] at hpl
                  have hin := insert_ok (i := posS kk R2) (vc := 1) (s := kk) hr11 hpl (by omega) (blk_new w10 (.cells #[.string kk] 9)) (fun e => by
                    obtain ⟨cur', hc'⟩ := hr10.blk e
                    have := lt_of_heap hc'
                    omega)
                  obtain ⟨pp, hpp⟩ : ∃ pp, posS kk R2 = pp := ⟨_, rfl⟩
                  rw [hpp] at hbs hin hpl
                  have HBS := Lib.hid hbs
                  have HIN := Lib.hid hin
                  have HOW11 := Lib.hid how11
                  have HPP := Lib.hid hpp
                  clear hsm10 how10 hr10 hbs hu11 how11 hr11 hin hpp hlk2
                  go_wp2_with fail
                  refine HBS.out.mono ?_
                  rintro e w11 ⟨⟨bo, rfl⟩, rfl⟩
                  go_wp2_with fail
                  refine HIN.out.mono ?_
                  rintro e w12 ⟨v12, rfl, hr12, hu12, hat12⟩
                  rw [← HPP.out] at hr12
                  have hr12' : Row w12 9 1 v12 (insS kk R2).length (sv (insS kk R2)) := by
                    have : (insS kk R2).length = n2 + 1 := by
                      rw [← HN2.out]
                      exact gapS_sz kk (posS_le kk R2)
                    rw [this]; exact hr12
                  have how12 := HOW11.out.row .rdy (fun s h => by cases h) hr12' (by rw [HV2.out]; exact hu12) (by rw [HV2.out]; exact hat12)
                  have HOW12 := Lib.hid how12
                  clear hr12 hu12 hat12 hr12' how12
                  go_wp2
                  go_roundg (kn - (t + 1))
                  case measure => omega
                  case rel =>
                    have hp5 := HP9.out.ins HC.out HXN.out HKND.out HI.out HKT.out HPX.out HZZ.out v12
                    rw [HR2.out, HKK.out] at hp5
                    have how12 := HOW12.out
                    rw [HKK.out] at how12
                    exact ⟨t + 1, _, _, rfl, by omega, by rw [putF_at], by go_num, how12, hp5, fun a ha => by rw [putF_ne _ _ _ ha]; exact HFE.out a ha⟩
                · have z1 : ¬ (zz : Int) = 0 := by omega
                  have z2 : decide ((zz : Int) = 0) = false := decide_eq_false z1
                  go_wp2_with (at_mapUpdate; refine wpList_sm_put w9 rfl (.tmp 78) (.tmp 79) (.tmp 81) 61 rfl 9 3 Tryz.underlying61 Tryz.underlying9 bl lm2 rfl HLF9.out kk rfl hsi (.int .i64 (zz : Int)) (by rfl) ?_; intro w10 hsm10 hu10; have hlk2 := look_i1 hsm10 hsi (x := .int .i64 (zz : Int)) (by rw [mget_mput, if_pos rfl]; rfl); have HSM10 := Lib.hid hsm10; have HU10 := Lib.hid hu10; clear hsm10 hu10)
                  go_roundg (kn - (t + 1))
                  case measure => omega
                  case rel =>
                    have hsm10 := HSM10.out
                    rw [← HKK.out, ← HZZ.out] at hsm10
                    exact ⟨t + 1, _, f2, rfl, by omega, HV2.out.symm, by go_num, HOW9.out.leftput HU10.out hsm10, HP9.out.wait HC.out HI.out HKT.out (by rw [HZZ.out]; exact hz0), HFE.out⟩
              · obtain rfl : t = kn := by omega
                have hk2 := HKN.out
                subst hk2
                have hdone := hp4.done (by rw [hfe _ (fun h => by cases h), HF1K.out]; exact HKSE.out)
                have hvo := hfe .out (fun h => by cases h)
                have HD := Lib.hid hdone
                have HVO2 := Lib.hid hvo
                clear how hp4 hfe hdone hvo
                go_wp2
                go_roundg (n - (ys.length + 1))
                case measure => exact hless
                case rel => exact ⟨ys ++ [x], lm2, km, f2, by rw [List.length_append, List.length_singleton], rfl, by rw [HVO2.out]; exact HF1O.out.symm, HOW9.out, HD.out⟩
end Go.Proofs.YtgalnnmeamldhaaGreat
