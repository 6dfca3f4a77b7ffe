/-
  A region that draws its order: what only reads comes ahead of all else (calls that only read or lay blocks among it), in whatever order; then the rest in its one order.
  A region that draws its order: what only reads (calls among it) ahead, in whatever order; then some operations in their one order; then again what only reads, in whatever order.
  A plan as in Plan (what reads may come up behind the first kap operations of the tail), and behind the tail what only reads, in whatever order.
  octets: a number in so many bytes.
  octets: laid, Byte, Short, Long: the walks.
  octets: Text, the Reader.
  octets: the Reader's numbers and texts.
  sha: the start, a rotation.
-/
import Derived.Test.YtgcpoppinnnciaaGreatDoorCPlan
import Derived.Test.YtgcpoppinnnciaaGreatDoorCBase
import Derived.Test.YtgcpoppinnnciaaGreatDoorRows
import Derived.WalkKit
import Derived.Laws.Strings
import Derived.IntWalk
import Derived.Deep.OwnRows
import Derived.Lib.ConvBytes
import Derived.Laws.Rows
/- A region that draws its order: what only reads comes ahead of all else (calls that only read or lay blocks among it), in whatever order; then the rest in its one order. -/
set_option linter.unusedVariables false
set_option linter.unusedSimpArgs false
namespace Go.Proofs.YtgcpoppinnnciaaGreatDoor.Plan
open Go Go.RowKit
section
variable {P : Program} {ops : Array Oper} {md : Region.Mode} {C : World → Prop}
def wpQT (P : Program) (md : Region.Mode) (ops : Array Oper) (C : World → Prop) (tl : List Nat) (Q : Act → Prop) : Nat → Array Bool → Act → Prop
  | 0, listed, a => (∀ i ∈ Region.ready md ops listed, i ∈ tl) ∧ Q a
  | fuel + 1, listed, a => Region.ready md ops listed ≠ [] ∧ ∀ i ∈ Region.ready md ops listed, i ∉ tl → qOp P ops C i (wpQT P md ops C tl Q fuel (listed.setIfInBounds i true)) a
theorem wpQT_first {tl : List Nat} {Q : Act → Prop} {i : Nat} {oi : Oper} {v : Value} (hi : ops[i]? = some oi) (hsel : ∀ (j : Nat) (o : Oper) cs b, ops[j]? = some o → o.op ≠ .select cs b) (hit : i ∉ tl) :
    ∀ (fuel : Nat) (listed : Array Bool) (a : Act),
      (∀ j oj, ops[j]? = some oj → j ≠ i → listed.getD j true = false → (∀ e ∈ oj.after, Region.binds md e = true → e.on ≠ i) → oi.apart ops oj = true) →
      i ∈ Region.ready md ops listed → YieldsIn P ops C oi v a →
      wpQT P md ops C tl Q fuel (listed.setIfInBounds i true) (a.put oi.dst v) → wpQT P md ops C tl Q (fuel + 1) listed a := by
  intro fuel
  induction fuel with
  | zero =>
    intro listed a _ hr hy H
    refine ⟨fun h => (by rw [h] at hr; cases hr), fun j hj hjt => ?_⟩
    by_cases hji : j = i
    · subst hji; exact hy.qOp hi H
    · exact absurd (H.1 j (ready_mono hj hji)) hjt
  | succ fuel ih =>
    intro listed a hfree hr hy H
    refine ⟨fun h => (by rw [h] at hr; cases hr), fun j hj hjt => ?_⟩
    by_cases hji : j = i
    · subst hji; exact hy.qOp hi H
    · have h1 := H.2 j (ready_mono hj hji) hjt
      obtain ⟨hjun, oj, hoj, hall⟩ := mem_ready.1 hj
      have hun := (mem_ready.1 hr).1
      have hnot : ∀ e ∈ oj.after, Region.binds md e = true → e.on ≠ i := fun e he hb heq => by
        have h1 := hall e he hb
        rw [heq, getD_both hun] at h1
        cases h1
      have h2 := qOp_put hoj (hfree j oj hoj hji hjun hnot) (fun cs b => hsel i oi cs b hi) (fun cs b => hsel j oj cs b hoj) hy h1
      have hfree' : ∀ k ok, ops[k]? = some ok → k ≠ i → (listed.setIfInBounds j true).getD k true = false →
          (∀ e ∈ ok.after, Region.binds md e = true → e.on ≠ i) → oi.apart ops ok = true := fun k ok hk hki hun hno => by
        refine hfree k ok hk hki ?_ hno
        by_cases hjk : j = k
        · subst hjk; exact hjun
        · rw [getD_set_ne true hjk] at hun; exact hun
      refine qOp_mono (fun a' h3 => ih (listed.setIfInBounds j true) a' hfree' (ready_mono hr (Ne.symm hji)) h3.1 ?_) h2
      rw [Array.setIfInBounds_comm _ _ hji]
      exact h3.2
def headQ (md : Region.Mode) (ops : Array Oper) (tl : List Nat) : List Nat → Array Bool → Bool
  | [], listed => (Region.ready md ops listed).all fun i => tl.contains i
  | i :: r, listed => !(tl.contains i) && (Region.ready md ops listed).contains i && Region.free md ops listed i && headQ md ops tl r (listed.setIfInBounds i true)
theorem wpQT_lex {tl : List Nat} {Q : Act → Prop} (hsel : Region.noSelect ops = true) : ∀ (hd : List Nat) (listed : Array Bool) (a : Act), headQ md ops tl hd listed = true → wpQuiet P ops C Q (pickIn ops hd) a → wpQT P md ops C tl Q hd.length listed a
  | [], listed, a, hB, h => by
    simp only [headQ, List.all_eq_true, List.contains_eq_mem, decide_eq_true_eq] at hB
    exact ⟨hB, h⟩
  | i :: r, listed, a, hB, h => by
    simp only [headQ, Bool.and_eq_true, Bool.not_eq_true', List.contains_eq_mem, decide_eq_false_iff_not, decide_eq_true_eq] at hB
    obtain ⟨⟨⟨hit, hr⟩, hf⟩, hB'⟩ := hB
    obtain ⟨_, oi, hoi, _⟩ := mem_ready.1 hr
    simp only [pickIn, hoi] at h
    have hst : qOp P ops C i (wpQuiet P ops C Q (pickIn ops r)) a := by unfold qOp; simp only [hoi]; exact h
    obtain ⟨v, hy, hK⟩ := yieldsIn_of_qOp hoi hst
    exact wpQT_first hoi (Region.noSelect_spec hsel) hit r.length listed a (Region.free_spec hoi hf) hr hy (wpQT_lex hsel r _ _ hB' hK)
theorem prog_all {L : Array Bool} : ∀ {hd : List Nat}, prog hd L = hd.length → ∀ h ∈ hd, L.getD h false = true
  | x :: r, hp, h, hm => by
    have h1 := prog_len L r
    simp only [prog, List.length_cons] at hp
    cases hx : L.getD x false with
    | false => rw [hx] at hp; simp at hp; omega
    | true =>
      rw [hx] at hp
      simp only [if_true] at hp
      cases hm with
      | head => exact hx
      | tail _ hm => exact prog_all (hd := r) (by omega) h hm
theorem prog_lt {L : Array Bool} : ∀ {hd : List Nat}, prog hd L < hd.length → ∃ h ∈ hd, L.getD h false = false
  | [], hp => by simp [prog] at hp
  | x :: r, hp => by
    simp only [prog, List.length_cons] at hp
    cases hx : L.getD x false with
    | false => exact ⟨x, by simp, hx⟩
    | true =>
      rw [hx] at hp
      simp only [if_true] at hp
      obtain ⟨h, hm, hh⟩ := prog_lt (hd := r) (L := L) (by omega)
      exact ⟨h, by simp [hm], hh⟩
theorem wpQT_sound {tl hd : List Nat} {Q : Act → Prop} {Q' : Exit → Act → World → Prop} {m : Nat} (hnd : hd.Nodup) (hap : ∀ t ∈ tl, t ∉ hd) (hcov : ∀ i, i < ops.size → i ∈ hd ∨ i ∈ tl)
    (hlate : ∀ t ∈ tl, ∀ h ∈ hd, (tab md ops t).getD h false = true)
    (hQ : ∀ a w L, C w → Q a → Closed md ops L → L.size = ops.size → (∀ h ∈ hd, L.getD h false = true) → (∀ t ∈ tl, L.getD t true = false) → wpAny P md ops Q' m L a w) :
    ∀ (fuel : Nat) (listed : Array Bool) (a : Act) (w : World), C w → Closed md ops listed → listed.size = ops.size → prog hd listed + fuel = hd.length → (∀ t ∈ tl, listed.getD t true = false) →
      wpQT P md ops C tl Q fuel listed a → wpAny P md ops Q' (fuel + m) listed a w
  | 0, listed, a, w, hC, hcl, hsz, hp, ht, h => by
    rw [Nat.zero_add]
    exact hQ a w listed hC h.2 hcl hsz (prog_all (by omega)) ht
  | fuel + 1, listed, a, w, hC, hcl, hsz, hp, ht, h => by
    rw [show fuel + 1 + m = (fuel + m) + 1 by omega]
    refine ⟨fun h0 => absurd h0 h.1, fun i hi => ?_⟩
    have hcl' := hcl.set hi
    obtain ⟨hun, oi, hoi, _⟩ := mem_ready.1 hi
    have his : i < listed.size := by
      rcases Nat.lt_or_ge i listed.size with h' | h'
      · exact h'
      · simp [Array.getElem?_eq_none h'] at hun
    have hnew : (listed.setIfInBounds i true).getD i false = true := by simp [his]
    obtain ⟨x, hx, hxu⟩ := prog_lt (hd := hd) (L := listed) (by omega)
    by_cases hit : i ∈ tl
    · have h1 := tab_spec hcl' hnew (hlate i hit x hx)
      have hne : i ≠ x := fun e => hap i hit (e ▸ hx)
      rw [getD_set_ne false hne, hxu] at h1
      cases h1
    · have hih : i ∈ hd := by
        rcases hcov i (by omega) with h' | h'
        · exact h'
        · exact absurd h' hit
      refine wpOp_of_qOp hC (fun a' w' hw' h' => ?_) (h.2 i hi hit)
      refine wpQT_sound hnd hap hcov hlate hQ fuel _ a' w' hw' hcl' (by simpa using hsz) ?_ (fun t htt => ?_) h'
      · rw [prog_eq_set (getD_both hun) hnew hnd hih]; omega
      · have hne : i ≠ t := fun e => hit (e ▸ htt)
        rw [getD_set_ne true hne]
        exact ht t htt
def fullL (n : Nat) (hd : List Nat) : Array Bool := (Array.range n).map fun i => decide (i ∈ hd)
def planQB (md : Region.Mode) (ops : Array Oper) (hd tl : List Nat) : Bool :=
  Region.noSelect ops && decide hd.Nodup && decide tl.Nodup && tl.all (fun k => decide (k < ops.size)) && hd.all (fun k => decide (k < ops.size)) && tl.all (fun t => !(hd.contains t)) && (List.range ops.size).all (fun i => hd.contains i || tl.contains i)
    && tl.all (fun t => let T := tab md ops t; hd.all fun h => T.getD h false) && headQ md ops tl hd (Array.replicate ops.size false) && seqT md ops tl (fullL ops.size hd)
theorem prog_none (n : Nat) : ∀ hd : List Nat, prog hd (Array.replicate n false) = 0
  | [] => rfl
  | x :: r => by
    simp only [prog, prog_none n r]
    rw [if_neg]
    rw [getD_replicate_false]
    simp
theorem wp_planQ {Q : Exit → Act → World → Prop} {id : Nat} {a : Act} {w : World} {l hdl tll : List Oper} (T : World → Prop) (hd tl : List Nat) (hm : P.follows .mixedOrders = true) (hB : planQB .any l.toArray hd tl = true)
    (h1 : pickIn l.toArray hd = hdl) (h2 : pickIn l.toArray tl = tll) (hT : T w.drew)
    (h : ∀ S : World → Prop, Hid (∀ W, S W ↔ T W) → Nonempty (In S) → wpQuiet P l.toArray (fun w' => ∃ g : In S, w' = g.w) (fun a' => ∀ W, (∃ g : In S, W = g.w) → wpList P l.toArray Q tll a' W) hdl a) : (Code.region id l.toArray true).wp P Q a w := by
  simp only [planQB, Bool.and_eq_true, decide_eq_true_eq, List.all_eq_true, Bool.not_eq_true', List.contains_eq_mem, decide_eq_false_iff_not, Bool.or_eq_true, List.mem_range] at hB
  obtain ⟨⟨⟨⟨⟨⟨⟨⟨⟨hsel, hnd⟩, hndt⟩, hin⟩, hinh⟩, hap⟩, hcov⟩, hlate⟩, hh⟩, hseq⟩ := hB
  subst h1
  subst h2
  refine wp_region_any hm ?_
  have hstart : Closed .any l.toArray (Array.replicate l.toArray.size false) := fun j oj _ hl => by rw [getD_replicate_false] at hl; cases hl
  have hlen : hd.length + tl.length = l.toArray.size := by
    have h3 : (hd ++ tl).Perm (List.range l.toArray.size) := by
      refine (List.perm_ext_iff_of_nodup (List.nodup_append.2 ⟨hnd, hndt, fun x hx y hy e => hap y hy (e ▸ hx)⟩) List.nodup_range).2 fun x => ?_
      rw [List.mem_append, List.mem_range]
      exact ⟨fun h' => h'.elim (hinh x) (hin x), hcov x⟩
    have := h3.length_eq
    rw [List.length_append, List.length_range] at this
    exact this
  have hq := wpQT_lex (P := P) (md := .any) (C := fun w' => ∃ g : In T, w' = g.w) hsel hd _ a hh (h T (fun _ => Iff.rfl) ⟨⟨_, hT⟩⟩)
  have := wpQT_sound (P := P) (Q' := Q) (C := fun w' => ∃ g : In T, w' = g.w) (m := tl.length) hnd hap hcov hlate (fun a' w' L hC hQ hcl hsz hhd htl => by
    have hL : L = fullL l.toArray.size hd := by
      apply Array.ext
      · simp [fullL, hsz]
      · intro i hi1 hi2
        simp only [fullL, Array.getElem_map, Array.getElem_range]
        by_cases hx : i ∈ hd
        · have := hhd i hx
          simp [hi1] at this
          rw [this]; simp [hx]
        · have hx' : i ∈ tl := (hcov i (by omega)).resolve_left hx
          have := htl i hx'
          simp [hi1] at this
          rw [this]; simp [hx]
    refine wpAny_of_K (C := fun _ => True) (tl := tl) (kap := 0) _ _ _ _ ?_
    refine tail_sound hndt tl 0 0 L a' w' (fun k hk => ⟨hin k hk, hk, htl k hk⟩) hndt ?_ (hL ▸ hseq) (tail_all (hQ w' hC))
    rcases Nat.eq_zero_or_pos (prog tl L) with h0 | h0
    · exact .inl (by omega)
    · exact .inr ⟨by omega, rfl⟩)
    hd.length _ a w.drew ⟨⟨_, hT⟩, rfl⟩ hstart (by simp) (by rw [prog_none]; omega) (fun t ht => by have h0 := hin t ht; simp only [List.size_toArray] at h0; simp [h0]) hq
  rw [hlen] at this
  exact this
end
end Go.Proofs.YtgcpoppinnnciaaGreatDoor.Plan
/- A region that draws its order: what only reads (calls among it) ahead, in whatever order; then some operations in their one order; then again what only reads, in whatever order. -/
set_option linter.unusedVariables false
set_option linter.unusedSimpArgs false
namespace Go.Proofs.YtgcpoppinnnciaaGreatDoor.Plan
open Go Go.RowKit
section
variable {P : Program} {ops : Array Oper} {md : Region.Mode} {C : World → Prop}
theorem prog_zero {L : Array Bool} : ∀ {hd : List Nat}, (∀ h ∈ hd, L.getD h false = false) → prog hd L = 0
  | [], _ => rfl
  | x :: r, h => by
    simp only [prog]
    rw [h x (by simp), prog_zero (hd := r) (fun y hy => h y (by simp [hy]))]
    simp
theorem wpQT_rest {rs : List Nat} {Q : Act → Prop} {Q' : Exit → Act → World → Prop} (hnd : rs.Nodup) (hQ : ∀ a w, C w → Q a → Q' .normal a w) :
    ∀ (fuel : Nat) (listed : Array Bool) (a : Act) (w : World), C w → listed.size = ops.size → (∀ i, i < ops.size → listed.getD i false = true ∨ i ∈ rs) → prog rs listed + fuel = rs.length →
      wpQT P md ops C [] Q fuel listed a → wpAny P md ops Q' fuel listed a w
  | 0, listed, a, w, hC, hsz, hcov, hp, h => by
    refine ⟨?_, hQ a w hC h.2⟩
    cases hr : Region.ready md ops listed with
    | nil => rfl
    | cons x r =>
      have := h.1 x (by rw [hr]; simp)
      cases this
  | fuel + 1, listed, a, w, hC, hsz, hcov, hp, h => by
    refine ⟨fun h0 => absurd h0 h.1, fun i hi => ?_⟩
    obtain ⟨hun, oi, hoi, _⟩ := mem_ready.1 hi
    have his : i < listed.size := by
      rcases Nat.lt_or_ge i listed.size with h' | h'
      · exact h'
      · simp [Array.getElem?_eq_none h'] at hun
    have hnew : (listed.setIfInBounds i true).getD i false = true := by simp [his]
    have hir : i ∈ rs := by
      rcases hcov i (by omega) with h' | h'
      · rw [getD_both hun] at h'; cases h'
      · exact h'
    refine wpOp_of_qOp hC (fun a' w' hw' h' => ?_) (h.2 i hi (by simp))
    refine wpQT_rest hnd hQ fuel _ a' w' hw' (by simpa using hsz) (fun j hj => ?_) ?_ h'
    · by_cases hij : i = j
      · subst hij; exact .inl hnew
      · rw [getD_set_ne false hij]; exact hcov j hj
    · rw [prog_eq_set (getD_both hun) hnew hnd hir]; omega
/-- What comes behind the tail. -/
def restNext (P : Program) (ops : Array Oper) (Q : Exit → Act → World → Prop) (rsl : List Oper) : Exit → Act → World → Prop
  | .normal, a, w => ∀ S : World → Prop, Hid (∀ W, S W ↔ W = w) → Nonempty (In S) → wpQuiet P ops (fun w' => ∃ g : In S, w' = g.w) (fun a' => Q .normal a' w) rsl a
  | e, a, w => Q e a w
theorem wpOp_restNext {Q : Exit → Act → World → Prop} {rsl : List Oper} {i : Nat} {K : Act → World → Prop} {a : Act} {w : World} (h : wpOp P ops (restNext P ops Q rsl) i K a w) : wpOp P ops Q i K a w := by
  unfold wpOp at *
  split
  · rename_i ho; simp only [ho] at h; exact h
  · rename_i o ho
    simp only [ho] at h
    split
    · rename_i hw
      simp only [hw, if_true] at h
      refine h.imp (fun h => ?_) (fun ⟨h1, a0, w0, h2⟩ => ⟨h1, a0, w0, h2⟩)
      unfold Oper.wp at *
      generalize (execOp a.eval o).run P w = r at *
      cases r with
      | ok n w' =>
        cases n <;> simp only [Oper.upon] at h ⊢
        case value => exact h
        case skip => exact h
        case defer => exact h
        case enter f args => exact h.mono fun e w'' he => by cases e <;> first | exact he | (obtain ⟨a0, w0, h2⟩ := he; exact ⟨a0, w0, h2⟩)
        case row => exact h
      | halt x w' => cases x <;> simp only [Oper.upon] at h ⊢; exact h
    · rename_i hw; simp only [hw] at h; exact h
def seqR (md : Region.Mode) (ops : Array Oper) (rs : List Nat) : List Nat → Array Bool → Bool
  | [], listed => headQ md ops [] rs listed
  | k :: r, listed => decide (Region.ready md ops listed = [k]) && seqR md ops rs r (listed.setIfInBounds k true)
theorem seq_rest {rs : List Nat} {Q : Exit → Act → World → Prop} (hsel : Region.noSelect ops = true) (hnd : rs.Nodup) :
    ∀ (r : List Nat) (listed : Array Bool) (a : Act) (w : World), listed.size = ops.size → (∀ k ∈ r, k < ops.size ∧ listed.getD k true = false ∧ k ∉ rs) → r.Nodup → (∀ i, i < ops.size → listed.getD i false = true ∨ i ∈ r ∨ i ∈ rs) → (∀ k ∈ rs, listed.getD k false = false) →
      seqR md ops rs r listed = true → wpList P ops (restNext P ops Q (pickIn ops rs)) (pickIn ops r) a w → wpAny P md ops Q (r.length + rs.length) listed a w
  | [], listed, a, w, hsz, _, _, hcov, hrs, hs, h => by
    simp only [seqR] at hs
    simp only [List.length_nil, Nat.zero_add]
    have hq := wpQT_lex (P := P) (md := md) (C := fun w' => ∃ g : In (fun W : World => W = w), w' = g.w) hsel rs listed a hs (h (fun W => W = w) (fun _ => Iff.rfl) ⟨⟨w, rfl⟩⟩)
    exact wpQT_rest (C := fun w' => ∃ g : In (fun W : World => W = w), w' = g.w) hnd (fun a' w' ⟨g, hg⟩ hq' => by rw [hg, g.h]; exact hq') rs.length listed a w ⟨⟨w, rfl⟩, rfl⟩ hsz (fun i hi => (hcov i hi).imp (fun h => h) (fun h => h.elim (fun h => by cases h) (fun h => h))) (by rw [prog_zero hrs]; omega) hq
  | k :: r, listed, a, w, hsz, hk, hndr, hcov, hrs, hs, h => by
    simp only [seqR, Bool.and_eq_true, decide_eq_true_eq] at hs
    obtain ⟨hk1, hk3, hk4⟩ := hk k (by simp)
    have hnd' := List.nodup_cons.1 hndr
    have hko : ops[k]? = some ops[k] := Array.getElem?_eq_getElem hk1
    simp only [pickIn, hko] at h
    have hks : k < listed.size := by omega
    rw [show (k :: r).length + rs.length = (r.length + rs.length) + 1 by simp; omega]
    refine ⟨fun h1 => (by rw [hs.1] at h1; cases h1), fun i hi => ?_⟩
    rw [hs.1] at hi
    obtain rfl : i = k := by simpa using hi
    have hw : wpOp P ops (restNext P ops Q (pickIn ops rs)) i (wpList P ops (restNext P ops Q (pickIn ops rs)) (pickIn ops r)) a w := by unfold wpOp; simp only [hko]; exact h
    exact wpOp_mono (fun a' w' h' =>
      seq_rest hsel hnd r _ a' w' (by simpa using hsz) (fun k' hk' => by
        obtain ⟨h1, h2, h3⟩ := hk k' (by simp [hk'])
        have hne : i ≠ k' := fun e => hnd'.1 (e ▸ hk')
        exact ⟨h1, by rw [getD_set_ne true hne]; exact h2, h3⟩) hnd'.2 (fun j hj => by
        by_cases hij : i = j
        · subst hij; exact .inl (by simp [hks])
        · rw [getD_set_ne false hij]
          rcases hcov j hj with h1 | h1 | h1
          · exact .inl h1
          · rcases List.mem_cons.1 h1 with h1 | h1
            · exact absurd h1.symm hij
            · exact .inr (.inl h1)
          · exact .inr (.inr h1)) (fun k' hk' => by
        have hne : i ≠ k' := fun e => hk4 (e ▸ hk')
        rw [getD_set_ne false hne]; exact hrs k' hk') hs.2 h') (wpOp_restNext hw)
def planRB (md : Region.Mode) (ops : Array Oper) (hd tl rs : List Nat) : Bool :=
  Region.noSelect ops && decide hd.Nodup && decide tl.Nodup && decide rs.Nodup && (tl ++ rs).all (fun k => decide (k < ops.size)) && hd.all (fun k => decide (k < ops.size)) && (tl ++ rs).all (fun t => !(hd.contains t)) && tl.all (fun t => !(rs.contains t)) && (List.range ops.size).all (fun i => hd.contains i || (tl ++ rs).contains i)
    && (tl ++ rs).all (fun t => let T := tab md ops t; hd.all fun h => T.getD h false) && headQ md ops (tl ++ rs) hd (Array.replicate ops.size false) && seqR md ops rs tl (fullL ops.size hd)
theorem wp_planR {Q : Exit → Act → World → Prop} {id : Nat} {a : Act} {w : World} {l hdl tll rsl : List Oper} (T : World → Prop) (hd tl rs : List Nat) (hm : P.follows .mixedOrders = true) (hB : planRB .any l.toArray hd tl rs = true)
    (h1 : pickIn l.toArray hd = hdl) (h2 : pickIn l.toArray tl = tll) (h3 : pickIn l.toArray rs = rsl) (hT : T w.drew)
    (h : ∀ S : World → Prop, Hid (∀ W, S W ↔ T W) → Nonempty (In S) → wpQuiet P l.toArray (fun w' => ∃ g : In S, w' = g.w) (fun a' => ∀ W, (∃ g : In S, W = g.w) → wpList P l.toArray (restNext P l.toArray Q rsl) tll a' W) hdl a) : (Code.region id l.toArray true).wp P Q a w := by
  simp only [planRB, Bool.and_eq_true, decide_eq_true_eq, List.all_eq_true, Bool.not_eq_true', List.contains_eq_mem, decide_eq_false_iff_not, Bool.or_eq_true, List.mem_range] at hB
  obtain ⟨⟨⟨⟨⟨⟨⟨⟨⟨⟨⟨hsel, hnd⟩, hndt⟩, hndr⟩, hin⟩, hinh⟩, hap⟩, hapr⟩, hcov⟩, hlate⟩, hh⟩, hseq⟩ := hB
  subst h1
  subst h2
  subst h3
  refine wp_region_any hm ?_
  have hstart : Closed .any l.toArray (Array.replicate l.toArray.size false) := fun j oj _ hl => by rw [getD_replicate_false] at hl; cases hl
  have hndtr : (tl ++ rs).Nodup := List.nodup_append.2 ⟨hndt, hndr, fun x hx y hy e => hapr x hx (e ▸ hy)⟩
  have hlen : hd.length + (tl ++ rs).length = l.toArray.size := by
    have h3 : (hd ++ (tl ++ rs)).Perm (List.range l.toArray.size) := by
      refine (List.perm_ext_iff_of_nodup (List.nodup_append.2 ⟨hnd, hndtr, fun x hx y hy e => hap y hy (e ▸ hx)⟩) List.nodup_range).2 fun x => ?_
      rw [List.mem_append, List.mem_range]
      exact ⟨fun h' => h'.elim (hinh x) (hin x), hcov x⟩
    have := h3.length_eq
    rw [List.length_append, List.length_range] at this
    exact this
  have hq := wpQT_lex (P := P) (md := .any) (C := fun w' => ∃ g : In T, w' = g.w) hsel hd _ a hh (h T (fun _ => Iff.rfl) ⟨⟨_, hT⟩⟩)
  have := wpQT_sound (P := P) (Q' := Q) (C := fun w' => ∃ g : In T, w' = g.w) (m := (tl ++ rs).length) hnd hap hcov hlate (fun a' w' L hC hQ hcl hsz hhd htl => by
    have hL : L = fullL l.toArray.size hd := by
      apply Array.ext
      · simp [fullL, hsz]
      · intro i hi1 hi2
        simp only [fullL, Array.getElem_map, Array.getElem_range]
        by_cases hx : i ∈ hd
        · have := hhd i hx
          simp [hi1] at this
          rw [this]; simp [hx]
        · have hx' : i ∈ tl ++ rs := (hcov i (by omega)).resolve_left hx
          have := htl i hx'
          simp [hi1] at this
          rw [this]; simp [hx]
    rw [List.length_append]
    refine seq_rest hsel hndr tl L a' w' hsz (fun k hk => ⟨hin k (by simp [hk]), htl k (by simp [hk]), hapr k hk⟩) hndt (fun i hi => ?_) (fun k hk => getD_both (htl k (by simp [hk]))) (hL ▸ hseq) (hQ w' hC)
    rcases hcov i (by omega) with h' | h'
    · exact .inl (hhd i h')
    · exact .inr (List.mem_append.1 h'))
    hd.length _ a w.drew ⟨⟨_, hT⟩, rfl⟩ hstart (by simp) (by rw [prog_none]; omega) (fun t ht => by have h0 := hin t ht; simp only [List.size_toArray] at h0; simp [h0]) hq
  rw [hlen] at this
  exact this
end
end Go.Proofs.YtgcpoppinnnciaaGreatDoor.Plan
/- A plan as in Plan (what reads may come up behind the first kap operations of the tail), and behind the tail what only reads, in whatever order. -/
set_option linter.unusedVariables false
set_option linter.unusedSimpArgs false
namespace Go.Proofs.YtgcpoppinnnciaaGreatDoor.Plan
open Go Go.RowKit
section
variable {P : Program} {ops : Array Oper} {md : Region.Mode} {C : World → Prop}
theorem late_any {tl : List Nat} {kap : Nat} {Q : Exit → Act → World → Prop} : ∀ (fuel : Nat) (listed : Array Bool) (a : Act) (w : World), kap < prog tl listed → wpAny P md ops Q fuel listed a w → wpAnyK P md ops Q C tl kap fuel listed a w
  | 0, _, _, _, _, h => h
  | fuel + 1, listed, _, _, hk, h => ⟨h.1, fun i hi => wpOp_mono (fun a' w' h' => by
      have : prog tl listed ≤ prog tl (listed.setIfInBounds i true) := prog_le_set
      exact ⟨fun hle => by omega, late_any fuel _ a' w' (by omega) h'⟩) (h.2 i hi)⟩
theorem tail_soundR {tl rs : List Nat} {Q : Exit → Act → World → Prop} (hsel : Region.noSelect ops = true) (hndt : tl.Nodup) (hndr : rs.Nodup) (hap : ∀ k ∈ tl, k ∉ rs) :
    ∀ (r : List Nat) (kap d : Nat) (listed : Array Bool) (a : Act) (w : World), listed.size = ops.size → (∀ k ∈ r, k < ops.size ∧ k ∈ tl ∧ listed.getD k true = false) → r.Nodup → (prog tl listed + d = kap ∨ (kap ≤ prog tl listed ∧ d = 0)) → prog tl listed + r.length = tl.length → kap < tl.length →
      (∀ i, i < ops.size → listed.getD i false = true ∨ i ∈ r ∨ i ∈ rs) → (∀ k ∈ rs, listed.getD k false = false) → seqR md ops rs r listed = true →
      wpTail P ops (restNext P ops Q (pickIn ops rs)) C d (pickIn ops r) a w → wpAnyK P md ops Q C tl kap (r.length + rs.length) listed a w
  | [], kap, d, listed, a, w, hsz, _, _, hp, hpl, hkl, hcov, hrs, hs, h => by
    simp only [seqR] at hs
    simp only [List.length_nil, Nat.zero_add, Nat.add_zero] at hpl ⊢
    have h' : restNext P ops Q (pickIn ops rs) .normal a w := by cases d <;> exact h
    have hq := wpQT_lex (P := P) (md := md) (C := fun w' => ∃ g : In (fun W : World => W = w), w' = g.w) hsel rs listed a hs (h' (fun W => W = w) (fun _ => Iff.rfl) ⟨⟨w, rfl⟩⟩)
    refine late_any _ _ _ _ (by omega) ?_
    exact wpQT_rest (C := fun w' => ∃ g : In (fun W : World => W = w), w' = g.w) hndr (fun a' w' ⟨g, hg⟩ hq' => by rw [hg, g.h]; exact hq') rs.length listed a w ⟨⟨w, rfl⟩, rfl⟩ hsz (fun i hi => (hcov i hi).imp (fun h => h) (fun h => h.elim (fun h => by cases h) (fun h => h))) (by rw [prog_zero hrs]; omega) hq
  | k :: r, kap, d, listed, a, w, hsz, hk, hnd, hp, hpl, hkl, hcov, hrs, hs, h => by
    simp only [seqR, Bool.and_eq_true, decide_eq_true_eq] at hs
    obtain ⟨hk1, hk2, hk3⟩ := hk k (by simp)
    have hnd' := List.nodup_cons.1 hnd
    have hko : ops[k]? = some ops[k] := Array.getElem?_eq_getElem hk1
    simp only [pickIn, hko] at h
    have hks : k < listed.size := by omega
    have hrest : ∀ k' ∈ r, k' < ops.size ∧ k' ∈ tl ∧ (listed.setIfInBounds k true).getD k' true = false := fun k' hk' => by
      obtain ⟨h1, h2, h3⟩ := hk k' (by simp [hk'])
      have hne : k ≠ k' := fun e => hnd'.1 (e ▸ hk')
      exact ⟨h1, h2, by rw [getD_set_ne true hne]; exact h3⟩
    have hnew : (listed.setIfInBounds k true).getD k false = true := by simp [hks]
    have heq := prog_eq_set (getD_both hk3) hnew hndt hk2
    have hcov' : ∀ i, i < ops.size → (listed.setIfInBounds k true).getD i false = true ∨ i ∈ r ∨ i ∈ rs := fun j hj => by
      by_cases hij : k = j
      · subst hij; exact .inl hnew
      · rw [getD_set_ne false hij]
        rcases hcov j hj with h1 | h1 | h1
        · exact .inl h1
        · rcases List.mem_cons.1 h1 with h1 | h1
          · exact absurd h1.symm hij
          · exact .inr (.inl h1)
        · exact .inr (.inr h1)
    have hrs' : ∀ k' ∈ rs, (listed.setIfInBounds k true).getD k' false = false := fun k' hk' => by
      have hne : k ≠ k' := fun e => hap k hk2 (e ▸ hk')
      rw [getD_set_ne false hne]; exact hrs k' hk'
    rw [show (k :: r).length + rs.length = (r.length + rs.length) + 1 by simp; omega]
    refine ⟨fun h1 => (by rw [hs.1] at h1; cases h1), fun i hi => ?_⟩
    rw [hs.1] at hi
    obtain rfl : i = k := by simpa using hi
    rw [List.length_cons] at hpl
    cases d with
    | zero =>
      have hw : wpOp P ops (restNext P ops Q (pickIn ops rs)) i (wpList P ops (restNext P ops Q (pickIn ops rs)) (pickIn ops r)) a w := by unfold wpOp; simp only [hko]; exact h
      exact wpOp_mono (K' := fun a' w' => (prog tl (listed.setIfInBounds i true) ≤ kap → C w') ∧ wpAnyK P md ops Q C tl kap (r.length + rs.length) (listed.setIfInBounds i true) a' w') (fun a' w' h' =>
        ⟨fun hle => (by omega), tail_soundR hsel hndt hndr hap r kap 0 _ a' w' (by simpa using hsz) hrest hnd'.2 (.inr ⟨by omega, rfl⟩) (by omega) hkl hcov' hrs' hs.2 (tail_all h')⟩) (wpOp_restNext hw)
    | succ d =>
      have hw : wpOp P ops (restNext P ops Q (pickIn ops rs)) i (fun a' w' => C w' ∧ wpTail P ops (restNext P ops Q (pickIn ops rs)) C d (pickIn ops r) a' w') a w := by unfold wpOp; simp only [hko]; exact h
      exact wpOp_mono (K' := fun a' w' => (prog tl (listed.setIfInBounds i true) ≤ kap → C w') ∧ wpAnyK P md ops Q C tl kap (r.length + rs.length) (listed.setIfInBounds i true) a' w') (fun a' w' h' =>
        ⟨fun _ => h'.1, tail_soundR hsel hndt hndr hap r kap d _ a' w' (by simpa using hsz) hrest hnd'.2 (.inl (by omega)) (by omega) hkl hcov' hrs' hs.2 h'.2⟩) (wpOp_restNext hw)
def headBR (md : Region.Mode) (ops : Array Oper) (tl rs : List Nat) (kap : Nat) : List Nat → Array Bool → Bool
  | [], listed => seqR md ops rs tl listed
  | i :: r, listed => !(tl.contains i) && !(rs.contains i) && ((ops[i]?).map plainOp).getD false && (Region.ready md ops listed).contains i && Region.free md ops listed i && late md ops tl kap i && headBR md ops tl rs kap r (listed.setIfInBounds i true)
theorem head_soundR {tl rs : List Nat} {kap : Nat} {w : World} {Q : Exit → Act → World → Prop} (hsel : Region.noSelect ops = true) (hC : C w) (hc : chain md ops tl = true) (hndt : tl.Nodup) (hndr : rs.Nodup) (hap : ∀ k ∈ tl, k ∉ rs) (hin : ∀ k ∈ tl, k < ops.size) (hkl : kap < tl.length)
    (hQ : ∀ c a d v w, Q (.panic c) (a.put d v) w → Q (.panic c) a w) : ∀ (hd : List Nat) (listed : Array Bool) (a : Act), listed.size = ops.size → Closed md ops listed → (∀ k ∈ tl, listed.getD k true = false) → (∀ k ∈ rs, listed.getD k false = false) → prog tl listed = 0 →
    (∀ i, i < ops.size → listed.getD i false = true ∨ i ∈ hd ∨ i ∈ tl ∨ i ∈ rs) →
    headBR md ops tl rs kap hd listed = true → wpQuiet P ops C (fun a' => wpTail P ops (restNext P ops Q (pickIn ops rs)) C kap (pickIn ops tl) a' w) (pickIn ops hd) a → wpAnyK P md ops Q C tl kap (hd.length + (tl.length + rs.length)) listed a w
  | [], listed, a, hsz, _, hun, hrs, hp, hcov, hB, h => by
    simp only [List.length_nil, Nat.zero_add]
    exact tail_soundR hsel hndt hndr hap tl kap kap listed a w hsz (fun k hk => ⟨hin k hk, hk, hun k hk⟩) hndt (.inl (by omega)) (by omega) hkl (fun i hi => (hcov i hi).imp (fun h => h) (fun h => h.elim (fun h => by cases h) (fun h => h))) hrs hB h
  | i :: r, listed, a, hsz, hcl, hun, hrs, hp, hcov, hB, h => by
    simp only [headBR, Bool.and_eq_true, Bool.not_eq_true', List.contains_eq_mem, decide_eq_false_iff_not, decide_eq_true_eq] at hB
    obtain ⟨⟨⟨⟨⟨⟨hit, hirs⟩, hpl⟩, hr⟩, hf⟩, hl⟩, hB'⟩ := hB
    obtain ⟨oi, hoi, hpo⟩ : ∃ oi, ops[i]? = some oi ∧ plainOp oi = true := by
      cases ho : ops[i]? with
      | none => rw [ho] at hpl; cases hpl
      | some oi => rw [ho] at hpl; exact ⟨oi, rfl, hpl⟩
    simp only [pickIn, hoi] at h
    have hst : qOp P ops C i (wpQuiet P ops C (fun a' => wpTail P ops (restNext P ops Q (pickIn ops rs)) C kap (pickIn ops tl) a' w) (pickIn ops r)) a := by unfold qOp; simp only [hoi]; exact h
    obtain ⟨v, hy, hK⟩ := yieldsIn_of_qOp hoi hst
    have hy' : YieldsIf P ops C oi v a := by
      rcases hy with ⟨hw, hv⟩ | hy
      · exact plain_yields hpo hw hv
      · exact .inr hy
    have hrm : i ∈ Region.ready md ops listed := by simpa using hr
    have his : i < listed.size := by
      have := (mem_ready.1 hrm).1
      rcases Nat.lt_or_ge i listed.size with h' | h'
      · exact h'
      · simp [Array.getElem?_eq_none h'] at this
    rw [show (i :: r).length + (tl.length + rs.length) = (r.length + (tl.length + rs.length)) + 1 by simp; omega]
    refine first hoi (Region.noSelect_spec hsel) (fun c a w h => hQ c a _ _ w h) hit (fun L hL hLi => late_spec hc hl L hL hLi) _ listed a w hcl (Region.free_spec hoi hf) hrm hy' hC ?_
    refine head_soundR hsel hC hc hndt hndr hap hin hkl hQ r _ _ (by simpa using hsz) (hcl.set hrm) (fun k hk => ?_) (fun k hk => ?_) (by rw [prog_set hit]; exact hp) (fun j hj => ?_) hB' hK
    · have hne : i ≠ k := fun e => hit (e ▸ hk)
      rw [getD_set_ne true hne]
      exact hun k hk
    · have hne : i ≠ k := fun e => hirs (e ▸ hk)
      rw [getD_set_ne false hne]
      exact hrs k hk
    · by_cases hij : i = j
      · subst hij; exact .inl (by simp [his])
      · rw [getD_set_ne false hij]
        rcases hcov j hj with h1 | h1 | h1
        · exact .inl h1
        · rcases List.mem_cons.1 h1 with h1 | h1
          · exact absurd h1.symm hij
          · exact .inr (.inl h1)
        · exact .inr (.inr h1)
def planSB (md : Region.Mode) (ops : Array Oper) (hd tl rs : List Nat) (kap : Nat) : Bool :=
  Region.noSelect ops && chain md ops tl && decide tl.Nodup && decide rs.Nodup && tl.all (fun k => !(rs.contains k)) && tl.all (fun k => decide (k < ops.size)) && decide (kap < tl.length) && decide (hd.length + (tl.length + rs.length) = ops.size) && (List.range ops.size).all (fun i => hd.contains i || tl.contains i || rs.contains i) && headBR md ops tl rs kap hd (Array.replicate ops.size false)
theorem wp_planS2 {Q : Exit → Act → World → Prop} {id : Nat} {a : Act} {w : World} {l hdl tll rsl : List Oper} (T : World → Prop) (hd tl rs : List Nat) (kap : Nat) (hm : P.follows .mixedOrders = true) (hB : planSB .any l.toArray hd tl rs kap = true)
    (h1 : pickIn l.toArray hd = hdl) (h2 : pickIn l.toArray tl = tll) (h3 : pickIn l.toArray rs = rsl)
    (hQ : ∀ c a d v w, Q (.panic c) (a.put d v) w → Q (.panic c) a w) (hT : T w.drew)
    (h : ∀ S : World → Prop, Hid (∀ W, S W ↔ T W) → Nonempty (In S) → wpQuiet P l.toArray (fun w' => ∃ g : In S, w' = g.w) (fun a' => wpTail P l.toArray (restNext P l.toArray Q rsl) (fun w' => ∃ g : In S, w' = g.w) kap tll a' w.drew) hdl a) : (Code.region id l.toArray true).wp P Q a w := by
  simp only [planSB, Bool.and_eq_true, decide_eq_true_eq, List.all_eq_true, Bool.not_eq_true', List.contains_eq_mem, decide_eq_false_iff_not, Bool.or_eq_true, List.mem_range] at hB
  obtain ⟨⟨⟨⟨⟨⟨⟨⟨⟨hsel, hc⟩, hndt⟩, hndr⟩, hap⟩, hin⟩, hkl⟩, hlen⟩, hcov⟩, hh⟩ := hB
  subst h1
  subst h2
  subst h3
  refine wp_region_any hm (wpAny_of_K (C := fun w' => ∃ g : In T, w' = g.w) (tl := tl) (kap := kap) _ _ _ _ ?_)
  have := head_soundR (md := .any) (ops := l.toArray) (P := P) (Q := Q) (C := fun w' => ∃ g : In T, w' = g.w) (w := w.drew) hsel ⟨⟨_, hT⟩, rfl⟩ hc hndt hndr hap hin hkl hQ hd (Array.replicate l.toArray.size false) a (by simp)
    (fun j oj _ hl => by rw [getD_replicate_false] at hl; cases hl) (fun k hk => by have h0 := hin k hk; simp only [List.size_toArray] at h0; simp [h0]) (fun k hk => by rw [getD_replicate_false]) (by rw [prog_none]) (fun i hi => .inr (by rcases hcov i hi with (h' | h') | h'; exact .inl h'; exact .inr (.inl h'); exact .inr (.inr h'))) hh (h T (fun _ => Iff.rfl) ⟨⟨_, hT⟩⟩)
  rw [hlen] at this
  exact this
end
end Go.Proofs.YtgcpoppinnnciaaGreatDoor.Plan
/- octets: a number in so many bytes. -/
set_option linter.unusedVariables false
set_option linter.unusedSimpArgs false
namespace Go.Proofs.YtgcpoppinnnciaaGreatDoor
open Go Go.RowKit Go.Proofs.YtgcpoppinnnciaaGreatDoor.Pal

/-- A number's bytes, the greatest first. -/
def numB (size n : Nat) : List UInt8 := (List.range size).map fun j => UInt8.ofNat (n / 256 ^ (size - 1 - j) % 256)
theorem numB_len (size n : Nat) : (numB size n).length = size := by simp [numB]
/-- The row under way: the last k bytes are there. -/
def numC (size n k : Nat) : List Value := (List.range size).map fun j => if size - 1 - j < k then .int .u8 ((n / 256 ^ (size - 1 - j) % 256 : Nat) : Int) else .int .u8 0
theorem numC_len (size n k : Nat) : (numC size n k).length = size := by simp [numC]
theorem numC_zero (size n : Nat) : numC size n 0 = List.replicate size (.int .u8 0) := by
  unfold numC
  simp [List.map_const']
theorem numC_step {size n k : Nat} (hk : k < size) : (numC size n k).set (size - 1 - k) (.int .u8 ((n / 256 ^ k % 256 : Nat) : Int)) = numC size n (k + 1) := by
  apply List.ext_getElem?
  intro j
  rw [List.getElem?_set, numC_len]
  unfold numC
  rw [List.getElem?_map, List.getElem?_map]
  by_cases hj : j < size
  · rw [List.getElem?_range hj]
    by_cases he : size - 1 - k = j
    · have : size - 1 - j = k := by omega
      simp [he, hj, this]
    · rw [if_neg he]
      simp only [Option.map_some]
      by_cases h1 : size - 1 - j < k
      · rw [if_pos h1, if_pos (by omega)]
      · rw [if_neg h1, if_neg (by omega)]
  · rw [List.getElem?_eq_none (by simp; omega)]
    simp
    omega
theorem numC_full (size n : Nat) : numC size n size = (numB size n).map fun b => .int .u8 (b.toNat : Int) := by
  unfold numC numB
  rw [List.map_map]
  apply List.map_congr_left
  intro j hj
  have hj : j < size := by simpa using hj
  rw [if_pos (by omega)]
  simp only [Function.comp]
  congr 1
  rw [UInt8.toNat_ofNat']
  omega
theorem info_u8 : (Tryz.prog.info? 5).map (fun i => (i.zero, i.size, i.bytes)) = some (some (.int .u8 0), 1, 1) := by kernel_rfl
theorem run_make_u8 (n : Nat) (hn : n ≤ 1048576) (W : World) : (Instr.makeSlice 39 (.int .i64 (n : Int)) (.int .i64 (n : Int))).run Tryz.prog W = .ok (.slice (some ⟨W.heap.size, 0, none⟩) n n) (W.alloc (.cells (madeCells #[.int .u8 0] n) 5)) :=
  run_make_row' (P := Tryz.prog) 39 5 (.int .u8 0) 1 Tryz.underlying39 info_u8 rfl .i64 .i64 n (by omega) (by omega) W
theorem row_bytes {w : World} {g size : Nat} {l : List UInt8} (h : Row w 5 1 (.slice (some ⟨g, 0, none⟩) size size) size (l.map fun b => .int .u8 (b.toNat : Int))) (hl : l.length = size) : (convert 39 9 (.slice (some ⟨g, 0, none⟩) size size)).run Tryz.prog w = .ok (.string ⟨l.toArray⟩) w := by
  have := run_convert_bytes_back (P := Tryz.prog) w 39 9 5 ⟨g, 0, none⟩ size l Tryz.underlying39 Tryz.underlying5 Tryz.underlying9 (fun j hj => ?_)
  · rw [hl] at this; exact this
  · have hx := h.at rfl (j := j) (u := .int .u8 ((l[j]).toNat : Int)) (by rw [List.getElem?_map, List.getElem?_eq_getElem hj]; rfl)
    rw [Addr.add_lit]
    exact hx
end Go.Proofs.YtgcpoppinnnciaaGreatDoor
/- octets: laid, Byte, Short, Long: the walks. -/
set_option linter.unusedVariables false
set_option linter.unusedSimpArgs false
namespace Go.Proofs.YtgcpoppinnnciaaGreatDoor
open Go Go.RowKit Go.Proofs.YtgcpoppinnnciaaGreatDoor.Pal

theorem numC_at {S n k j : Nat} (hj : j < S) (hk : ¬ S - 1 - j < k) : (numC S n k)[j]? = some (.int .u8 0) := by
  unfold numC
  rw [List.getElem?_map, List.getElem?_range hj]
  simp [hk]
set_option maxRecDepth 100000 in
set_option maxHeartbeats 4000000 in
theorem laid1_ok (n : Nat) (hn : n < 256) (w : World) : Calls Tryz.prog 107 #[.int .i64 (n : Int), .int .i64 1] w fun e w' => e = .returned (.tuple #[.string ⟨(numB 1 n).toArray⟩, .bool true]) ∧ Unch none_ w w' := by
  have hmk : ∀ W, (Instr.makeSlice 39 (.int .i64 1) (.int .i64 1)).run Tryz.prog W = .ok (.slice (some ⟨W.heap.size, 0, none⟩) 1 1) (W.alloc (.cells (madeCells #[.int .u8 0] 1) 5)) := fun W => run_make_u8 1 (by decide) W
  have h0 : (0 : Int) ≤ (n : Int) := by omega
  have h1 : ¬ (n : Int) < 0 := by omega
  have h2 : (n : Int) / 256 = 0 := by omega
  have hu1 : Unch none_ w (w.alloc (.cells (madeCells #[.int .u8 0] 1) 5)) := (Unch.refl none_ w).alloc _
  have hrow : Row (w.alloc (.cells (madeCells #[.int .u8 0] 1) 5)) 5 1 (.slice (some ⟨w.heap.size, 0, none⟩) 1 1) 1 (numC 1 n 0) := by rw [numC_zero]; exact Row.made w 5 1 (.int .u8 0) (by decide)
  have HU1 := Lib.hid hu1
  have HROW := Lib.hid hrow
  clear hu1 hrow
  go_enter Tryz.func107, Tryz.ntmps107
  go_wp2
  clear hmk
  generalize hg : w.heap.size = g at *
  generalize w.alloc (.cells (madeCells #[.int .u8 0] 1) 5) = w1 at *
  go_loopg [7, 21] 1 (fun gk _ i wr => ∃ k : Nat, gk = 1 - k ∧ k ≤ 1 ∧ i = .int .i64 (k : Int) ∧ Row wr 5 1 (.slice (some ⟨g, 0, none⟩) 1 1) 1 (numC 1 n k) ∧ Unch none_ w wr)
  case atStart => exact ⟨0, rfl, by omega, rfl, HROW.out, HU1.out⟩
  case round =>
    obtain ⟨k, rfl, hk, rfl, hr, hu⟩ := hrel
    obtain ⟨w2, rfl⟩ : ∃ w2, w2 = wr := ⟨_, rfl⟩
    rcases (show k = 0 ∨ k = 1 by omega) with rfl | rfl
    · have q := hr.free rfl 0
      have hx := hr.at rfl (j := 0) (numC_at (by decide) (by decide))
      rw [Nat.zero_add] at hx
      have HR := Lib.hid hr
      have HU := Lib.hid hu
      have hz : (0 : Int) ≤ (n : Int) / 1 := by omega
      clear hr hu
      go_wp2
      go_roundg (1 - (0 + 1))
      case measure => omega
      case rel =>
        have hst := HR.out.store rfl 0 (by decide) (.int .u8 ((n / 256 ^ 0 % 256 : Nat) : Int))
        have := numC_step (size := 1) (n := n) (k := 0) (by decide)
        rw [show 1 - 1 - 0 = 0 from rfl] at this
        rw [this, show ((n / 256 ^ 0 % 256 : Nat) : Int) = ((n / 1 : Nat) : Int) by have : n / 256 ^ 0 = n / 1 := rfl; omega] at hst
        exact ⟨0 + 1, rfl, by omega, rfl, by simpa using hst, HU.out.setCell _ (fun h => by simp at h; omega)⟩
    · rw [numC_full] at hr
      have hcv := row_bytes hr (numB_len _ _)
      have HU := Lib.hid hu
      clear hr hu
      go_wp2
      refine bodyPost_ret (results_tmp2 rfl _ _ _) rfl ?_
      exact ⟨rfl, HU.out⟩
set_option maxRecDepth 100000 in
set_option maxHeartbeats 4000000 in
theorem laid2_ok (n : Nat) (hn : n < 65536) (w : World) : Calls Tryz.prog 107 #[.int .i64 (n : Int), .int .i64 2] w fun e w' => e = .returned (.tuple #[.string ⟨(numB 2 n).toArray⟩, .bool true]) ∧ Unch none_ w w' := by
  have hmk : ∀ W, (Instr.makeSlice 39 (.int .i64 2) (.int .i64 2)).run Tryz.prog W = .ok (.slice (some ⟨W.heap.size, 0, none⟩) 2 2) (W.alloc (.cells (madeCells #[.int .u8 0] 2) 5)) := fun W => run_make_u8 2 (by decide) W
  have h0 : (0 : Int) ≤ (n : Int) := by omega
  have h1 : ¬ (n : Int) < 0 := by omega
  have h2 : (n : Int) / 65536 = 0 := by omega
  have hu1 : Unch none_ w (w.alloc (.cells (madeCells #[.int .u8 0] 2) 5)) := (Unch.refl none_ w).alloc _
  have hrow : Row (w.alloc (.cells (madeCells #[.int .u8 0] 2) 5)) 5 1 (.slice (some ⟨w.heap.size, 0, none⟩) 2 2) 2 (numC 2 n 0) := by rw [numC_zero]; exact Row.made w 5 2 (.int .u8 0) (by decide)
  have HU1 := Lib.hid hu1
  have HROW := Lib.hid hrow
  clear hu1 hrow
  go_enter Tryz.func107, Tryz.ntmps107
  go_wp2
  clear hmk
  generalize hg : w.heap.size = g at *
  generalize w.alloc (.cells (madeCells #[.int .u8 0] 2) 5) = w1 at *
  go_loopg [7, 21] 2 (fun gk _ i wr => ∃ k : Nat, gk = 2 - k ∧ k ≤ 2 ∧ i = .int .i64 (k : Int) ∧ Row wr 5 1 (.slice (some ⟨g, 0, none⟩) 2 2) 2 (numC 2 n k) ∧ Unch none_ w wr)
  case atStart => exact ⟨0, rfl, by omega, rfl, HROW.out, HU1.out⟩
  case round =>
    obtain ⟨k, rfl, hk, rfl, hr, hu⟩ := hrel
    obtain ⟨w2, rfl⟩ : ∃ w2, w2 = wr := ⟨_, rfl⟩
    rcases (show k = 0 ∨ k = 1 ∨ k = 2 by omega) with rfl | rfl | rfl
    · have q := hr.free rfl 1
      have hx := hr.at rfl (j := 1) (numC_at (by decide) (by decide))
      rw [Nat.zero_add] at hx
      have HR := Lib.hid hr
      have HU := Lib.hid hu
      have hz : (0 : Int) ≤ (n : Int) / 1 := by omega
      clear hr hu
      go_wp2
      go_roundg (2 - (0 + 1))
      case measure => omega
      case rel =>
        have hst := HR.out.store rfl 1 (by decide) (.int .u8 ((n / 256 ^ 0 % 256 : Nat) : Int))
        have := numC_step (size := 2) (n := n) (k := 0) (by decide)
        rw [show 2 - 1 - 0 = 1 from rfl] at this
        rw [this] at hst
        exact ⟨0 + 1, rfl, by omega, rfl, by simpa using hst, HU.out.setCell _ (fun h => by simp at h; omega)⟩
    · have q := hr.free rfl 0
      have hx := hr.at rfl (j := 0) (numC_at (by decide) (by decide))
      rw [Nat.zero_add] at hx
      have HR := Lib.hid hr
      have HU := Lib.hid hu
      have hz : (0 : Int) ≤ (n : Int) / 256 := by omega
      clear hr hu
      go_wp2
      go_roundg (2 - (1 + 1))
      case measure => omega
      case rel =>
        have hst := HR.out.store rfl 0 (by decide) (.int .u8 ((n / 256 ^ 1 % 256 : Nat) : Int))
        have := numC_step (size := 2) (n := n) (k := 1) (by decide)
        rw [show 2 - 1 - 1 = 0 from rfl] at this
        rw [this, show ((n / 256 ^ 1 % 256 : Nat) : Int) = ((n / 256 : Nat) : Int) by have : n / 256 ^ 1 = n / 256 := rfl; omega] at hst
        exact ⟨1 + 1, rfl, by omega, rfl, by simpa using hst, HU.out.setCell _ (fun h => by simp at h; omega)⟩
    · rw [numC_full] at hr
      have hcv := row_bytes hr (numB_len _ _)
      have HU := Lib.hid hu
      clear hr hu
      go_wp2
      refine bodyPost_ret (results_tmp2 rfl _ _ _) rfl ?_
      exact ⟨rfl, HU.out⟩
set_option maxRecDepth 100000 in
set_option maxHeartbeats 4000000 in
theorem laid4_ok (n : Nat) (hn : n < 4294967296) (w : World) : Calls Tryz.prog 107 #[.int .i64 (n : Int), .int .i64 4] w fun e w' => e = .returned (.tuple #[.string ⟨(numB 4 n).toArray⟩, .bool true]) ∧ Unch none_ w w' := by
  have hmk : ∀ W, (Instr.makeSlice 39 (.int .i64 4) (.int .i64 4)).run Tryz.prog W = .ok (.slice (some ⟨W.heap.size, 0, none⟩) 4 4) (W.alloc (.cells (madeCells #[.int .u8 0] 4) 5)) := fun W => run_make_u8 4 (by decide) W
  have h0 : (0 : Int) ≤ (n : Int) := by omega
  have h1 : ¬ (n : Int) < 0 := by omega
  have h2 : (n : Int) / 4294967296 = 0 := by omega
  have hu1 : Unch none_ w (w.alloc (.cells (madeCells #[.int .u8 0] 4) 5)) := (Unch.refl none_ w).alloc _
  have hrow : Row (w.alloc (.cells (madeCells #[.int .u8 0] 4) 5)) 5 1 (.slice (some ⟨w.heap.size, 0, none⟩) 4 4) 4 (numC 4 n 0) := by rw [numC_zero]; exact Row.made w 5 4 (.int .u8 0) (by decide)
  have HU1 := Lib.hid hu1
  have HROW := Lib.hid hrow
  clear hu1 hrow
  go_enter Tryz.func107, Tryz.ntmps107
  go_wp2
  clear hmk
  generalize hg : w.heap.size = g at *
  generalize w.alloc (.cells (madeCells #[.int .u8 0] 4) 5) = w1 at *
  go_loopg [7, 21] 4 (fun gk _ i wr => ∃ k : Nat, gk = 4 - k ∧ k ≤ 4 ∧ i = .int .i64 (k : Int) ∧ Row wr 5 1 (.slice (some ⟨g, 0, none⟩) 4 4) 4 (numC 4 n k) ∧ Unch none_ w wr)
  case atStart => exact ⟨0, rfl, by omega, rfl, HROW.out, HU1.out⟩
  case round =>
    obtain ⟨k, rfl, hk, rfl, hr, hu⟩ := hrel
    obtain ⟨w2, rfl⟩ : ∃ w2, w2 = wr := ⟨_, rfl⟩
    rcases (show k = 0 ∨ k = 1 ∨ k = 2 ∨ k = 3 ∨ k = 4 by omega) with rfl | rfl | rfl | rfl | rfl
    · have q := hr.free rfl 3
      have hx := hr.at rfl (j := 3) (numC_at (by decide) (by decide))
      rw [Nat.zero_add] at hx
      have HR := Lib.hid hr
      have HU := Lib.hid hu
      have hz : (0 : Int) ≤ (n : Int) / 1 := by omega
      clear hr hu
      go_wp2
      go_roundg (4 - (0 + 1))
      case measure => omega
      case rel =>
        have hst := HR.out.store rfl 3 (by decide) (.int .u8 ((n / 256 ^ 0 % 256 : Nat) : Int))
        have := numC_step (size := 4) (n := n) (k := 0) (by decide)
        rw [show 4 - 1 - 0 = 3 from rfl] at this
        rw [this] at hst
        exact ⟨0 + 1, rfl, by omega, rfl, by simpa using hst, HU.out.setCell _ (fun h => by simp at h; omega)⟩
    · have q := hr.free rfl 2
      have hx := hr.at rfl (j := 2) (numC_at (by decide) (by decide))
      rw [Nat.zero_add] at hx
      have HR := Lib.hid hr
      have HU := Lib.hid hu
      have hz : (0 : Int) ≤ (n : Int) / 256 := by omega
      clear hr hu
      go_wp2
      go_roundg (4 - (1 + 1))
      case measure => omega
      case rel =>
        have hst := HR.out.store rfl 2 (by decide) (.int .u8 ((n / 256 ^ 1 % 256 : Nat) : Int))
        have := numC_step (size := 4) (n := n) (k := 1) (by decide)
        rw [show 4 - 1 - 1 = 2 from rfl] at this
        rw [this] at hst
        exact ⟨1 + 1, rfl, by omega, rfl, by simpa using hst, HU.out.setCell _ (fun h => by simp at h; omega)⟩
    · have q := hr.free rfl 1
      have hx := hr.at rfl (j := 1) (numC_at (by decide) (by decide))
      rw [Nat.zero_add] at hx
      have HR := Lib.hid hr
      have HU := Lib.hid hu
      have hz : (0 : Int) ≤ (n : Int) / 65536 := by omega
      clear hr hu
      go_wp2
      go_roundg (4 - (2 + 1))
      case measure => omega
      case rel =>
        have hst := HR.out.store rfl 1 (by decide) (.int .u8 ((n / 256 ^ 2 % 256 : Nat) : Int))
        have := numC_step (size := 4) (n := n) (k := 2) (by decide)
        rw [show 4 - 1 - 2 = 1 from rfl] at this
        rw [this] at hst
        exact ⟨2 + 1, rfl, by omega, rfl, by simpa using hst, HU.out.setCell _ (fun h => by simp at h; omega)⟩
    · have q := hr.free rfl 0
      have hx := hr.at rfl (j := 0) (numC_at (by decide) (by decide))
      rw [Nat.zero_add] at hx
      have HR := Lib.hid hr
      have HU := Lib.hid hu
      have hz : (0 : Int) ≤ (n : Int) / 16777216 := by omega
      clear hr hu
      go_wp2
      go_roundg (4 - (3 + 1))
      case measure => omega
      case rel =>
        have hst := HR.out.store rfl 0 (by decide) (.int .u8 ((n / 256 ^ 3 % 256 : Nat) : Int))
        have := numC_step (size := 4) (n := n) (k := 3) (by decide)
        rw [show 4 - 1 - 3 = 0 from rfl] at this
        rw [this, show ((n / 256 ^ 3 % 256 : Nat) : Int) = ((n / 16777216 : Nat) : Int) by have : n / 256 ^ 3 = n / 16777216 := rfl; omega] at hst
        exact ⟨3 + 1, rfl, by omega, rfl, by simpa using hst, HU.out.setCell _ (fun h => by simp at h; omega)⟩
    · rw [numC_full] at hr
      have hcv := row_bytes hr (numB_len _ _)
      have HU := Lib.hid hu
      clear hr hu
      go_wp2
      refine bodyPost_ret (results_tmp2 rfl _ _ _) rfl ?_
      exact ⟨rfl, HU.out⟩
theorem octByte_ok (n : Nat) (hn : n < 256) (w : World) : Calls Tryz.prog 73 #[.int .i64 (n : Int)] w fun e w' => e = .returned (.tuple #[.string ⟨(numB 1 n).toArray⟩, .bool true]) ∧ Unch none_ w w' := by
  go_enter Tryz.func73, Tryz.ntmps73
  go_wp2_with fail
  refine (laid1_ok n hn w).mono ?_
  rintro e w2 ⟨rfl, hu⟩
  go_wp2
  refine bodyPost_ret (results_tmp2 rfl _ _ _) rfl ?_
  exact ⟨rfl, hu⟩
theorem octShort_ok (n : Nat) (hn : n < 65536) (w : World) : Calls Tryz.prog 110 #[.int .i64 (n : Int)] w fun e w' => e = .returned (.tuple #[.string ⟨(numB 2 n).toArray⟩, .bool true]) ∧ Unch none_ w w' := by
  go_enter Tryz.func110, Tryz.ntmps110
  go_wp2_with fail
  refine (laid2_ok n hn w).mono ?_
  rintro e w2 ⟨rfl, hu⟩
  go_wp2
  refine bodyPost_ret (results_tmp2 rfl _ _ _) rfl ?_
  exact ⟨rfl, hu⟩
theorem octLong_ok (n : Nat) (hn : n < 4294967296) (w : World) : Calls Tryz.prog 119 #[.int .i64 (n : Int)] w fun e w' => e = .returned (.tuple #[.string ⟨(numB 4 n).toArray⟩, .bool true]) ∧ Unch none_ w w' := by
  go_enter Tryz.func119, Tryz.ntmps119
  go_wp2_with fail
  refine (laid4_ok n hn w).mono ?_
  rintro e w2 ⟨rfl, hu⟩
  go_wp2
  refine bodyPost_ret (results_tmp2 rfl _ _ _) rfl ?_
  exact ⟨rfl, hu⟩
end Go.Proofs.YtgcpoppinnnciaaGreatDoor
/- octets: Text, the Reader. -/
set_option linter.unusedVariables false
set_option linter.unusedSimpArgs false
namespace Go.Proofs.YtgcpoppinnnciaaGreatDoor
open Go Go.RowKit Go.Proofs.YtgcpoppinnnciaaGreatDoor.Pal

set_option maxRecDepth 100000 in
theorem octText_ok (s : ByteArray) (hs : s.size ≤ 65535) (w : World) : Calls Tryz.prog 77 #[.string s] w fun e w' => e = .returned (.tuple #[.string (⟨(numB 2 s.size).toArray⟩ ++ s), .bool true]) ∧ Unch none_ w w' := by
  have h1 : ¬ (65535 : Int) < (s.size : Int) := by omega
  go_enter Tryz.func77, Tryz.ntmps77
  go_wp2_with fail
  refine (octShort_ok s.size (by omega) w).mono ?_
  rintro e w2 ⟨rfl, hu⟩
  have hsz : ¬ 9223372036854775807 < (numB 2 s.size).length + s.size := by rw [numB_len]; omega
  go_wp2
  refine bodyPost_ret (results_tmp2 rfl _ _ _) rfl ?_
  exact ⟨rfl, hu⟩
/-- A reader as it lies. -/
def RdO (w : World) (g : Nat) (s : ByteArray) (bad : Bool) : Prop := w.heap[g]? = some (.cells #[.string s, .bool bad] 190 (0, 0))
set_option maxRecDepth 100000 in
theorem octTake_ok (g n : Nat) (s : ByteArray) (w : World) (h : RdO w g s false) (hn : n ≤ s.size) : Calls Tryz.prog 123 #[.pointer (some ⟨g, 0, none⟩), .int .i64 (n : Int)] w fun e w' => e = .returned (.string (s.extract 0 n)) ∧ RdO w' g (s.extract n s.size) false ∧ Unch (fun k => k = g) w w' := by
  unfold RdO at h
  have HB := Lib.hid h
  have x0 := blk_cell h (j := 0) rfl
  have x1 := blk_cell h (j := 1) rfl
  have q0 := blk_free h 0
  have z0 : (0 : Int) ≤ (n : Int) := by omega
  have z1 : ¬ (n : Int) < 0 := by omega
  have z2 : ¬ (s.size : Int) < (n : Int) := by omega
  have z3 : (n : Int) ≤ (s.size : Int) := by omega
  clear h
  go_enter Tryz.func123, Tryz.ntmps123
  go_wp2
  go_ret
  exact ⟨rfl, blk_set HB.out 0 _, (Unch.refl _ _).setCell _ (fun _ => rfl)⟩
set_option maxRecDepth 100000 in
/-- Nothing more is taken where something was missing, or where there isn't so much. -/
theorem octTake_no (g n : Nat) (s : ByteArray) (bad : Bool) (w : World) (h : RdO w g s bad) (hn : bad = true ∨ s.size < n) : Calls Tryz.prog 123 #[.pointer (some ⟨g, 0, none⟩), .int .i64 (n : Int)] w fun e w' => e = .returned (.string ⟨#[]⟩) ∧ RdO w' g s true ∧ Unch (fun k => k = g) w w' := by
  unfold RdO at h
  have HB := Lib.hid h
  have x0 := blk_cell h (j := 0) rfl
  have x1 := blk_cell h (j := 1) rfl
  have q1 := blk_free h 1
  have z1 : ¬ (n : Int) < 0 := by omega
  clear h
  cases bad with
  | true =>
    clear hn
    go_enter Tryz.func123, Tryz.ntmps123
    go_wp2
    go_ret
    exact ⟨rfl, blk_set HB.out 1 _, (Unch.refl _ _).setCell _ (fun _ => rfl)⟩
  | false =>
    have z2 : (s.size : Int) < (n : Int) := by
      rcases hn with h | h
      · cases h
      · omega
    clear hn
    go_enter Tryz.func123, Tryz.ntmps123
    go_wp2
    go_ret
    exact ⟨rfl, blk_set HB.out 1 _, (Unch.refl _ _).setCell _ (fun _ => rfl)⟩
theorem octRead_ok (s : ByteArray) (w : World) : Calls Tryz.prog 93 #[.string s] w fun e w' => e = .returned (.pointer (some ⟨w.heap.size, 0, none⟩)) ∧ RdO w' w.heap.size s false ∧ Unch none_ w w' := by
  go_enter Tryz.func93, Tryz.ntmps93
  go_wp2
  go_ret
  exact ⟨rfl, blk_new w _, (Unch.refl none_ w).alloc _⟩
theorem octGood_ok (g : Nat) (s : ByteArray) (bad : Bool) (w : World) (h : RdO w g s bad) : Calls Tryz.prog 122 #[.pointer (some ⟨g, 0, none⟩)] w fun e w' => e = .returned (.bool (!bad)) ∧ w = w' := by
  unfold RdO at h
  have x1 := blk_cell h (j := 1) rfl
  clear h
  go_enter Tryz.func122, Tryz.ntmps122
  go_wp2
  go_ret
  exact ⟨rfl, rfl⟩
theorem octLeft_ok (g : Nat) (s : ByteArray) (bad : Bool) (w : World) (h : RdO w g s bad) : Calls Tryz.prog 159 #[.pointer (some ⟨g, 0, none⟩)] w fun e w' => e = .returned (.int .i64 (if bad = true then 0 else (s.size : Int))) ∧ w = w' := by
  have HG := Lib.hid (octGood_ok g s bad w h)
  unfold RdO at h
  have x0 := blk_cell h (j := 0) rfl
  clear h
  cases bad with
  | true =>
    go_enter Tryz.func159, Tryz.ntmps159
    go_wp2_with fail
    refine HG.out.mono ?_
    rintro e w2 ⟨rfl, rfl⟩
    go_wp2
    go_ret
    exact ⟨rfl, rfl⟩
  | false =>
    go_enter Tryz.func159, Tryz.ntmps159
    go_wp2_with fail
    refine HG.out.mono ?_
    rintro e w2 ⟨rfl, rfl⟩
    go_wp2
    go_ret
    exact ⟨rfl, rfl⟩
theorem octEnd_ok (g : Nat) (s : ByteArray) (bad : Bool) (w : World) (h : RdO w g s bad) : Calls Tryz.prog 124 #[.pointer (some ⟨g, 0, none⟩)] w fun e w' => e = .returned (.bool (!bad && decide (s.size = 0))) ∧ w = w' := by
  have HG := Lib.hid (octGood_ok g s bad w h)
  have HL := Lib.hid (octLeft_ok g s bad w h)
  cases bad with
  | true =>
    go_enter Tryz.func124, Tryz.ntmps124
    go_wp2_with fail
    refine HG.out.mono ?_
    rintro e w2 ⟨rfl, rfl⟩
    go_wp2
    go_ret
    exact ⟨rfl, rfl⟩
  | false =>
    have HE : ∀ r, decide (s.size = 0) = r → ((s.size : Int) == 0) = r → decide ((s.size : Int) = 0) = r → Calls Tryz.prog 124 #[.pointer (some ⟨g, 0, none⟩)] w fun e w' => e = .returned (.bool r) ∧ w = w' := by
      intro r h1 h2 h3
      go_enter Tryz.func124, Tryz.ntmps124
      go_wp2_with fail
      refine HG.out.mono ?_
      rintro e w2 ⟨rfl, rfl⟩
      go_wp2_with fail
      refine HL.out.mono ?_
      rintro e w2 ⟨rfl, rfl⟩
      simp only [Bool.false_eq_true, if_false]
      clear h1 h3
      go_wp2
      go_ret
      exact ⟨rfl, rfl⟩
    by_cases hz : s.size = 0
    · have := HE true (decide_eq_true hz) (by simpa using hz) (by simpa using hz)
      rw [decide_eq_true hz]; exact this
    · have := HE false (decide_eq_false hz) (by simpa using hz) (by simpa using hz)
      rw [decide_eq_false hz]; exact this
end Go.Proofs.YtgcpoppinnnciaaGreatDoor
/- octets: the Reader's numbers and texts. -/
set_option linter.unusedVariables false
set_option linter.unusedSimpArgs false
namespace Go.Proofs.YtgcpoppinnnciaaGreatDoor
open Go Go.RowKit Go.Proofs.YtgcpoppinnnciaaGreatDoor.Pal

/-- A reader's next bytes; what it has behind them. -/
def tkB (s : ByteArray) (bad : Bool) (n : Nat) : ByteArray := if bad = true ∨ s.size < n then ⟨#[]⟩ else s.extract 0 n
def tkR (s : ByteArray) (bad : Bool) (n : Nat) : ByteArray := if bad = true ∨ s.size < n then s else s.extract n s.size
def tkQ (s : ByteArray) (bad : Bool) (n : Nat) : Bool := if bad = true ∨ s.size < n then true else false
theorem octTk_ok (g n : Nat) (s : ByteArray) (bad : Bool) (w : World) (h : RdO w g s bad) : Calls Tryz.prog 123 #[.pointer (some ⟨g, 0, none⟩), .int .i64 (n : Int)] w fun e w' => e = .returned (.string (tkB s bad n)) ∧ RdO w' g (tkR s bad n) (tkQ s bad n) ∧ Unch (fun k => k = g) w w' := by
  unfold tkB tkR tkQ
  by_cases hn : bad = true ∨ s.size < n
  · rw [if_pos hn, if_pos hn, if_pos hn]
    exact octTake_no g n s bad w h hn
  · rw [if_neg hn, if_neg hn, if_neg hn]
    have hb : bad = false := by
      cases bad with
      | false => rfl
      | true => exact absurd (.inl rfl) hn
    subst hb
    exact octTake_ok g n s w h (by
      rcases Nat.lt_or_ge s.size n with h1 | h1
      · exact absurd (.inr h1) hn
      · exact h1)
theorem unch_bytes (w : World) (e : TypeId) (s : ByteArray) : Unch none_ w (Lib.bytesWorld w e s) := ⟨rfl, rfl, rfl, by rw [Lib.bytesWorld_size]; omega, fun k hk _ => Lib.bytesWorld_at_old w e s k hk⟩
def numI (t : ByteArray) (k : Nat) : Nat := (t.data.toList.take k).foldl (fun n b => n * 256 + b.toNat) 0
theorem numI_succ {t : ByteArray} {k : Nat} (hk : k < t.size) : numI t (k + 1) = numI t k * 256 + (t.data.toList.getD k 0).toNat := by
  have hl : k < t.data.toList.length := by simpa using hk
  unfold numI
  rw [List.take_add_one, List.getElem?_eq_getElem hl, List.foldl_append, List.getD_eq_getElem?_getD, List.getElem?_eq_getElem hl]
  rfl
theorem numI_lt (t : ByteArray) : ∀ k, k ≤ t.size → numI t k < 256 ^ k := by
  intro k
  induction k with
  | zero => intro _; exact Nat.zero_lt_one
  | succ k ih =>
    intro hk
    rw [numI_succ (by omega), Nat.pow_succ]
    have h1 := ih (by omega)
    have h2 : (t.data.toList.getD k 0).toNat < 256 := UInt8.toNat_lt _
    omega
theorem tkB_size (s : ByteArray) (bad : Bool) (n : Nat) : (tkB s bad n).size ≤ n := by
  unfold tkB
  split
  · exact Nat.zero_le _
  · rw [ByteArray.size_extract]; omega
theorem or_byte (z b : Nat) (hz : z < 16777216) (hb : b < 256) : bits .or .i64 ((z : Int) * 256) (b : Int) = ((z * 256 + b : Nat) : Int) := by
  have h0 : z * 256 ||| b = z * 256 + b := by
    have := Nat.shiftLeft_add_eq_or_of_lt (b := b) (i := 8) (by omega) z
    rw [Nat.shiftLeft_eq] at this
    exact this.symm
  have e : (z : Int) * 256 = ((z * 256 : Nat) : Int) := by omega
  rw [e]
  have h1 : (BitVec.ofInt 64 ((z * 256 : Nat) : Int)).toNat = z * 256 := by
    rw [BitVec.ofInt_natCast, BitVec.toNat_ofNat]; exact Nat.mod_eq_of_lt (by omega)
  have h2 : (BitVec.ofInt 64 (b : Int)).toNat = b := by
    rw [BitVec.ofInt_natCast, BitVec.toNat_ofNat]; exact Nat.mod_eq_of_lt (by omega)
  show IntKind.i64.wrap ((BitVec.ofInt 64 ((z * 256 : Nat) : Int) ||| BitVec.ofInt 64 (b : Int)).toNat : Int) = _
  rw [BitVec.toNat_or, h1, h2, h0, IntKind.wrap_i64]
  omega
set_option maxRecDepth 100000 in
set_option maxHeartbeats 2000000 in
theorem octNum_ok (g n : Nat) (s : ByteArray) (bad : Bool) (w : World) (h : RdO w g s bad) (hn4 : n ≤ 4) : Calls Tryz.prog 130 #[.pointer (some ⟨g, 0, none⟩), .int .i64 (n : Int)] w fun e w' => e = .returned (.int .i64 (numI (tkB s bad n) (tkB s bad n).size : Nat)) ∧ RdO w' g (tkR s bad n) (tkQ s bad n) ∧ Unch (fun k => k = g) w w' := by
  have HT := Lib.hid (octTk_ok g n s bad w h)
  clear h
  go_enter Tryz.func130, Tryz.ntmps130
  go_wp2_with fail
  refine HT.out.mono ?_
  rintro e w2 ⟨rfl, hr, hu⟩
  have hts := tkB_size s bad n
  obtain ⟨t, ht⟩ : ∃ t, tkB s bad n = t := ⟨_, rfl⟩
  rw [ht] at hts
  rw [ht]
  have hcv := Lib.run_convert_string_bytes (P := Tryz.prog) w2 9 39 5 t Tryz.underlying9 Tryz.underlying39 Tryz.underlying5
  have HR := Lib.hid hr
  have HU := Lib.hid hu
  have HTE := Lib.hid ht
  obtain ⟨m, hm⟩ : ∃ m, t.size = m := ⟨_, rfl⟩
  rw [hm] at hcv hts
  have HM := Lib.hid hm
  have HCELL := Lib.hid (fun j (hj : j < t.size) => Lib.bytesWorld_cell w2 5 t j hj)
  have hub := unch_bytes w2 5 t
  obtain ⟨cp, hcp⟩ : ∃ cp, grownCap w2 m 0 5 = cp := ⟨_, rfl⟩
  rw [hcp] at hcv
  obtain ⟨w3, hw3⟩ : ∃ w3, Lib.bytesWorld w2 5 t = w3 := ⟨_, rfl⟩
  rw [hw3] at hcv HCELL hub
  obtain ⟨gb, hgb⟩ : ∃ gb, w2.heap.size = gb := ⟨_, rfl⟩
  rw [hgb] at hcv HCELL
  have HUB := Lib.hid hub
  clear hr hu ht hm hcp hw3 hgb hub HT
  go_wp2
  clear hcv
  go_loopg [5, 7, 13] m (fun gk v5 _ i13 wr => ∃ k : Nat, gk = m - k ∧ k ≤ m ∧ i13 = .int .i64 (k : Int) ∧ v5 = .int .i64 (numI t k : Nat) ∧ w3 = wr)
  case atStart => exact ⟨0, rfl, Nat.zero_le _, rfl, rfl, rfl⟩
  case round =>
    obtain ⟨k, rfl, hk, rfl, rfl, rfl⟩ := hrel
    by_cases hkm : k < m
    · have hkt : k < t.size := by rw [HM.out]; exact hkm
      have hx := HCELL.out k hkt
      have hs := numI_succ hkt
      have hlt := numI_lt t k (by omega)
      have hb : (t.data.toList.getD k 0).toNat < 256 := UInt8.toNat_lt _
      have h3 : 256 ^ k ≤ 256 ^ 3 := Nat.pow_le_pow_right (by decide) (by omega)
      have h3 : 256 ^ k ≤ 16777216 := h3
      obtain ⟨b, hbb⟩ : ∃ b, (t.data.toList.getD k 0).toNat = b := ⟨_, rfl⟩
      obtain ⟨z, hz⟩ : ∃ z, numI t k = z := ⟨_, rfl⟩
      rw [hbb] at hx hs hb
      rw [hz] at hs hlt ⊢
      have hz1 : z < 16777216 := by omega
      have z0 : (0 : Int) ≤ (k : Int) := by omega
      have z1 : (k : Int) < (m : Int) := by omega
      have HSU := Lib.hid hs
      clear hs hlt h3 hbb hz hkt
      go_wp2
      rw [or_byte z b hz1 hb]
      go_roundg (m - (k + 1))
      case measure => omega
      case rel => exact ⟨k + 1, rfl, by omega, by go_num, by rw [HSU.out], rfl⟩
    · obtain rfl : m = k := by omega
      have hr := HR.out
      unfold RdO at hr
      have hr3 := HUB.out.heap hr (fun h => h)
      have HR3 := Lib.hid hr3
      clear hr hr3
      go_wp2
      go_ret
      refine ⟨?_, HR3.out, HU.out.step (Y := none_) HUB.out (fun _ _ h => h.elim)⟩
      rw [HTE.out, HM.out]
      rfl
/-- The next byte's number; the next short; the next text. -/
theorem octRByte_ok (g : Nat) (s : ByteArray) (bad : Bool) (w : World) (h : RdO w g s bad) : Calls Tryz.prog 120 #[.pointer (some ⟨g, 0, none⟩)] w fun e w' => e = .returned (.int .i64 (numI (tkB s bad 1) (tkB s bad 1).size : Nat)) ∧ RdO w' g (tkR s bad 1) (tkQ s bad 1) ∧ Unch (fun k => k = g) w w' := by
  have HN := Lib.hid (octNum_ok g 1 s bad w h (by decide))
  go_enter Tryz.func120, Tryz.ntmps120
  go_wp2_with fail
  refine HN.out.mono ?_
  rintro e w2 ⟨rfl, hr, hu⟩
  go_wp2
  go_ret
  exact ⟨rfl, hr, hu⟩
theorem octRShort_ok (g : Nat) (s : ByteArray) (bad : Bool) (w : World) (h : RdO w g s bad) : Calls Tryz.prog 158 #[.pointer (some ⟨g, 0, none⟩)] w fun e w' => e = .returned (.int .i64 (numI (tkB s bad 2) (tkB s bad 2).size : Nat)) ∧ RdO w' g (tkR s bad 2) (tkQ s bad 2) ∧ Unch (fun k => k = g) w w' := by
  have HN := Lib.hid (octNum_ok g 2 s bad w h (by decide))
  go_enter Tryz.func158, Tryz.ntmps158
  go_wp2_with fail
  refine HN.out.mono ?_
  rintro e w2 ⟨rfl, hr, hu⟩
  go_wp2
  go_ret
  exact ⟨rfl, hr, hu⟩
theorem octRText_ok (g : Nat) (s : ByteArray) (bad : Bool) (w : World) (h : RdO w g s bad) {n : Nat} (hn : numI (tkB s bad 2) (tkB s bad 2).size = n) : Calls Tryz.prog 121 #[.pointer (some ⟨g, 0, none⟩)] w fun e w' => e = .returned (.string (tkB (tkR s bad 2) (tkQ s bad 2) n)) ∧ RdO w' g (tkR (tkR s bad 2) (tkQ s bad 2) n) (tkQ (tkR s bad 2) (tkQ s bad 2) n) ∧ Unch (fun k => k = g) w w' := by
  have hs := octRShort_ok g s bad w h
  rw [hn] at hs
  have HS := Lib.hid hs
  clear hs hn h
  go_enter Tryz.func121, Tryz.ntmps121
  go_wp2_with fail
  refine HS.out.mono ?_
  rintro e w2 ⟨rfl, hr, hu⟩
  have HT := Lib.hid (octTk_ok g n _ _ w2 hr)
  have HU := Lib.hid hu
  clear hr hu HS
  go_wp2_with fail
  refine HT.out.mono ?_
  rintro e w3 ⟨rfl, hr, hu⟩
  have HU3 := Lib.hid (HU.out.trans hu)
  have HR := Lib.hid hr
  clear hr hu
  go_wp2
  go_ret
  exact ⟨rfl, HR.out, HU3.out⟩
end Go.Proofs.YtgcpoppinnnciaaGreatDoor
/- sha: the start, a rotation. -/
set_option linter.unusedVariables false
set_option linter.unusedSimpArgs false
namespace Go.Proofs.YtgcpoppinnnciaaGreatDoor
open Go Go.RowKit Go.Proofs.YtgcpoppinnnciaaGreatDoor.Pal

/-- A word turned right by r. -/
def rotR (r : Nat) (a : Int) : Int := bits .or .u32 (a * 2 ^ (32 - r) % 4294967296) (a / 2 ^ r)
theorem rot7_ok (a : Int) (w : World) : Calls Tryz.prog 156 #[.int .u32 a, .int .i64 (-7)] w fun e w' => e = .returned (.int .u32 (rotR 7 a)) ∧ w = w' := by
  have hb : bits BinOp.and IntKind.u64 (IntKind.u64.wrap (-7)) 31 = 25 := by decide
  go_enter Tryz.func156, Tryz.ntmps156
  go_wp2
  go_ret
  exact ⟨rfl, rfl⟩
theorem rot18_ok (a : Int) (w : World) : Calls Tryz.prog 156 #[.int .u32 a, .int .i64 (-18)] w fun e w' => e = .returned (.int .u32 (rotR 18 a)) ∧ w = w' := by
  have hb : bits BinOp.and IntKind.u64 (IntKind.u64.wrap (-18)) 31 = 14 := by decide
  go_enter Tryz.func156, Tryz.ntmps156
  go_wp2
  go_ret
  exact ⟨rfl, rfl⟩
theorem rot17_ok (a : Int) (w : World) : Calls Tryz.prog 156 #[.int .u32 a, .int .i64 (-17)] w fun e w' => e = .returned (.int .u32 (rotR 17 a)) ∧ w = w' := by
  have hb : bits BinOp.and IntKind.u64 (IntKind.u64.wrap (-17)) 31 = 15 := by decide
  go_enter Tryz.func156, Tryz.ntmps156
  go_wp2
  go_ret
  exact ⟨rfl, rfl⟩
theorem rot19_ok (a : Int) (w : World) : Calls Tryz.prog 156 #[.int .u32 a, .int .i64 (-19)] w fun e w' => e = .returned (.int .u32 (rotR 19 a)) ∧ w = w' := by
  have hb : bits BinOp.and IntKind.u64 (IntKind.u64.wrap (-19)) 31 = 13 := by decide
  go_enter Tryz.func156, Tryz.ntmps156
  go_wp2
  go_ret
  exact ⟨rfl, rfl⟩
theorem rot6_ok (a : Int) (w : World) : Calls Tryz.prog 156 #[.int .u32 a, .int .i64 (-6)] w fun e w' => e = .returned (.int .u32 (rotR 6 a)) ∧ w = w' := by
  have hb : bits BinOp.and IntKind.u64 (IntKind.u64.wrap (-6)) 31 = 26 := by decide
  go_enter Tryz.func156, Tryz.ntmps156
  go_wp2
  go_ret
  exact ⟨rfl, rfl⟩
theorem rot11_ok (a : Int) (w : World) : Calls Tryz.prog 156 #[.int .u32 a, .int .i64 (-11)] w fun e w' => e = .returned (.int .u32 (rotR 11 a)) ∧ w = w' := by
  have hb : bits BinOp.and IntKind.u64 (IntKind.u64.wrap (-11)) 31 = 21 := by decide
  go_enter Tryz.func156, Tryz.ntmps156
  go_wp2
  go_ret
  exact ⟨rfl, rfl⟩
theorem rot25_ok (a : Int) (w : World) : Calls Tryz.prog 156 #[.int .u32 a, .int .i64 (-25)] w fun e w' => e = .returned (.int .u32 (rotR 25 a)) ∧ w = w' := by
  have hb : bits BinOp.and IntKind.u64 (IntKind.u64.wrap (-25)) 31 = 7 := by decide
  go_enter Tryz.func156, Tryz.ntmps156
  go_wp2
  go_ret
  exact ⟨rfl, rfl⟩
theorem rot2_ok (a : Int) (w : World) : Calls Tryz.prog 156 #[.int .u32 a, .int .i64 (-2)] w fun e w' => e = .returned (.int .u32 (rotR 2 a)) ∧ w = w' := by
  have hb : bits BinOp.and IntKind.u64 (IntKind.u64.wrap (-2)) 31 = 30 := by decide
  go_enter Tryz.func156, Tryz.ntmps156
  go_wp2
  go_ret
  exact ⟨rfl, rfl⟩
theorem rot13_ok (a : Int) (w : World) : Calls Tryz.prog 156 #[.int .u32 a, .int .i64 (-13)] w fun e w' => e = .returned (.int .u32 (rotR 13 a)) ∧ w = w' := by
  have hb : bits BinOp.and IntKind.u64 (IntKind.u64.wrap (-13)) 31 = 19 := by decide
  go_enter Tryz.func156, Tryz.ntmps156
  go_wp2
  go_ret
  exact ⟨rfl, rfl⟩
theorem rot22_ok (a : Int) (w : World) : Calls Tryz.prog 156 #[.int .u32 a, .int .i64 (-22)] w fun e w' => e = .returned (.int .u32 (rotR 22 a)) ∧ w = w' := by
  have hb : bits BinOp.and IntKind.u64 (IntKind.u64.wrap (-22)) 31 = 10 := by decide
  go_enter Tryz.func156, Tryz.ntmps156
  go_wp2
  go_ret
  exact ⟨rfl, rfl⟩
theorem begin_ok (w : World) : Calls Tryz.prog 116 #[] w fun e w' => e = .returned (.agg #[.int .u32 1779033703, .int .u32 3144134277, .int .u32 1013904242, .int .u32 2773480762, .int .u32 1359893119, .int .u32 2600822924, .int .u32 528734635, .int .u32 1541459225]) ∧ Unch none_ w w' := by
  go_enter Tryz.func116, Tryz.ntmps116
  go_wp2
  exact bodyPost_ret (results_cell_row rfl _ _ w.heap.size _ _ _ _ rfl (blk_new w _) Tryz.underlying178 rfl (by kernel_rfl)) rfl ⟨rfl, (Unch.refl none_ w).alloc _⟩
end Go.Proofs.YtgcpoppinnnciaaGreatDoor
