/-
  A region that draws its order, walked once: what only reads is taken ahead, in the order of the text; the rest (the tail) follows in its one order. What is read ahead is asked to stay as it is (S) behind the first kap operations of the tail.
  A plan whose head is in two: what reads no memory may come up behind the tail's effects (it yields the same in every world); then what reads, as in Plan.
-/
import Derived.Deep.Quiet
import Derived.StillTail
import Derived.OrdersHeld
import Derived.BigQuiet
import Derived.Tactics2
import Derived.Below
/- A region that draws its order, walked once: what only reads is taken ahead, in the order of the text; the rest (the tail) follows in its one order. What is read ahead is asked to stay as it is (S) behind the first kap operations of the tail. -/
set_option linter.unusedVariables false
set_option linter.unusedSimpArgs false
namespace Go.Proofs.YtgcpoppinnnciaaGreatDoor.Plan
open Go Go.RowKit
section
variable {P : Program} {ops : Array Oper} {Q : Exit → Act → World → Prop} {md : Region.Mode} {C : World → Prop}

/-- How many of the tail's operations have come up. -/
def prog : List Nat → Array Bool → Nat
  | [], _ => 0
  | x :: r, L => (if L.getD x false = true then 1 else 0) + prog r L
theorem prog_len (L : Array Bool) : ∀ tl, prog tl L ≤ tl.length
  | [] => Nat.le_refl _
  | x :: r => by simp only [prog, List.length_cons]; have := prog_len L r; split <;> omega

def wpAnyK (P : Program) (md : Region.Mode) (ops : Array Oper) (Q : Exit → Act → World → Prop) (C : World → Prop) (tl : List Nat) (kap : Nat) : Nat → Array Bool → Act → World → Prop
  | 0, listed, a, w => Region.ready md ops listed = [] ∧ Q .normal a w
  | fuel + 1, listed, a, w =>
    (Region.ready md ops listed = [] → Q .normal a w) ∧
    ∀ i ∈ Region.ready md ops listed, wpOp P ops Q i (fun a' w' => (prog tl (listed.setIfInBounds i true) ≤ kap → C w') ∧ wpAnyK P md ops Q C tl kap fuel (listed.setIfInBounds i true) a' w') a w

theorem wpAny_of_K {tl : List Nat} {kap : Nat} : ∀ (fuel : Nat) (listed : Array Bool) (a : Act) (w : World), wpAnyK P md ops Q C tl kap fuel listed a w → wpAny P md ops Q fuel listed a w
  | 0, _, _, _, h => h
  | fuel + 1, _, _, _, h => ⟨h.1, fun i hi => wpOp_mono (fun a' w' h' => wpAny_of_K fuel _ a' w' h'.2) (h.2 i hi)⟩

/-- All that a listed operation waits for is listed. -/
def Closed (md : Region.Mode) (ops : Array Oper) (L : Array Bool) : Prop :=
  ∀ j oj, ops[j]? = some oj → L.getD j false = true → ∀ e ∈ oj.after, Region.binds md e = true → L.getD e.on false = true

theorem Closed.set {L : Array Bool} {j : Nat} (h : Closed md ops L) (hj : j ∈ Region.ready md ops L) : Closed md ops (L.setIfInBounds j true) := by
  obtain ⟨_, o, ho, hall⟩ := mem_ready.1 hj
  intro i oi hi hl e he hb
  by_cases hji : j = i
  · subst hji
    have : oi = o := Option.some.inj (hi.symm.trans ho)
    subst this
    exact getD_set_true (hall e he hb)
  · rw [getD_set_ne false hji] at hl
    exact getD_set_true (h i oi hi hl e he hb)

theorem prog_set {L : Array Bool} {i : Nat} : ∀ {tl : List Nat}, i ∉ tl → prog tl (L.setIfInBounds i true) = prog tl L
  | [], _ => rfl
  | x :: r, hi => by
    have hne : i ≠ x := fun h => hi (by simp [h])
    simp only [prog]
    rw [getD_set_ne false hne, prog_set (tl := r) (fun h => hi (by simp [h]))]

theorem first {tl : List Nat} {kap i : Nat} {oi : Oper} {v : Value} (hi : ops[i]? = some oi) (hsel : ∀ (j : Nat) (o : Oper) cs b, ops[j]? = some o → o.op ≠ .select cs b)
    (hQ : ∀ c a w, Q (.panic c) (a.put oi.dst v) w → Q (.panic c) a w) (hit : i ∉ tl)
    (hlate : ∀ L : Array Bool, Closed md ops L → L.getD i true = false → prog tl L ≤ kap) :
    ∀ (fuel : Nat) (listed : Array Bool) (a : Act) (w : World), Closed md ops listed →
      (∀ j oj, ops[j]? = some oj → j ≠ i → listed.getD j true = false → (∀ e ∈ oj.after, Region.binds md e = true → e.on ≠ i) → oi.apart ops oj = true) →
      i ∈ Region.ready md ops listed → YieldsIf P ops C oi v a → C w →
      wpAnyK P md ops Q C tl kap fuel (listed.setIfInBounds i true) (a.put oi.dst v) w → wpAnyK P md ops Q C tl kap (fuel + 1) listed a w := by
  intro fuel
  induction fuel with
  | zero =>
    intro listed a w _ _ hr hy hC H
    refine ⟨fun h => (by rw [h] at hr; cases hr), fun j hj => ?_⟩
    by_cases hji : j = i
    · subst hji; exact hy.wpOp hi hC ⟨fun _ => hC, H⟩
    · have := ready_mono hj hji
      rw [H.1] at this
      cases this
  | succ fuel ih =>
    intro listed a w hcl hfree hr hy hC H
    refine ⟨fun h => (by rw [h] at hr; cases hr), fun j hj => ?_⟩
    by_cases hji : j = i
    · subst hji; exact hy.wpOp hi hC ⟨fun _ => hC, H⟩
    · have h1 := H.2 j (ready_mono hj hji)
      obtain ⟨hjun, oj, hoj, hall⟩ := mem_ready.1 hj
      have hun := (mem_ready.1 hr).1
      have hnot : ∀ e ∈ oj.after, Region.binds md e = true → e.on ≠ i := fun e he hb heq => by
        have h1 := hall e he hb
        rw [heq, getD_both hun] at h1
        cases h1
      have h2 := wpOp_putIf hoj (hfree j oj hoj hji hjun hnot) (fun cs b => hsel i oi cs b hi) (fun cs b => hsel j oj cs b hoj) hQ hy h1
      have hfree' : ∀ k ok, ops[k]? = some ok → k ≠ i → (listed.setIfInBounds j true).getD k true = false →
          (∀ e ∈ ok.after, Region.binds md e = true → e.on ≠ i) → oi.apart ops ok = true := fun k ok hk hki hun hno => by
        refine hfree k ok hk hki ?_ hno
        by_cases hjk : j = k
        · subst hjk; exact hjun
        · rw [getD_set_ne true hjk] at hun; exact hun
      have hcl' : Closed md ops (listed.setIfInBounds j true) := hcl.set hj
      have hun' : (listed.setIfInBounds j true).getD i true = false := by rw [getD_set_ne true hji]; exact hun
      have hpl : prog tl (listed.setIfInBounds j true) ≤ kap := hlate _ hcl' hun'
      refine wpOp_mono (fun a' w' h3 => ?_) h2
      obtain ⟨hy', hc', hK'⟩ := h3
      rw [Array.setIfInBounds_comm _ _ (Ne.symm hji), prog_set hit] at hc'
      rw [Array.setIfInBounds_comm _ _ (Ne.symm hji)] at hK'
      have hCw' : C w' := hc' hpl
      exact ⟨fun _ => hCw', ih (listed.setIfInBounds j true) a' w' hcl' hfree' (ready_mono hr (Ne.symm hji)) hy' hCw' hK'⟩

/-! ### Who comes ahead of an operation t of the tail -/
def marks (md : Region.Mode) (ops : Array Oper) (t : Nat) : Nat → List Bool → List Bool
  | 0, acc => acc
  | k + 1, acc => marks md ops t k ((k == t || (List.range acc.length).any fun d => acc.getD d false && Region.waitsFor md ops (k + 1 + d) k) :: acc)
/-- The table: entry i says that t waits for i, directly or through others. -/
def tab (md : Region.Mode) (ops : Array Oper) (t : Nat) : List Bool := marks md ops t ops.size []

theorem marks_spec {t n : Nat} {L : Array Bool} (hL : Closed md ops L) (htl : L.getD t false = true) : ∀ (k : Nat) (acc : List Bool), k + acc.length = n →
    (∀ d, acc.getD d false = true → L.getD (k + d) false = true) → ∀ d, (marks md ops t k acc).getD d false = true → L.getD d false = true := by
  intro k
  induction k with
  | zero => intro acc _ h d hd; simpa [marks] using h d (by simpa [marks] using hd)
  | succ k ih =>
    intro acc hn h
    refine ih _ (by simp; omega) fun d hd => ?_
    cases d with
    | zero =>
      simp only [List.getD_cons_zero, Bool.or_eq_true, beq_iff_eq, List.any_eq_true, List.mem_range, Bool.and_eq_true] at hd
      rcases hd with rfl | ⟨d, hd1, hd2, hd3⟩
      · exact htl
      · obtain ⟨oj, hoj, e, he, hb, hon⟩ := Region.waitsFor_spec hd3
        have := hL _ oj hoj (h d hd2) e he hb
        rw [hon] at this
        simpa using this
    | succ d =>
      simp only [List.getD_cons_succ] at hd
      have := h d hd
      rwa [show k + 1 + d = k + (d + 1) by omega] at this

theorem tab_spec {t i : Nat} {L : Array Bool} (hL : Closed md ops L) (htl : L.getD t false = true) (h : (tab md ops t).getD i false = true) : L.getD i false = true :=
  marks_spec (n := ops.size) hL htl ops.size [] (by simp) (by simp) i h

/-- Each of the tail waits for the one ahead of it. -/
def chain (md : Region.Mode) (ops : Array Oper) : List Nat → Bool
  | x :: y :: r => (tab md ops y).getD x false && chain md ops (y :: r)
  | _ => true

theorem chain_down {L : Array Bool} (hL : Closed md ops L) : ∀ (r : List Nat) (x : Nat), chain md ops (x :: r) = true → L.getD x false = false → prog (x :: r) L = 0
  | [], x, _, hx => by simp only [prog]; rw [hx]; rfl
  | y :: r, x, hc, hx => by
    simp only [chain, Bool.and_eq_true] at hc
    have hy : L.getD y false = false := by
      cases hy : L.getD y false with
      | false => rfl
      | true => rw [tab_spec hL hy hc.1] at hx; cases hx
    have := chain_down hL r y hc.2 hy
    rw [prog, hx, this]
    rfl
theorem chain_spec {L : Array Bool} (hL : Closed md ops L) : ∀ (tl : List Nat), chain md ops tl = true → ∀ k, (∀ t, tl[k]? = some t → L.getD t false = false) → prog tl L ≤ k
  | [], _, k, _ => Nat.zero_le _
  | x :: r, hc, 0, h => by rw [chain_down hL r x hc (h x (by simp))]; exact Nat.le_refl _
  | [x], hc, k + 1, h => by have := prog_len L [x]; simp only [List.length_singleton] at this; omega
  | x :: y :: r, hc, k + 1, h => by
    simp only [chain, Bool.and_eq_true] at hc
    have := chain_spec hL (y :: r) hc.2 k (fun t ht => h t (by simpa using ht))
    rw [prog]
    split <;> omega

/-- While i hasn't come up, at most kap of the tail have. -/
def late (md : Region.Mode) (ops : Array Oper) (tl : List Nat) (kap i : Nat) : Bool :=
  match tl[kap]? with
  | none => decide (tl.length ≤ kap)
  | some t => (tab md ops t).getD i false

theorem late_spec {tl : List Nat} {kap i : Nat} (hc : chain md ops tl = true) (h : late md ops tl kap i = true) (L : Array Bool) (hL : Closed md ops L) (hi : L.getD i true = false) : prog tl L ≤ kap := by
  unfold late at h
  split at h
  · have := prog_len L tl
    simp at h
    omega
  · rename_i t ht
    refine chain_spec hL tl hc kap fun t' ht' => ?_
    have : t = t' := by rw [ht] at ht'; exact Option.some.inj ht'
    subst this
    cases hx : L.getD t false with
    | false => rfl
    | true =>
      have := tab_spec hL hx h
      rw [getD_both hi] at this
      cases this

/-! ### What hands no call on -/
def plainOp (o : Oper) : Bool :=
  match o.op with
  | .move _ | .assign _ | .pick .. | .load .. | .binOp .. | .unOp .. | .convert .. | .fieldAddr .. | .field .. | .indexAddr .. | .index .. | .lookup .. | .slice .. | .build .. | .extract .. | .nilCheck _ | .makeFunc .. | .makeInterface .. => true
  | .call { callee := .builtin .len, .. } | .call { callee := .builtin .cap, .. } | .call { callee := .builtin .min, .. } | .call { callee := .builtin .max, .. } => true
  | _ => false

/-- What comes of it, if anything, is a value. -/
def ValueOnly (P : Program) (s : Sem Next) : Prop := ∀ w n w', s.run P w = .ok n w' → ∃ v, n = .value v
theorem vo_pure (v : Value) : ValueOnly P (pure (.value v) : Sem Next) := by
  intro w n w' h
  simp at h
  exact ⟨v, h.1.symm⟩
theorem vo_bind {α : Type} (s : Sem α) (f : α → Sem Next) (h : ∀ a, ValueOnly P (f a)) : ValueOnly P (s >>= f) := by
  intro w n w' hr
  rw [Sem.run_bind] at hr
  cases hs : s.run P w with
  | ok a w1 => rw [hs] at hr; exact h a w1 n w' hr
  | halt x w1 => rw [hs] at hr; simp at hr
theorem vo_v (s : Sem Value) : ValueOnly P (do pure (Next.value (← s)) : Sem Next) := vo_bind s _ fun a => vo_pure a
theorem vo_nilDeref : ValueOnly P (runtimePanic .nilDeref : Sem Next) := by
  intro w n w' h
  unfold runtimePanic goPanic at h
  simp only [Sem.run_bind, run_program, Result.andThen_ok] at h
  cases h
theorem vo_halt (x : Halt) : ValueOnly P (Sem.halt x) := by
  intro w n w' h
  cases h
theorem plain_value {o : Oper} (h : plainOp o = true) (ρ : Operand → Value) : ValueOnly P (execOp ρ o) := by
  obtain ⟨dst, op, type, pos, after, guard⟩ := o
  cases op <;> simp [plainOp] at h <;> simp only [execOp]
  case move => exact vo_pure _
  case assign => exact vo_pure _
  case pick => exact vo_bind _ _ fun a => vo_pure _
  case nilCheck x =>
    split
    · exact vo_nilDeref
    · exact vo_nilDeref
    · exact vo_nilDeref
    · split
      · exact vo_nilDeref
      · refine vo_bind _ _ fun a => vo_bind _ _ fun b => ?_
        split
        · exact vo_bind _ _ fun _ => vo_pure _
        · exact vo_pure _
      · exact vo_pure _
    · exact vo_pure _
  case call c =>
    obtain ⟨callee, args, argTypes⟩ := c
    cases callee <;> try (simp at h; done)
    case builtin b =>
      have he : ∀ b : Builtin, (do let d ← resolve ρ { callee := .builtin b, args, argTypes } type; invoke d.target d.args : Sem Next) = builtin b argTypes type (args.map fun | .const _ => true | _ => false) (args.map ρ) := fun b => rfl
      rw [he]
      cases b <;> first
        | exact vo_v _
        | exact absurd h Bool.false_ne_true
  all_goals exact vo_v _

theorem plain_yields {o : Oper} (hp : plainOp o = true) {a : Act} {v : Value} (hw : Region.wanted o (yielded ops a.tmps) = true) (h : ∀ w, C w → o.quietAt P a C w v) : YieldsIf P ops C o v a := by
  refine .inl ⟨hw, fun w hC => ?_⟩
  have := h w hC
  unfold Oper.quietAt at this
  cases hr : (execOp a.eval o).run P w with
  | ok n w' =>
    obtain ⟨u, rfl⟩ := plain_value hp a.eval w n w' hr
    rw [hr] at this
    obtain ⟨rfl, rfl⟩ := this
    rfl
  | halt x w' => rw [hr] at this; cases this

/-! ### The tail -/
def wpTail (P : Program) (ops : Array Oper) (Q : Exit → Act → World → Prop) (C : World → Prop) : Nat → List Oper → Act → World → Prop
  | 0, l, a, w => wpList P ops Q l a w
  | _ + 1, [], a, w => Q .normal a w
  | kap + 1, o :: rest, a, w =>
    if Region.wanted o (yielded ops a.tmps) then o.wp P a w (fun a' w' => C w' ∧ wpTail P ops Q C kap rest a' w') Q ∨ (o.asks P a w ∧ LetsOut Q) else C w ∧ wpTail P ops Q C kap rest (a.put o.dst undef) w
/-- Behind one operation of the tail: what was read ahead stands, and the rest of the tail. -/
def tailNext (P : Program) (ops : Array Oper) (Q : Exit → Act → World → Prop) (C : World → Prop) (kap : Nat) (rest : List Oper) : Exit → Act → World → Prop
  | .normal, a, w => C w ∧ wpTail P ops Q C kap rest a w
  | e, a, w => Q e a w
theorem tail_step {kap : Nat} {o : Oper} {rest : List Oper} {a : Act} {w : World} (h : wpList P ops (tailNext P ops Q C kap rest) [o] a w) : wpTail P ops Q C (kap + 1) (o :: rest) a w := by
  unfold wpTail
  unfold wpList at h
  split
  · rename_i hw
    rw [if_pos hw] at h
    refine h.imp (fun h => ?_) (fun ⟨h1, a0, w0, h2⟩ => ⟨h1, a0, w0, h2⟩)
    unfold Oper.wp at *
    generalize (execOp a.eval o).run P w = r at *
    cases r with
    | ok n w' =>
      cases n <;> simp only [Oper.upon] at h ⊢
      case value => exact h
      case skip => exact h
      case defer => exact h
      case enter f args => exact h.mono fun e w'' he => by cases e <;> first | exact he | (obtain ⟨a0, w0, h2⟩ := he; exact ⟨a0, w0, h2⟩)
      case row => exact h
    | halt x w' => cases x <;> simp only [Oper.upon] at h ⊢; exact h
  · rename_i hw
    rw [if_neg hw] at h
    exact h
theorem tail_mid {kap : Nat} {rest : List Oper} {a : Act} {w : World} (hC : C w) (h : wpTail P ops Q C kap rest a w) : tailNext P ops Q C kap rest .normal a w := ⟨hC, h⟩
theorem tail_all {rest : List Oper} {a : Act} {w : World} (h : wpList P ops Q rest a w) : wpTail P ops Q C 0 rest a w := by cases rest <;> exact h
theorem tail_nil {kap : Nat} {a : Act} {w : World} (h : Q .normal a w) : wpTail P ops Q C kap [] a w := by cases kap <;> exact h

def seqT (md : Region.Mode) (ops : Array Oper) : List Nat → Array Bool → Bool
  | [], listed => (Region.ready md ops listed).isEmpty
  | k :: r, listed => decide (Region.ready md ops listed = [k]) && seqT md ops r (listed.setIfInBounds k true)
def pickIn (ops : Array Oper) : List Nat → List Oper
  | [] => []
  | k :: r => match ops[k]? with | some o => o :: pickIn ops r | none => pickIn ops r

theorem prog_le_set {L : Array Bool} {j : Nat} : ∀ {tl : List Nat}, prog tl L ≤ prog tl (L.setIfInBounds j true)
  | [] => Nat.le_refl _
  | x :: r => by
    have := prog_le_set (L := L) (j := j) (tl := r)
    simp only [prog]
    cases h1 : L.getD x false with
    | true => rw [getD_set_true h1]; simp only [if_true]; omega
    | false => simp only [Bool.false_eq_true, if_false, Nat.zero_add]; exact Nat.le_trans this (Nat.le_add_left _ _)
theorem prog_eq_set {L : Array Bool} {k : Nat} (h1 : L.getD k false = false) (h2 : (L.setIfInBounds k true).getD k false = true) : ∀ {tl : List Nat}, tl.Nodup → k ∈ tl → prog tl (L.setIfInBounds k true) = prog tl L + 1
  | x :: r, hn, hm => by
    obtain ⟨hn1, hn2⟩ := List.nodup_cons.1 hn
    simp only [prog]
    by_cases hx : x = k
    · subst hx
      rw [h1, h2, prog_set hn1]
      simp; omega
    · have hm' : k ∈ r := by cases hm with | head => exact absurd rfl hx | tail _ h => exact h
      have := prog_eq_set h1 h2 hn2 hm'
      rw [getD_set_ne false (Ne.symm hx)]
      omega

theorem tail_sound {tl : List Nat} (hndt : tl.Nodup) : ∀ (r : List Nat) (kap d : Nat) (listed : Array Bool) (a : Act) (w : World), (∀ k ∈ r, k < ops.size ∧ k ∈ tl ∧ listed.getD k true = false) → r.Nodup → (prog tl listed + d = kap ∨ (kap ≤ prog tl listed ∧ d = 0)) → seqT md ops r listed = true →
    wpTail P ops Q C d (pickIn ops r) a w → wpAnyK P md ops Q C tl kap r.length listed a w
  | [], kap, d, listed, a, w, _, _, _, hs, h => by
    simp only [seqT, List.isEmpty_iff] at hs
    refine ⟨hs, ?_⟩
    cases d <;> exact h
  | k :: r, kap, d, listed, a, w, hk, hnd, hp, hs, h => by
    simp only [seqT, Bool.and_eq_true, decide_eq_true_eq] at hs
    obtain ⟨hk1, hk2, hk3⟩ := hk k (by simp)
    have hnd' := List.nodup_cons.1 hnd
    have hko : ops[k]? = some ops[k] := Array.getElem?_eq_getElem hk1
    simp only [pickIn, hko] at h
    have hrest : ∀ k' ∈ r, k' < ops.size ∧ k' ∈ tl ∧ (listed.setIfInBounds k true).getD k' true = false := fun k' hk' => by
      obtain ⟨h1, h2, h3⟩ := hk k' (by simp [hk'])
      have hne : k ≠ k' := fun e => hnd'.1 (e ▸ hk')
      exact ⟨h1, h2, by rw [getD_set_ne true hne]; exact h3⟩
    have hks : k < listed.size := by
      rcases Nat.lt_or_ge k listed.size with h' | h'
      · exact h'
      · simp [Array.getElem?_eq_none h'] at hk3
    have hnew : (listed.setIfInBounds k true).getD k false = true := by simp [hks]
    have heq := prog_eq_set (getD_both hk3) hnew hndt hk2
    refine ⟨fun h1 => (by rw [hs.1] at h1; cases h1), fun i hi => ?_⟩
    rw [hs.1] at hi
    obtain rfl : i = k := by simpa using hi
    unfold wpOp
    simp only [hko]
    cases d with
    | zero =>
      have hw : wpOp P ops Q i (wpList P ops Q (pickIn ops r)) a w := by unfold wpOp; simp only [hko]; exact h
      have := wpOp_mono (K' := fun a' w' => (prog tl (listed.setIfInBounds i true) ≤ kap → C w') ∧ wpAnyK P md ops Q C tl kap r.length (listed.setIfInBounds i true) a' w') (fun a' w' h' =>
        ⟨fun hle => (by omega), tail_sound hndt r kap 0 _ a' w' hrest hnd'.2 (.inr ⟨by omega, rfl⟩) hs.2 (tail_all h')⟩) hw
      unfold wpOp at this
      simp only [hko] at this
      exact this
    | succ d =>
      have hw : wpOp P ops Q i (fun a' w' => C w' ∧ wpTail P ops Q C d (pickIn ops r) a' w') a w := by unfold wpOp; simp only [hko]; exact h
      have := wpOp_mono (K' := fun a' w' => (prog tl (listed.setIfInBounds i true) ≤ kap → C w') ∧ wpAnyK P md ops Q C tl kap r.length (listed.setIfInBounds i true) a' w') (fun a' w' h' =>
        ⟨fun _ => h'.1, tail_sound hndt r kap d _ a' w' hrest hnd'.2 (.inl (by omega)) hs.2 h'.2⟩) hw
      unfold wpOp at this
      simp only [hko] at this
      exact this

/-! ### The head -/
def headB (md : Region.Mode) (ops : Array Oper) (tl : List Nat) (kap : Nat) : List Nat → Array Bool → Bool
  | [], listed => seqT md ops tl listed
  | i :: r, listed => !(tl.contains i) && ((ops[i]?).map plainOp).getD false && (Region.ready md ops listed).contains i && Region.free md ops listed i && late md ops tl kap i && headB md ops tl kap r (listed.setIfInBounds i true)

theorem head_sound {tl : List Nat} {kap : Nat} {w : World} (hsel : Region.noSelect ops = true) (hC : C w) (hc : chain md ops tl = true) (hndt : tl.Nodup) (hin : ∀ k ∈ tl, k < ops.size)
    (hQ : ∀ c a d v w, Q (.panic c) (a.put d v) w → Q (.panic c) a w) : ∀ (hd : List Nat) (listed : Array Bool) (a : Act), Closed md ops listed → (∀ k ∈ tl, listed.getD k true = false) → prog tl listed = 0 →
    headB md ops tl kap hd listed = true → wpQuiet P ops C (fun a' => wpTail P ops Q C kap (pickIn ops tl) a' w) (pickIn ops hd) a → wpAnyK P md ops Q C tl kap (hd.length + tl.length) listed a w
  | [], listed, a, _, hun, hp, hB, h => by
    simp only [List.length_nil, Nat.zero_add]
    exact tail_sound hndt tl kap kap listed a w (fun k hk => ⟨hin k hk, hk, hun k hk⟩) hndt (.inl (by omega)) hB h
  | i :: r, listed, a, hcl, hun, hp, hB, h => by
    simp only [headB, Bool.and_eq_true, Bool.not_eq_true', List.contains_eq_mem, decide_eq_false_iff_not, decide_eq_true_eq] at hB
    obtain ⟨⟨⟨⟨⟨hit, hpl⟩, hr⟩, hf⟩, hl⟩, hB'⟩ := hB
    obtain ⟨oi, hoi, hpo⟩ : ∃ oi, ops[i]? = some oi ∧ plainOp oi = true := by
      cases ho : ops[i]? with
      | none => rw [ho] at hpl; cases hpl
      | some oi => rw [ho] at hpl; exact ⟨oi, rfl, hpl⟩
    simp only [pickIn, hoi] at h
    have hst : qOp P ops C i (wpQuiet P ops C (fun a' => wpTail P ops Q C kap (pickIn ops tl) a' w) (pickIn ops r)) a := by unfold qOp; simp only [hoi]; exact h
    obtain ⟨v, hy, hK⟩ := yieldsIn_of_qOp hoi hst
    have hy' : YieldsIf P ops C oi v a := by
      rcases hy with ⟨hw, hv⟩ | hy
      · exact plain_yields hpo hw hv
      · exact .inr hy
    have hrm : i ∈ Region.ready md ops listed := by simpa using hr
    rw [show (i :: r).length + tl.length = (r.length + tl.length) + 1 by simp; omega]
    refine first hoi (Region.noSelect_spec hsel) (fun c a w h => hQ c a _ _ w h) hit (fun L hL hLi => late_spec hc hl L hL hLi) _ listed a w hcl (Region.free_spec hoi hf) hrm hy' hC ?_
    refine head_sound hsel hC hc hndt hin hQ r _ _ (hcl.set hrm) (fun k hk => ?_) (by rw [prog_set hit]; exact hp) hB' hK
    have hne : i ≠ k := fun e => hit (e ▸ hk)
    rw [getD_set_ne true hne]
    exact hun k hk

def planB (md : Region.Mode) (ops : Array Oper) (hd tl : List Nat) (kap : Nat) : Bool :=
  Region.noSelect ops && chain md ops tl && decide tl.Nodup && tl.all (fun k => decide (k < ops.size)) && decide (hd.length + tl.length = ops.size) && headB md ops tl kap hd (Array.replicate ops.size false)

theorem wp_plan {id : Nat} {a : Act} {w : World} {l hdl tll : List Oper} (C : World → Prop) (hd tl : List Nat) (kap : Nat) (hm : P.follows .mixedOrders = true) (hB : planB .any l.toArray hd tl kap = true)
    (h1 : pickIn l.toArray hd = hdl) (h2 : pickIn l.toArray tl = tll)
    (hQ : ∀ c a d v w, Q (.panic c) (a.put d v) w → Q (.panic c) a w) (hC : C w.drew)
    (h : wpQuiet P l.toArray C (fun a' => wpTail P l.toArray Q C kap tll a' w.drew) hdl a) : (Code.region id l.toArray true).wp P Q a w := by
  simp only [planB, Bool.and_eq_true, decide_eq_true_eq, List.all_eq_true] at hB
  obtain ⟨⟨⟨⟨⟨hsel, hc⟩, hnd⟩, hin⟩, hlen⟩, hh⟩ := hB
  subst h1
  subst h2
  refine wp_region_any hm (wpAny_of_K (C := C) (tl := tl) (kap := kap) _ _ _ _ ?_)
  have := head_sound (md := .any) (ops := l.toArray) (P := P) (Q := Q) (C := C) (w := w.drew) hsel hC hc hnd (by simpa using hin) hQ hd (Array.replicate l.toArray.size false) a
    (fun j oj _ hl => (by rw [getD_replicate_false] at hl; cases hl)) (fun k hk => getD_in (by simpa using hin k hk) (getD_replicate_false _ _))
    (by
      have : ∀ tl : List Nat, prog tl (Array.replicate l.toArray.size false) = 0 := by
        intro tl
        induction tl with
        | nil => rfl
        | cons x r ih => rw [prog, getD_replicate_false, ih]; rfl
      exact this tl) hh h
  rw [hlen] at this
  exact this

/-- A world that meets S. -/
structure In (S : World → Prop) where
  w : World
  h : S w
/-- The same over a condition S: what is read ahead is read in whatever world meets S. -/
theorem wp_planS {id : Nat} {a : Act} {w : World} {l hdl tll : List Oper} (S : World → Prop) (hd tl : List Nat) (kap : Nat) (hm : P.follows .mixedOrders = true) (hB : planB .any l.toArray hd tl kap = true)
    (h1 : pickIn l.toArray hd = hdl) (h2 : pickIn l.toArray tl = tll)
    (hQ : ∀ c a d v w, Q (.panic c) (a.put d v) w → Q (.panic c) a w) (hS : S w.drew)
    (h : Nonempty (In S) → wpQuiet P l.toArray (fun w' => ∃ g : In S, w' = g.w) (fun a' => wpTail P l.toArray Q (fun w' => ∃ g : In S, w' = g.w) kap tll a' w.drew) hdl a) : (Code.region id l.toArray true).wp P Q a w :=
  wp_plan (fun w' => ∃ g : In S, w' = g.w) hd tl kap hm hB h1 h2 hQ ⟨⟨_, hS⟩, rfl⟩ (h ⟨⟨_, hS⟩⟩)
theorem tail_midS {S : World → Prop} {kap : Nat} {rest : List Oper} {a : Act} {w : World} (hS : S w) (h : wpTail P ops Q (fun w' => ∃ g : In S, w' = g.w) kap rest a w) : tailNext P ops Q (fun w' => ∃ g : In S, w' = g.w) kap rest .normal a w := ⟨⟨⟨_, hS⟩, rfl⟩, h⟩

/-- What is read ahead lies in 1 block. -/
theorem wp_plan1 {id : Nat} {a : Act} {w : World} {l hdl tll : List Oper} (B1 : Nat) (hd tl : List Nat) (kap : Nat) (hm : P.follows .mixedOrders = true) (hB : planB .any l.toArray hd tl kap = true)
    (h1 : pickIn l.toArray hd = hdl) (h2 : pickIn l.toArray tl = tll)
    (hQ : ∀ c a d v w, Q (.panic c) (a.put d v) w → Q (.panic c) a w)
    (h : ∀ S : World → Prop, Hid (∀ W, S W ↔ (W.heap[B1]? = w.heap[B1]?)) → Nonempty (In S) → (∀ (g : In S) (o : Nat), g.w.cell? ⟨B1, o, none⟩ = w.cell? ⟨B1, o, none⟩) → wpQuiet P l.toArray (fun w' => ∃ g : In S, w' = g.w) (fun a' => wpTail P l.toArray Q (fun w' => ∃ g : In S, w' = g.w) kap tll a' w.drew) hdl a) : (Code.region id l.toArray true).wp P Q a w := by
  have HS : ∀ W, (fun W : World => (W.heap[B1]? = w.heap[B1]?)) W ↔ (W.heap[B1]? = w.heap[B1]?) := fun _ => Iff.rfl
  generalize (fun W : World => (W.heap[B1]? = w.heap[B1]?)) = S at HS
  have h0 : S w.drew := (HS _).2 rfl
  exact wp_planS S hd tl kap hm hB h1 h2 hQ h0 fun hne => h S HS hne (fun g o => World.cell?_of_block (w := w) (a := ⟨B1, o, none⟩) ((HS g.w).1 g.h))

/-- What is read ahead lies in 2 blocks. -/
theorem wp_plan2 {id : Nat} {a : Act} {w : World} {l hdl tll : List Oper} (B1 B2 : Nat) (hd tl : List Nat) (kap : Nat) (hm : P.follows .mixedOrders = true) (hB : planB .any l.toArray hd tl kap = true)
    (h1 : pickIn l.toArray hd = hdl) (h2 : pickIn l.toArray tl = tll)
    (hQ : ∀ c a d v w, Q (.panic c) (a.put d v) w → Q (.panic c) a w)
    (h : ∀ S : World → Prop, Hid (∀ W, S W ↔ (W.heap[B1]? = w.heap[B1]? ∧ W.heap[B2]? = w.heap[B2]?)) → Nonempty (In S) → (∀ (g : In S) (o : Nat), g.w.cell? ⟨B1, o, none⟩ = w.cell? ⟨B1, o, none⟩) → (∀ (g : In S) (o : Nat), g.w.cell? ⟨B2, o, none⟩ = w.cell? ⟨B2, o, none⟩) → wpQuiet P l.toArray (fun w' => ∃ g : In S, w' = g.w) (fun a' => wpTail P l.toArray Q (fun w' => ∃ g : In S, w' = g.w) kap tll a' w.drew) hdl a) : (Code.region id l.toArray true).wp P Q a w := by
  have HS : ∀ W, (fun W : World => (W.heap[B1]? = w.heap[B1]? ∧ W.heap[B2]? = w.heap[B2]?)) W ↔ (W.heap[B1]? = w.heap[B1]? ∧ W.heap[B2]? = w.heap[B2]?) := fun _ => Iff.rfl
  generalize (fun W : World => (W.heap[B1]? = w.heap[B1]? ∧ W.heap[B2]? = w.heap[B2]?)) = S at HS
  have h0 : S w.drew := (HS _).2 ⟨rfl, rfl⟩
  exact wp_planS S hd tl kap hm hB h1 h2 hQ h0 fun hne => h S HS hne (fun g o => World.cell?_of_block (w := w) (a := ⟨B1, o, none⟩) ((HS g.w).1 g.h).1) (fun g o => World.cell?_of_block (w := w) (a := ⟨B2, o, none⟩) ((HS g.w).1 g.h).2)

/-- What is read ahead lies in 3 blocks. -/
theorem wp_plan3 {id : Nat} {a : Act} {w : World} {l hdl tll : List Oper} (B1 B2 B3 : Nat) (hd tl : List Nat) (kap : Nat) (hm : P.follows .mixedOrders = true) (hB : planB .any l.toArray hd tl kap = true)
    (h1 : pickIn l.toArray hd = hdl) (h2 : pickIn l.toArray tl = tll)
    (hQ : ∀ c a d v w, Q (.panic c) (a.put d v) w → Q (.panic c) a w)
    (h : ∀ S : World → Prop, Hid (∀ W, S W ↔ (W.heap[B1]? = w.heap[B1]? ∧ W.heap[B2]? = w.heap[B2]? ∧ W.heap[B3]? = w.heap[B3]?)) → Nonempty (In S) → (∀ (g : In S) (o : Nat), g.w.cell? ⟨B1, o, none⟩ = w.cell? ⟨B1, o, none⟩) → (∀ (g : In S) (o : Nat), g.w.cell? ⟨B2, o, none⟩ = w.cell? ⟨B2, o, none⟩) → (∀ (g : In S) (o : Nat), g.w.cell? ⟨B3, o, none⟩ = w.cell? ⟨B3, o, none⟩) → wpQuiet P l.toArray (fun w' => ∃ g : In S, w' = g.w) (fun a' => wpTail P l.toArray Q (fun w' => ∃ g : In S, w' = g.w) kap tll a' w.drew) hdl a) : (Code.region id l.toArray true).wp P Q a w := by
  have HS : ∀ W, (fun W : World => (W.heap[B1]? = w.heap[B1]? ∧ W.heap[B2]? = w.heap[B2]? ∧ W.heap[B3]? = w.heap[B3]?)) W ↔ (W.heap[B1]? = w.heap[B1]? ∧ W.heap[B2]? = w.heap[B2]? ∧ W.heap[B3]? = w.heap[B3]?) := fun _ => Iff.rfl
  generalize (fun W : World => (W.heap[B1]? = w.heap[B1]? ∧ W.heap[B2]? = w.heap[B2]? ∧ W.heap[B3]? = w.heap[B3]?)) = S at HS
  have h0 : S w.drew := (HS _).2 ⟨rfl, rfl, rfl⟩
  exact wp_planS S hd tl kap hm hB h1 h2 hQ h0 fun hne => h S HS hne (fun g o => World.cell?_of_block (w := w) (a := ⟨B1, o, none⟩) ((HS g.w).1 g.h).1) (fun g o => World.cell?_of_block (w := w) (a := ⟨B2, o, none⟩) ((HS g.w).1 g.h).2.1) (fun g o => World.cell?_of_block (w := w) (a := ⟨B3, o, none⟩) ((HS g.w).1 g.h).2.2)

/-- What is read ahead lies in 4 blocks. -/
theorem wp_plan4 {id : Nat} {a : Act} {w : World} {l hdl tll : List Oper} (B1 B2 B3 B4 : Nat) (hd tl : List Nat) (kap : Nat) (hm : P.follows .mixedOrders = true) (hB : planB .any l.toArray hd tl kap = true)
    (h1 : pickIn l.toArray hd = hdl) (h2 : pickIn l.toArray tl = tll)
    (hQ : ∀ c a d v w, Q (.panic c) (a.put d v) w → Q (.panic c) a w)
    (h : ∀ S : World → Prop, Hid (∀ W, S W ↔ (W.heap[B1]? = w.heap[B1]? ∧ W.heap[B2]? = w.heap[B2]? ∧ W.heap[B3]? = w.heap[B3]? ∧ W.heap[B4]? = w.heap[B4]?)) → Nonempty (In S) → (∀ (g : In S) (o : Nat), g.w.cell? ⟨B1, o, none⟩ = w.cell? ⟨B1, o, none⟩) → (∀ (g : In S) (o : Nat), g.w.cell? ⟨B2, o, none⟩ = w.cell? ⟨B2, o, none⟩) → (∀ (g : In S) (o : Nat), g.w.cell? ⟨B3, o, none⟩ = w.cell? ⟨B3, o, none⟩) → (∀ (g : In S) (o : Nat), g.w.cell? ⟨B4, o, none⟩ = w.cell? ⟨B4, o, none⟩) → wpQuiet P l.toArray (fun w' => ∃ g : In S, w' = g.w) (fun a' => wpTail P l.toArray Q (fun w' => ∃ g : In S, w' = g.w) kap tll a' w.drew) hdl a) : (Code.region id l.toArray true).wp P Q a w := by
  have HS : ∀ W, (fun W : World => (W.heap[B1]? = w.heap[B1]? ∧ W.heap[B2]? = w.heap[B2]? ∧ W.heap[B3]? = w.heap[B3]? ∧ W.heap[B4]? = w.heap[B4]?)) W ↔ (W.heap[B1]? = w.heap[B1]? ∧ W.heap[B2]? = w.heap[B2]? ∧ W.heap[B3]? = w.heap[B3]? ∧ W.heap[B4]? = w.heap[B4]?) := fun _ => Iff.rfl
  generalize (fun W : World => (W.heap[B1]? = w.heap[B1]? ∧ W.heap[B2]? = w.heap[B2]? ∧ W.heap[B3]? = w.heap[B3]? ∧ W.heap[B4]? = w.heap[B4]?)) = S at HS
  have h0 : S w.drew := (HS _).2 ⟨rfl, rfl, rfl, rfl⟩
  exact wp_planS S hd tl kap hm hB h1 h2 hQ h0 fun hne => h S HS hne (fun g o => World.cell?_of_block (w := w) (a := ⟨B1, o, none⟩) ((HS g.w).1 g.h).1) (fun g o => World.cell?_of_block (w := w) (a := ⟨B2, o, none⟩) ((HS g.w).1 g.h).2.1) (fun g o => World.cell?_of_block (w := w) (a := ⟨B3, o, none⟩) ((HS g.w).1 g.h).2.2.1) (fun g o => World.cell?_of_block (w := w) (a := ⟨B4, o, none⟩) ((HS g.w).1 g.h).2.2.2)
end
end Go.Proofs.YtgcpoppinnnciaaGreatDoor.Plan
/- A plan whose head is in two: what reads no memory may come up behind the tail's effects (it yields the same in every world); then what reads, as in Plan. -/
set_option linter.unusedVariables false
set_option linter.unusedSimpArgs false
namespace Go.Proofs.YtgcpoppinnnciaaGreatDoor.Plan
open Go Go.RowKit
section
variable {P : Program} {ops : Array Oper} {Q : Exit → Act → World → Prop} {md : Region.Mode} {C : World → Prop}
theorem K_of_any (hC : ∀ w, C w) {tl : List Nat} {kap : Nat} : ∀ (fuel : Nat) (listed : Array Bool) (a : Act) (w : World), wpAny P md ops Q fuel listed a w → wpAnyK P md ops Q C tl kap fuel listed a w
  | 0, _, _, _, h => h
  | fuel + 1, _, _, _, h => ⟨h.1, fun i hi => wpOp_mono (fun a' w' h' => ⟨fun _ => hC w', K_of_any hC fuel _ a' w' h'⟩) (h.2 i hi)⟩
def pureB (md : Region.Mode) (ops : Array Oper) (tl : List Nat) : List Nat → Array Bool → Bool
  | [], _ => true
  | i :: r, listed => !(tl.contains i) && ((ops[i]?).map plainOp).getD false && (Region.ready md ops listed).contains i && Region.free md ops listed i && pureB md ops tl r (listed.setIfInBounds i true)
def setAll (L : Array Bool) : List Nat → Array Bool
  | [] => L
  | i :: r => setAll (L.setIfInBounds i true) r
theorem pure_sound {tl : List Nat} (hsel : Region.noSelect ops = true) (hC : ∀ w, C w) (hQ : ∀ c a d v w, Q (.panic c) (a.put d v) w → Q (.panic c) a w) {w : World} {m : Nat} {K : Act → Prop} (hK : ∀ L a, Closed md ops L → L.size = ops.size → K a → L = L → True) :
    ∀ (hd : List Nat) (listed : Array Bool) (a : Act), Closed md ops listed → pureB md ops tl hd listed = true → wpQuiet P ops C K (pickIn ops hd) a →
      (∀ a', K a' → Closed md ops (setAll listed hd) → wpAny P md ops Q m (setAll listed hd) a' w) → wpAny P md ops Q (hd.length + m) listed a w
  | [], listed, a, hcl, _, h, hr => by
    simp only [List.length_nil, Nat.zero_add]
    exact hr a h hcl
  | i :: r, listed, a, hcl, hB, h, hr => by
    simp only [pureB, Bool.and_eq_true, Bool.not_eq_true', List.contains_eq_mem, decide_eq_false_iff_not, decide_eq_true_eq] at hB
    obtain ⟨⟨⟨⟨hit, hpl⟩, hrd⟩, hf⟩, hB'⟩ := hB
    obtain ⟨oi, hoi, hpo⟩ : ∃ oi, ops[i]? = some oi ∧ plainOp oi = true := by
      cases ho : ops[i]? with
      | none => rw [ho] at hpl; cases hpl
      | some oi => rw [ho] at hpl; exact ⟨oi, rfl, hpl⟩
    simp only [pickIn, hoi] at h
    have hst : qOp P ops C i (wpQuiet P ops C K (pickIn ops r)) a := by unfold qOp; simp only [hoi]; exact h
    obtain ⟨v, hy, hK'⟩ := yieldsIn_of_qOp hoi hst
    have hy' : YieldsIf P ops C oi v a := by
      rcases hy with ⟨hw, hv⟩ | hy
      · exact plain_yields hpo hw hv
      · exact .inr hy
    have hrm : i ∈ Region.ready md ops listed := by simpa using hrd
    rw [show (i :: r).length + m = (r.length + m) + 1 by simp; omega]
    refine wpAny_of_K (C := C) (tl := []) (kap := 0) _ _ _ _ (first hoi (Region.noSelect_spec hsel) (fun c a w h => hQ c a _ _ w h) (by simp) (fun L _ _ => Nat.le_refl 0) _ listed a w hcl (Region.free_spec hoi hf) hrm hy' (hC w) (K_of_any hC _ _ _ _ ?_))
    exact pure_sound hsel hC hQ hK r _ _ (hcl.set hrm) hB' hK' hr
def planPB (md : Region.Mode) (ops : Array Oper) (hp hd tl : List Nat) (kap : Nat) : Bool :=
  Region.noSelect ops && chain md ops tl && decide tl.Nodup && tl.all (fun k => decide (k < ops.size)) && decide (hp.length + (hd.length + tl.length) = ops.size) && pureB md ops tl hp (Array.replicate ops.size false) && headB md ops tl kap hd (setAll (Array.replicate ops.size false) hp)
    && tl.all (fun k => !((setAll (Array.replicate ops.size false) hp).getD k true)) && decide (prog tl (setAll (Array.replicate ops.size false) hp) = 0)
/-- What is read ahead in whatever world meets T; what reads no memory, in whatever world. -/
theorem wp_planP {id : Nat} {a : Act} {w : World} {l hpl hdl tll : List Oper} (T : World → Prop) (hp hd tl : List Nat) (kap : Nat) (hm : P.follows .mixedOrders = true) (hB : planPB .any l.toArray hp hd tl kap = true)
    (h0 : pickIn l.toArray hp = hpl) (h1 : pickIn l.toArray hd = hdl) (h2 : pickIn l.toArray tl = tll)
    (hQ : ∀ c a d v w, Q (.panic c) (a.put d v) w → Q (.panic c) a w) (hT : T w.drew)
    (h : ∀ S S0 : World → Prop, Hid (∀ W, S W ↔ T W) → Nonempty (In S) → Nonempty (In S0) → wpQuiet P l.toArray (fun w' => ∃ g : In S0, w' = g.w) (fun a1 => wpQuiet P l.toArray (fun w' => ∃ g : In S, w' = g.w) (fun a' => wpTail P l.toArray Q (fun w' => ∃ g : In S, w' = g.w) kap tll a' w.drew) hdl a1) hpl a) : (Code.region id l.toArray true).wp P Q a w := by
  simp only [planPB, Bool.and_eq_true, decide_eq_true_eq, List.all_eq_true, Bool.not_eq_true'] at hB
  obtain ⟨⟨⟨⟨⟨⟨⟨⟨hsel, hc⟩, hnd⟩, hin⟩, hlen⟩, hpu⟩, hh⟩, hun⟩, hpr⟩ := hB
  subst h0; subst h1; subst h2
  refine wp_region_any hm ?_
  have hstart : Closed .any l.toArray (Array.replicate l.toArray.size false) := fun j oj _ hl => by rw [getD_replicate_false] at hl; cases hl
  have hfin := pure_sound (md := .any) (ops := l.toArray) (P := P) (Q := Q) (C := fun w' => ∃ g : In (fun _ : World => True), w' = g.w) (w := w.drew) (m := hd.length + tl.length) hsel (fun w => ⟨⟨w, trivial⟩, rfl⟩) hQ (fun _ _ _ _ _ _ => trivial) hp (Array.replicate l.toArray.size false) a hstart hpu (h T (fun _ => True) (fun _ => Iff.rfl) ⟨⟨_, hT⟩⟩ ⟨⟨w, trivial⟩⟩)
  rw [hlen] at hfin
  refine hfin ?_
  intro a' hK hcl
  refine wpAny_of_K (C := fun w' => ∃ g : In T, w' = g.w) (tl := tl) (kap := kap) _ _ _ _ ?_
  exact head_sound (w := w.drew) hsel ⟨⟨_, hT⟩, rfl⟩ hc hnd (by simpa using hin) hQ hd _ a' hcl hun hpr hh hK
end
end Go.Proofs.YtgcpoppinnnciaaGreatDoor.Plan
