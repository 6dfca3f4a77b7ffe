/-
  The letters under way of net.go: what each call does to them.
-/
import Derived.Test.YtmffpeblcaalgaaNMap
import Derived.Deep.QuietTactic
import Derived.BigQuiet
import Derived.StillTailTactics
import Derived.Deep.OwnRows
set_option linter.unusedVariables false
set_option linter.unusedSimpArgs false
namespace Go.Proofs.Ytmffpeblcaalgaa
open Go Go.RowKit Go.Proofs.Ytmffpeblcaalgaa.Pal Go.Proofs.Ytmffpeblcaalgaa.Plan

/-- A letter under way. -/
structure Ltr where
  src : Nat
  dst : Nat
  txt : ByteArray
def Ltr.cells (x : Ltr) : List Value := [.int .i64 (x.src : Int), .int .i64 (x.dst : Int), .string x.txt]
def Ltr.val (x : Ltr) : Value := .agg #[.int .i64 (x.src : Int), .int .i64 (x.dst : Int), .string x.txt]
def lcells (l : List Ltr) : List Value := l.flatMap Ltr.cells
def zltr : Value := .agg #[.int .i64 0, .int .i64 0, .string ⟨#[]⟩]
theorem lcells_len (l : List Ltr) : (lcells l).length = l.length * 3 := by
  induction l with
  | nil => rfl
  | cons x l ih => simp only [lcells, List.flatMap_cons, List.length_append, List.length_cons] at ih ⊢; rw [ih]; simp [Ltr.cells]; omega
theorem lcells_append (l m : List Ltr) : lcells (l ++ m) = lcells l ++ lcells m := List.flatMap_append
theorem lcells_get : ∀ (l : List Ltr) (i : Nat) (x : Ltr) (j : Nat) (u : Value), l[i]? = some x → x.cells[j]? = some u → (lcells l)[i * 3 + j]? = some u
  | [], _, _, _, _, h, _ => by simp at h
  | y :: l, i, x, j, u, h, hu => by
    have hj : j < 3 := (List.getElem?_eq_some_iff.1 hu).1
    show (y.cells ++ lcells l)[i * 3 + j]? = some u
    cases i with
    | zero =>
      simp only [List.getElem?_cons_zero, Option.some.injEq] at h
      subst h
      rw [List.getElem?_append_left (by simp [Ltr.cells]; omega)]
      simpa using hu
    | succ i =>
      simp only [List.getElem?_cons_succ] at h
      rw [List.getElem?_append_right (by simp [Ltr.cells]; omega)]
      rw [show (i + 1) * 3 + j - y.cells.length = i * 3 + j by simp [Ltr.cells]; omega]
      exact lcells_get l i x j u h hu
theorem info_ltr : (Try.prog.info? 47).map (fun i => (i.zero, i.size, i.bytes)) = some (some zltr, 3, 32) := by kernel_rfl

structure Nt (w : World) (N K : Nat) (v : Value) (nodes : Nat) (l : List Ltr) (c : Nat → Nat → Bool) : Prop where
  hN : w.heap[N]? = some (.cells #[.int .i64 (nodes : Int), v, .map (some K)] 71 (0, 0))
  row : Row w 47 3 v l.length (lcells l)
  map : Cm w K c
def nfoot (N K : Nat) (v : Value) : Nat → Prop := fun k => k = N ∨ k = K ∨ v.ownBlock = some k
section
variable {w w1 : World} {N K nodes : Nat} {v : Value} {l : List Ltr} {c : Nat → Nat → Bool} {X : Nat → Prop}
theorem Nt.KN (h : Nt w N K v nodes l c) : K ≠ N := fun e => by
  obtain ⟨es, clock, h1, _⟩ := h.map
  rw [e, h.hN] at h1; cases h1
theorem Nt.vN (h : Nt w N K v nodes l c) {k : Nat} (hk : v.ownBlock = some k) : k ≠ N ∧ k ≠ K := by
  obtain ⟨cur, hc⟩ := h.row.blk hk
  refine ⟨fun e => ?_, fun e => ?_⟩
  · rw [e, h.hN] at hc; injection hc with hc; injection hc with _ h2; exact absurd h2 (by decide)
  · obtain ⟨es, clock, h1, _⟩ := h.map
    rw [e, h1] at hc; cases hc
theorem Nt.unch (h : Nt w N K v nodes l c) (hu : Unch X w w1) (hX : ∀ k, nfoot N K v k → ¬ X k) : Nt w1 N K v nodes l c :=
  ⟨hu.heap h.hN (hX _ (.inl rfl)), h.row.unch hu (fun k hk => hX k (.inr (.inr hk))), h.map.unch hu (hX _ (.inr (.inl rfl)))⟩
theorem Nt.lt (h : Nt w N K v nodes l c) {k : Nat} (hk : nfoot N K v k) : k < w.heap.size := by
  rcases hk with rfl | rfl | hk
  · exact lt_of_heap h.hN
  · exact h.map.lt
  · obtain ⟨cur, hc⟩ := h.row.blk hk; exact lt_of_heap hc
theorem Nt.fresh (h : Nt w N K v nodes l c) (hu : Unch none_ w w1) : Nt w1 N K v nodes l c := h.unch hu (fun _ _ h => h)
end

/-! ### two -/
def isTwo (nodes : Nat) (a b : Int) : Bool := decide (a ≠ b ∧ 0 ≤ a ∧ 0 ≤ b ∧ a < nodes ∧ b < nodes)
theorem two_nil (a b : Int) (w : World) :
    Calls Try.prog 28 #[.pointer none, .int .i64 a, .int .i64 b] w fun e w' => e = .returned (.bool false) ∧ w = w' := by
  go_enter Try.func28, Try.ntmps28
  go_wp2
  go_ret
  exact ⟨rfl, rfl⟩
set_option maxHeartbeats 400000 in
theorem two_ok {w : World} {N nodes : Nat} (c0 : w.cell? ⟨N, 0, none⟩ = some (.int .i64 (nodes : Int))) (a b : Int) :
    Calls Try.prog 28 #[.pointer (some ⟨N, 0, none⟩), .int .i64 a, .int .i64 b] w fun e w' => e = .returned (.bool (isTwo nodes a b)) ∧ w = w' := by
  by_cases h1 : a = b
  · have e : isTwo nodes a b = false := by simp [isTwo, h1]
    rw [e]
    subst h1
    go_enter Try.func28, Try.ntmps28
    go_wp2
    go_ret
    exact ⟨rfl, rfl⟩
  · have g1 : (a != b) = true := by simpa using h1
    go_enter Try.func28, Try.ntmps28
    go_wp2
    all_goals
      go_ret
      refine ⟨congrArg (fun b => Ending.returned (.bool b)) ?_, rfl⟩
      first | exact decide_eq_decide.2 (by omega) | (symm; exact decide_eq_false (by omega)) | (symm; exact decide_eq_true (by omega))

/-! ### Results that lie in memory -/
section
variable {P : Program}
theorem results_ct {fn : Func} {p u : Tmp} {ty : TypeId} (h : fn.results = #[.cell p ty, .tmp u]) (tmps : Array Value) (w : World) (g : Nat) (t : TypeId) (cs : Array Value) (fr : Nat × Nat) (d : TypeDesc)
    (hp : tmps.getD p undef = .pointer (some ⟨g, 0, none⟩)) (hg : w.heap[g]? = some (.cells cs t fr))
    (hu : P.underlying ty = some d) (hd : (match d with | .struct _ | .array _ _ => true | _ => false) = true) (hi : (P.info? ty).map (·.size) = some cs.size) :
    (results fn tmps).run P w = .ok (.tuple #[.agg cs, tmps.getD u undef]) w := by
  have hp' : tmps[p]?.getD undef = .pointer (some ⟨g, 0, none⟩) := by simpa using hp
  simp [results, h, hp', asAddr, run_loadVar_row w g t ty cs fr d hg hu hd hi]
theorem results_ctt {fn : Func} {p u v : Tmp} {ty : TypeId} (h : fn.results = #[.cell p ty, .tmp u, .tmp v]) (tmps : Array Value) (w : World) (g : Nat) (t : TypeId) (cs : Array Value) (fr : Nat × Nat) (d : TypeDesc)
    (hp : tmps.getD p undef = .pointer (some ⟨g, 0, none⟩)) (hg : w.heap[g]? = some (.cells cs t fr))
    (hu : P.underlying ty = some d) (hd : (match d with | .struct _ | .array _ _ => true | _ => false) = true) (hi : (P.info? ty).map (·.size) = some cs.size) :
    (results fn tmps).run P w = .ok (.tuple #[.agg cs, tmps.getD u undef, tmps.getD v undef]) w := by
  have hp' : tmps[p]?.getD undef = .pointer (some ⟨g, 0, none⟩) := by simpa using hp
  simp [results, h, hp', asAddr, run_loadVar_row w g t ty cs fr d hg hu hd hi]
end

/-! ### New, Len -/
theorem new_bad (n : Int) (h : n < 1 ∨ 5 < n) (w : World) :
    Calls Try.prog 17 #[.int .i64 n] w fun e w' => e = .returned (.pointer none) ∧ w = w' := by
  by_cases h1 : n < 1
  · go_enter Try.func17, Try.ntmps17
    go_wp2
    go_ret
    exact ⟨rfl, rfl⟩
  · have h2 : 5 < n := by omega
    go_enter Try.func17, Try.ntmps17
    go_wp2
    go_ret
    exact ⟨rfl, rfl⟩
def NewNt (w : World) (n : Nat) (e : Ending) (w' : World) : Prop :=
  ∃ N K, e = .returned (.pointer (some ⟨N, 0, none⟩)) ∧ Nt w' N K (.slice none 0 0) n [] (fun _ _ => false) ∧ Unch none_ w w' ∧ w.heap.size ≤ N ∧ w.heap.size ≤ K
theorem new_ok (n : Nat) (h1 : 1 ≤ n) (h2 : n ≤ 5) (w : World) :
    Calls Try.prog 17 #[.int .i64 (n : Int)] w (NewNt w n) := by
  have hmm := @run_makeMap Try.prog
  have g1 : ¬ ((n : Int) < 1) := by omega
  have g2 : ¬ (5 < (n : Int)) := by omega
  go_enter Try.func17, Try.ntmps17
  go_wp2
  go_ret
  unfold NewNt
  refine ⟨_, w.heap.size, rfl, ⟨?_, Row.nil _ _ _, ?_⟩, ((Unch.refl _ _).alloc _).alloc _, ?_, Nat.le_refl _⟩
  · have := blk_new (w.alloc (.map #[] 0)) (.cells #[.int .i64 (n : Int), .slice none 0 0, .map (some w.heap.size)] 71)
    simpa using this
  · exact (Cm.made w).unch ((Unch.refl none_ _).alloc _) (fun h => h)
  · simp
theorem nlen_nil (w : World) :
    Calls Try.prog 20 #[.pointer none] w fun e w' => e = .returned (.int .i64 0) ∧ w = w' := by
  go_enter Try.func20, Try.ntmps20
  go_wp2
  go_ret
  exact ⟨rfl, rfl⟩
theorem nlen_ok {w : World} {N K nodes : Nat} {v : Value} {l : List Ltr} {c : Nat → Nat → Bool} (h : Nt w N K v nodes l c) (m : Nat) (hm : l.length = m) :
    Calls Try.prog 20 #[.pointer (some ⟨N, 0, none⟩)] w fun e w' => e = .returned (.int .i64 (m : Int)) ∧ w = w' := by
  have c1 := blk_cell h.hN (j := 1) rfl
  obtain ⟨A, cp, hv, hlc⟩ := h.row.slice
  rw [hv, hm] at c1
  go_enter Try.func20, Try.ntmps20
  go_wp2
  go_ret
  exact ⟨rfl, rfl⟩

/-! ### Peek -/
def Peeked (w : World) (t : Value) (b : Bool) (e : Ending) (w' : World) : Prop := e = .returned (.tuple #[t, .bool b]) ∧ Unch none_ w w'
theorem npeek_neg (P : Option Addr) (i : Int) (h : i < 0) (w : World) :
    Calls Try.prog 25 #[.pointer P, .int .i64 i] w (Peeked w zltr false) := by
  go_enter Try.func25, Try.ntmps25
  go_wp2
  refine bodyPost_ret (results_ct rfl _ _ w.heap.size _ _ _ _ rfl (blk_new _ _) Try.underlying47 rfl (by kernel_rfl)) rfl ?_
  exact ⟨rfl, (Unch.refl _ _).alloc _⟩
theorem npeek_nil (i : Int) (w : World) :
    Calls Try.prog 25 #[.pointer none, .int .i64 i] w (Peeked w zltr false) := by
  by_cases h : i < 0
  · exact npeek_neg _ i h w
  · have h1 : 0 ≤ i := by omega
    go_enter Try.func25, Try.ntmps25
    go_wp2_with fail
    refine (nlen_nil _).mono ?_
    rintro e w1 ⟨rfl, rfl⟩
    go_wp2
    refine bodyPost_ret (results_ct rfl _ _ w.heap.size _ _ _ _ rfl (blk_new _ _) Try.underlying47 rfl (by kernel_rfl)) rfl ?_
    exact ⟨rfl, (Unch.refl _ _).alloc _⟩
section
variable {w : World} {N K nodes : Nat} {v : Value} {l : List Ltr} {c : Nat → Nat → Bool}
theorem npeek_out (h : Nt w N K v nodes l c) (i : Int) (hi : i < 0 ∨ (l.length : Int) ≤ i) :
    Calls Try.prog 25 #[.pointer (some ⟨N, 0, none⟩), .int .i64 i] w (Peeked w zltr false) := by
  by_cases h0 : i < 0
  · exact npeek_neg _ i h0 w
  · have h1 : 0 ≤ i := by omega
    obtain ⟨m, Hm⟩ : ∃ m, l.length = m := ⟨_, rfl⟩
    have h2 : (m : Int) ≤ i := by omega
    go_enter Try.func25, Try.ntmps25
    go_wp2_with fail
    refine (nlen_ok (h.fresh ((Unch.refl _ _).alloc _)) m Hm).mono ?_
    rintro e w1 ⟨rfl, rfl⟩
    go_wp2
    refine bodyPost_ret (results_ct rfl _ _ w.heap.size _ _ _ _ rfl (blk_new _ _) Try.underlying47 rfl (by kernel_rfl)) rfl ?_
    exact ⟨rfl, (Unch.refl _ _).alloc _⟩
theorem Nt.ltr (h : Nt w N K v nodes l c) {i : Nat} {x : Ltr} (hx : l[i]? = some x) {m : Nat} (hm : l.length = m) :
    ∃ g o cap, v = .slice (some ⟨g, o, none⟩) m cap ∧ m ≤ cap ∧ g < w.heap.size ∧ w.cell? ⟨g, o + i * 3, none⟩ = some (.int .i64 (x.src : Int)) ∧ w.cell? ⟨g, o + i * 3 + 1, none⟩ = some (.int .i64 (x.dst : Int)) ∧ w.cell? ⟨g, o + i * 3 + 2, none⟩ = some (.string x.txt) := by
  have hl : 0 < l.length := by have := (List.getElem?_eq_some_iff.1 hx).1; omega
  obtain ⟨g, o, cap, cur, hv, hh, hn, _, _⟩ := h.row.form hl
  have hc := fun j u hu => h.row.at hv (lcells_get l i x j u hx hu)
  refine ⟨g, o, cap, by rw [hv, hm], by omega, lt_of_heap hh, hc 0 _ rfl, ?_, ?_⟩
  · have := hc 1 _ rfl; rwa [← Nat.add_assoc] at this
  · have := hc 2 _ rfl; rwa [← Nat.add_assoc] at this
theorem npeek_ok (h : Nt w N K v nodes l c) (i : Nat) (x : Ltr) (hx : l[i]? = some x) :
    Calls Try.prog 25 #[.pointer (some ⟨N, 0, none⟩), .int .i64 (i : Int)] w (Peeked w x.val true) := by
  obtain ⟨m, Hm⟩ : ∃ m, l.length = m := ⟨_, rfl⟩
  have him : i < m := by have := (List.getElem?_eq_some_iff.1 hx).1; omega
  obtain ⟨g, o, cap, hv, hmc, hg, d0, d1, d2⟩ := h.ltr hx Hm
  have c1 := blk_cell h.hN (j := 1) rfl
  rw [hv] at c1
  have i1 : ¬ ((i : Int) < 0) := by omega
  have i2 : ((m : Int) ≤ (i : Int)) = False := by simp; omega
  have i3 : (0 : Int) ≤ (i : Int) := by omega
  have i4 : (i : Int) < (m : Int) := by omega
  have hH := h.fresh ((Unch.refl none_ w).alloc (.cells #[.int .i64 0, .int .i64 0, .string ⟨#[]⟩] 47))
  have HX := Lib.hid hx
  have hNl := lt_of_heap h.hN
  clear h hv hx
  go_enter Try.func25, Try.ntmps25
  go_wp2_with fail
  refine (nlen_ok hH m Hm).mono ?_
  rintro e w1 ⟨rfl, rfl⟩
  go_wp2
  trace_state
  refine bodyPost_ret (results_ct rfl _ _ w.heap.size _ _ _ _ rfl (blk_new _ _) Try.underlying47 rfl (by kernel_rfl)) rfl ?_
  exact ⟨rfl, (Unch.refl _ _).alloc _⟩
end
end Go.Proofs.Ytmffpeblcaalgaa
