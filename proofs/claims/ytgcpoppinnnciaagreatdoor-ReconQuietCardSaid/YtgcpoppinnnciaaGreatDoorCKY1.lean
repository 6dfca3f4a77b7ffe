/-
  sync.Once, sync.Mutex, sync/atomic in one goroutine: the parts.
  sync.Once: Do.
-/
import Derived.Test.YtgcpoppinnnciaaGreatDoorCBase
import Derived.Test.YtgcpoppinnnciaaGreatDoorRows
import Derived.Defers
import Derived.Laws.Pointers
import Derived.Laws.LoneSync
import Derived.RegionTactic
import Derived.RegionCalls
import Derived.Laws.NewBlocks
import Derived.Deep.Cut
/- sync.Once, sync.Mutex, sync/atomic in one goroutine: the parts. -/
set_option linter.unusedVariables false
set_option linter.unusedSimpArgs false
set_option maxRecDepth 100000
namespace Go.Proofs.YtgcpoppinnnciaaGreatDoor
open Go Go.RowKit Go.Proofs.YtgcpoppinnnciaaGreatDoor.Pal

theorem so_disable (w : World) : (callFunc 184 #[]).run Tryz.prog w = .ok (.value (.tuple #[])) w := run_call_mark0 Tryz.func184 (by kernel_rfl) (by kernel_rfl) (by kernel_rfl) .disable (by kernel_rfl) w
theorem so_enable (w : World) : (callFunc 185 #[]).run Tryz.prog w = .ok (.value (.tuple #[])) w := run_call_mark0 Tryz.func185 (by kernel_rfl) (by kernel_rfl) (by kernel_rfl) .enable (by kernel_rfl) w
theorem so_acquire (a : Addr) (w : World) : (callFunc 186 #[.pointer (some a)]).run Tryz.prog w = .ok (.value (.tuple #[])) w := run_call_marked Tryz.func186 (by kernel_rfl) (by kernel_rfl) (by kernel_rfl) .acquire (by kernel_rfl) a w
theorem so_merge (a : Addr) (w : World) : (callFunc 188 #[.pointer (some a)]).run Tryz.prog w = .ok (.value (.tuple #[])) w := run_call_marked Tryz.func188 (by kernel_rfl) (by kernel_rfl) (by kernel_rfl) .releaseMerge (by kernel_rfl) a w
theorem boolStore_deferred (a : Addr) (x : Value) (u : FrameMode) (w : World) (hc : w.cell? a = some x) (hz : w.frozen? a = false) :
    CallsD Tryz.prog 148 #[.pointer (some a), .bool true] u w fun e u' w' => u' = u ∧ (e = .returned (.tuple #[]) ∧ w' = w.drew.setCell a (.int .u32 1)) := by
  have hc' : w.drew.cell? a = some x := by go_simp
  have hz' : w.drew.frozen? a = false := by go_simp
  have hst := run_call_store (P := Tryz.prog) Tryz.func176 (by kernel_rfl) (by kernel_rfl) (by kernel_rfl) (by kernel_rfl) (k := .u32) (y := 1) hc' hz'
  go_enter_d Tryz.func148, Tryz.ntmps148
  go_wp2
  go_region_calls
  all_goals (go_end0; exact ⟨rfl, rfl⟩)
theorem unlock_deferred (a : Addr) (u : FrameMode) (w : World) (hc : w.cell? a = some (.int .i32 1)) (hz : w.frozen? a = false) :
    CallsD Tryz.prog 147 #[.pointer (some a)] u w fun e u' w' => u' = u ∧ (e = .returned (.tuple #[]) ∧ w' = w.setCell a (.int .i32 0)) := by
  have hd := so_disable
  have he := so_enable
  have hr := so_merge
  have hadd := run_call_add (P := Tryz.prog) Tryz.func189 (by kernel_rfl) (by kernel_rfl) (by kernel_rfl) .i32 (by kernel_rfl) (y := -1) (s := 0) hc hz (by simp [go_sem]; rfl)
  have hcv := run_convert_to_unsafe (P := Tryz.prog) (src := 247) (dst := 223) Tryz.underlying247 Tryz.underlying223 (by kernel_rfl) hc
  go_enter_d Tryz.func147, Tryz.ntmps147
  go_wp2
  go_end0
  go_wp2
  go_end0
  exact ⟨rfl, rfl⟩
theorem lock_free (a : Addr) (w : World) (hc : w.cell? a = some (.int .i32 0)) (hz : w.frozen? a = false) :
    Calls Tryz.prog 146 #[.pointer (some a)] w fun e w' => e = .returned (.tuple #[]) ∧ w' = w.setCell a (.int .i32 1) := by
  have hd := so_disable
  have he := so_enable
  have ha := so_acquire
  have hcas := run_call_cas_hit (P := Tryz.prog) Tryz.func153 (by kernel_rfl) (by kernel_rfl) (by kernel_rfl) .i32 (by kernel_rfl) (y := 1) hc hz
  have hc' : (w.setCell a (.int .i32 1)).cell? a = some (.int .i32 1) := World.cell?_setCell_same w a _ hc
  have hcv := run_convert_to_unsafe (P := Tryz.prog) (src := 247) (dst := 223) Tryz.underlying247 Tryz.underlying223 (by kernel_rfl) hc'
  go_enter Tryz.func146, Tryz.ntmps146
  go_wp2
  first | go_end0 | (simp only [Exit.inBlock, Exit.then]; refine bodyPost_ret (results_none rfl _ _ _) rfl ?_) | refine bodyPost_ret (results_none rfl _ _ _) rfl ?_
  go_wp2
  go_end0
  exact ⟨rfl, rfl⟩
/-- (*atomic.Int32).Store. -/
theorem i32Store_ok (b o : Nat) (x : Value) (y : Int) (w : World) (hc : w.cell? ⟨b, o, none⟩ = some x) (hz : w.frozen? ⟨b, o, none⟩ = false) :
    Calls Tryz.prog 41 #[.pointer (some ⟨b, o, none⟩), .int .i32 y] w fun e w' => e = .returned (.tuple #[]) ∧ w' = w.setCell ⟨b, o, none⟩ (.int .i32 y) := by
  have hst := run_call_store (P := Tryz.prog) Tryz.func68 (by kernel_rfl) (by kernel_rfl) (by kernel_rfl) (by kernel_rfl) (k := .i32) (y := y) hc hz
  go_enter Tryz.func41, Tryz.ntmps41
  go_wp2
  go_end0
  exact ⟨rfl, rfl⟩
theorem i32Load_ok (b o : Nat) (x : Int) (w : World) (hc : w.cell? ⟨b, o, none⟩ = some (.int .i32 x)) :
    Calls Tryz.prog 108 #[.pointer (some ⟨b, o, none⟩)] w fun e w' => e = .returned (.int .i32 x) ∧ w' = w := by
  have hl := run_call_load (P := Tryz.prog) Tryz.func152 (by kernel_rfl) (by kernel_rfl) (by kernel_rfl) .i32 (by kernel_rfl) hc
  go_enter Tryz.func108, Tryz.ntmps108
  go_wp2
  go_ret
  exact ⟨rfl, rfl⟩
theorem i32Cas_ok (b o : Nat) (x y : Int) (w : World) (hc : w.cell? ⟨b, o, none⟩ = some (.int .i32 x)) (hz : w.frozen? ⟨b, o, none⟩ = false) :
    Calls Tryz.prog 109 #[.pointer (some ⟨b, o, none⟩), .int .i32 x, .int .i32 y] w fun e w' => e = .returned (.bool true) ∧ w' = w.setCell ⟨b, o, none⟩ (.int .i32 y) := by
  have hcas := run_call_cas_hit (P := Tryz.prog) Tryz.func153 (by kernel_rfl) (by kernel_rfl) (by kernel_rfl) .i32 (by kernel_rfl) (y := y) hc hz
  go_enter Tryz.func109, Tryz.ntmps109
  go_wp2
  go_ret
  exact ⟨rfl, rfl⟩
end Go.Proofs.YtgcpoppinnnciaaGreatDoor
/- sync.Once: Do. -/
set_option linter.unusedVariables false
set_option linter.unusedSimpArgs false
set_option maxRecDepth 100000
namespace Go.Proofs.YtgcpoppinnnciaaGreatDoor
open Go Go.RowKit Go.Proofs.YtgcpoppinnnciaaGreatDoor.Pal

theorem so_not : ∀ (x : Bool) (w : World), (Op.unary .not (.bool x)).run Tryz.prog w = .ok (.bool (!x)) w := fun _ _ => rfl
/-- What the function that is done once asks, and leaves. -/
structure OnceF (b o : Nat) (R : World → Prop) : Prop where
  done : ∀ W, R W → W.cell? ⟨b, o, none⟩ = some (.int .u32 0)
  lock : ∀ W, R W → W.cell? ⟨b, o + 1, none⟩ = some (.int .i32 1)
  free : ∀ W, R W → ∀ j, W.frozen? ⟨b, j, none⟩ = false
set_option maxHeartbeats 1600000 in
theorem slow_ok (b o g : Nat) (F C : Array Value) (eg : ∀ args w, (callFunc g args).run Tryz.prog w = .ok (.enter g args) w) (R : World → Prop) (hR : OnceF b o R) (w : World)
    (h0 : w.cell? ⟨b, o, none⟩ = some (.int .u32 0)) (h1 : w.cell? ⟨b, o + 1, none⟩ = some (.int .i32 0)) (f0 : ∀ j, w.frozen? ⟨b, j, none⟩ = false)
    (hf : Calls Tryz.prog g (F ++ C) (w.setCell ⟨b, o + 1, none⟩ (.int .i32 1)) fun e W => e = .returned (.tuple #[]) ∧ R W) :
    Calls Tryz.prog 105 #[.pointer (some ⟨b, o, none⟩), .func (.func g) F C] w fun e w' => e = .returned (.tuple #[]) ∧ ∃ W, R W ∧ w' = (W.drew.setCell ⟨b, o, none⟩ (.int .u32 1)).setCell ⟨b, o + 1, none⟩ (.int .i32 0) := by
  have hl := run_call_load (P := Tryz.prog) Tryz.func145 (by kernel_rfl) (by kernel_rfl) (by kernel_rfl) .u32 (by kernel_rfl) (w := w.setCell ⟨b, o + 1, none⟩ (.int .i32 1)) (a := ⟨b, o, none⟩) (x := 0) ((World.cell?_setCell_other _ ⟨b, o + 1, none⟩ ⟨b, o, none⟩ _ (by simp)).trans h0)
  have hnot := so_not
  have f1 := f0 (o + 1)
  go_enter_defers Tryz.func105, Tryz.ntmps105
  go_wp2_with (first
    | (go_at_call 146; refine (lock_free ⟨b, o + 1, none⟩ _ h1 f1).mono ?_; rintro e w' ⟨rfl, rfl⟩)
    | (go_at_call 104; go_in)
    | ((with_reducible refine hf.mono ?_); rintro _ W ⟨rfl, hRW⟩))
  refine leaves_cons (f := 148) (args := #[.pointer (some ⟨b, o, none⟩), .bool true]) (by simp) (by simp [go_sem]) ?_
  refine (boolStore_deferred ⟨b, o, none⟩ (.int .u32 0) _ _ (hR.done W hRW) (hR.free W hRW o)).mono ?_
  rintro e u' w'' ⟨rfl, rfl, rfl⟩
  refine leaves_cons (f := 147) (args := #[.pointer (some ⟨b, o + 1, none⟩)]) (by simp [settle]) (by simp [go_sem]) ?_
  refine (unlock_deferred ⟨b, o + 1, none⟩ _ _ ?_ (by simp [hR.free W hRW (o + 1)])).mono ?_
  · refine (World.cell?_setCell_other _ ⟨b, o, none⟩ ⟨b, o + 1, none⟩ _ (by simp)).trans ?_
    rw [World.cell?_drew]
    exact hR.lock W hRW
  rintro e u' w'' ⟨rfl, rfl, rfl⟩
  simp [Leaves, settle, results, Tryz.results105]
  exact ⟨W, hRW, rfl⟩
/-- Do, not yet done, the lock free. -/
theorem do_ok (b o g : Nat) (F C : Array Value) (eg : ∀ args w, (callFunc g args).run Tryz.prog w = .ok (.enter g args) w) (R : World → Prop) (hR : OnceF b o R) (w : World)
    (h0 : w.cell? ⟨b, o, none⟩ = some (.int .u32 0)) (h1 : w.cell? ⟨b, o + 1, none⟩ = some (.int .i32 0)) (f0 : ∀ j, w.frozen? ⟨b, j, none⟩ = false)
    (hf : Calls Tryz.prog g (F ++ C) (w.setCell ⟨b, o + 1, none⟩ (.int .i32 1)) fun e W => e = .returned (.tuple #[]) ∧ R W) :
    Calls Tryz.prog 71 #[.pointer (some ⟨b, o, none⟩), .func (.func g) F C] w fun e w' => e = .returned (.tuple #[]) ∧ ∃ W, R W ∧ w' = (W.drew.setCell ⟨b, o, none⟩ (.int .u32 1)).setCell ⟨b, o + 1, none⟩ (.int .i32 0) := by
  have hl := run_call_load (P := Tryz.prog) Tryz.func145 (by kernel_rfl) (by kernel_rfl) (by kernel_rfl) .u32 (by kernel_rfl) h0
  have hnot := so_not
  go_enter Tryz.func71, Tryz.ntmps71
  go_wp2_with (first
    | (go_at_call 105; refine (slow_ok b o g F C eg R hR _ h0 h1 f0 hf).mono ?_; rintro e w' ⟨rfl, hw'⟩)
    | (go_at_call 104; go_in))
  go_end0
  exact ⟨rfl, hw'⟩
/-- Do, done already. -/
theorem do_done (b o : Nat) (fv : Value) (w : World) (h0 : w.cell? ⟨b, o, none⟩ = some (.int .u32 1)) :
    Calls Tryz.prog 71 #[.pointer (some ⟨b, o, none⟩), fv] w fun e w' => e = .returned (.tuple #[]) ∧ w' = w := by
  have hl := run_call_load (P := Tryz.prog) Tryz.func145 (by kernel_rfl) (by kernel_rfl) (by kernel_rfl) .u32 (by kernel_rfl) h0
  have hnot := so_not
  go_enter Tryz.func71, Tryz.ntmps71
  go_wp2
  go_end0
  exact ⟨rfl, rfl⟩
end Go.Proofs.YtgcpoppinnnciaaGreatDoor
