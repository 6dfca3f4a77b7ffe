/-
  NetFull.
-/
import Derived.Test.YtmffpeblcaalgaaNLaws
import Derived.IntWalk
set_option linter.unusedVariables false
set_option linter.unusedSimpArgs false
namespace Go.Proofs.Ytmffpeblcaalgaa
open Go Go.RowKit Go.Proofs.Ytmffpeblcaalgaa.Pal Go.Proofs.Ytmffpeblcaalgaa.Plan

def oneb (k : Nat) : ByteArray := ⟨#[UInt8.ofNat k]⟩
/-- k letters from 0 to 1. -/
def many (k : Nat) : List Ltr := (List.range k).map fun i => ⟨0, 1, oneb i⟩
theorem many_len (k : Nat) : (many k).length = k := by simp [many]
theorem many_succ (k : Nat) : many (k + 1) = many k ++ [⟨0, 1, oneb k⟩] := by simp [many, List.range_succ]
theorem many_get (k i : Nat) (h : i < k) : (many k)[i]? = some ⟨0, 1, oneb i⟩ := by simp [many, h]
theorem convb (W : World) (q : Nat) (hq : q < 256) : (convert 22 9 (.slice (some ⟨W.heap.size, 0, none⟩) 1 1)).run Try.prog (W.alloc (.cells #[.int .u8 (q : Int)] 5)) = .ok (.string (oneb q)) (W.alloc (.cells #[.int .u8 (q : Int)] 5)) := by
  have := run_convert_bytes_arg (P := Try.prog) (W.alloc (.cells #[.int .u8 (q : Int)] 5)) 22 5 Try.underlying22 Try.underlying5 W.heap.size 0 1 1 [(q : Int)] rfl
    (fun i hi => by
      obtain rfl : i = 0 := by omega
      exact blk_cell (blk_new W _) rfl) 9 Try.underlying9
  rw [this]
  simp [strOfNums, oneb]
set_option maxRecDepth 100000 in
set_option maxHeartbeats 4000000 in
theorem netFull_walk (m : Int) (hm : 0 ≤ m ∧ m ≤ 255) (w : World) : Calls Try.prog 7 #[.int .u8 m] w (lawPost w) := by
  obtain ⟨x, rfl⟩ : ∃ x : Nat, m = x := ⟨m.toNat, by omega⟩
  have hx : x < 256 := by omega
  go_enter Try.func7, Try.ntmps7
  go_wp2_with fail
  refine (new_ok 2 (by decide) (by decide) _).mono ?_
  rintro e w1 hN
  obtain ⟨N, K, rfl, h1⟩ := NB.made hN
  clear hN
  go_wp2
  go_loopg [4] 256 (fun gk i wr => ∃ k : Nat, ∃ v, k ≤ 256 ∧ gk = 256 - k ∧ i = .int .i64 (k : Int) ∧ NB w wr N K v 2 (many k) (fun _ _ => false))
  case atStart => exact ⟨0, _, by omega, rfl, rfl, h1⟩
  case round =>
    obtain ⟨k, v, hk, rfl, rfl, hb⟩ := hrel
    by_cases hk2 : k < 256
    · have z0 : (0 : Int) ≤ (k : Int) := by omega
      have z1 : (k : Int) < 256 := by omega
      have z4 : IntKind.u8.wrap (k : Int) = (k : Int) := by simp [IntKind.wrap, IntKind.signed, IntKind.bits]; omega
      have hcv := convb wr k hk2
      have hb1 := hb.fresh ((Unch.refl _ _).alloc (.cells #[.int .u8 (k : Int)] 5))
      go_wp2_with fail
      refine (nput_ok hb1.nt (by decide) 0 1 (by decide) rfl (by rw [many_len]; exact hk2) _).mono ?_
      rintro e w3 ⟨rfl, hL⟩
      obtain ⟨v3, h3⟩ := hb1.left hL
      rw [← many_succ] at h3
      clear hL hb1 hb hcv
      go_wp2
      go_roundg (256 - (k + 1))
      case measure => omega
      case rel => exact ⟨k + 1, v3, by omega, rfl, by go_num, h3⟩
    · obtain rfl : 256 = k := by omega
      have hl := many_len 256
      go_wp2_with fail
      refine (nput_busy hb.nt (by decide) 1 0 (by decide) rfl (by rw [hl]; decide) _).mono ?_
      rintro e w3 ⟨rfl, rfl⟩
      go_wp2_with fail
      refine (ndouble_busy hb.nt x _ (many_get 256 x hx) (by rw [hl]; decide)).mono ?_
      rintro e w3 ⟨rfl, hu3⟩
      have h3 := hb.fresh hu3
      clear hb hu3
      go_wp2_with fail
      refine (nlen_ok h3.nt 256 hl).mono ?_
      rintro e w4 ⟨rfl, rfl⟩
      go_wp2_with fail
      refine (ntake_ok h3.nt x _ (many_get 256 x hx) (by rw [hl]; decide)).mono ?_
      rintro e w5 ⟨rfl, hL⟩
      obtain ⟨v5, h5⟩ := h3.left hL
      clear hL h3
      have hl5 : ((many 256).eraseIdx x).length = 255 := by rw [List.length_eraseIdx, hl, if_pos hx]
      have hcv := convb (w5.alloc (.cells #[.int .i64 0, .int .i64 1, .string (oneb x)] 47)) x hx
      rw [show (w5.alloc (.cells #[.int .i64 0, .int .i64 1, .string (oneb x)] 47)).heap.size = w5.heap.size + 1 by simp] at hcv
      have h6 := (h5.fresh ((Unch.refl _ _).alloc (.cells #[.int .i64 0, .int .i64 1, .string (oneb x)] 47))).fresh ((Unch.refl _ _).alloc (.cells #[.int .u8 (x : Int)] 5))
      clear h5
      unfold Ltr.val
      go_wp2_with fail
      refine (nput_ok h6.nt (by decide) 1 0 (by decide) rfl (by rw [hl5]; decide) _).mono ?_
      rintro e w7 ⟨rfl, hL⟩
      obtain ⟨v7, h7⟩ := h6.left hL
      clear hL h6 hcv
      go_wp2_with fail
      refine (nlen_ok h7.nt 256 (by rw [List.length_append, hl5]; rfl)).mono ?_
      rintro e w8 ⟨rfl, rfl⟩
      go_wp2_with fail
      refine (nawake _).mono ?_
      rintro e w9 ⟨rfl, hu9⟩
      go_wp2
      go_ret
      exact ⟨rfl, h7.unch.trans hu9⟩
end Go.Proofs.Ytmffpeblcaalgaa
