/-
  A nil writer, a nil reader.
-/
import Derived.Test.YtiimfijjhlehlaaTakes2
namespace Go.Proofs.Ytiimfijjhlehlaa
open Go.RowKit

theorem byte_nil (c : Int) (w : World) : Calls Try.prog 22 #[.pointer none, .int .u8 c] w fun e w' => e = .returned (.tuple #[]) ∧ w' = w := by
  go_enter Try.func22, Try.ntmps22
  go_wp2
  go_end0
  exact ⟨rfl, rfl⟩
theorem put_nil (a : Option Addr) (n c : Nat) (w : World) : Calls Try.prog 29 #[.pointer none, .slice a n c] w fun e w' => e = .returned (.tuple #[]) ∧ w' = w := by
  go_enter Try.func29, Try.ntmps29
  go_wp2
  go_end0
  exact ⟨rfl, rfl⟩
theorem wlen_nil (w : World) : Calls Try.prog 9 #[.pointer none] w fun e w' => e = .returned (.int .i64 0) ∧ w' = w := by
  go_enter Try.func9, Try.ntmps9
  go_wp2
  go_ret
  exact ⟨rfl, rfl⟩
theorem wbytes_nil (w : World) : Calls Try.prog 24 #[.pointer none] w fun e w' => e = .returned (.slice none 0 0) ∧ w' = w := by
  go_enter Try.func24, Try.ntmps24
  go_wp2
  go_ret
  exact ⟨rfl, rfl⟩
theorem count_nil (w : World) : Calls Try.prog 11 #[.pointer none, .int .i64 3] w fun e w' => e = .returned (.tuple #[]) ∧ w' = w := by
  obtain ⟨wo, rfl⟩ : ∃ wo : World, wo = w := ⟨_, rfl⟩
  go_enter Try.func11, Try.ntmps11
  go_wp2
  go_loopw [1] (fun i wr => i = .int .i64 3 ∧ wr = wo) (fun _ _ => 0)
  case atStart => exact ⟨rfl, rfl⟩
  case round =>
    obtain ⟨rfl, rfl⟩ := hrel
    go_wp2_with (go_at_call 22; refine (byte_nil _ _).mono ?_; rintro x w1 ⟨rfl, rfl⟩)
    go_end0
    exact ⟨rfl, rfl⟩
theorem wint_nil (w : World) : Calls Try.prog 14 #[.pointer none, .int .i64 3] w fun e w' => e = .returned (.tuple #[]) ∧ w' = w := by
  have hx : bits .xor .u64 6 0 = 6 := by decide
  obtain ⟨wo, rfl⟩ : ∃ wo : World, wo = w := ⟨_, rfl⟩
  go_enter Try.func14, Try.ntmps14
  go_wp2
  go_loopw [4] (fun i wr => i = .int .u64 6 ∧ wr = wo) (fun _ _ => 0)
  case atStart => exact ⟨rfl, rfl⟩
  case round =>
    obtain ⟨rfl, rfl⟩ := hrel
    go_wp2_with (go_at_call 22; refine (byte_nil _ _).mono ?_; rintro x w1 ⟨rfl, rfl⟩)
    go_end0
    exact ⟨rfl, rfl⟩

theorem rfail_nil (c : Int) (w : World) : Calls Try.prog 31 #[.pointer none, .int .i64 c] w fun e w' => e = .returned (.tuple #[]) ∧ w' = w := by
  go_enter Try.func31, Try.ntmps31
  go_wp2
  go_end0
  exact ⟨rfl, rfl⟩
theorem rerr_nil (w : World) : Calls Try.prog 18 #[.pointer none] w fun e w' => e = .returned (.int .i64 1) ∧ w' = w := by
  go_enter Try.func18, Try.ntmps18
  go_wp2
  go_ret
  exact ⟨rfl, rfl⟩
theorem rleft_nil (w : World) : Calls Try.prog 25 #[.pointer none] w fun e w' => e = .returned (.int .i64 0) ∧ w' = w := by
  go_enter Try.func25, Try.ntmps25
  go_wp2
  go_ret
  exact ⟨rfl, rfl⟩
theorem rat_nil (w : World) : Calls Try.prog 17 #[.pointer none] w fun e w' => e = .returned (.int .i64 0) ∧ w' = w := by
  go_enter Try.func17, Try.ntmps17
  go_wp2
  go_ret
  exact ⟨rfl, rfl⟩
theorem rend_nil (w : World) : Calls Try.prog 26 #[.pointer none] w fun e w' => e = .returned (.int .i64 1) ∧ ∃ q, w' = w.drewN q := by
  go_enter Try.func26, Try.ntmps26
  go_wp2
  go_quiet (fail)
  go_wp2_with (go_at_call 18; refine (rerr_nil _).mono ?_; rintro x w3 ⟨rfl, rfl⟩)
  go_ret
  exact ⟨rfl, _, rfl⟩
theorem rbyte_nil (w : World) : Calls Try.prog 21 #[.pointer none] w fun e w' => e = .returned (.int .u8 0) ∧ Below w.heap.size w w' := by
  go_enter Try.func21, Try.ntmps21
  go_wp2_with (first
    | (go_at_call 25; refine (rleft_nil _).mono ?_; rintro x w3 ⟨rfl, rfl⟩)
    | (go_at_call 31; refine (rfail_nil _ _).mono ?_; rintro x w3 ⟨rfl, rfl⟩))
  go_ret
  exact ⟨rfl, Below.refl _ _⟩
theorem rbytes_nil (w : World) : Calls Try.prog 30 #[.pointer none, .int .i64 1] w fun e w' => e = .returned (.slice none 0 0) ∧ Below w.heap.size w w' := by
  go_enter Try.func30, Try.ntmps30
  go_wp2_with (first
    | (go_at_call 25; refine (rleft_nil _).mono ?_; rintro x w3 ⟨rfl, rfl⟩)
    | (go_at_call 31; refine (rfail_nil _ _).mono ?_; rintro x w3 ⟨rfl, rfl⟩))
  go_ret
  exact ⟨rfl, Below.refl _ _⟩
theorem rlong_nil (w : World) : Calls Try.prog 32 #[.pointer none] w fun e w' => e = .returned (.int .u64 0) ∧ Below w.heap.size w w' := by
  obtain ⟨wo, rfl⟩ : ∃ wo : World, wo = w := ⟨_, rfl⟩
  go_enter Try.func32, Try.ntmps32
  go_wp2
  go_loopw [3, 4, 5] (fun v i _ wr => v = .int .u64 0 ∧ i = .int .i64 0 ∧ wr = wo) (fun _ _ _ _ => 0)
  case atStart => exact ⟨rfl, rfl, rfl⟩
  case round =>
    obtain ⟨rfl, rfl, rfl⟩ := hrel
    go_wp2_with (first
      | (go_at_call 21; refine (rbyte_nil _).mono ?_; rintro x w1 ⟨rfl, hb1⟩)
      | (go_at_call 18; refine (rerr_nil _).mono ?_; rintro x w3 ⟨rfl, rfl⟩))
    go_ret
    exact ⟨rfl, hb1⟩
theorem rint_nil (w : World) : Calls Try.prog 19 #[.pointer none] w fun e w' => e = .returned (.int .i64 0) ∧ Below w.heap.size w w' := by
  have hx : bits .xor .i64 0 0 = 0 := by decide
  have ha : bits .and .u64 0 1 = 0 := by decide
  go_enter Try.func19, Try.ntmps19
  go_wp2_with (go_at_call 32; refine (rlong_nil _).mono ?_; rintro x w1 ⟨rfl, hb1⟩)
  go_ret
  exact ⟨rfl, hb1⟩
end Go.Proofs.Ytiimfijjhlehlaa
