/-
  The reference's Count and Int.
-/
import Derived.Test.YtmholpploaecgaaPutW
namespace Go.Proofs.Ytmholpploaecgaa
open Go.RowKit

set_option maxRecDepth 10000 in
set_option maxHeartbeats 1000000 in
theorem refcount_calls (m : Nat) (hm : m < 18446744073709551616) (w : World) :
    Calls Try.prog 28 #[.int .u64 m] w fun e w' => ∃ v, e = .returned v ∧ OwnB w' w.heap.size v (encN m) ∧ Below w.heap.size w w' := by
  have HLen : Hid _ := encN_ten m (by have : (2 : Nat) ^ 64 = 18446744073709551616 := rfl; omega)
  obtain ⟨wo, rfl⟩ : ∃ wo : World, wo = w := ⟨_, rfl⟩
  go_enter Try.func28, Try.ntmps28
  go_wp2
  go_loopw [0, 3] (fun i v wr => ∃ p : Nat, ∃ bs', p ≤ m ∧ i = .int .u64 p ∧ OwnB wr wo.heap.size v bs' ∧ Hid (bs' ++ encN p = encN m) ∧ Below wo.heap.size wo wr) (fun i _ _ => (intOf i).toNat)
  case atStart => exact ⟨m, [], Nat.le_refl _, rfl, OwnB.nil _ _, rfl, Below.refl _ _⟩
  case round =>
    obtain ⟨p, bs', hp, rfl, ho, HE, hb⟩ := hrel
    have HL : Hid (bs'.length ≤ 1000000) := by
      show _ ≤ _
      have := congrArg List.length HE.out
      simp only [List.length_append] at this
      have := HLen.out
      omega
    by_cases hlt : p < 128
    · have HE2 : Hid (bs' ++ [UInt8.ofNat p] = encN m) := by show _ = _; rw [← HE.out, encN_lo hlt]
      have HZ : Hid (IntKind.u8.wrap (p : Int) = ((UInt8.ofNat p).toNat : Int)) := by show _ = _; rw [ofNat_lo (by omega), IntKind.wrap_u8]; omega
      go_wp2_with (at_builtin; refine app_byte_at (c := UInt8.ofNat p) rfl _ _ rfl rfl ho rfl rfl hb.size HL.out (by first | exact HZ.out | (rw [← HZ.out, IntKind.wrap_u8]; omega)) ?_; intro v1 w1 ho1 hg1 hl1)
      go_ret
      rw [HE2.out] at ho1
      exact ⟨_, rfl, ho1, below_app (hb.alloc hb.size _) (own_keep ho ((Below.refl _ _).alloc (Nat.le_refl _) _)) hg1 (Nat.le_refl _) (by have := hb.size; simp; omega)⟩
    · have HE2 : Hid (bs' ++ [UInt8.ofNat (p % 128 + 128)] ++ encN (p / 128) = encN m) := by show _ = _; rw [← HE.out, encN_hi hlt, List.append_assoc]; rfl
      have HZ : Hid ((((p : Int) % 128 + 128)) = ((UInt8.ofNat (p % 128 + 128)).toNat : Int)) := by show _ = _; rw [ofNat_lo (by omega)]; omega
      go_wp2_with (at_builtin; refine app_byte_at (c := UInt8.ofNat (p % 128 + 128)) rfl _ _ rfl rfl ho rfl rfl hb.size HL.out (by first | exact HZ.out | (rw [← HZ.out, IntKind.wrap_u8]; omega)) ?_; intro v1 w1 ho1 hg1 hl1)
      go_roundw
      case rel => exact ⟨p / 128, _, by omega, by go_num, ho1, HE2, below_app (hb.alloc hb.size _) (own_keep ho ((Below.refl _ _).alloc (Nat.le_refl _) _)) hg1 (Nat.le_refl _) (by have := hb.size; simp; omega)⟩
      case measure => simp [intOf]; omega

theorem refcount_at (z : Int) (m : Nat) (hz : z = m) (hm : m < 18446744073709551616) (w : World) :
    Calls Try.prog 28 #[.int .u64 z] w fun e w' => ∃ v, e = .returned v ∧ OwnB w' w.heap.size v (encN m) ∧ Below w.heap.size w w' := by
  subst hz
  exact refcount_calls m hm w

theorem refint_calls (n : Int) (hn : -9223372036854775808 ≤ n ∧ n < 9223372036854775808) (w : World) :
    Calls Try.prog 29 #[.int .i64 n] w fun e w' => ∃ v, e = .returned v ∧ OwnB w' w.heap.size v (encN (zig n)) ∧ Below w.heap.size w w' := by
  have hm : zig n < 18446744073709551616 := zig_lt n hn
  by_cases hneg : n < 0
  · have b0 : decide (n < 0) = true := by simp [hneg]
    have HZ : Hid (-(n + 1) * 2 + 1 = (zig n : Int)) := by show _ = _; unfold zig; rw [if_pos hneg]; omega
    go_enter Try.func29, Try.ntmps29
    go_wp2_with (go_at_call 28; refine (refcount_at _ (zig n) HZ.out hm w).mono ?_; rintro x w1 ⟨v1, rfl, ho1, hb1⟩)
    go_ret
    exact ⟨_, rfl, ho1, hb1⟩
  · have b0 : decide (n < 0) = false := by simp; omega
    have HZ : Hid (n * 2 = (zig n : Int)) := by show _ = _; unfold zig; rw [if_neg hneg]; omega
    have e1 : IntKind.u64.wrap n = n := by rw [IntKind.wrap_u64]; omega
    have e2 : IntKind.u64.wrap (n * 2) = n * 2 := by rw [IntKind.wrap_u64]; omega
    go_enter Try.func29, Try.ntmps29
    go_wp2_with (go_at_call 28; refine (refcount_at _ (zig n) HZ.out hm w).mono ?_; rintro x w1 ⟨v1, rfl, ho1, hb1⟩)
    go_ret
    exact ⟨_, rfl, ho1, hb1⟩
end Go.Proofs.Ytmholpploaecgaa
