/-
  The writer's Int.
-/
import Derived.Test.YtmholpploaecgaaPuts
namespace Go.Proofs.Ytmholpploaecgaa
open Go.RowKit

theorem xor_0_u64 (a : Int) (h : 0 ≤ a ∧ a < 18446744073709551616) : bits .xor .u64 a 0 = a := by
  unfold bits
  show IntKind.u64.wrap (((BitVec.ofInt 64 a ^^^ BitVec.ofInt 64 0).toNat : Nat) : Int) = _
  rw [show BitVec.ofInt 64 0 = 0#64 from rfl, BitVec.xor_zero, BitVec.toNat_ofInt, IntKind.wrap_u64]
  omega
theorem xor_all_u64 (a : Int) (h : 0 ≤ a ∧ a < 18446744073709551616) : bits .xor .u64 a 18446744073709551615 = 18446744073709551615 - a := by
  unfold bits
  show IntKind.u64.wrap (((BitVec.ofInt 64 a ^^^ BitVec.ofInt 64 18446744073709551615).toNat : Nat) : Int) = _
  rw [show BitVec.ofInt 64 18446744073709551615 = BitVec.allOnes 64 from rfl, BitVec.xor_allOnes, BitVec.toNat_not, BitVec.toNat_ofInt, IntKind.wrap_u64]
  have : (2 : Nat) ^ 64 = 18446744073709551616 := rfl
  omega
theorem zig_lt (n : Int) (h : -9223372036854775808 ≤ n ∧ n < 9223372036854775808) : zig n < 18446744073709551616 := by unfold zig; split <;> omega
theorem zig_xor (n : Int) (h : -9223372036854775808 ≤ n ∧ n < 9223372036854775808) : bits .xor .u64 (IntKind.u64.wrap (IntKind.u64.wrap n * 2)) (IntKind.u64.wrap (n / 9223372036854775808)) = ((zig n : Nat) : Int) := by
  rw [IntKind.wrap_u64, IntKind.wrap_u64, IntKind.wrap_u64]
  by_cases hn : n < 0
  · rw [show n / 9223372036854775808 % 18446744073709551616 = 18446744073709551615 by omega, xor_all_u64 _ (by omega)]
    unfold zig; rw [if_pos hn]; omega
  · rw [show n / 9223372036854775808 % 18446744073709551616 = 0 by omega, xor_0_u64 _ (by omega)]
    unfold zig; rw [if_neg hn]; omega

set_option maxRecDepth 10000 in
set_option maxHeartbeats 1000000 in
theorem wint_calls {w : World} {g : Nat} {S : List Nat} {bs : List UInt8} (h : Wr w g S bs) (n : Int) (hn : -9223372036854775808 ≤ n ∧ n < 9223372036854775808) (hl : bs.length ≤ 900000) :
    Calls Try.prog 24 #[.pointer (some ⟨g, 0, none⟩), .int .i64 n] w fun e w' => e = .returned (.tuple #[]) ∧ ∃ S', Wr w' g S' (bs ++ encN (zig n)) ∧ Grows S w S' ∧ Fr S w w' := by
  have hx := zig_xor n hn
  obtain ⟨m, hm⟩ : ∃ m, m = zig n := ⟨_, rfl⟩
  have hmb : m < 18446744073709551616 := by rw [hm]; exact zig_lt n hn
  rw [← hm] at hx ⊢
  have HLen : Hid _ := encN_ten m (by have : (2 : Nat) ^ 64 = 18446744073709551616 := rfl; omega)
  clear hm
  obtain ⟨wo, rfl⟩ : ∃ wo : World, wo = w := ⟨_, rfl⟩
  go_enter Try.func24, Try.ntmps24
  go_wp2
  try simp only [hx]
  clear hx
  go_loopw [4] (fun i wr => ∃ p : Nat, ∃ S' bs', p ≤ m ∧ i = .int .u64 p ∧ Wr wr g S' bs' ∧ Hid (bs' ++ encN p = bs ++ encN m) ∧ Hid (Grows S wo S') ∧ Hid (Fr S wo wr)) (fun i _ => (intOf i).toNat)
  case atStart => exact ⟨m, S, bs, Nat.le_refl _, rfl, h, rfl, Grows.refl _ _, Fr.refl _ _⟩
  case round =>
    clear h
    obtain ⟨p, S', bs', hp, rfl, hr, HE, HG, HF⟩ := hrel
    have HL : Hid (bs'.length ≤ 1000000) := by
      show _ ≤ _
      have := congrArg List.length HE.out
      simp only [List.length_append] at this
      have := HLen.out
      omega
    by_cases hlt : p < 128
    · have HE2 : Hid (bs' ++ [UInt8.ofNat p] = bs ++ encN m) := by show _ = _; rw [← HE.out, encN_lo hlt]
      have HZ : Hid (IntKind.u8.wrap (p : Int) = ((UInt8.ofNat p).toNat : Int)) := by show _ = _; rw [ofNat_lo (by omega), IntKind.wrap_u8]; omega
      go_wp2_with (go_at_call 34; refine (byte_at hr (UInt8.ofNat p) _ (by first | exact HZ.out | (rw [← HZ.out, IntKind.wrap_u8]; omega)) HL.out).mono ?_; rintro x w1 ⟨rfl, S1, hr1, hg1, hf1⟩)
      go_end0
      rw [HE2.out] at hr1
      exact ⟨rfl, S1, hr1, HG.out.trans hg1 HF.out.size, HF.out.trans hf1 HG.out⟩
    · have HE2 : Hid (bs' ++ [UInt8.ofNat (p % 128 + 128)] ++ encN (p / 128) = bs ++ encN m) := by show _ = _; rw [← HE.out, encN_hi hlt, List.append_assoc]; rfl
      have HZ : Hid _ := or_128 p
      go_wp2_with (go_at_call 34; refine (byte_at hr (UInt8.ofNat (p % 128 + 128)) _ HZ.out HL.out).mono ?_; rintro x w1 ⟨rfl, S1, hr1, hg1, hf1⟩)
      go_roundw
      case rel => exact ⟨p / 128, S1, _, by omega, by go_num, hr1, HE2, HG.out.trans hg1 HF.out.size, HF.out.trans hf1 HG.out⟩
      case measure => simp [intOf]; omega

end Go.Proofs.Ytmholpploaecgaa
