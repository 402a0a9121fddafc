/-
  Numbers as bytes: the plain law; the writer's Count and Int; the reference's.
-/
import Derived.Test.YtmholpploaecgaaWire
import Derived.BigRegion
import Derived.BigQuiet
import Derived.OpenShut
namespace Go.Proofs.Ytmholpploaecgaa
open Go.RowKit

def encN (n : Nat) : List UInt8 := if h : n < 128 then [UInt8.ofNat n] else UInt8.ofNat (n % 128 + 128) :: encN (n / 128)
termination_by n
decreasing_by omega
def zig (n : Int) : Nat := if n < 0 then (-(2 * n) - 1).toNat else (2 * n).toNat
theorem encN_lo {n : Nat} (h : n < 128) : encN n = [UInt8.ofNat n] := by rw [encN, dif_pos h]
theorem encN_hi {n : Nat} (h : ¬ n < 128) : encN n = UInt8.ofNat (n % 128 + 128) :: encN (n / 128) := by rw [encN, dif_neg h]
theorem encN_len : ∀ (k n : Nat), n < 2 ^ (7 * k) → (encN n).length ≤ k + 1
  | 0, n, h => by
    have : n < 128 := by simp at h; omega
    rw [encN_lo this]; simp
  | k + 1, n, h => by
    by_cases hn : n < 128
    · rw [encN_lo hn]; simp
    · rw [encN_hi hn]
      have : (2 : Nat) ^ (7 * (k + 1)) = 128 * 2 ^ (7 * k) := by rw [show 7 * (k + 1) = 7 * k + 7 by omega, Nat.pow_add]; omega
      have := encN_len k (n / 128) (by omega)
      simp only [List.length_cons]
      omega
theorem encN_ten (n : Nat) (h : n < 2 ^ 64) : (encN n).length ≤ 11 := encN_len 10 n (Nat.lt_of_lt_of_le h (Nat.pow_le_pow_right (by omega) (by omega)))
theorem encN_pos (n : Nat) : 0 < (encN n).length := by
  by_cases hn : n < 128
  · rw [encN_lo hn]; simp
  · rw [encN_hi hn]; simp

theorem ofNat_lo {n : Nat} (h : n < 256) : ((UInt8.ofNat n).toNat : Int) = n := by
  rw [UInt8.toNat_ofNat_of_lt' (by exact h)]
theorem or_128 (m : Nat) : bits .or .u8 (IntKind.u8.wrap (m : Int)) 128 = ((UInt8.ofNat (m % 128 + 128)).toNat : Int) := by
  rw [ofNat_lo (by omega), IntKind.wrap_u8, show (m : Int) % 256 = ((m % 256 : Nat) : Int) by omega]
  unfold bits
  rw [show (128 : Int) = ((128 : Nat) : Int) from rfl, BitVec.ofInt_natCast, BitVec.ofInt_natCast]
  show IntKind.u8.wrap (((BitVec.ofNat 8 (m % 256) ||| BitVec.ofNat 8 128).toNat : Nat) : Int) = _
  rw [BitVec.toNat_or, BitVec.toNat_ofNat, BitVec.toNat_ofNat, IntKind.wrap_u8, Nat.mod_eq_of_lt (show m % 256 < 2 ^ 8 by omega), show 128 % 2 ^ 8 = 2 ^ 7 * 1 from rfl]
  rcases (show m % 256 = m % 128 ∨ m % 256 = 2 ^ 7 * 1 + m % 128 by omega) with e | e
  · rw [e, Nat.or_comm, ← Nat.two_pow_add_eq_or_of_lt (show m % 128 < 2 ^ 7 by omega)]; omega
  · rw [e, Nat.two_pow_add_eq_or_of_lt (show m % 128 < 2 ^ 7 by omega), Nat.or_comm, ← Nat.or_assoc, Nat.or_self, ← Nat.two_pow_add_eq_or_of_lt (show m % 128 < 2 ^ 7 by omega)]; omega

theorem byte_at {w : World} {g : Nat} {S : List Nat} {bs : List UInt8} (h : Wr w g S bs) (b : UInt8) (z : Int) (hz : z = (b.toNat : Int)) (hl : bs.length ≤ 1000000) :
    Calls Try.prog 34 #[.pointer (some ⟨g, 0, none⟩), .int .u8 z] w fun e w' => e = .returned (.tuple #[]) ∧ ∃ S', Wr w' g S' (bs ++ [b]) ∧ Grows S w S' ∧ Fr S w w' := by
  subst hz
  exact byte_calls h b hl

set_option maxRecDepth 10000 in
set_option maxHeartbeats 1000000 in
theorem count_calls {w : World} {g : Nat} {S : List Nat} {bs : List UInt8} (h : Wr w g S bs) (n : Int) (hn : n < 9223372036854775808) (hl : bs.length ≤ 900000) :
    Calls Try.prog 22 #[.pointer (some ⟨g, 0, none⟩), .int .i64 n] w fun e w' => e = .returned (.tuple #[]) ∧ ∃ S', Wr w' g S' (bs ++ encN n.toNat) ∧ Grows S w S' ∧ Fr S w w' := by
  obtain ⟨m, hm, hm2⟩ : ∃ m : Nat, (if (0 : Int) > n then (0 : Int) else n) = m ∧ m = n.toNat := ⟨n.toNat, by split <;> omega, rfl⟩
  rw [← hm2]
  have hmb : m < 9223372036854775808 := by omega
  have hlen := encN_ten m (by have : (2 : Nat) ^ 64 = 18446744073709551616 := rfl; omega)
  have HLen : Hid _ := hlen
  clear hm2 hlen
  obtain ⟨wo, rfl⟩ : ∃ wo : World, wo = w := ⟨_, rfl⟩
  go_enter Try.func22, Try.ntmps22
  go_wp2
  clear hm
  go_loopw [1] (fun i wr => ∃ p : Nat, ∃ S' bs', p ≤ m ∧ i = .int .i64 p ∧ Wr wr g S' bs' ∧ Hid (bs' ++ encN p = bs ++ encN m) ∧ Hid (Grows S wo S') ∧ Hid (Fr S wo wr)) (fun i _ => (intOf i).toNat)
  case atStart => exact ⟨m, S, bs, Nat.le_refl _, rfl, h, rfl, Grows.refl _ _, Fr.refl _ _⟩
  case round =>
    clear h
    obtain ⟨p, S', bs', hp, rfl, hr, HE, HG, HF⟩ := hrel
    have HL : Hid (bs'.length ≤ 1000000) := by
      show _ ≤ _
      have := congrArg List.length HE.out
      simp only [List.length_append] at this
      have := HLen.out
      omega
    by_cases hlt : p < 128
    · have HE2 : Hid (bs' ++ [UInt8.ofNat p] = bs ++ encN m) := by show _ = _; rw [← HE.out, encN_lo hlt]
      have HZ : Hid (IntKind.u8.wrap (p : Int) = ((UInt8.ofNat p).toNat : Int)) := by show _ = _; rw [ofNat_lo (by omega), IntKind.wrap_u8]; omega
      go_wp2_with (go_at_call 34; refine (byte_at hr (UInt8.ofNat p) _ (by first | exact HZ.out | (rw [← HZ.out, IntKind.wrap_u8]; omega)) HL.out).mono ?_; rintro x w1 ⟨rfl, S1, hr1, hg1, hf1⟩)
      go_end0
      rw [HE2.out] at hr1
      exact ⟨rfl, S1, hr1, HG.out.trans hg1 HF.out.size, HF.out.trans hf1 HG.out⟩
    · have HE2 : Hid (bs' ++ [UInt8.ofNat (p % 128 + 128)] ++ encN (p / 128) = bs ++ encN m) := by show _ = _; rw [← HE.out, encN_hi hlt, List.append_assoc]; rfl
      have HZ : Hid _ := or_128 p
      go_wp2_with (go_at_call 34; refine (byte_at hr (UInt8.ofNat (p % 128 + 128)) _ HZ.out HL.out).mono ?_; rintro x w1 ⟨rfl, S1, hr1, hg1, hf1⟩)
      go_roundw
      case rel => exact ⟨p / 128, S1, _, by omega, by go_num, hr1, HE2, HG.out.trans hg1 HF.out.size, HF.out.trans hf1 HG.out⟩
      case measure => simp [intOf]; omega
end Go.Proofs.Ytmholpploaecgaa
