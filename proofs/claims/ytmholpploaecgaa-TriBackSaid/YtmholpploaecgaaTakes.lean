/-
  The reader's other calls.
-/
import Derived.Test.YtmholpploaecgaaLong
namespace Go.Proofs.Ytmholpploaecgaa
open Go.RowKit

def rCount (bs : List UInt8) (s : Rs) (most : Int) : Nat × Rs := if ((rLong bs s).1 : Int) > max most 0 then (0, rFail (rLong bs s).2 7) else rLong bs s
/-- A number with a sign, of one from 0 on. -/
def unzig (u : Nat) : Int := if u % 2 = 0 then ((u / 2 : Nat) : Int) else -((u / 2 : Nat) : Int) - 1
def rInt (bs : List UInt8) (s : Rs) : Int × Rs := (unzig (rLong bs s).1, (rLong bs s).2)
def rWithin (bs : List UInt8) (s : Rs) (lo hi : Int) : Int × Rs :=
  let r := rInt bs s
  let s2 := if r.2.err = 0 ∧ (r.1 < lo ∨ r.1 > hi) then rFail r.2 2 else r.2
  (if s2.err = 0 then r.1 else 0, s2)
def rEnd (bs : List UInt8) (s : Rs) : Int := if s.err = 0 ∧ s.at_ < bs.length then 15 else s.err

theorem longFrom_lt (bs : List UInt8) : ∀ (f k n : Nat) (s : Rs), k + f = 10 → n < 2 ^ (7 * k) → (longFrom bs f k n s).1 < 2 ^ 64
  | 0, _, _, _, _, _ => by simp [longFrom]
  | f + 1, k, n, s, hk, hn => by
    rw [longFrom]
    split
    · simp
    split
    · simp
    rename_i h1 h2
    have hc := rByte_lt bs s
    have hv := long_val n k (rByte bs s).1 hn hc (by omega) (fun h => h1 (.inl h)) _ rfl
    split
    · rename_i h3
      have := hv.2.1
      rw [Nat.mod_eq_of_lt h3] at this
      exact this
    · rename_i h3
      by_cases h9 : k = 9
      · exact absurd (.inl ⟨h9, by omega⟩) h1
      · exact longFrom_lt bs f (k + 1) _ _ (by omega) (hv.2.2 (by omega))
theorem rLong_lt (bs : List UInt8) (s : Rs) : (rLong bs s).1 < 2 ^ 64 := longFrom_lt bs 10 0 0 s rfl (by simp)

theorem and_1_u64 (u : Nat) (h : u < 2 ^ 64) : bits .and .u64 (u : Int) 1 = ((u % 2 : Nat) : Int) := by
  unfold bits
  rw [show (1 : Int) = ((1 : Nat) : Int) from rfl, BitVec.ofInt_natCast, BitVec.ofInt_natCast]
  show IntKind.u64.wrap (((BitVec.ofNat 64 u &&& BitVec.ofNat 64 1).toNat : Nat) : Int) = _
  rw [BitVec.toNat_and, BitVec.toNat_ofNat, BitVec.toNat_ofNat, IntKind.wrap_u64, Nat.mod_eq_of_lt h, show 1 % 2 ^ 64 = 2 ^ 1 - 1 from rfl, Nat.and_two_pow_sub_one_eq_mod]
  omega
theorem xor_0_i64 (a : Int) (h : -9223372036854775808 ≤ a ∧ a < 9223372036854775808) : bits .xor .i64 a 0 = a := by
  unfold bits
  show IntKind.i64.wrap (((BitVec.ofInt 64 a ^^^ BitVec.ofInt 64 0).toNat : Nat) : Int) = _
  rw [show BitVec.ofInt 64 0 = 0#64 from rfl, BitVec.xor_zero, BitVec.toNat_ofInt, IntKind.wrap_i64]
  omega
theorem xor_m1_i64 (a : Int) (h : -9223372036854775808 ≤ a ∧ a < 9223372036854775808) : bits .xor .i64 a (-1) = -a - 1 := by
  unfold bits
  show IntKind.i64.wrap (((BitVec.ofInt 64 a ^^^ BitVec.ofInt 64 (-1)).toNat : Nat) : Int) = _
  rw [show BitVec.ofInt 64 (-1) = BitVec.allOnes 64 from rfl, BitVec.xor_allOnes, BitVec.toNat_not, BitVec.toNat_ofInt, IntKind.wrap_i64]
  have : (2 : Nat) ^ 64 = 18446744073709551616 := rfl
  omega

set_option maxHeartbeats 1000000 in
theorem rcount_calls {w : World} {g : Nat} {S : List Nat} {bs : List UInt8} {s : Rs} (h : Rd w g S bs s) (most : Int) (hmost : most < 9223372036854775808) :
    Calls Try.prog 30 #[.pointer (some ⟨g, 0, none⟩), .int .i64 most] w fun x w' => x = .returned (.int .i64 ((rCount bs s most).1 : Nat)) ∧ Rd w' g S bs (rCount bs s most).2 ∧ Fr [g] w w' := by
  have HB := long_calls h
  obtain ⟨u, s1, hus⟩ : ∃ u s1, rLong bs s = (u, s1) := ⟨_, _, rfl⟩
  have hu := rLong_lt bs s
  rw [hus] at HB hu
  simp only at HB hu
  obtain ⟨m, hm, hm2⟩ : ∃ m : Int, (if (0 : Int) > most then (0 : Int) else most) = m ∧ m = max most 0 := ⟨_, rfl, by split <;> omega⟩
  have hmb : 0 ≤ m ∧ m < 9223372036854775808 := by omega
  have e1 : IntKind.u64.wrap m = m := by rw [IntKind.wrap_u64]; omega
  by_cases hgt : (u : Int) > m
  · have b0 : decide ((u : Int) > m) = true := by simp [hgt]
    have HR : Hid (rCount bs s most = (0, rFail s1 7)) := by show _ = _; unfold rCount; rw [hus, if_pos (by rw [← hm2]; exact hgt)]
    clear hus hm2 hgt
    go_enter Try.func30, Try.ntmps30
    go_wp2_with (first
      | (go_at_call 36; refine HB.mono ?_; rintro x w1 ⟨rfl, hr1, hf1⟩)
      | (go_at_call 32; refine (rfail_calls hr1 7).mono ?_; rintro x w2 ⟨rfl, hr2, hf2⟩))
    go_ret
    rw [HR.out]
    exact ⟨rfl, hr2, hf1.trans hf2 (Grows.refl _ _)⟩
  · have b0 : decide ((u : Int) > m) = false := by simp; omega
    have e2 : IntKind.i64.wrap (u : Int) = (u : Int) := IntWalk.i64_in _ (by omega)
    have HR : Hid (rCount bs s most = (u, s1)) := by show _ = _; unfold rCount; rw [hus, if_neg (by rw [← hm2]; exact hgt)]
    clear hus hm2 hgt
    go_enter Try.func30, Try.ntmps30
    go_wp2_with (first
      | (go_at_call 36; refine HB.mono ?_; rintro x w1 ⟨rfl, hr1, hf1⟩))
    go_ret
    rw [HR.out]
    exact ⟨rfl, hr1, hf1⟩

set_option maxHeartbeats 1000000 in
theorem rint_calls {w : World} {g : Nat} {S : List Nat} {bs : List UInt8} {s : Rs} (h : Rd w g S bs s) :
    Calls Try.prog 37 #[.pointer (some ⟨g, 0, none⟩)] w fun x w' => x = .returned (.int .i64 (rInt bs s).1) ∧ Rd w' g S bs (rInt bs s).2 ∧ Fr [g] w w' := by
  have HB := long_calls h
  have hu := rLong_lt bs s
  unfold rInt
  obtain ⟨u, s1, hus⟩ : ∃ u s1, rLong bs s = (u, s1) := ⟨_, _, rfl⟩
  rw [hus] at HB hu ⊢
  simp only at HB hu ⊢
  clear hus
  have HA := and_1_u64 u hu
  have e2 : IntKind.i64.wrap ((u : Int) / 2) = (u : Int) / 2 := IntWalk.i64_in _ (by omega)
  have x0 := xor_0_i64 ((u : Int) / 2) (by omega)
  have x1 := xor_m1_i64 ((u : Int) / 2) (by omega)
  by_cases hz : u % 2 = 0
  · have HZ : Hid (unzig u = (u : Int) / 2) := by show _ = _; unfold unzig; rw [if_pos hz]; omega
    rw [hz] at HA
    clear hz
    go_enter Try.func37, Try.ntmps37
    go_wp2_with (first
      | (go_at_call 36; refine HB.mono ?_; rintro x w1 ⟨rfl, hr1, hf1⟩))
    go_ret
    rw [HZ.out]
    exact ⟨rfl, hr1, hf1⟩
  · have HZ : Hid (unzig u = -((u : Int) / 2) - 1) := by show _ = _; unfold unzig; rw [if_neg hz]; omega
    rw [show u % 2 = 1 by omega] at HA
    clear hz
    go_enter Try.func37, Try.ntmps37
    go_wp2_with (first
      | (go_at_call 36; refine HB.mono ?_; rintro x w1 ⟨rfl, hr1, hf1⟩))
    go_ret
    rw [HZ.out]
    exact ⟨rfl, hr1, hf1⟩
end Go.Proofs.Ytmholpploaecgaa
