/-
  Numbers that were put, taken (plain).
-/
import Derived.Test.YtmholpploaecgaaWireTook
import Derived.Test.YtmholpploaecgaaWireBackP
import Derived.Test.YtmholpploaecgaaPutW
namespace Go.Proofs.Ytmholpploaecgaa
open Go.RowKit

theorem part_part (bs : List UInt8) (i j k : Nat) (h1 : i ≤ j) (h2 : j ≤ k) (_ : k ≤ bs.length) : part bs i j ++ part bs j k = part bs i k := by
  unfold part
  have e : bs.drop j = (bs.drop i).drop (j - i) := by rw [List.drop_drop]; congr 1; omega
  rw [e, show k - i = (j - i) + (k - j) by omega, List.take_add]
theorem rInt_enc {bs rest : List UInt8} {i : Nat} {n : Int} (h : bs.drop i = encN (zig n) ++ rest) (hn : -9223372036854775808 ≤ n ∧ n < 9223372036854775808) : rInt bs ⟨i, 0⟩ = (n, ⟨i + (encN (zig n)).length, 0⟩) := by
  unfold rInt
  rw [rLong_enc h (Nat.lt_of_lt_of_eq (zig_lt n hn) rfl), unzig_zig]
theorem rWithin_enc {bs rest : List UInt8} {i : Nat} {n lo hi : Int} (h : bs.drop i = encN (zig n) ++ rest) (hn : -9223372036854775808 ≤ n ∧ n < 9223372036854775808) (hb : lo ≤ n ∧ n ≤ hi) : rWithin bs ⟨i, 0⟩ lo hi = (n, ⟨i + (encN (zig n)).length, 0⟩) := by
  unfold rWithin
  rw [rInt_enc h hn]
  simp only
  have : ¬ (n < lo ∨ n > hi) := by omega
  simp [this]
theorem rCount_enc {bs rest : List UInt8} {i n : Nat} {most : Int} (h : bs.drop i = encN n ++ rest) (hn : (n : Int) ≤ max most 0) (h64 : n < 18446744073709551616) : rCount bs ⟨i, 0⟩ most = (n, ⟨i + (encN n).length, 0⟩) := by
  unfold rCount
  rw [rLong_enc h (Nat.lt_of_lt_of_eq h64 rfl)]
  rw [if_neg (by simp only; omega)]
end Go.Proofs.Ytmholpploaecgaa
