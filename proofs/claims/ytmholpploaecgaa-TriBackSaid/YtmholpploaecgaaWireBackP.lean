/-
  What was put is taken (plain law).
-/
import Derived.Test.YtmholpploaecgaaWirePlain
namespace Go.Proofs.Ytmholpploaecgaa
open Go.RowKit

theorem drop_head {bs rest : List UInt8} {i : Nat} {c : UInt8} (h : bs.drop i = c :: rest) : i < bs.length ∧ bs.getD i 0 = c ∧ bs.drop (i + 1) = rest := by
  have hi : i < bs.length := by
    rcases Nat.lt_or_ge i bs.length with h1 | h1
    · exact h1
    · rw [List.drop_eq_nil_of_le h1] at h; cases h
  rw [List.drop_eq_getElem_cons hi] at h
  simp only [List.cons.injEq] at h
  exact ⟨hi, by simp [List.getD, hi, h.1], h.2⟩
theorem rByte_next {bs rest : List UInt8} {i : Nat} {c : UInt8} (h : bs.drop i = c :: rest) : rByte bs ⟨i, 0⟩ = (c.toNat, ⟨i + 1, 0⟩) := by
  obtain ⟨h1, h2, _⟩ := drop_head h
  unfold rByte rLeft
  rw [if_pos rfl, if_neg (by simp only; omega)]
  simp only
  rw [h2]
theorem ofNat_nat {n : Nat} (h : n < 256) : (UInt8.ofNat n).toNat = n := by have := ofNat_lo h; omega

theorem longFrom_enc (bs : List UInt8) : ∀ (f k n v i : Nat) (rest : List UInt8), bs.drop i = encN v ++ rest → k + f = 10 → f ≠ 0 → v * 2 ^ (7 * k) < 2 ^ 64 → (0 < k → 0 < v) →
    longFrom bs f k n ⟨i, 0⟩ = (n + v * 2 ^ (7 * k), ⟨i + (encN v).length, 0⟩)
  | 0, _, _, _, _, _, _, _, h, _, _ => absurd rfl h
  | f + 1, k, n, v, i, rest, hd, hk, _, hv, hp => by
    have h9 : k = 9 → v < 2 := by
      rintro rfl
      have : (2 : Nat) ^ 64 = 2 * 2 ^ (7 * 9) := rfl
      rw [this] at hv
      exact Nat.lt_of_mul_lt_mul_right hv
    by_cases hlt : v < 128
    · rw [encN_lo hlt] at hd ⊢
      have hb := rByte_next (show bs.drop i = UInt8.ofNat v :: rest from hd)
      rw [ofNat_nat (by omega)] at hb
      have hno : ¬ ((k = 9 ∧ v > 1) ∨ (k > 0 ∧ v = 0)) := by
        rintro (⟨h1, h2⟩ | ⟨h1, h2⟩)
        · have := h9 h1; omega
        · have := hp h1; omega
      rw [longFrom_last hb hno rfl hlt]
      rfl
    · rw [encN_hi hlt] at hd ⊢
      have hb := rByte_next (show bs.drop i = UInt8.ofNat (v % 128 + 128) :: (encN (v / 128) ++ rest) from hd)
      have hn := (drop_head (show bs.drop i = UInt8.ofNat (v % 128 + 128) :: (encN (v / 128) ++ rest) from hd)).2.2
      rw [ofNat_nat (by omega)] at hb
      have hk9 : k ≠ 9 := fun h => by have := h9 h; omega
      rw [longFrom_more hb (by rintro (⟨h1, h2⟩ | ⟨h1, h2⟩) <;> omega) rfl (by omega)]
      have hpw : v / 128 * 2 ^ (7 * (k + 1)) + v % 128 * 2 ^ (7 * k) = v * 2 ^ (7 * k) := by
        rw [show 7 * (k + 1) = 7 + 7 * k by omega, Nat.pow_add, ← Nat.mul_assoc, ← Nat.add_mul]
        congr 1
        omega
      rw [longFrom_enc bs f (k + 1) _ (v / 128) (i + 1) rest hn (by omega) (by omega) (by omega) (by omega)]
      rw [show (v % 128 + 128) % 128 = v % 128 by omega]
      simp only [Prod.mk.injEq, Rs.mk.injEq, List.length_cons, and_true]
      omega
theorem rLong_enc {bs : List UInt8} {v i : Nat} {rest : List UInt8} (h : bs.drop i = encN v ++ rest) (hv : v < 2 ^ 64) : rLong bs ⟨i, 0⟩ = (v, ⟨i + (encN v).length, 0⟩) := by
  have := longFrom_enc bs 10 0 0 v i rest h rfl (by omega) (by simpa using hv) (by omega)
  simpa [rLong] using this
theorem drop_more {bs L rest : List UInt8} {i : Nat} (h : bs.drop i = L ++ rest) : bs.drop (i + L.length) = rest := by
  rw [← List.drop_drop, h]; simp
theorem unzig_zig (n : Int) : unzig (zig n) = n := by
  unfold unzig zig
  split <;> split <;> omega
end Go.Proofs.Ytmholpploaecgaa
