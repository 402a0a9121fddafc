/-
  What a take leaves (plain), for each kind of number.
-/
import Derived.Test.YtmholpploaecgaaWirePlain
import Derived.Test.YtmholpploaecgaaTakes2
namespace Go.Proofs.Ytmholpploaecgaa
open Go.RowKit

/-- A number n was taken, whose bytes are L; or there is an error. -/
structure Took (bs : List UInt8) (s s' : Rs) (n : Int) (L : List UInt8) : Prop where
  far : s'.at_ ≤ bs.length
  ok : s'.err = 0 → s.err = 0 ∧ s.at_ < s'.at_ ∧ L = part bs s.at_ s'.at_
  no : s'.err ≠ 0 → n = 0 ∧ (s.err ≠ 0 → s'.err = s.err)

theorem took_long {bs : List UInt8} {s : Rs} (hs : s.at_ ≤ bs.length) : Took bs s (rLong bs s).2 ((rLong bs s).1 : Nat) (encN (rLong bs s).1) where
  far := (rLong_no hs).1
  ok h := by have := rLong_ok hs h; exact ⟨this.1, by omega, this.2.2.2⟩
  no h := by have := (rLong_no hs).2 h; exact ⟨by rw [this.1]; rfl, this.2⟩
theorem took_int {bs : List UInt8} {s : Rs} (hs : s.at_ ≤ bs.length) : Took bs s (rInt bs s).2 (rInt bs s).1 (encN (zig (rInt bs s).1)) where
  far := (rLong_no hs).1
  ok h := by have := rLong_ok hs h; exact ⟨this.1, this.2.1, by show encN (zig (unzig _)) = _; rw [zig_unzig]; exact this.2.2.2⟩
  no h := by have := (rLong_no hs).2 h; exact ⟨by show unzig (rLong bs s).1 = 0; rw [this.1]; rfl, this.2⟩
theorem took_count {bs : List UInt8} {s : Rs} (most : Int) (hs : s.at_ ≤ bs.length) : Took bs s (rCount bs s most).2 ((rCount bs s most).1 : Nat) (encN (rCount bs s most).1) := by
  unfold rCount
  split
  · rename_i h
    have h0 := took_long (s := s) hs
    refine ⟨by simp only [rFail_at]; exact h0.far, fun he => absurd he (rFail_err _ 7 (by decide)), fun _ => ⟨rfl, fun he => ?_⟩⟩
    have : (rLong bs s).2.err ≠ 0 := fun h1 => he (h0.ok h1).1
    have := (h0.no this).1
    omega
  · exact took_long hs
theorem took_byte {bs : List UInt8} {s : Rs} (hs : s.at_ ≤ bs.length) : Took bs s (rByte bs s).2 ((rByte bs s).1 : Nat) [UInt8.ofNat (rByte bs s).1] where
  far := (rByte_at hs).2
  ok h := by
    obtain ⟨h1, h2, h3⟩ := rByte_ok h hs
    rw [h3]
    exact ⟨h1, by simp only; omega, by simp only; rw [byte_ofNat, part_cons bs s.at_ _ (by omega) (by omega), part_self]⟩
  no h := by
    obtain ⟨h1, h2⟩ := rByte_bad h
    exact ⟨by rw [h1]; rfl, fun he => by rw [h2 he]⟩
theorem took_within {bs : List UInt8} {s : Rs} (lo hi : Int) (hs : s.at_ ≤ bs.length) : Took bs s (rWithin bs s lo hi).2 (rWithin bs s lo hi).1 (encN (zig (rWithin bs s lo hi).1)) := by
  have h0 := took_int (s := s) hs
  unfold rWithin
  simp only
  obtain ⟨n, s1, hns⟩ : ∃ n s1, rInt bs s = (n, s1) := ⟨_, _, rfl⟩
  rw [hns] at h0 ⊢
  simp only at h0 ⊢
  by_cases hb : s1.err = 0 ∧ (n < lo ∨ n > hi)
  · rw [if_pos hb]
    have he := rFail_err s1 2 (by decide)
    rw [if_neg he]
    exact ⟨by rw [rFail_at]; exact h0.far, fun h => absurd h he, fun _ => ⟨rfl, fun h => absurd (h0.ok hb.1).1 h⟩⟩
  · rw [if_neg hb]
    by_cases he : s1.err = 0
    · rw [if_pos he]
      exact h0
    · rw [if_neg he]
      exact ⟨h0.far, fun h => absurd h he, fun h => ⟨rfl, (h0.no h).2⟩⟩
theorem within_in {bs : List UInt8} {s : Rs} (lo hi : Int) (h : (rWithin bs s lo hi).2.err = 0) : lo ≤ (rWithin bs s lo hi).1 ∧ (rWithin bs s lo hi).1 ≤ hi := by
  unfold rWithin at h ⊢
  simp only at h ⊢
  obtain ⟨n, s1, hns⟩ : ∃ n s1, rInt bs s = (n, s1) := ⟨_, _, rfl⟩
  rw [hns] at h ⊢
  simp only at h ⊢
  by_cases hb : s1.err = 0 ∧ (n < lo ∨ n > hi)
  · rw [if_pos hb] at h
    exact absurd h (rFail_err s1 2 (by decide))
  · rw [if_neg hb] at h ⊢
    rw [if_pos h]
    have : ¬ (n < lo ∨ n > hi) := fun h1 => hb ⟨h, h1⟩
    omega
theorem int_range (bs : List UInt8) (s : Rs) : -9223372036854775808 ≤ (rInt bs s).1 ∧ (rInt bs s).1 < 9223372036854775808 := unzig_range (rLong_lt bs s)
theorem within_range (bs : List UInt8) (s : Rs) (lo hi : Int) : -9223372036854775808 ≤ (rWithin bs s lo hi).1 ∧ (rWithin bs s lo hi).1 < 9223372036854775808 := by
  have := int_range bs s
  unfold rWithin
  simp only
  generalize (if (rInt bs s).2.err = 0 ∧ ((rInt bs s).1 < lo ∨ (rInt bs s).1 > hi) then rFail (rInt bs s).2 2 else (rInt bs s).2) = q
  by_cases hq : q.err = 0
  · rw [if_pos hq]; exact this
  · rw [if_neg hq]; omega
theorem count_in (bs : List UInt8) (s : Rs) (most : Int) : ((rCount bs s most).1 : Int) ≤ max most 0 := by
  unfold rCount
  split
  · simp only; omega
  · omega
end Go.Proofs.Ytmholpploaecgaa
