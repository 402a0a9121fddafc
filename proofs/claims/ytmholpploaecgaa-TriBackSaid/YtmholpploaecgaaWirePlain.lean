/-
  What is taken is what was put (plain law).
-/
import Derived.Test.YtmholpploaecgaaTakes
import Derived.Test.YtmholpploaecgaaPuts
namespace Go.Proofs.Ytmholpploaecgaa
open Go.RowKit

/-- The bytes from i on, up to j. -/
def part (bs : List UInt8) (i j : Nat) : List UInt8 := (bs.drop i).take (j - i)
theorem part_cons (bs : List UInt8) (i j : Nat) (hi : i < j) (hj : j ≤ bs.length) : part bs i j = bs.getD i 0 :: part bs (i + 1) j := by
  unfold part
  rw [List.drop_eq_getElem_cons (by omega), show j - i = (j - (i + 1)) + 1 by omega, List.take_succ_cons]
  simp [List.getD, show i < bs.length by omega]
theorem part_self (bs : List UInt8) (i : Nat) : part bs i i = [] := by simp [part]

theorem rFail_at (s : Rs) (e : Int) : (rFail s e).at_ = s.at_ := by unfold rFail; split <;> rfl
theorem rFail_keep (s : Rs) (e : Int) (h : s.err ≠ 0) : rFail s e = s := by unfold rFail; rw [if_neg h]
/-- One byte taken. -/
theorem rByte_ok {bs : List UInt8} {s : Rs} (h : (rByte bs s).2.err = 0) (hs : s.at_ ≤ bs.length) : s.err = 0 ∧ s.at_ < bs.length ∧ rByte bs s = ((bs.getD s.at_ 0).toNat, ⟨s.at_ + 1, 0⟩) := by
  unfold rByte at h
  split at h
  · exact absurd h (rFail_err s 3 (by decide))
  · rename_i hl
    simp only at h
    unfold rLeft at hl
    rw [if_pos h] at hl
    refine ⟨h, by omega, ?_⟩
    unfold rByte rLeft
    rw [if_pos h, if_neg hl, h]
theorem rByte_bad {bs : List UInt8} {s : Rs} (h : (rByte bs s).2.err ≠ 0) : (rByte bs s).1 = 0 ∧ (s.err ≠ 0 → (rByte bs s).2 = s) := by
  unfold rByte at h ⊢
  split
  · exact ⟨rfl, fun he => rFail_keep s 3 he⟩
  · rename_i hl
    rw [if_neg hl] at h
    simp only at h
    unfold rLeft at hl
    rw [if_neg h] at hl
    exact absurd rfl hl
theorem rByte_at {bs : List UInt8} {s : Rs} (hs : s.at_ ≤ bs.length) : s.at_ ≤ (rByte bs s).2.at_ ∧ (rByte bs s).2.at_ ≤ bs.length := by
  unfold rByte
  split
  · simp only [rFail_at]; omega
  · rename_i hl
    unfold rLeft at hl
    split at hl
    · simp only; omega
    · exact absurd rfl hl

theorem byte_ofNat (b : UInt8) : UInt8.ofNat b.toNat = b := UInt8.ofNat_toNat

theorem longFrom_ok (bs : List UInt8) : ∀ (f k n : Nat) (s : Rs), s.at_ ≤ bs.length → (longFrom bs f k n s).2.err = 0 → k + f = 10 → f ≠ 0 →
    s.err = 0 ∧ s.at_ < (longFrom bs f k n s).2.at_ ∧ (longFrom bs f k n s).2.at_ ≤ bs.length ∧ ∃ v, (longFrom bs f k n s).1 = n + v * 2 ^ (7 * k) ∧ encN v = part bs s.at_ (longFrom bs f k n s).2.at_ ∧ (0 < k → 0 < v)
  | 0, _, _, _, _, _, _, h => absurd rfl h
  | f + 1, k, n, s, hs, he, hk, _ => by
    obtain ⟨c, s1, hcs⟩ : ∃ c s1, rByte bs s = (c, s1) := ⟨_, _, rfl⟩
    have hc := rByte_lt bs s
    rw [hcs] at hc
    simp only at hc
    by_cases h1 : (k = 9 ∧ c > 1) ∨ (k > 0 ∧ c = 0)
    · rw [longFrom_bad hcs h1] at he
      exact absurd he (rFail_err s1 4 (by decide))
    by_cases h2 : s1.err = 0
    · have hok := rByte_ok (bs := bs) (s := s) (by rw [hcs]; exact h2) hs
      obtain ⟨o1, o2, o3⟩ := hok
      rw [hcs] at o3
      simp only [Prod.mk.injEq] at o3
      obtain ⟨rfl, rfl⟩ := o3
      by_cases h3 : (bs.getD s.at_ 0).toNat < 128
      · rw [longFrom_last hcs h1 h2 h3]
        refine ⟨o1, by simp only; omega, by simp only; omega, (bs.getD s.at_ 0).toNat, rfl, ?_, by omega⟩
        rw [encN_lo h3, byte_ofNat, part_cons bs s.at_ (s.at_ + 1) (by omega) (by omega), part_self]
      · rw [longFrom_more hcs h1 h2 h3] at he ⊢
        by_cases h9 : k = 9
        · exact absurd (.inl ⟨h9, by omega⟩) h1
        obtain ⟨q1, q2, q3, v, q4, q5, q6⟩ := longFrom_ok bs f (k + 1) _ ⟨s.at_ + 1, 0⟩ (by simp only; omega) he (by omega) (by omega)
        simp only at q2 q5
        have q6 := q6 (by omega)
        refine ⟨o1, by omega, q3, (bs.getD s.at_ 0).toNat % 128 + 128 * v, ?_, ?_, by omega⟩
        · rw [q4, show 7 * (k + 1) = 7 * k + 7 by omega, Nat.pow_add, Nat.add_mul, show (2 : Nat) ^ 7 = 128 from rfl, Nat.mul_comm 128 v, Nat.mul_assoc v 128, Nat.mul_comm 128, Nat.add_assoc]
        · rw [encN_hi (by omega), part_cons bs s.at_ _ (by omega) q3, ← q5]
          congr 1
          · rw [show ((bs.getD s.at_ 0).toNat % 128 + 128 * v) % 128 + 128 = (bs.getD s.at_ 0).toNat by omega, byte_ofNat]
          · congr 1; omega
    · rw [longFrom_err hcs h1 h2] at he
      exact absurd he h2
theorem longFrom_no (bs : List UInt8) : ∀ (f k n : Nat) (s : Rs), s.at_ ≤ bs.length → (longFrom bs f k n s).2.at_ ≤ bs.length ∧ ((longFrom bs f k n s).2.err ≠ 0 → (longFrom bs f k n s).1 = 0 ∧ (f ≠ 0 → s.err ≠ 0 → (longFrom bs f k n s).2.err = s.err))
  | 0, _, _, _, hs => ⟨hs, fun _ => ⟨rfl, fun h => absurd rfl h⟩⟩
  | f + 1, k, n, s, hs => by
    obtain ⟨c, s1, hcs⟩ : ∃ c s1, rByte bs s = (c, s1) := ⟨_, _, rfl⟩
    have hat := rByte_at (bs := bs) hs
    rw [hcs] at hat
    simp only at hat
    have hbad := rByte_bad (bs := bs) (s := s)
    rw [hcs] at hbad
    simp only at hbad
    have herr : s.err ≠ 0 → s1 = s := fun h => (hbad (fun h1 => by
      have := (rByte_ok (bs := bs) (s := s) (by rw [hcs]; exact h1) hs).1
      exact h this)).2 h
    by_cases h1 : (k = 9 ∧ c > 1) ∨ (k > 0 ∧ c = 0)
    · rw [longFrom_bad hcs h1]
      refine ⟨by simp only [rFail_at]; omega, fun _ => ⟨rfl, fun _ he => ?_⟩⟩
      have := herr he
      subst this
      rw [rFail_keep _ _ he]
    by_cases h2 : s1.err = 0
    · by_cases h3 : c < 128
      · rw [longFrom_last hcs h1 h2 h3]
        exact ⟨hat.2, fun h => absurd h2 h⟩
      · rw [longFrom_more hcs h1 h2 h3]
        have := longFrom_no bs f (k + 1) (n + c % 128 * 2 ^ (7 * k)) s1 hat.2
        refine ⟨this.1, fun h => ⟨(this.2 h).1, fun _ he => ?_⟩⟩
        have := herr he
        subst this
        exact absurd h2 he
    · rw [longFrom_err hcs h1 h2]
      refine ⟨hat.2, fun _ => ⟨rfl, fun _ he => ?_⟩⟩
      rw [herr he]

/-- A number was taken: its bytes are those that were taken. -/
theorem rLong_ok {bs : List UInt8} {s : Rs} (hs : s.at_ ≤ bs.length) (h : (rLong bs s).2.err = 0) : s.err = 0 ∧ s.at_ < (rLong bs s).2.at_ ∧ (rLong bs s).2.at_ ≤ bs.length ∧ encN (rLong bs s).1 = part bs s.at_ (rLong bs s).2.at_ := by
  obtain ⟨h1, h2, h3, v, h4, h5, _⟩ := longFrom_ok bs 10 0 0 s hs h rfl (by omega)
  refine ⟨h1, h2, h3, ?_⟩
  have : (rLong bs s).1 = v := by show (longFrom bs 10 0 0 s).1 = v; rw [h4]; simp
  rw [this]; exact h5
theorem rLong_no {bs : List UInt8} {s : Rs} (hs : s.at_ ≤ bs.length) : (rLong bs s).2.at_ ≤ bs.length ∧ ((rLong bs s).2.err ≠ 0 → (rLong bs s).1 = 0 ∧ (s.err ≠ 0 → (rLong bs s).2.err = s.err)) := by
  obtain ⟨h1, h2⟩ := longFrom_no bs 10 0 0 s hs
  exact ⟨h1, fun h => ⟨(h2 h).1, (h2 h).2 (by omega)⟩⟩
theorem zig_unzig (u : Nat) : zig (unzig u) = u := by
  unfold unzig zig
  split <;> split <;> omega
theorem unzig_range {u : Nat} (h : u < 2 ^ 64) : -9223372036854775808 ≤ unzig u ∧ unzig u < 9223372036854775808 := by
  unfold unzig
  have : (2 : Nat) ^ 64 = 18446744073709551616 := rfl
  split <;> omega
end Go.Proofs.Ytmholpploaecgaa
