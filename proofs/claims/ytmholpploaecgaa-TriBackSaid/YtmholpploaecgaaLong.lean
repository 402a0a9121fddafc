/-
  The reader's 'long': the next number of 64 bits.
-/
import Derived.Test.YtmholpploaecgaaReader
namespace Go.Proofs.Ytmholpploaecgaa
open Go.RowKit

def longFrom (bs : List UInt8) : Nat → Nat → Nat → Rs → Nat × Rs
  | 0, _, _, s => (0, s)
  | fuel + 1, k, n, s =>
    if (k = 9 ∧ (rByte bs s).1 > 1) ∨ (k > 0 ∧ (rByte bs s).1 = 0) then (0, rFail (rByte bs s).2 4)
    else if (rByte bs s).2.err ≠ 0 then (0, (rByte bs s).2)
    else if (rByte bs s).1 < 128 then (n + (rByte bs s).1 * 2 ^ (7 * k), (rByte bs s).2)
    else longFrom bs fuel (k + 1) (n + (rByte bs s).1 % 128 * 2 ^ (7 * k)) (rByte bs s).2
def rLong (bs : List UInt8) (s : Rs) : Nat × Rs := longFrom bs 10 0 0 s

theorem rByte_lt (bs : List UInt8) (s : Rs) : (rByte bs s).1 < 256 := by
  unfold rByte
  split
  · exact Nat.zero_lt_succ _
  · exact UInt8.toNat_lt _
theorem rFail_err (s : Rs) (e : Int) (he : e ≠ 0) : (rFail s e).err ≠ 0 := by
  unfold rFail
  split
  · exact he
  · assumption

theorem and_127 (c : Nat) (h : c < 256) : bits .and .u8 (c : Int) 127 = ((c % 128 : Nat) : Int) := by
  unfold bits
  rw [show (127 : Int) = ((127 : Nat) : Int) from rfl, BitVec.ofInt_natCast, BitVec.ofInt_natCast]
  show IntKind.u8.wrap (((BitVec.ofNat 8 c &&& BitVec.ofNat 8 127).toNat : Nat) : Int) = _
  rw [BitVec.toNat_and, BitVec.toNat_ofNat, BitVec.toNat_ofNat, IntKind.wrap_u8, Nat.mod_eq_of_lt h, show 127 % 2 ^ 8 = 2 ^ 7 - 1 from rfl, Nat.and_two_pow_sub_one_eq_mod]
  omega
theorem or_u64 (a b k : Nat) (ha : a < 2 ^ k) (hab : a + b * 2 ^ k < 2 ^ 64) : bits .or .u64 (a : Int) ((b * 2 ^ k : Nat) : Int) = ((a + b * 2 ^ k : Nat) : Int) := by
  unfold bits
  rw [BitVec.ofInt_natCast, BitVec.ofInt_natCast]
  show IntKind.u64.wrap (((BitVec.ofNat 64 a ||| BitVec.ofNat 64 (b * 2 ^ k)).toNat : Nat) : Int) = _
  rw [BitVec.toNat_or, BitVec.toNat_ofNat, BitVec.toNat_ofNat, IntKind.wrap_u64, Nat.mod_eq_of_lt (by omega), Nat.mod_eq_of_lt (by omega), Nat.or_comm, Nat.mul_comm b, ← Nat.two_pow_add_eq_or_of_lt ha, Nat.add_comm]
  have : (2 : Nat) ^ 64 = 18446744073709551616 := rfl
  rw [Nat.mul_comm] at hab ⊢
  rw [Nat.mul_comm b] 
  omega

/-- The ways of the test for bytes that may not be. -/
theorem long_ways (k c : Nat) (z : Int) (hz : z = 7 * k) (hk : k ≤ 9) : ∃ b0 b1 b2 b3 : Bool, (z == 63) = b0 ∧ decide ((c : Int) > 1) = b1 ∧ decide (z > 0) = b2 ∧ ((c : Int) == 0) = b3 ∧
    (((b0 = true ∧ b1 = true) ∨ (b0 = true ∧ b1 = false ∧ b2 = true ∧ b3 = true) ∨ (b0 = false ∧ b2 = true ∧ b3 = true)) ∧ Hid ((k = 9 ∧ c > 1) ∨ (k > 0 ∧ c = 0)) ∨
     ((b0 = true ∧ b1 = false ∧ b2 = true ∧ b3 = false) ∨ (b0 = false ∧ b2 = true ∧ b3 = false) ∨ (b0 = false ∧ b2 = false)) ∧ Hid (¬ ((k = 9 ∧ c > 1) ∨ (k > 0 ∧ c = 0)))) := by
  refine ⟨_, _, _, _, rfl, rfl, rfl, rfl, ?_⟩
  simp only [decide_eq_true_eq, decide_eq_false_iff_not, beq_iff_eq, beq_eq_false_iff_ne, Hid]
  omega

theorem long_val (n k c : Nat) (hn : n < 2 ^ (7 * k)) (hc : c < 256) (hk : k ≤ 9) (hw : ¬ (k = 9 ∧ c > 1)) (P : Int) (hP : P = ((2 ^ (7 * k) : Nat) : Int)) :
    bits .or .u64 (n : Int) (IntKind.u64.wrap (IntKind.u64.wrap (bits .and .u8 (c : Int) 127) * P)) = ((n + c % 128 * 2 ^ (7 * k) : Nat) : Int) ∧ n + c % 128 * 2 ^ (7 * k) < 2 ^ 64 ∧ (k < 9 → n + c % 128 * 2 ^ (7 * k) < 2 ^ (7 * (k + 1))) := by
  have hlt : n + c % 128 * 2 ^ (7 * k) < 2 ^ 64 ∧ (k < 9 → n + c % 128 * 2 ^ (7 * k) < 2 ^ (7 * (k + 1))) := by
    by_cases h9 : k = 9
    · subst h9
      have : c % 128 ≤ 1 := by omega
      have h2 : c % 128 * 2 ^ (7 * 9) ≤ 1 * 2 ^ (7 * 9) := Nat.mul_le_mul_right _ this
      have : (2 : Nat) ^ 64 = 2 ^ (7 * 9) + 2 ^ (7 * 9) := rfl
      omega
    · have h7 : n + c % 128 * 2 ^ (7 * k) < 2 ^ (7 * (k + 1)) := by
        have h1 : c % 128 ≤ 127 := by omega
        have h2 : c % 128 * 2 ^ (7 * k) ≤ 127 * 2 ^ (7 * k) := Nat.mul_le_mul_right _ h1
        have : (2 : Nat) ^ (7 * (k + 1)) = 128 * 2 ^ (7 * k) := by rw [show 7 * (k + 1) = 7 * k + 7 by omega, Nat.pow_add]; omega
        omega
      have : (2 : Nat) ^ (7 * (k + 1)) ≤ 2 ^ 64 := Nat.pow_le_pow_right (by omega) (by omega)
      omega
  refine ⟨?_, hlt⟩
  have hm : c % 128 * 2 ^ (7 * k) < 2 ^ 64 := by omega
  have h64 : (2 : Nat) ^ 64 = 18446744073709551616 := rfl
  rw [and_127 c hc, hP, IntKind.wrap_u64, IntKind.wrap_u64]
  have e1 : (((c % 128 : Nat) : Int) % 18446744073709551616) = ((c % 128 : Nat) : Int) := by omega
  rw [e1, ← Int.natCast_mul]
  have e2 : (((c % 128 * 2 ^ (7 * k) : Nat) : Int) % 18446744073709551616) = ((c % 128 * 2 ^ (7 * k) : Nat) : Int) := by omega
  rw [e2]
  exact or_u64 n (c % 128) (7 * k) hn hlt.1

theorem longFrom_bad {bs : List UInt8} {f k n c : Nat} {s s1 : Rs} (hb : rByte bs s = (c, s1)) (h : (k = 9 ∧ c > 1) ∨ (k > 0 ∧ c = 0)) : longFrom bs (f + 1) k n s = (0, rFail s1 4) := by
  unfold longFrom; rw [hb, if_pos h]
theorem longFrom_err {bs : List UInt8} {f k n c : Nat} {s s1 : Rs} (hb : rByte bs s = (c, s1)) (h : ¬ ((k = 9 ∧ c > 1) ∨ (k > 0 ∧ c = 0))) (he : s1.err ≠ 0) : longFrom bs (f + 1) k n s = (0, s1) := by
  unfold longFrom; rw [hb, if_neg h, if_pos he]
theorem longFrom_last {bs : List UInt8} {f k n c : Nat} {s s1 : Rs} (hb : rByte bs s = (c, s1)) (h : ¬ ((k = 9 ∧ c > 1) ∨ (k > 0 ∧ c = 0))) (he : s1.err = 0) (hc : c < 128) : longFrom bs (f + 1) k n s = (n + c * 2 ^ (7 * k), s1) := by
  unfold longFrom; rw [hb, if_neg h, if_neg (by simp [he]), if_pos hc]
theorem longFrom_more {bs : List UInt8} {f k n c : Nat} {s s1 : Rs} (hb : rByte bs s = (c, s1)) (h : ¬ ((k = 9 ∧ c > 1) ∨ (k > 0 ∧ c = 0))) (he : s1.err = 0) (hc : ¬ c < 128) : longFrom bs (f + 1) k n s = longFrom bs f (k + 1) (n + c % 128 * 2 ^ (7 * k)) s1 := by
  rw [longFrom, hb, if_neg h, if_neg (by simp [he]), if_neg hc]

set_option maxRecDepth 10000 in
set_option maxHeartbeats 1000000 in
theorem long_calls {w : World} {g : Nat} {S : List Nat} {bs : List UInt8} {s : Rs} (h : Rd w g S bs s) :
    Calls Try.prog 36 #[.pointer (some ⟨g, 0, none⟩)] w fun x w' => x = .returned (.int .u64 ((rLong bs s).1 : Nat)) ∧ Rd w' g S bs (rLong bs s).2 ∧ Fr [g] w w' := by
  obtain ⟨wo, rfl⟩ : ∃ wo : World, wo = w := ⟨_, rfl⟩
  go_enter Try.func36, Try.ntmps36
  go_wp2
  go_loopw [3, 4, 5] (fun v i _ wr => ∃ k n : Nat, ∃ z : Int, ∃ s' : Rs, k ≤ 9 ∧ Hid (n < 2 ^ (7 * k)) ∧ v = .int .u64 n ∧ Hid (z = 7 * k) ∧ i = .int .i64 z ∧ Rd wr g S bs s' ∧ Hid (Fr [g] wo wr) ∧ Hid (longFrom bs (10 - k) k n s' = rLong bs s)) (fun _ i _ _ => 70 - (intOf i).toNat)
  case atStart => exact ⟨0, 0, 0, s, by omega, (by show _ < _; simp), rfl, rfl, rfl, h, Fr.refl _ _, rfl⟩
  case round =>
    clear h
    obtain ⟨k, n, z, s', hk, hn, rfl, hz, rfl, hr, hf, HL⟩ := hrel
    have hz9 : 0 ≤ z ∧ z ≤ 63 := by have := hz.out; omega
    obtain ⟨c, s1, hcs⟩ : ∃ c s1, rByte bs s' = (c, s1) := ⟨_, _, rfl⟩
    have hc : c < 256 := by have := rByte_lt bs s'; rw [hcs] at this; exact this
    have HB := rbyte_calls hr
    rw [hcs] at HB
    simp only at HB
    have HC : Hid _ := hcs
    clear hcs
    obtain ⟨b0, b1, b2, b3, t0, t1, t2, t3, hw⟩ := long_ways k c z hz.out hk
    rcases hw with ⟨hw, HW⟩ | ⟨hw, HW⟩
    · have he2 : ((rFail s1 4).err != 0) = true := by rw [bne_iff_ne]; exact rFail_err s1 4 (by decide)
      have HR : Hid (rLong bs s = (0, rFail s1 4)) := by
        show _ = _
        rw [← HL.out, show 10 - k = (9 - k) + 1 by omega]
        exact longFrom_bad HC.out HW.out
      obtain ⟨s2, hs2⟩ : ∃ s2, rFail s1 4 = s2 := ⟨_, rfl⟩
      rw [hs2] at he2 HR
      rcases hw with ⟨rfl, rfl⟩ | ⟨rfl, rfl, rfl, rfl⟩ | ⟨rfl, rfl, rfl⟩
      all_goals
        go_wp2_with (first
          | (go_at_call 39; refine HB.mono ?_; rintro x w1 ⟨rfl, hr1, hf1⟩)
          | (go_at_call 32; refine (rfail_calls hr1 4).mono ?_; rintro x w2 ⟨rfl, hr2, hf2⟩; rw [hs2] at hr2)
          | (go_at_call 19; refine (rerr_calls hr2).mono ?_; rintro x w3 ⟨rfl, rfl⟩))
        go_ret
        rw [HR.out]
        exact ⟨rfl, hr2, (hf.out.trans hf1 (Grows.refl _ _)).trans hf2 (Grows.refl _ _)⟩
    · by_cases he : s1.err = 0
      · have he2 : (s1.err != 0) = false := by rw [bne_eq_false_iff_eq]; exact he
        have HV : Hid _ := long_val n k c hn.out hc hk (fun h => HW.out (.inl h))
        have HM : Hid _ := fun h => longFrom_more (f := 9 - k) (n := n) HC.out HW.out he h
        have HE : Hid _ := fun h => longFrom_last (f := 9 - k) (n := n) HC.out HW.out he h
        have HP : Hid ((2 : Int) ^ z.toNat = ((2 ^ (7 * k) : Nat) : Int)) := by
          show _ = _
          rw [show z.toNat = 7 * k by have := hz.out; omega]
          exact (Int.natCast_pow 2 _).symm
        have HV1 : Hid _ := (HV.out _ HP.out).1
        have HV3 : Hid _ := (HV.out _ HP.out).2.2
        by_cases hc128 : c < 128
        · have t4 : decide ((c : Int) < 128) = true := by simp; omega
          have HR : Hid (rLong bs s = (n + c * 2 ^ (7 * k), s1)) := by
            show _ = _
            rw [← HL.out, show 10 - k = (9 - k) + 1 by omega]
            exact HE.out hc128
          rcases hw with ⟨rfl, rfl, rfl, rfl⟩ | ⟨rfl, rfl, rfl⟩ | ⟨rfl, rfl⟩
          all_goals
            go_wp2_with (first
              | (go_at_call 39; refine HB.mono ?_; rintro x w1 ⟨rfl, hr1, hf1⟩)
              | (go_at_call 19; refine (rerr_calls hr1).mono ?_; rintro x w3 ⟨rfl, rfl⟩))
            go_ret
            rw [HR.out]
            exact ⟨congrArg (fun u => Ending.returned (.int .u64 u)) (HV1.out.trans (by rw [Nat.mod_eq_of_lt hc128])), hr1, hf.out.trans hf1 (Grows.refl _ _)⟩
        · have t4 : decide ((c : Int) < 128) = false := by simp; omega
          have h9 : k < 9 := by have := HW.out; omega
          rcases hw with ⟨rfl, rfl, rfl, rfl⟩ | ⟨rfl, rfl, rfl⟩ | ⟨rfl, rfl⟩
          all_goals
            go_wp2_with (first
              | (go_at_call 39; refine HB.mono ?_; rintro x w1 ⟨rfl, hr1, hf1⟩)
              | (go_at_call 19; refine (rerr_calls hr1).mono ?_; rintro x w3 ⟨rfl, rfl⟩))
            go_roundw
            case rel =>
              refine ⟨k + 1, n + c % 128 * 2 ^ (7 * k), z + 7, s1, by omega, HV3.out h9, by rw [HV1.out], (by show _ = _; have := hz.out; omega), by go_num, hr1, hf.out.trans hf1 (Grows.refl _ _), ?_⟩
              show _ = _
              rw [← HL.out, show 10 - k = (9 - k) + 1 by omega, show 10 - (k + 1) = 9 - k by omega]
              exact (HM.out hc128).symm
            case measure => simp [intOf]; omega
      · have he2 : (s1.err != 0) = true := by rw [bne_iff_ne]; exact he
        have HR : Hid (rLong bs s = (0, s1)) := by
          show _ = _
          rw [← HL.out, show 10 - k = (9 - k) + 1 by omega]
          exact longFrom_err HC.out HW.out he
        rcases hw with ⟨rfl, rfl, rfl, rfl⟩ | ⟨rfl, rfl, rfl⟩ | ⟨rfl, rfl⟩
        all_goals
          go_wp2_with (first
            | (go_at_call 39; refine HB.mono ?_; rintro x w1 ⟨rfl, hr1, hf1⟩)
            | (go_at_call 19; refine (rerr_calls hr1).mono ?_; rintro x w3 ⟨rfl, rfl⟩))
          go_ret
          rw [HR.out]
          exact ⟨rfl, hr1, hf.out.trans hf1 (Grows.refl _ _)⟩
end Go.Proofs.Ytmholpploaecgaa
