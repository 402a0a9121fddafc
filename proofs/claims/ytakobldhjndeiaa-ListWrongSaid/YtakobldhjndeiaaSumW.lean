/-
  The walk of crc.Sum.
-/
import Derived.Test.YtakobldhjndeiaaRows
import Derived.Test.YtakobldhjndeiaaCrc
import Derived.Test.YtakobldhjndeiaaNum
import Derived.Test.YtakobldhjndeiaaHeap
import Derived.WalkKit
import Derived.WalkSpells
import Derived.WalkLawsBesides
import Derived.Lib.SlBytesConst
namespace Go.Proofs.Ytakobldhjndeiaa
open Go.RowKit

set_option maxRecDepth 10000 in
set_option maxHeartbeats 1000000 in
/-- The sum of bytes. -/
theorem sum_calls {a : Option Addr} {n cap : Nat} {bs : List UInt8} {w : World} (HB : Bytes w a n cap bs) :
    Calls Try.prog 32 #[.slice a n cap] w fun e w' => e = .returned (.int .u32 ((Crc.sum bs).toNat : Int)) ∧ w' = w := by
  have hbig := HB.big
  have hle := Sl.le HB
  have hlen := HB.len
  subst hlen
  go_enter Try.func32, Try.ntmps32
  go_wp2
  go_loop [3, 8] (fun n i => ∃ k : Nat, k ≤ bs.length ∧ i = .int .i64 k ∧ n = .int .u32 ((Crc.reg (~~~ 0#32) (bs.take k)).toNat : Int)) (fun _ i => bs.length - (intOf i).toNat)
  case atStart => exact ⟨0, by omega, rfl, rfl⟩
  case round =>
    obtain ⟨k, hk, rfl, rfl⟩ := hrel
    obtain ⟨r, hr⟩ : ∃ r, r = Crc.reg (~~~ 0#32) (bs.take k) := ⟨_, rfl⟩
    rw [← hr]
    have HR : Hid _ := hr
    clear hr
    by_cases hlt : k < bs.length
    · obtain ⟨b, off, rfl, g⟩ := HB.at k hlt
      obtain ⟨c, hcc⟩ : ∃ c, c = bs[k] := ⟨_, rfl⟩
      rw [← hcc] at g
      have HCC : Hid _ := hcc
      clear hcc
      have hb0 : (0 : Int) ≤ c.toNat := by omega
      have hb1 : (c.toNat : Int) < 256 := by have := c.toNat_lt; omega
      have e1 : bits .xor .u32 (r.toNat : Int) ((c.toNat : Int) * 16777216) = ((r ^^^ Crc.topByte c).toNat : Int) := by rw [shl24_u32, xor_u32]; rfl
      go_wp2
      clear e1
      go_loop [3, 17] (fun n j => ∃ i : Nat, ∃ m : Crc.B32, i ≤ 8 ∧ j = .int .i64 i ∧ n = .int .u32 (m.toNat : Int) ∧ Hid (Crc.steps (8 - i) m = Crc.byteStep r c)) (fun _ j => 8 - (intOf j).toNat)
      case atStart => exact ⟨0, _, by omega, rfl, rfl, rfl⟩
      case round =>
        obtain ⟨i, m, hi, rfl, rfl, HM⟩ := hrel
        by_cases hi8 : i < 8
        · have HS : Hid (Crc.steps (8 - (i + 1)) (Crc.step m) = Crc.byteStep r c) := by
            have h := HM.out
            rw [show 8 - i = (8 - (i + 1)) + 1 from by omega] at h
            exact h
          have h0 : ((m.toNat : Int) / 2147483648 == 1) = m.msb := msb_u32 m
          by_cases hm : m.msb = true
          · rw [hm] at h0
            have HMM : Hid _ := hm
            clear hm
            go_wp2
            go_roundw
            case rel => exact ⟨i + 1, Crc.step m, by omega, by go_num, by rw [shl1_u32, show (79764919 : Int) = (Crc.poly.toNat : Int) from rfl, xor_u32, Crc.step, if_pos HMM.out], HS⟩
            case measure => simp [intOf]; omega
          · have hm' : m.msb = false := by simpa using hm
            rw [hm'] at h0
            have HMM : Hid _ := hm'
            clear hm hm'
            go_wp2
            go_roundw
            case rel => exact ⟨i + 1, Crc.step m, by omega, by go_num, by rw [shl1_u32, Crc.step, if_neg (by rw [HMM.out]; simp)], HS⟩
            case measure => simp [intOf]; omega
        · go_wp2
          go_roundw
          case rel =>
            refine ⟨k + 1, by omega, by go_num, ?_⟩
            rw [List.take_succ_eq_append_getElem hlt, Crc.reg_snoc, ← HR.out, ← HCC.out, ← HM.out, show 8 - i = 0 from by omega]; rfl
          case measure => simp [intOf]; omega
    · have e1 := signed_u32
      have e2 := bnot_u32 r
      go_wp2
      go_ret
      exact ⟨by rw [Crc.sum, HR.out, List.take_of_length_le (by omega), BitVec.toNat_not]; rfl, rfl⟩

end Go.Proofs.Ytakobldhjndeiaa
