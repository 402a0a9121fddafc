/-
  The walk of 'CrcAny'.
-/
import Derived.Test.YteoaeifcneiinaaRefSumW
import Derived.Test.YteoaeifcneiinaaStr
import Derived.Deep.QuietTactic
import Derived.BigQuiet
import Derived.BigRegion
import Derived.Deep.DeepCutAuto
namespace Go.Proofs.Yteoaeifcneiinaa
open Go.RowKit

set_option maxRecDepth 10000 in
set_option maxHeartbeats 1000000 in
theorem any_walk {a : Option Addr} {n cap : Nat} {bs : List UInt8} {w : World} (HB : Bytes w a n cap bs) :
    Calls Try.prog 4 #[.slice a n cap] w fun e w' => e = .returned (.bool true) ∧ Below w.heap.size w w' := by
  have hbig := HB.big
  have hle := Sl.le HB
  have hlen := HB.len
  subst hlen
  by_cases h200 : bs.length > 200
  · have hd : decide ((bs.length : Int) > 200) = true := by simp; omega
    go_enter Try.func4, Try.ntmps4
    go_wp2_with (go_at_call 7; refine (awake_calls _).mono ?_; rintro e w1 ⟨rfl, hb1⟩)
    go_ret
    exact ⟨rfl, hb1⟩
  by_cases h4 : 4 ≤ bs.length
  · obtain ⟨b, off, rfl, _⟩ := HB.at 0 (by omega)
    have hcs : ((bs.length : Int) - 4) = ((bs.length - 4 : Nat) : Int) := by omega
    obtain ⟨s, hs⟩ : ∃ s, s = Crc.sum (bs.take (bs.length - 4)) := ⟨_, rfl⟩
    have HS : Hid _ := hs
    clear hs
    go_enter Try.func4, Try.ntmps4
    go_wp2_with (first
      | (go_at_call 7; refine (awake_calls _).mono ?_; rintro e w1 ⟨rfl, hb1⟩)
      | (go_at_call 9; refine (ref_sum_calls ((HB.keep hb1).front (bs.length - 4) (by omega)) (by omega)).mono ?_; rintro e w2 ⟨rfl, hb2⟩; rw [← HS.out]))
    obtain ⟨q0, q1, q2, q3, hbe, e0, e1, e2, e3⟩ := be_nums s
    have HBE : Hid _ := hbe
    clear hbe
    have B2 := (HB.keep hb1).keep hb2
    have B3 := B2.back (bs.length - 4) (by omega)
    have hX : Hid (Bytes (w2.alloc (.cells #[.int .u8 (q0.toNat : Int), .int .u8 (q1.toNat : Int), .int .u8 (q2.toNat : Int), .int .u8 (q3.toNat : Int)] 5)) (some ⟨w2.heap.size, 0, none⟩) 4 4 [q0, q1, q2, q3]) := Bytes.new _ _ _ _ [q0, q1, q2, q3] rfl (of_decide_eq_true rfl)
    have c1 := run_str (P := Try.prog) B3.drew 22 9 5 Try.underlying22 Try.underlying5 Try.underlying9
    have c2 := run_str (P := Try.prog) (B3.keep ((Below.refl _ _).alloc (Nat.le_refl _) (.cells #[.int .u8 (q0.toNat : Int), .int .u8 (q1.toNat : Int), .int .u8 (q2.toNat : Int), .int .u8 (q3.toNat : Int)] 5))).drew 22 9 5 Try.underlying22 Try.underlying5 Try.underlying9
    have c3 := run_str (P := Try.prog) hX.out.drew 22 9 5 Try.underlying22 Try.underlying5 Try.underlying9
    have B5 := (B2.keep ((Below.refl _ _).alloc (Nat.le_refl _) (.cells #[.int .u8 (q0.toNat : Int), .int .u8 (q1.toNat : Int), .int .u8 (q2.toNat : Int), .int .u8 (q3.toNat : Int)] 5))).drew
    have hb3 := (((hb1.trans (hb2.mono hb1.size)).alloc (Nat.le_trans hb1.size hb2.size) (.cells #[.int .u8 (q0.toNat : Int), .int .u8 (q1.toNat : Int), .int .u8 (q2.toNat : Int), .int .u8 (q3.toNat : Int)] 5))).drew
    have HB3 : Hid _ := hb3
    clear hb3
    have hr : ((str (bs.drop (bs.length - 4))).toList == (str [q0, q1, q2, q3]).toList) = rightB bs := by
      rw [str_beq, ← HBE.out, HS.out, rightB]
      simp [h4]
    go_region
    clear c1 c2 c3
    go_wp2_with (go_at_call 10; refine (right_calls B5).mono ?_; rintro e w3 ⟨rfl, rfl⟩)
    go_ret
    exact ⟨rfl, HB3.out⟩
  · have hd : decide ((bs.length : Int) ≥ 4) = false := by simp; omega
    have hr : rightB bs = false := by simp [rightB, h4]
    go_enter Try.func4, Try.ntmps4
    go_wp2_with (first
      | (go_at_call 7; refine (awake_calls _).mono ?_; rintro e w1 ⟨rfl, hb1⟩)
      | (go_at_call 10; refine (right_calls (HB.keep hb1)).mono ?_; rintro e w3 ⟨rfl, rfl⟩; rw [hr]))
    go_ret
    exact ⟨rfl, hb1⟩
end Go.Proofs.Yteoaeifcneiinaa
