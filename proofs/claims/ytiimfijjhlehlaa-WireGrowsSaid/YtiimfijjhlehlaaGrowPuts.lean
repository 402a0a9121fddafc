/-
  The walk of the law 'WireGrows'.
-/
import Derived.Test.YtiimfijjhlehlaaWirePlain
import Derived.Test.YtiimfijjhlehlaaWireAwake
import Derived.Test.YtiimfijjhlehlaaTakes
namespace Go.Proofs.Ytiimfijjhlehlaa
open Go.RowKit

/-- A greater number has no fewer bytes. -/
theorem encN_mono : ∀ (m n : Nat), m ≤ n → (encN m).length ≤ (encN n).length
  | m, n, h => by
    by_cases hn : n < 128
    · rw [encN_lo hn, encN_lo (show m < 128 by omega)]; exact Nat.le_refl _
    · by_cases hm : m < 128
      · rw [encN_lo hm, encN_hi hn]; simp
      · rw [encN_hi hm, encN_hi hn, List.length_cons, List.length_cons]
        have := encN_mono (m / 128) (n / 128) (by omega)
        omega
termination_by _ n => n
decreasing_by omega
/-- A number and the one turned: their bytes are as many. -/
theorem encN_pair : ∀ (m : Nat), m % 2 = 0 → (encN (m + 1)).length = (encN m).length
  | m, h => by
    by_cases hm : m < 128
    · rw [encN_lo hm, encN_lo (show m + 1 < 128 by omega)]; rfl
    · rw [encN_hi hm, encN_hi (show ¬ m + 1 < 128 by omega), show (m + 1) / 128 = m / 128 by omega]; rfl
theorem zig_turn (n : Int) : (encN (zig (-n - 1))).length = (encN (zig n)).length := by
  unfold zig
  by_cases h : n < 0
  · rw [if_pos h, if_neg (by omega)]
    have := encN_pair (2 * (-n - 1)).toNat (by omega)
    rw [← this]; congr 2; omega
  · rw [if_neg h, if_pos (by omega)]
    have := encN_pair (2 * n).toNat (by omega)
    rw [← this]; congr 2; omega

theorem xor_1m_i64 (a : Int) (h : -9223372036854775808 ≤ a ∧ a < 9223372036854775808) : bits .xor .i64 (-1) a = -a - 1 := by
  rw [← xor_m1_i64 a h]
  unfold bits
  show IntKind.i64.wrap (((BitVec.ofInt 64 (-1) ^^^ BitVec.ofInt 64 a).toNat : Nat) : Int) = IntKind.i64.wrap (((BitVec.ofInt 64 a ^^^ BitVec.ofInt 64 (-1)).toNat : Nat) : Int)
  rw [BitVec.xor_comm]

set_option maxRecDepth 10000 in
set_option maxHeartbeats 400000 in
theorem put_min (a b m : Int) (wa : 0 ≤ a ∧ a < 4294967296) (wb : 0 ≤ b ∧ b < 4294967296) (hm : m = min a b) {ba bb : Nat} {T : TypeId} {w : World} {g : Nat} {S : List Nat} (h : Wr w g S []) (HA : w.heap[ba]? = some (.cells #[.int .u32 a] T (0, 0))) (HB : w.heap[bb]? = some (.cells #[.int .u32 b] T (0, 0))) :
    Calls Try.prog 10 #[.pointer (some ⟨g, 0, none⟩), .pointer (some ⟨ba, 0, none⟩), .pointer (some ⟨bb, 0, none⟩)] w fun e w' => e = .returned (.tuple #[]) ∧ ∃ S', Wr w' g S' (encN m.toNat) ∧ Grows S w S' ∧ Fr S w w' := by
  have cA := cell_at HA 0
  have cB := cell_at HB 0
  obtain ⟨d, hd, hw⟩ : ∃ d : Bool, decide (b < a) = d ∧ ((d = true ∧ m = b) ∨ (d = false ∧ m = a)) := ⟨_, rfl, by simp only [decide_eq_true_eq, decide_eq_false_iff_not]; omega⟩
  have hm0 : 0 ≤ m ∧ m < 4294967296 := by omega
  have q0 : (if b < a then b else a) = m := by rcases hw with ⟨rfl, h⟩ | ⟨rfl, h⟩ <;> simp only [decide_eq_true_eq, decide_eq_false_iff_not] at hd <;> simp [hd, h]
  have q1 : IntKind.i64.wrap m = m := IntWalk.i64_in _ (by omega)
  clear hw hm hd
  go_enter Try.func10, Try.ntmps10
  go_wp2_with (go_at_call 11; refine (count_calls h m (by omega) (by simp)).mono ?_; rintro e w1 ⟨rfl, S1, hw1, hG1, hf1⟩; rw [List.nil_append] at hw1)
  go_end0
  exact ⟨rfl, S1, hw1, hG1, hf1⟩

set_option maxRecDepth 10000 in
set_option maxHeartbeats 400000 in
theorem size_min (a b m : Int) (wa : 0 ≤ a ∧ a < 4294967296) (wb : 0 ≤ b ∧ b < 4294967296) (hm : m = min a b) {ba bb : Nat} {T : TypeId} {w : World} (HA : w.heap[ba]? = some (.cells #[.int .u32 a] T (0, 0))) (HB : w.heap[bb]? = some (.cells #[.int .u32 b] T (0, 0))) :
    Calls Try.prog 8 #[.func (.func 10) #[] #[.pointer (some ⟨ba, 0, none⟩), .pointer (some ⟨bb, 0, none⟩)]] w fun e w' => e = .returned (.int .i64 (encN m.toNat).length) ∧ Below w.heap.size w w' := by
  have HM : Hid _ := hm
  clear hm
  have HA1 := heap_keep HA (.cells #[.slice none 0 0] 28)
  have HB1 := heap_keep HB (.cells #[.slice none 0 0] 28)
  have hw0 := Wr.new w 28
  go_enter Try.func8, Try.ntmps8
  go_wp2_with (first
    | (go_at_call 10; refine (put_min a b m wa wb HM.out hw0 HA1 HB1).mono ?_; rintro e w1 ⟨rfl, S1, hw1, hG1, hf1⟩)
    | (go_at_call 9; refine (wlen_calls hw1).mono ?_; rintro e w2 ⟨rfl, rfl⟩))
  go_ret
  exact ⟨rfl, Fr.below ((Below.refl _ _).alloc (Nat.le_refl _) _) hf1 (by simp) (by rw [World.alloc]; simp)⟩

set_option maxRecDepth 10000 in
set_option maxHeartbeats 400000 in
theorem put_max (a b m : Int) (wa : 0 ≤ a ∧ a < 4294967296) (wb : 0 ≤ b ∧ b < 4294967296) (hm : m = max a b) {ba bb : Nat} {T : TypeId} {w : World} {g : Nat} {S : List Nat} (h : Wr w g S []) (HA : w.heap[ba]? = some (.cells #[.int .u32 a] T (0, 0))) (HB : w.heap[bb]? = some (.cells #[.int .u32 b] T (0, 0))) :
    Calls Try.prog 12 #[.pointer (some ⟨g, 0, none⟩), .pointer (some ⟨ba, 0, none⟩), .pointer (some ⟨bb, 0, none⟩)] w fun e w' => e = .returned (.tuple #[]) ∧ ∃ S', Wr w' g S' (encN m.toNat) ∧ Grows S w S' ∧ Fr S w w' := by
  have cA := cell_at HA 0
  have cB := cell_at HB 0
  obtain ⟨d, hd, hw⟩ : ∃ d : Bool, decide (b > a) = d ∧ ((d = true ∧ m = b) ∨ (d = false ∧ m = a)) := ⟨_, rfl, by simp only [decide_eq_true_eq, decide_eq_false_iff_not]; omega⟩
  have hm0 : 0 ≤ m ∧ m < 4294967296 := by omega
  have q0 : (if b > a then b else a) = m := by rcases hw with ⟨rfl, h⟩ | ⟨rfl, h⟩ <;> simp only [decide_eq_true_eq, decide_eq_false_iff_not] at hd <;> simp [hd, h]
  have q1 : IntKind.i64.wrap m = m := IntWalk.i64_in _ (by omega)
  clear hw hm hd
  go_enter Try.func12, Try.ntmps12
  go_wp2_with (go_at_call 11; refine (count_calls h m (by omega) (by simp)).mono ?_; rintro e w1 ⟨rfl, S1, hw1, hG1, hf1⟩; rw [List.nil_append] at hw1)
  go_end0
  exact ⟨rfl, S1, hw1, hG1, hf1⟩

set_option maxRecDepth 10000 in
set_option maxHeartbeats 400000 in
theorem size_max (a b m : Int) (wa : 0 ≤ a ∧ a < 4294967296) (wb : 0 ≤ b ∧ b < 4294967296) (hm : m = max a b) {ba bb : Nat} {T : TypeId} {w : World} (HA : w.heap[ba]? = some (.cells #[.int .u32 a] T (0, 0))) (HB : w.heap[bb]? = some (.cells #[.int .u32 b] T (0, 0))) :
    Calls Try.prog 8 #[.func (.func 12) #[] #[.pointer (some ⟨ba, 0, none⟩), .pointer (some ⟨bb, 0, none⟩)]] w fun e w' => e = .returned (.int .i64 (encN m.toNat).length) ∧ Below w.heap.size w w' := by
  have HM : Hid _ := hm
  clear hm
  have HA1 := heap_keep HA (.cells #[.slice none 0 0] 28)
  have HB1 := heap_keep HB (.cells #[.slice none 0 0] 28)
  have hw0 := Wr.new w 28
  go_enter Try.func8, Try.ntmps8
  go_wp2_with (first
    | (go_at_call 12; refine (put_max a b m wa wb HM.out hw0 HA1 HB1).mono ?_; rintro e w1 ⟨rfl, S1, hw1, hG1, hf1⟩)
    | (go_at_call 9; refine (wlen_calls hw1).mono ?_; rintro e w2 ⟨rfl, rfl⟩))
  go_ret
  exact ⟨rfl, Fr.below ((Below.refl _ _).alloc (Nat.le_refl _) _) hf1 (by simp) (by rw [World.alloc]; simp)⟩

set_option maxRecDepth 10000 in
set_option maxHeartbeats 400000 in
theorem put_int (a : Int) (wa : -9223372036854775808 ≤ a ∧ a < 9223372036854775808) {ba : Nat} {T : TypeId} {w : World} {g : Nat} {S : List Nat} (h : Wr w g S []) (HA : w.heap[ba]? = some (.cells #[.int .i64 a] T (0, 0))) :
    Calls Try.prog 13 #[.pointer (some ⟨g, 0, none⟩), .pointer (some ⟨ba, 0, none⟩)] w fun e w' => e = .returned (.tuple #[]) ∧ ∃ S', Wr w' g S' (encN (zig a)) ∧ Grows S w S' ∧ Fr S w w' := by
  have cA := cell_at HA 0
  go_enter Try.func13, Try.ntmps13
  go_wp2_with (go_at_call 14; refine (wint_calls h a wa (by simp)).mono ?_; rintro e w1 ⟨rfl, S1, hw1, hG1, hf1⟩; rw [List.nil_append] at hw1)
  go_end0
  exact ⟨rfl, S1, hw1, hG1, hf1⟩

set_option maxRecDepth 10000 in
set_option maxHeartbeats 400000 in
theorem size_int (a : Int) (wa : -9223372036854775808 ≤ a ∧ a < 9223372036854775808) {ba : Nat} {T : TypeId} {w : World} (HA : w.heap[ba]? = some (.cells #[.int .i64 a] T (0, 0))) :
    Calls Try.prog 8 #[.func (.func 13) #[] #[.pointer (some ⟨ba, 0, none⟩)]] w fun e w' => e = .returned (.int .i64 (encN (zig a)).length) ∧ Below w.heap.size w w' := by
  have HA1 := heap_keep HA (.cells #[.slice none 0 0] 28)
  have hw0 := Wr.new w 28
  go_enter Try.func8, Try.ntmps8
  go_wp2_with (first
    | (go_at_call 13; refine (put_int a wa hw0 HA1).mono ?_; rintro e w1 ⟨rfl, S1, hw1, hG1, hf1⟩)
    | (go_at_call 9; refine (wlen_calls hw1).mono ?_; rintro e w2 ⟨rfl, rfl⟩))
  go_ret
  exact ⟨rfl, Fr.below ((Below.refl _ _).alloc (Nat.le_refl _) _) hf1 (by simp) (by rw [World.alloc]; simp)⟩

set_option maxRecDepth 10000 in
set_option maxHeartbeats 400000 in
theorem put_not (a : Int) (wa : -9223372036854775808 ≤ a ∧ a < 9223372036854775808) (z : Int) (hz : z = -a - 1) {ba : Nat} {T : TypeId} {w : World} {g : Nat} {S : List Nat} (h : Wr w g S []) (HA : w.heap[ba]? = some (.cells #[.int .i64 a] T (0, 0))) :
    Calls Try.prog 15 #[.pointer (some ⟨g, 0, none⟩), .pointer (some ⟨ba, 0, none⟩)] w fun e w' => e = .returned (.tuple #[]) ∧ ∃ S', Wr w' g S' (encN (zig z)) ∧ Grows S w S' ∧ Fr S w w' := by
  have cA := cell_at HA 0
  have qs : (if IntKind.i64.signed = true then (-1 : Int) else 9223372036854775807) = -1 := rfl
  have q0 := xor_1m_i64 a wa
  rw [← hz] at q0
  have wz : -9223372036854775808 ≤ z ∧ z < 9223372036854775808 := by omega
  clear hz
  go_enter Try.func15, Try.ntmps15
  go_wp2_with (go_at_call 14; (try rw [qs]); (try rw [q0]); refine (wint_calls h z wz (by simp)).mono ?_; rintro e w1 ⟨rfl, S1, hw1, hG1, hf1⟩; rw [List.nil_append] at hw1)
  go_end0
  exact ⟨rfl, S1, hw1, hG1, hf1⟩

set_option maxRecDepth 10000 in
set_option maxHeartbeats 400000 in
theorem size_not (a : Int) (wa : -9223372036854775808 ≤ a ∧ a < 9223372036854775808) (z : Int) (hz : z = -a - 1) {ba : Nat} {T : TypeId} {w : World} (HA : w.heap[ba]? = some (.cells #[.int .i64 a] T (0, 0))) :
    Calls Try.prog 8 #[.func (.func 15) #[] #[.pointer (some ⟨ba, 0, none⟩)]] w fun e w' => e = .returned (.int .i64 (encN (zig z)).length) ∧ Below w.heap.size w w' := by
  have HM : Hid _ := hz
  clear hz
  have HA1 := heap_keep HA (.cells #[.slice none 0 0] 28)
  have hw0 := Wr.new w 28
  go_enter Try.func8, Try.ntmps8
  go_wp2_with (first
    | (go_at_call 15; refine (put_not a wa z HM.out hw0 HA1).mono ?_; rintro e w1 ⟨rfl, S1, hw1, hG1, hf1⟩)
    | (go_at_call 9; refine (wlen_calls hw1).mono ?_; rintro e w2 ⟨rfl, rfl⟩))
  go_ret
  exact ⟨rfl, Fr.below ((Below.refl _ _).alloc (Nat.le_refl _) _) hf1 (by simp) (by rw [World.alloc]; simp)⟩

end Go.Proofs.Ytiimfijjhlehlaa
