/-
  The walk of the law 'WireGrows'.
-/
import Derived.Test.YtiimfijjhlehlaaGrowPuts
namespace Go.Proofs.Ytiimfijjhlehlaa
open Go.RowKit

theorem encN_tight : ∀ (k n : Nat), n < 2 ^ (7 * (k + 1)) → (encN n).length ≤ k + 1
  | 0, n, h => by rw [encN_lo (by simpa using h)]; simp
  | k + 1, n, h => by
    by_cases hn : n < 128
    · rw [encN_lo hn]; simp
    · have hp : 2 ^ (7 * (k + 1 + 1)) = 128 * 2 ^ (7 * (k + 1)) := by rw [show 7 * (k + 1 + 1) = 7 + 7 * (k + 1) by omega, Nat.pow_add]
      rw [encN_hi hn, List.length_cons]
      have := encN_tight k (n / 128) (by rw [hp] at h; omega)
      omega
theorem heap_below {w w' : World} {b : Nat} {o : Obj} (h : w.heap[b]? = some o) (hb : Below w.heap.size w w') : w'.heap[b]? = some o := by rw [hb.block b (heap_lt h)]; exact h

set_option maxRecDepth 100000 in
set_option maxHeartbeats 4000000 in
theorem grows_walk (a : Int) (wa : (Lit.int .u32 a).wf = true) (b : Int) (wb : (Lit.int .u32 b).wf = true) (n : Int) (wn : (Lit.int .i64 n).wf = true) {w : World} :
    Calls Try.prog 3 #[.int .u32 a, .int .u32 b, .int .i64 n] w fun e w' => e = .returned (.bool true) ∧ Below w.heap.size w w' := by
  have ha := bounds_u32 wa
  have hb := bounds_u32 wb
  have hn := bounds_i64 wn
  obtain ⟨m1, hm1⟩ : ∃ m, m = min a b := ⟨_, rfl⟩
  obtain ⟨m2, hm2⟩ : ∃ m, m = max a b := ⟨_, rfl⟩
  have hb1 : 0 ≤ m1 ∧ m1 ≤ m2 ∧ m2 < 4294967296 := by omega
  have HM1 : Hid _ := hm1
  have HM2 : Hid _ := hm2
  clear hm1 hm2
  have L1 := encN_mono m1.toNat m2.toNat (by omega)
  have L2 := encN_pos m1.toNat
  have L3 : (encN m2.toNat).length ≤ 5 := encN_tight 4 _ (by omega)
  have L4 := zig_turn n
  have L5 : (encN (zig n)).length ≤ 10 := encN_tight 9 _ (by have := zig_lt n (by omega); omega)
  obtain ⟨k1, hk1⟩ : ∃ k, (encN m1.toNat).length = k := ⟨_, rfl⟩
  obtain ⟨k2, hk2⟩ : ∃ k, (encN m2.toNat).length = k := ⟨_, rfl⟩
  obtain ⟨k3, hk3⟩ : ∃ k, (encN (zig n)).length = k := ⟨_, rfl⟩
  rw [hk1, hk2] at L1
  rw [hk1] at L2
  rw [hk2] at L3
  rw [hk3] at L4 L5
  have K1 : Hid _ := hk1
  have K2 : Hid _ := hk2
  have K3 : Hid _ := hk3
  have K4 : Hid _ := L4
  clear hk1 hk2 hk3 L4
  have HL : Hid (k1 ≤ k2 ∧ 1 ≤ k1 ∧ k2 ≤ 5 ∧ k3 ≤ 10) := ⟨L1, L2, L3, L5⟩
  clear L1 L2 L3 L5
  obtain ⟨W3, hW3⟩ : ∃ W3, W3 = ((w.alloc (.cells #[.int .u32 a] 22)).alloc (.cells #[.int .u32 b] 22)).alloc (.cells #[.int .i64 n] 3) := ⟨_, rfl⟩
  have HA0 : W3.heap[w.heap.size]? = some (.cells #[.int .u32 a] 22) := by rw [hW3]; exact heap_keep (heap_keep (heap_new _ _) _) _
  have HB0 : W3.heap[w.heap.size + 1]? = some (.cells #[.int .u32 b] 22) := by
    rw [hW3]; refine heap_keep ?_ _
    have := heap_new (w.alloc (.cells #[.int .u32 a] 22)) (.cells #[.int .u32 b] 22)
    simpa using this
  have HN0 : W3.heap[w.heap.size + 1 + 1]? = some (.cells #[.int .i64 n] 3) := by
    rw [hW3]
    have := heap_new ((w.alloc (.cells #[.int .u32 a] 22)).alloc (.cells #[.int .u32 b] 22)) (.cells #[.int .i64 n] 3)
    simpa using this
  have hb0 : Below w.heap.size w W3 := by rw [hW3]; exact (((Below.refl _ _).alloc (Nat.le_refl _) _).alloc ((Below.refl _ _).alloc (Nat.le_refl _) _).size _).alloc (((Below.refl _ _).alloc (Nat.le_refl _) _).alloc ((Below.refl _ _).alloc (Nat.le_refl _) _).size _).size _
  have HW3 : Hid _ := hW3
  clear hW3
  have hn2 : -9223372036854775808 ≤ n ∧ n < 9223372036854775808 := by omega
  have ha2 : 0 ≤ a ∧ a < 4294967296 := by omega
  have hb2 : 0 ≤ b ∧ b < 4294967296 := by omega
  clear ha hb hn hb1 wa wb wn
  go_enter Try.func3, Try.ntmps3
  go_wp2_with (first
    | (go_at_call 7; rw [← HW3.out]; refine (awake04 W3).mono ?_; rintro e w1 ⟨rfl, h1⟩; have HAw1 := heap_below HA0 h1; have HBw1 := heap_below HB0 h1; have HNw1 := heap_below HN0 h1; have hbww1 := hb0.trans (h1.mono hb0.size))
    | (go_at_call 8; with_reducible refine (size_min a b m1 ha2 hb2 HM1.out HAw1 HBw1).mono ?_; rintro e w2 ⟨rfl, hw2⟩; rw [K1.out]; have HAw2 := heap_below HAw1 hw2; have HBw2 := heap_below HBw1 hw2; have HNw2 := heap_below HNw1 hw2; have hbww2 := hbww1.trans (hw2.mono hbww1.size))
    | (go_at_call 8; with_reducible refine (size_max a b m2 ha2 hb2 HM2.out HAw2 HBw2).mono ?_; rintro e w3 ⟨rfl, hw3⟩; rw [K2.out]; have HAw3 := heap_below HAw2 hw3; have HBw3 := heap_below HBw2 hw3; have HNw3 := heap_below HNw2 hw3; have hbww3 := hbww2.trans (hw3.mono hbww2.size))
    | (go_at_call 8; with_reducible refine (size_int n hn2 HNw3).mono ?_; rintro e w4 ⟨rfl, hw4⟩; rw [K3.out]; have HAw4 := heap_below HAw3 hw4; have HBw4 := heap_below HBw3 hw4; have HNw4 := heap_below HNw3 hw4; have hbww4 := hbww3.trans (hw4.mono hbww3.size))
    | (go_at_call 8; with_reducible refine (size_not n hn2 (-n - 1) rfl HNw4).mono ?_; rintro e w5 ⟨rfl, hw5⟩; rw [K4.out]; have HAw5 := heap_below HAw4 hw5; have HBw5 := heap_below HBw4 hw5; have HNw5 := heap_below HNw4 hw5; have hbww5 := hbww4.trans (hw5.mono hbww4.size)))
  all_goals first
    | (exfalso; have := HL.out; omega)
    | (go_ret; exact ⟨by first | rfl | (have := HL.out; simp; omega), hbww5⟩)
end Go.Proofs.Ytiimfijjhlehlaa
