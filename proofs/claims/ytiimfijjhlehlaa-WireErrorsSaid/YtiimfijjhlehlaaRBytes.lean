/-
  The reader's Bytes.
-/
import Derived.Test.YtiimfijjhlehlaaTakes2
import Derived.Test.YtiimfijjhlehlaaWirePlain
import Derived.Deep.RegionLaw
namespace Go.Proofs.Ytiimfijjhlehlaa
open Go.RowKit

theorem rbytes_no {w : World} {g : Nat} {S : List Nat} {bs : List UInt8} {s : Rs} (h : Rd w g S bs s) (n : Int) (hn : n < 0 ∨ n > (rLeft bs s : Int)) :
    Calls Try.prog 30 #[.pointer (some ⟨g, 0, none⟩), .int .i64 n] w fun x w' => x = .returned (.slice none 0 0) ∧ Rd w' g S bs (rFail s 3) ∧ Fr [g] w w' := by
  obtain ⟨m, hm⟩ : ∃ m : Int, m = (rLeft bs s : Int) := ⟨_, rfl⟩
  rw [← hm] at hn
  have HL := rleft_calls h
  rw [← hm] at HL
  clear hm
  obtain ⟨b1, b2, e1, e2, hw⟩ : ∃ b1 b2 : Bool, decide (n < 0) = b1 ∧ decide (n > m) = b2 ∧ (b1 = true ∨ (b1 = false ∧ b2 = true)) := ⟨_, _, rfl, rfl, by simp only [decide_eq_true_eq, decide_eq_false_iff_not]; omega⟩
  clear hn
  rcases hw with rfl | ⟨rfl, rfl⟩
  · go_enter Try.func30, Try.ntmps30
    go_wp2_with (go_at_call 31; refine (rfail_calls h 3).mono ?_; rintro x w2 ⟨rfl, hr2, hf2⟩)
    go_ret
    exact ⟨rfl, hr2, hf2⟩
  · go_enter Try.func30, Try.ntmps30
    go_wp2_with (first
      | (go_at_call 25; refine HL.mono ?_; rintro x w1 ⟨rfl, q, rfl⟩)
      | (go_at_call 31; refine (rfail_calls (h.drewN q) 3).mono ?_; rintro x w2 ⟨rfl, hr2, hf2⟩))
    go_ret
    exact ⟨rfl, hr2, Fr.trans ((Fr.refl _ _).drewN q) hf2 (Grows.refl _ _)⟩

theorem rbytes_zero {w : World} {g : Nat} {S : List Nat} {bs : List UInt8} {s : Rs} (h : Rd w g S bs s) :
    Calls Try.prog 30 #[.pointer (some ⟨g, 0, none⟩), .int .i64 0] w fun x w' => x = .returned (.slice none 0 0) ∧ Rd w' g S bs s ∧ Fr [g] w w' := by
  obtain ⟨m, hm, hm0⟩ : ∃ m : Int, m = (rLeft bs s : Int) ∧ 0 ≤ m := ⟨_, rfl, by omega⟩
  have HL := rleft_calls h
  rw [← hm] at HL
  clear hm
  have e2 : decide ((0 : Int) > m) = false := by simp; omega
  go_enter Try.func30, Try.ntmps30
  go_wp2_with (first
    | (go_at_call 25; refine HL.mono ?_; rintro x w1 ⟨rfl, q, rfl⟩))
  go_ret
  exact ⟨rfl, h.drewN q, (Fr.refl _ _).drewN q⟩

set_option maxRecDepth 10000 in
set_option maxHeartbeats 1000000 in
theorem rbytes_calls {w : World} {g : Nat} {S : List Nat} {bs : List UInt8} {i : Nat} (h : Rd w g S bs ⟨i, 0⟩) (n : Nat) (h0 : 0 < n) (hn : i + n ≤ bs.length) :
    Calls Try.prog 30 #[.pointer (some ⟨g, 0, none⟩), .int .i64 n] w fun x w' => ∃ v, x = .returned v ∧ OwnB w' w.heap.size v (part bs i (i + n)) ∧ Rd w' g S bs ⟨i + n, 0⟩ ∧ Fr [g] w w' := by
  obtain ⟨m, hm, hm0⟩ : ∃ m : Int, m = (rLeft bs ⟨i, 0⟩ : Int) ∧ n ≤ m := ⟨_, rfl, by unfold rLeft; rw [if_pos rfl]; simp only; omega⟩
  have HL := rleft_calls h
  rw [← hm] at HL
  clear hm
  have hlen := h.len
  have e1 : decide ((n : Int) < 0) = false := by simp
  have e2 : decide ((n : Int) > m) = false := by simp; omega
  have e3 : ((n : Int) == 0) = false := by rw [beq_eq_false_iff_ne]; omega
  go_enter Try.func30, Try.ntmps30
  go_wp2_with (first
    | (go_at_call 25; refine HL.mono ?_; rintro x w1 ⟨rfl, q, rfl⟩; obtain ⟨T, a, cap, h1, h2, h3, h4, h5, h6⟩ := h.drewN q; have c0 := cell_at h1 0; have c1 := cell_at h1 1; have f1 := free_at h1 1))
  obtain ⟨hr, hf⟩ := Rd.set ⟨i + n, 0⟩ h1 h2 h3 h4 hn h6 1 (.int .i64 ((i : Int) + n)) (by simp)
  have HR := hr
  obtain ⟨T', a', cap', g1, g2, g3, g4, g5, g6⟩ := hr
  obtain ⟨b, off, rfl, _⟩ := g2.at i (by omega)
  obtain ⟨w3, hw3⟩ : ∃ w3, w3 = (w.drewN q).setCell ⟨g, 1, none⟩ (.int .i64 ((i : Int) + n)) := ⟨_, rfl⟩
  rw [← hw3] at HR hf g1 g2 ⊢
  clear hw3
  have k0 := cell_at g1 0
  have k1 := cell_at g1 1
  have k2 := cell_at (heap_keep g1 (.cells #[] 5)) 0
  have k3 := cell_at (heap_keep g1 (.cells #[] 5)) 1
  have hle := Sl.le g2
  have hbig := Sl.big g2
  clear c0 c1 f1
  have hb1 : Bytes (w3.alloc (.cells #[] 5)) (some ⟨b, off, none⟩) bs.length cap' bs := g2.keep ((Below.refl _ _).alloc (Nat.le_refl _) _)
  have y0 : Bytes (w3.alloc (.cells #[] 5)) (some ⟨b, off + i, none⟩) n (cap' - i) (part bs i (i + n)) := by
    have := (Bytes.back hb1 i (by omega)).front n (by omega)
    unfold part
    rw [show i + n - i = n by omega]
    exact this
  have n1 : IntKind.i64.wrap ((i : Int) + n - n) = (i : Int) := by rw [IntWalk.i64_in _ (by omega)]; omega
  have n2 : (i : Int) ≤ (i : Int) + n := by omega
  have n3 : (i : Int) + n ≤ (cap' : Int) := by omega
  have n4 : (0 : Int) ≤ (i : Int) := by omega
  have n5 : (i : Int) + n ≤ (bs.length : Int) := by omega
  have n6 : ¬ cap' = i := by omega
  have n7 : (0 : Int) ≤ (i : Int) + n := by omega
  have n8 : IntKind.i64.wrap (i : Int) = (i : Int) := IntWalk.i64_in _ (by omega)
  have n9 : ((i : Int) + n).toNat = i + n := by omega
  have n10 : max ((i : Int) + n) 0 = (i : Int) + n := by omega
  have n11 : ¬ ((i : Int) + n ≤ 0) := by omega
  have n12 : ¬ ((i : Int) + n < 0) := by omega
  have n13 : i + n - i = n := by omega
  have hpl : (part bs i (i + n)).length = n := y0.len
  have HF : Hid _ := hf
  clear h HL e1 e2 e3 hf n10
  have ho0 : OwnB (w3.alloc (.cells #[] 5)).drew w3.heap.size (.slice (some ⟨w3.heap.size, 0, none⟩) 0 0) [] := OwnB.emptyAt w3 w3.heap.size _ rfl (Nat.le_refl _)
  have hl1 : 0 + n ≤ 140737488355328 := by omega
  have hl2 : (0 + n) * 1 ≤ 140737488355328 := by omega
  have hl3 : w3.heap.size ≤ (w3.alloc (.cells #[] 5)).drew.heap.size := by simp
  go_region_law (refine step_app_sl Try.elU8 (m := n) (c := cap' - i) (ad := some ⟨b, off + i, none⟩) (n := 0) (xs := []) rfl _ _ rfl rfl ho0 rfl y0.drew (oneCell_u8 _) hl1 hl2 hl3 ?_; intro v1 w1 ho1 hg1)
  all_goals
    have hfr : Fr [] w3 w1 := Fr.grown (b := (w3.alloc (.cells #[] 5)).drew) (((Fr.refl [] w3).alloc (.cells #[] 5)).drewN 1) hg1 (fun k hk => .inr (by cases hk; exact Nat.le_refl _))
    have ho2 : OwnB w1 w.heap.size v1 (part bs i (i + n)) := by
      have := own_base ho1 (B' := w.heap.size) HF.out.size
      unfold OwnB
      rw [hpl]
      rw [Nat.zero_add, List.nil_append] at this
      exact this
    go_wp2
    go_ret
    exact ⟨_, rfl, ho2, HR.fr hfr (by simp), Fr.trans (Fr.trans ((Fr.refl [g] w).drewN q) HF.out (Grows.refl _ _)) hfr (fun k hk => by cases hk)⟩
end Go.Proofs.Ytiimfijjhlehlaa
