/-
  Awake of chapter 4; a new writer.
-/
import Derived.Test.YtiimfijjhlehlaaPutInt
import Derived.Test.YtiimfijjhlehlaaStr
namespace Go.Proofs.Ytiimfijjhlehlaa
open Go.RowKit

theorem Wr.new (w : World) (T : TypeId) : Wr (w.alloc (.cells #[.slice none 0 0] T)) w.heap.size [w.heap.size] [] :=
  ⟨.slice none 0 0, T, heap_new w _, OwnB.nil _ _, by simp [Value.ownBlock], rfl⟩
theorem fr_alloc (w : World) (o : Obj) : Fr [] w (w.alloc o) := (Fr.refl _ _).alloc o

set_option maxRecDepth 10000 in
theorem awake04 (w : World) : Calls Try.prog 7 #[] w fun e w' => e = .returned (.bool true) ∧ Below w.heap.size w w' := by
  have hw0 := Wr.new w 28
  have h1 : Hid (encN (zig (-1)) = [1]) := by show _ = _; rw [show zig (-1) = 1 from rfl, encN_lo (by omega)]; rfl
  have h2 : Hid (encN (300 : Int).toNat = [172, 2]) := by show _ = _; rw [show (300 : Int).toNat = 300 from rfl, encN_hi (by omega), encN_lo (by omega)]; rfl
  go_enter Try.func7, Try.ntmps7
  go_wp2_with (first
    | (go_at_call 14; refine (wint_calls hw0 (-1) (by omega) (by simp)).mono ?_; rintro x w1 ⟨rfl, S1, hw1, hg1, hf1⟩; rw [h1.out] at hw1)
    | (go_at_call 11; refine (count_calls hw1 300 (by omega) (by simp)).mono ?_; rintro x w2 ⟨rfl, S2, hw2, hg2, hf2⟩; rw [h2.out] at hw2; obtain ⟨L, hL⟩ : ∃ L : List UInt8, L = [] ++ [1] ++ [172, 2] := ⟨_, rfl⟩; rw [← hL] at hw2; have HL : Hid _ := hL; have HL5 : Hid (L.length ≤ 1000000) := (by show _ ≤ _; rw [hL]; decide); clear hL)
    | (go_at_call 24; refine (wbytes_calls hw2 HL5.out).mono ?_; rintro x w3 ⟨v3, rfl, ho3, hb3⟩; obtain ⟨a3, c3, rfl, hb4⟩ := ho3.bytes; have hs := run_str (P := Try.prog) hb4 26 9 5 Try.underlying26 Try.underlying5 Try.underlying9))
  go_ret
  have sz : (w.alloc (.cells #[.slice none 0 0] 28)).heap.size = w.heap.size + 1 := by simp
  have b1 := (fr_alloc w (.cells #[.slice none 0 0] 28)).trans hf1 (fun k hk => .inr (by simp at hk; omega))
  have b2 := b1.trans hf2 (fun k hk => .inr (by
    rcases hg1 k hk with h | h
    · simp at h; omega
    · omega))
  have b3 := b2.toBelow (C := w.heap.size) (by simp) (Nat.le_refl _)
  exact ⟨by rw [str_toList, HL.out]; rfl, b3.trans (hb3.mono b3.size)⟩
end Go.Proofs.Ytiimfijjhlehlaa
