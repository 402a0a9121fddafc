/-
  The heap's ints: Len, Less, Swap.
-/
import Derived.Test.YtekimoblmcbjlaaDict
import Derived.Test.YtekimoblmcbjlaaInts
import Derived.BigRegion
import Derived.Deep.QuietTactic
import Derived.BigQuiet
namespace Go.Proofs.Ytekimoblmcbjlaa
open Go.RowKit

theorem slen_calls (a : Option Addr) (n c : Nat) (w : World) : Calls Try.prog 32 #[.slice a n c] w fun e w' => e = .returned (.int .i64 n) ∧ w' = w := by
  go_enter Try.func32, Try.ntmps32
  go_wp2
  go_ret
  exact ⟨rfl, rfl⟩
theorem sless_calls {w : World} {b n c : Nat} {l : List Int} (h : Ints w (some ⟨b, 0, none⟩) n c l) (i j : Nat) (hi : i < l.length) (hj : j < l.length) :
    Calls Try.prog 33 #[.slice (some ⟨b, 0, none⟩) n c, .int .i64 i, .int .i64 j] w fun e w' => e = .returned (.bool (decide (l[i] < l[j]))) ∧ ∃ q, w' = w.drewN q := by
  have hl := h.len
  have k1 := h.cell i hi
  have k2 := h.cell j hj
  rw [Nat.zero_add] at k1 k2
  have n1 : (i : Int) < (n : Int) := by omega
  have n2 : (j : Int) < (n : Int) := by omega
  obtain ⟨x, hx⟩ : ∃ x, l[i] = x := ⟨_, rfl⟩
  obtain ⟨y, hy⟩ : ∃ y, l[j] = y := ⟨_, rfl⟩
  rw [hx] at k1 ⊢
  rw [hy] at k2 ⊢
  clear hx hy
  go_enter Try.func33, Try.ntmps33
  go_wp2
  go_quiet (fail)
  go_wp2
  go_ret
  exact ⟨rfl, _, rfl⟩
/-- Two places exchanged. -/
def swapL (l : List Int) (i j : Nat) : List Int := (l.set i (l.getD j 0)).set j (l.getD i 0)

theorem OwnI.store {w : World} {B g n cap : Nat} {l : List Int} (h : OwnI w B (.slice (some ⟨g, 0, none⟩) n cap) l) (i : Nat) (c : Int) : OwnI (w.setCell ⟨g, i, none⟩ (.int .i64 c)) B (.slice (some ⟨g, 0, none⟩) n cap) (l.set i c) := by
  obtain ⟨h1, ⟨h2, _⟩ | ⟨g', cap', cur, h2, h3, h4, h5, h6, h7, h8⟩⟩ := h
  · cases h2
  · have e1 : g = g' := by have := congrArg Value.ownBlock h2; simpa [Value.ownBlock] using this
    have e2 : n = l.length := by cases h2; rfl
    have e3 : cap = cap' := by cases h2; rfl
    subst e1 e3 e2
    refine ⟨by simp, .inr ⟨g, cap, cur.setIfInBounds i (.int .i64 c), by simp, h3, heap_set (a := ⟨g, i, none⟩) h4 rfl _, by simpa using h5, h6, by simpa using h7, ?_⟩⟩
    simp only [Nat.mul_one, List.length_set] at h8 ⊢
    rw [Array.toList_setIfInBounds, List.take_set, h8, List.map_set]

set_option maxHeartbeats 1000000 in
theorem sswap_calls {w : World} {B b n c : Nat} {l : List Int} (h : OwnI w B (.slice (some ⟨b, 0, none⟩) n c) l) (i j : Nat) (hi : i < l.length) (hj : j < l.length) :
    Calls Try.prog 35 #[.slice (some ⟨b, 0, none⟩) n c, .int .i64 i, .int .i64 j] w fun e w' => e = .returned (.tuple #[]) ∧ OwnI w' B (.slice (some ⟨b, 0, none⟩) n c) (swapL l i j) ∧ Fr [b] w w' := by
  obtain ⟨a0, c0, e0, hI⟩ := h.ints
  cases e0
  have k1 := hI.cell i hi
  have k2 := hI.cell j hj
  rw [Nat.zero_add] at k1 k2
  have n1 : (i : Int) < (l.length : Int) := by omega
  have n2 : (j : Int) < (l.length : Int) := by omega
  obtain ⟨cur, hb⟩ : ∃ cur, w.heap[b]? = some (.cells cur 3 (0, 0)) := by
    obtain ⟨h1, ⟨h2, _⟩ | ⟨g, cap, cur, h2, h3, h4, _⟩⟩ := h
    · cases h2
    · cases h2; exact ⟨cur, h4⟩
  have g1 := free_at hb i
  have g2 := free_at hb j
  have HL : Hid (swapL l i j = (l.set i l[j]).set j l[i]) := by show _ = _; simp [swapL, hi, hj]
  obtain ⟨x, hx⟩ : ∃ x, l[i] = x := ⟨_, rfl⟩
  obtain ⟨y, hy⟩ : ∃ y, l[j] = y := ⟨_, rfl⟩
  rw [hx, hy] at HL
  rw [hx] at k1
  rw [hy] at k2
  have HX : Hid _ := hx
  have HY : Hid _ := hy
  clear hx hy
  have fin : ∀ w', w' = ((w.setCell ⟨b, i, none⟩ (.int .i64 y)).setCell ⟨b, j, none⟩ (.int .i64 x)).drew → OwnI w' B (.slice (some ⟨b, 0, none⟩) l.length c) (swapL l i j) ∧ Fr [b] w w' := by
    rintro w' rfl
    refine ⟨?_, ?_⟩
    · rw [HL.out]
      exact (((h.store i y).store j x).keep (Below.refl _ _).drew)
    · have := Fr.set (Fr.set (Fr.refl [b] w) ⟨b, i, none⟩ (.inl (by simp)) (.int .i64 y)) ⟨b, j, none⟩ (.inl (by simp)) (.int .i64 x)
      exact ⟨this.os, this.tape, this.output, this.size, this.block⟩
  by_cases hij : i = j
  · subst hij
    obtain rfl : x = y := HX.out.symm.trans HY.out
    have k3 : ((w.setCell ⟨b, i, none⟩ (.int .i64 x)).drew).cell? ⟨b, i, none⟩ = some (.int .i64 x) := by
      have := cell_at (heap_set (a := ⟨b, i, none⟩) hb rfl (.int .i64 x)) i
      have h2 := cell_at hb i
      rw [k1] at h2
      have h3 : i < cur.size := by
        rcases Nat.lt_or_ge i cur.size with h | h
        · exact h
        · rw [Array.getElem?_eq_none h] at h2; cases h2
      show (w.setCell ⟨b, i, none⟩ (.int .i64 x)).cell? ⟨b, i, none⟩ = _
      rw [this]; simp [h3]
    clear hI h HL HX HY
    go_enter Try.func35, Try.ntmps35
    go_wp2
    go_region
    all_goals
      go_wp2
      go_end0
      exact ⟨rfl, fin _ rfl⟩
  · have m1 : ¬ j = i := fun e => hij e.symm
    clear hI h HL HX HY
    go_enter Try.func35, Try.ntmps35
    go_wp2
    go_region
    all_goals
      go_wp2
      go_end0
      exact ⟨rfl, fin _ rfl⟩
end Go.Proofs.Ytekimoblmcbjlaa
