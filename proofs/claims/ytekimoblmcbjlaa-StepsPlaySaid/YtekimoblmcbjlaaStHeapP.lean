/-
  Heaps as lists: the least on top; sifting down.
-/
import Derived.Test.YtekimoblmcbjlaaStHeap
namespace Go.Proofs.Ytekimoblmcbjlaa
open Go.RowKit

/-- The first n are a heap. -/
def HeapN (l : List Int) (n : Nat) : Prop := ∀ k, 0 < k → k < n → l.getD ((k - 1) / 2) 0 ≤ l.getD k 0
/-- .. but for the children of i. -/
def DownInv (l : List Int) (n i : Nat) : Prop := (∀ k, 0 < k → k < n → (k - 1) / 2 ≠ i → l.getD ((k - 1) / 2) 0 ≤ l.getD k 0) ∧ ∀ k, 0 < k → k < n → (k - 1) / 2 = i → 0 < i → l.getD ((i - 1) / 2) 0 ≤ l.getD k 0

theorem heap_min {l : List Int} {n : Nat} (h : HeapN l n) : ∀ k, k < n → l.getD 0 0 ≤ l.getD k 0 := by
  intro k
  induction k using Nat.strongRecOn with
  | _ k ih =>
    intro hk
    by_cases h0 : k = 0
    · subst h0; exact Int.le_refl _
    · exact Int.le_trans (ih ((k - 1) / 2) (by omega) (by omega)) (h k (by omega) hk)
theorem swap_at {l : List Int} {i j : Nat} (hi : i < l.length) (hj : j < l.length) (k : Nat) : (swapL l i j).getD k 0 = if k = j then l.getD i 0 else if k = i then l.getD j 0 else l.getD k 0 := by
  unfold swapL
  rw [List.getD_eq_getElem?_getD, List.getElem?_set]
  by_cases h1 : j = k
  · subst h1; simp [hj]
  · rw [if_neg h1, if_neg (fun e => h1 e.symm), List.getElem?_set]
    by_cases h2 : i = k
    · subst h2; simp [hi]
    · rw [if_neg h2, if_neg (fun e => h2 e.symm), List.getD_eq_getElem?_getD]
theorem swap_len (l : List Int) (i j : Nat) : (swapL l i j).length = l.length := by simp [swapL]
theorem swap_perm {l : List Int} {i j : Nat} (hi : i < l.length) (hj : j < l.length) : (swapL l i j).Perm l := by
  have := List.set_set_perm hi hj
  simpa [swapL, hi, hj] using this

theorem down_none {l : List Int} {n i : Nat} (h : DownInv l n i) (hc : n ≤ 2 * i + 1) : HeapN l n := fun k h0 hk => h.1 k h0 hk (by omega)
theorem down_stop {l : List Int} {n i j : Nat} (h : DownInv l n i) (hmin : ∀ k, k < n → (k = 2 * i + 1 ∨ k = 2 * i + 2) → l.getD j 0 ≤ l.getD k 0) (hle : l.getD i 0 ≤ l.getD j 0) : HeapN l n := by
  intro k h0 hk
  by_cases hp : (k - 1) / 2 = i
  · rw [hp]
    exact Int.le_trans hle (hmin k hk (by omega))
  · exact h.1 k h0 hk hp
theorem down_step {l : List Int} {n i j : Nat} (h : DownInv l n i) (hil : i < l.length) (hjl : j < l.length) (hj : j = 2 * i + 1 ∨ j = 2 * i + 2) (hjn : j < n) (hmin : ∀ k, k < n → (k = 2 * i + 1 ∨ k = 2 * i + 2) → l.getD j 0 ≤ l.getD k 0) (hlt : l.getD j 0 < l.getD i 0) : DownInv (swapL l i j) n j := by
  constructor
  · intro k h0 hk hp
    rw [swap_at hil hjl, swap_at hil hjl]
    by_cases hki : k = i
    · subst hki
      rw [if_neg (by omega), if_neg (by omega), if_neg (by omega), if_pos rfl]
      exact h.2 j (by omega) hjn (by omega) h0
    · by_cases hpi : (k - 1) / 2 = i
      · rw [hpi, if_neg (by omega), if_pos rfl]
        by_cases hkj : k = j
        · rw [if_pos hkj]; omega
        · rw [if_neg hkj, if_neg hki]
          exact hmin k hk (by omega)
      · rw [if_neg hp, if_neg hpi, if_neg (by omega), if_neg hki]
        exact h.1 k h0 hk hpi
  · intro k h0 hk hp hj0
    rw [swap_at hil hjl, swap_at hil hjl]
    have e : (j - 1) / 2 = i := by omega
    rw [e, if_neg (by omega), if_pos rfl, if_neg (by omega), if_neg (by omega)]
    have := h.1 k h0 hk (by omega)
    rw [hp] at this
    exact this
/-- Behind the first exchange. -/
theorem pop_start {l : List Int} {n : Nat} (h : HeapN l (n + 1)) (hn : n < l.length) : DownInv (swapL l 0 n) n 0 := by
  constructor
  · intro k h0 hk hp
    rw [swap_at (by omega) hn, swap_at (by omega) hn, if_neg (by omega), if_neg hp, if_neg (by omega), if_neg (by omega)]
    exact h k h0 (by omega)
  · intro k _ _ _ h0; omega
end Go.Proofs.Ytekimoblmcbjlaa
