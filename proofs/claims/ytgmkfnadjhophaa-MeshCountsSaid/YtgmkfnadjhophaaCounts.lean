/-
  Triangles of the first numbers: each number is of one at least (plain law).
-/
import Derived.Test.YtgmkfnadjhophaaMesh
import Derived.Test.YtgmkfnadjhophaaMeshLaw
import Derived.Maps.OwnSet
namespace Go.Proofs.Ytgmkfnadjhophaa
open Go.RowKit Go.Maps

def lits (zs : List Int) : List Lit := zs.map (Lit.int .i64)
theorem lits_key (zs : List Int) : ∀ x ∈ lits zs, WideAt.IsKeyLit x := by
  intro x hx
  obtain ⟨z, _, rfl⟩ := List.mem_map.1 hx
  trivial
theorem same_int (a b : Int) : (Lit.int .i64 a).sameKey (Lit.int .i64 b) = decide (a = b) := by
  by_cases h : a = b
  · subst h; simp [Lit.sameKey]
  · rw [sameKey_ne (by simpa using h)]; simp [h]
def addI (acc : List Int) (x : Int) : List Int := if acc.any (fun y => decide (y = x)) then acc else acc ++ [x]
theorem add_lits (xs : List Int) : ∀ acc : List Int, (lits xs).foldl addKey (lits acc) = lits (xs.foldl addI acc) := by
  induction xs with
  | nil => intro acc; rfl
  | cons x xs ih =>
    intro acc
    have : addKey (lits acc) (Lit.int .i64 x) = lits (addI acc x) := by
      unfold addKey addI lits
      rw [List.any_map]
      have : ((fun y => Lit.sameKey y (Lit.int .i64 x)) ∘ Lit.int .i64) = fun y => decide (y = x) := by funext y; exact same_int y x
      rw [this]
      split <;> simp
    show (lits xs).foldl addKey (addKey (lits acc) (Lit.int .i64 x)) = _
    rw [this, ih]; rfl
theorem addI_nodup (xs : List Int) : ∀ acc : List Int, acc.Nodup → (xs.foldl addI acc).Nodup := by
  induction xs with
  | nil => intro acc h; exact h
  | cons x xs ih =>
    intro acc h
    refine ih _ ?_
    unfold addI
    split
    · exact h
    · rename_i hn
      have hx : x ∉ acc := fun hm => hn (List.any_eq_true.2 ⟨x, hm, by simp⟩)
      rw [List.nodup_append]
      refine ⟨h, by simp, ?_⟩
      intro a ha b hb
      simp at hb
      subst hb
      rintro rfl
      exact hx ha
theorem addI_mem (xs : List Int) : ∀ (acc : List Int) (z : Int), z ∈ xs.foldl addI acc ↔ z ∈ acc ∨ z ∈ xs := by
  induction xs with
  | nil => intro acc z; simp
  | cons x xs ih =>
    intro acc z
    show z ∈ xs.foldl addI (addI acc x) ↔ _
    rw [ih, List.mem_cons]
    unfold addI
    split
    · rename_i hn
      obtain ⟨y, hy, e⟩ := List.any_eq_true.1 hn
      simp at e
      subst e
      constructor
      · rintro (h | h)
        · exact .inl h
        · exact .inr (.inr h)
      · rintro (h | rfl | h)
        · exact .inl h
        · exact .inl hy
        · exact .inr h
    · rw [List.mem_append, List.mem_singleton, or_assoc]
theorem nodup_le : ∀ (l m : List Int), l.Nodup → (∀ z ∈ l, z ∈ m) → l.length ≤ m.length
  | [], _, _, _ => Nat.zero_le _
  | x :: l, m, h, hs => by
    have hx := hs x (by simp)
    have hl := nodup_le l (m.erase x) (List.nodup_cons.1 h).2 (fun z hz => (List.mem_erase_of_ne (by rintro rfl; exact (List.nodup_cons.1 h).1 hz)).2 (hs z (by simp [hz])))
    rw [List.length_erase_of_mem hx] at hl
    have : 0 < m.length := List.length_pos_of_mem hx
    simp only [List.length_cons]
    omega
def firsts (n : Nat) : List Int := (List.range n).map fun i => ((i : Nat) : Int)
theorem firsts_len (n : Nat) : (firsts n).length = n := by simp [firsts]
theorem firsts_mem (n : Nat) (z : Int) : z ∈ firsts n ↔ 0 ≤ z ∧ z < n := by
  unfold firsts
  rw [List.mem_map]
  constructor
  · rintro ⟨i, hi, rfl⟩; rw [List.mem_range] at hi; omega
  · intro h; exact ⟨z.toNat, by rw [List.mem_range]; omega, by omega⟩
theorem firsts_nodup (n : Nat) : (firsts n).Nodup := by
  unfold firsts List.Nodup
  rw [List.pairwise_map]
  exact (List.nodup_range (n := n)).imp (fun h e => h (by omega))
theorem firsts_get (n i : Nat) (h : i < n) : (firsts n).getD i 0 = i := by simp [firsts, List.getD, h]
theorem firsts_succ (n : Nat) : firsts (n + 1) = firsts n ++ [(n : Int)] := by simp [firsts, List.range_succ]
/-- How many different ones. -/
theorem distinct_eq {xs : List Int} {n : Nat} (h : ∀ z, z ∈ xs ↔ 0 ≤ z ∧ z < n) : ((lits xs).foldl addKey []).length = n := by
  have h0 := add_lits xs []
  rw [show lits [] = [] from rfl] at h0
  rw [h0]
  have hm := addI_mem xs []
  have hn := addI_nodup xs [] (by simp)
  have h1 := nodup_le _ (firsts n) hn (fun z hz => by rw [firsts_mem, ← h]; simpa using (hm z).1 hz)
  have h2 := nodup_le (firsts n) (xs.foldl addI []) (firsts_nodup n) (fun z hz => by rw [hm, h, ← firsts_mem]; exact .inr hz)
  rw [firsts_len] at h1 h2
  simp only [lits, List.length_map]
  omega

def flat (l : List T3) : List Int := l.flatMap fun t => [t.a, t.b, t.c]
theorem flat_succ (l : List T3) (j : Nat) (t : T3) (h : l[j]? = some t) : flat (l.take (j + 1)) = flat (l.take j) ++ [t.a, t.b, t.c] := by
  unfold flat
  rw [List.take_add_one, List.flatMap_append, h]
  simp
theorem mem_flat (k : Int) (zs : List Int) (z : Int) : z ∈ flat (tris k zs) ↔ ∃ j, j < triCount k zs.length ∧ (z = (triAt k zs j).a ∨ z = (triAt k zs j).b ∨ z = (triAt k zs j).c) := by
  unfold flat tris
  rw [List.mem_flatMap]
  constructor
  · rintro ⟨t, ht, hz⟩
    obtain ⟨j, hj, rfl⟩ := List.mem_map.1 ht
    rw [List.mem_range] at hj
    exact ⟨j, hj, by simpa using hz⟩
  · rintro ⟨j, hj, hz⟩
    exact ⟨_, List.mem_map.2 ⟨j, List.mem_range.2 hj, rfl⟩, by simpa using hz⟩

/-- The triangles of the first n numbers: which numbers are of them. -/
theorem flat_all (k : Int) (n : Nat) (hk : 0 ≤ k ∧ k < 3) (h0 : k = 0 → n % 3 = 0) (hn : triCount k n ≠ 0) (z : Int) : z ∈ flat (tris k (firsts n)) ↔ 0 ≤ z ∧ z < n := by
  rw [mem_flat, firsts_len]
  have hg : ∀ i, i < n → (firsts n).getD i 0 = (i : Int) := firsts_get n
  rcases (show k = 0 ∨ k = 1 ∨ k = 2 by omega) with rfl | rfl | rfl
  · simp only [triCount, if_true] at hn ⊢
    have h3 := h0 rfl
    constructor
    · rintro ⟨j, hj, h⟩
      simp only [triAt, if_true] at h
      rw [hg _ (by omega), hg _ (by omega), hg _ (by omega)] at h
      omega
    · intro hz
      refine ⟨z.toNat / 3, by omega, ?_⟩
      simp only [triAt, if_true]
      rw [hg _ (by omega), hg _ (by omega), hg _ (by omega)]
      omega
  · have hc : triCount 1 n = n - 2 := rfl
    rw [hc] at hn ⊢
    constructor
    · rintro ⟨j, hj, h⟩
      have ha : triAt 1 (firsts n) j = if j % 2 = 1 then ⟨(firsts n).getD (j + 1) 0, (firsts n).getD j 0, (firsts n).getD (j + 2) 0⟩ else ⟨(firsts n).getD j 0, (firsts n).getD (j + 1) 0, (firsts n).getD (j + 2) 0⟩ := rfl
      rw [ha, hg _ (by omega), hg _ (by omega), hg _ (by omega)] at h
      split at h <;> simp only at h <;> omega
    · intro hz
      refine ⟨if z.toNat < n - 2 then z.toNat else n - 3, by split <;> omega, ?_⟩
      generalize hj : (if z.toNat < n - 2 then z.toNat else n - 3) = j
      have ha : triAt 1 (firsts n) j = if j % 2 = 1 then ⟨(firsts n).getD (j + 1) 0, (firsts n).getD j 0, (firsts n).getD (j + 2) 0⟩ else ⟨(firsts n).getD j 0, (firsts n).getD (j + 1) 0, (firsts n).getD (j + 2) 0⟩ := rfl
      have hj2 : j < n - 2 := by rw [← hj]; split <;> omega
      rw [ha, hg _ (by omega), hg _ (by omega), hg _ (by omega)]
      split at hj <;> split <;> simp only <;> omega
  · have hc : triCount 2 n = n - 2 := rfl
    rw [hc] at hn ⊢
    have ha : ∀ j, triAt 2 (firsts n) j = ⟨(firsts n).getD 0 0, (firsts n).getD (j + 1) 0, (firsts n).getD (j + 2) 0⟩ := fun j => rfl
    constructor
    · rintro ⟨j, hj, h⟩
      rw [ha, hg _ (by omega), hg _ (by omega), hg _ (by omega)] at h
      simp only at h
      omega
    · intro hz
      refine ⟨if z.toNat < n - 2 then z.toNat - 1 else n - 3, by split <;> omega, ?_⟩
      generalize hj : (if z.toNat < n - 2 then z.toNat - 1 else n - 3) = j
      have hj2 : j < n - 2 := by rw [← hj]; split <;> omega
      rw [ha, hg _ (by omega), hg _ (by omega), hg _ (by omega)]
      split at hj <;> simp only <;> omega

abbrev unitT : DataW Unit := .lit (.bool true)
/-- 'len(seen)'. -/
theorem size_seen {k : Int} {n : Nat} (hk : 0 ≤ k ∧ k < 3) (h0 : k = 0 → n % 3 = 0) (hn : triCount k n ≠ 0) : Maps.size (setOf unitT (lits (flat (tris k (firsts n))))) = n := by
  rw [size_setOf _ _ (lits_key _)]
  exact distinct_eq (flat_all k n hk h0 hn)
end Go.Proofs.Ytgmkfnadjhophaa
