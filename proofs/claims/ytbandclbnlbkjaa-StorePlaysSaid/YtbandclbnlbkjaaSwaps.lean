/-
  Slices of ints that the call makes, writes, exchanges in.
-/
import Derived.Test.YtbandclbnlbkjaaInts
import Derived.Test.YtbandclbnlbkjaaFr
namespace Go.Proofs.Ytbandclbnlbkjaa
open Go.RowKit

/-- Two places exchanged. -/
def swapL (l : List Int) (i j : Nat) : List Int := (l.set i (l.getD j 0)).set j (l.getD i 0)

theorem OwnI.store {w : World} {B g n cap : Nat} {l : List Int} (h : OwnI w B (.slice (some ⟨g, 0, none⟩) n cap) l) (i : Nat) (c : Int) : OwnI (w.setCell ⟨g, i, none⟩ (.int .i64 c)) B (.slice (some ⟨g, 0, none⟩) n cap) (l.set i c) := by
  obtain ⟨h1, ⟨h2, _⟩ | ⟨g', cap', cur, h2, h3, h4, h5, h6, h7, h8⟩⟩ := h
  · cases h2
  · have e1 : g = g' := by have := congrArg Value.ownBlock h2; simpa [Value.ownBlock] using this
    have e2 : n = l.length := by cases h2; rfl
    have e3 : cap = cap' := by cases h2; rfl
    subst e1 e3 e2
    refine ⟨by simp, .inr ⟨g, cap, cur.setIfInBounds i (.int .i64 c), by simp, h3, heap_set (a := ⟨g, i, none⟩) h4 rfl _, by simpa using h5, h6, by simpa using h7, ?_⟩⟩
    simp only [Nat.mul_one, List.length_set] at h8 ⊢
    rw [Array.toList_setIfInBounds, List.take_set, h8, List.map_set]
theorem swap_at {l : List Int} {i j : Nat} (hi : i < l.length) (hj : j < l.length) (k : Nat) : (swapL l i j).getD k 0 = if k = j then l.getD i 0 else if k = i then l.getD j 0 else l.getD k 0 := by
  unfold swapL
  rw [List.getD_eq_getElem?_getD, List.getElem?_set]
  by_cases h1 : j = k
  · subst h1; simp [hj]
  · rw [if_neg h1, if_neg (fun e => h1 e.symm), List.getElem?_set]
    by_cases h2 : i = k
    · subst h2; simp [hi]
    · rw [if_neg h2, if_neg (fun e => h2 e.symm), List.getD_eq_getElem?_getD]
theorem swap_len (l : List Int) (i j : Nat) : (swapL l i j).length = l.length := by simp [swapL]
theorem swap_perm {l : List Int} {i j : Nat} (hi : i < l.length) (hj : j < l.length) : (swapL l i j).Perm l := by
  have := List.set_set_perm hi hj
  simpa [swapL, hi, hj] using this

def zerosI (n : Nat) : Array Value := (List.replicate n (i64 0)).toArray
theorem run_make_ints (w : World) (n : Nat) (hn : n ≤ 4096) :
    (Instr.makeSlice 28 (.int .i64 (n : Int)) (.int .i64 (n : Int))).run Try.prog w = .ok (.slice (some ⟨w.heap.size, 0, none⟩) n n) (w.alloc (.cells (zerosI n) 3)) := by
  obtain ⟨i, hi, hz0, hz1, hz2⟩ := info_parts Try.elI64.hi
  have h := run_make w 28 3 i _ Try.elI64.ht hi hz0 .i64 .i64 (n : Int) n (by omega) (by omega) (by rw [hz2]; omega) (by omega)
  rw [h, hz1, Int.toNat_natCast]
  have : madeCells (Value.int .i64 0).cells (n * 1) = zerosI n := by
    apply Array.toList_inj.1
    rw [Nat.mul_one]
    show (madeCells #[Value.int .i64 0] n).toList = _
    rw [toList_madeCells_one]
    simp [zerosI]
  rw [this]
theorem own_zeros (w : World) (n : Nat) (hn : n ≤ 4096) : OwnI (w.alloc (.cells (zerosI n) 3)) w.heap.size (.slice (some ⟨w.heap.size, 0, none⟩) n n) (List.replicate n 0) := by
  refine ⟨by simp, .inr ⟨w.heap.size, n, zerosI n, by simp, Nat.le_refl _, heap_new _ _, by simp, by unfold maxLen; omega, by simp [zerosI], by simp [zerosI]⟩⟩
/-- An exchange in a row of the call's own. -/
theorem own_swapped {w : World} {B b n c : Nat} {l : List Int} (h : OwnI w B (.slice (some ⟨b, 0, none⟩) n c) l) (i j : Nat) (hi : i < l.length) (hj : j < l.length) {x y : Int} (hx : l[i] = x) (hy : l[j] = y) {w' : World} (hw : w' = ((w.setCell ⟨b, i, none⟩ (.int .i64 y)).setCell ⟨b, j, none⟩ (.int .i64 x)).drew) :
    OwnI w' B (.slice (some ⟨b, 0, none⟩) n c) (swapL l i j) ∧ Fr [b] w w' := by
  subst hw
  have HL : swapL l i j = (l.set i y).set j x := by simp [swapL, hi, hj, hx, hy]
  refine ⟨?_, ?_⟩
  · rw [HL]
    exact (((h.store i y).store j x).keep (Below.refl _ _).drew)
  · have := Fr.set (Fr.set (Fr.refl [b] w) ⟨b, i, none⟩ (.inl (by simp)) (.int .i64 y)) ⟨b, j, none⟩ (.inl (by simp)) (.int .i64 x)
    exact ⟨this.os, this.tape, this.output, this.size, this.block⟩
theorem own_heap {w : World} {B b n c : Nat} {l : List Int} (h : OwnI w B (.slice (some ⟨b, 0, none⟩) n c) l) : ∃ cur, w.heap[b]? = some (.cells cur 3 (0, 0)) ∧ l.length ≤ cur.size ∧ n = l.length := by
  obtain ⟨h1, ⟨h2, _⟩ | ⟨g, cap, cur, h2, h3, h4, h5, h6, h7, _⟩⟩ := h
  · cases h2
  · have e1 : b = g := by have := congrArg Value.ownBlock h2; simpa [Value.ownBlock] using this
    subst e1
    exact ⟨cur, h4, by omega, by cases h2; rfl⟩

/-- 0 .. k - 1. -/
def upTo (k : Nat) : List Int := (List.range k).map (fun j : Nat => (j : Int))
theorem upTo_succ (k : Nat) : upTo (k + 1) = upTo k ++ [(k : Int)] := by simp [upTo, List.range_succ]
theorem upTo_mem {k : Nat} {z : Int} : z ∈ upTo k ↔ 0 ≤ z ∧ z < k := by
  unfold upTo
  rw [List.mem_map]
  constructor
  · rintro ⟨j, hj, rfl⟩; rw [List.mem_range] at hj; omega
  · intro h; exact ⟨z.toNat, by rw [List.mem_range]; omega, by omega⟩
theorem upTo_len (k : Nat) : (upTo k).length = k := by simp [upTo]
end Go.Proofs.Ytbandclbnlbkjaa
