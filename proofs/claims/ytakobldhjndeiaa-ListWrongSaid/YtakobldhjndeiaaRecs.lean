/-
  Slices of records: each element's cells, out of the slice's.
-/
import Derived.Test.YtakobldhjndeiaaOpenS
namespace Go.Proofs.Ytakobldhjndeiaa
open Go.RowKit

section
variable {α : Type} {f : α → List Value} {sz : Nat}
theorem recs_len (hf : ∀ x, (f x).length = sz) (l : List α) : (l.map f).flatten.length = l.length * sz := by
  rw [flat_len sz _ (fun c hc => by obtain ⟨x, _, rfl⟩ := List.mem_map.1 hc; exact hf x), List.length_map]
theorem recs_get (hf : ∀ x, (f x).length = sz) (l : List α) (j r : Nat) (hj : j < l.length) (hr : r < sz) : (l.map f).flatten[j * sz + r]? = (f l[j])[r]? := by
  rw [flat_get sz _ (fun c hc => by obtain ⟨x, _, rfl⟩ := List.mem_map.1 hc; exact hf x) j r hr]
  simp [hj]
theorem Sl.rec_at {w : World} {a : Option Addr} {n cap : Nat} {l : List α} (hf : ∀ x, (f x).length = sz) (hpos : 0 < sz) (h : Sl w a n cap sz (l.map f).flatten) (j : Nat) (hj : j < l.length) :
    ∃ b off, a = some ⟨b, off, none⟩ ∧ ∀ r, r < sz → w.cell? ⟨b, off + (j * sz + r), none⟩ = (f l[j])[r]? := by
  have hlen := recs_len hf l
  have h1 : j * sz + sz ≤ l.length * sz := by rw [← Nat.succ_mul]; exact Nat.mul_le_mul_right _ hj
  obtain ⟨b, off, rfl, _⟩ := h.at (j * sz) (by omega)
  refine ⟨b, off, rfl, fun r hr => ?_⟩
  have h2 : j * sz + r < (l.map f).flatten.length := by omega
  rw [h.cell (j * sz + r) h2, ← recs_get hf l j r hj hr, List.getElem?_eq_getElem h2]
theorem Sl.recs_n {w : World} {a : Option Addr} {n cap : Nat} {l : List α} (hf : ∀ x, (f x).length = sz) (hpos : 0 < sz) (h : Sl w a n cap sz (l.map f).flatten) : l.length = n := by
  have h1 := h.len
  rw [recs_len hf] at h1
  exact Nat.eq_of_mul_eq_mul_right hpos h1
theorem take_recs (hf : ∀ x, (f x).length = sz) : ∀ (l : List α) (k : Nat), (l.map f).flatten.take (k * sz) = ((l.take k).map f).flatten
  | [], k => by simp
  | x :: l, 0 => by simp
  | x :: l, k + 1 => by
    simp only [List.map_cons, List.flatten_cons, List.take_succ_cons]
    rw [List.take_append, List.take_of_length_le (by rw [hf, Nat.add_mul]; omega), hf, show (k + 1) * sz - sz = k * sz by rw [Nat.add_mul]; omega, take_recs hf l k]
theorem drop_recs (hf : ∀ x, (f x).length = sz) : ∀ (l : List α) (k : Nat), (l.map f).flatten.drop (k * sz) = ((l.drop k).map f).flatten
  | [], k => by simp
  | x :: l, 0 => by simp
  | x :: l, k + 1 => by
    simp only [List.map_cons, List.flatten_cons, List.drop_succ_cons]
    rw [List.drop_append, List.drop_of_length_le (by rw [hf, Nat.add_mul]; omega), hf, show (k + 1) * sz - sz = k * sz by rw [Nat.add_mul]; omega, drop_recs hf l k, List.nil_append]
theorem recs_append (l m : List α) : ((l ++ m).map f).flatten = (l.map f).flatten ++ (m.map f).flatten := by simp
theorem recs_set (hf : ∀ x, (f x).length = sz) (l : List α) (j : Nat) (x : α) (hj : j < l.length) : ((l.set j x).map f).flatten = (l.map f).flatten.take (j * sz) ++ f x ++ (l.map f).flatten.drop ((j + 1) * sz) := by
  rw [take_recs hf, drop_recs hf]
  have h1 : l.set j x = l.take j ++ x :: l.drop (j + 1) := List.set_eq_take_append_cons_drop.trans (by rw [if_pos hj])
  rw [h1]; simp
end
end Go.Proofs.Ytakobldhjndeiaa
