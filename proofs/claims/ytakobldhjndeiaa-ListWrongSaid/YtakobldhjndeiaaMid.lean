/-
  Long arrays and structs, whole: loads out of a block, stores into it, results.
-/
import Derived.Test.YtakobldhjndeiaaFr
import Derived.Deep.MidRow
namespace Go.Proofs.Ytakobldhjndeiaa
open Go.RowKit
section
variable {P : Program}
theorem range_in {w : World} {B : Nat} {T : TypeId} {fz : Nat × Nat} {cs : Array Value} (h : w.heap[B]? = some (.cells cs T fz)) (o : Nat) (ds : List Value) (hd : ∀ j : Nat, ds[j]? = cs.toList[o + j]? ∨ ds[j]? = none) : w.rangeAt B o ds := fun j v hv => by
  rw [cell_at h]
  rcases hd j with h1 | h1
  · rw [h1] at hv; simpa using hv
  · rw [h1] at hv; cases hv
theorem Fr.drew1 {S : List Nat} {a b : World} (h : Fr S a b) : Fr S a b.drew := ⟨h.os, h.tape, h.output, h.size, h.block⟩
theorem fr_row (w : World) (g : Nat) (cs : Array Value) : Fr [g] w (w.setRow g cs) := ⟨rfl, rfl, rfl, by simp [World.setRow], fun k _ hk => setRow_other w g k cs (by simpa using hk)⟩
end
end Go.Proofs.Ytakobldhjndeiaa
