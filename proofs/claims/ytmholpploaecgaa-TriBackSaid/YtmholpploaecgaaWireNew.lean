/-
  A new writer.
-/
import Derived.Test.YtmholpploaecgaaPutW
import Derived.Test.YtmholpploaecgaaStr
namespace Go.Proofs.Ytmholpploaecgaa
open Go.RowKit

theorem Wr.new (w : World) (T : TypeId) : Wr (w.alloc (.cells #[.slice none 0 0] T)) w.heap.size [w.heap.size] [] :=
  ⟨.slice none 0 0, T, heap_new w _, OwnB.nil _ _, by simp [Value.ownBlock], rfl⟩
theorem fr_alloc (w : World) (o : Obj) : Fr [] w (w.alloc o) := (Fr.refl _ _).alloc o

end Go.Proofs.Ytmholpploaecgaa
