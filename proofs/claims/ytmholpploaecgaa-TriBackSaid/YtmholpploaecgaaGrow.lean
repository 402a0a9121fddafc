/-
  A region that draws its order, whose operations read, and whose callees may make memory, but tell one value in whatever world: walked once, in the order of the text (the class of worlds: all that have grown out of one).
-/
import Derived.Test.YtmholpploaecgaaFr
import Derived.BigRegion
import Derived.BigQuiet
import Derived.Deep.QuietTactic
namespace Go.Proofs.Ytmholpploaecgaa
open Go.RowKit

/-- The worlds that have grown out of W. -/
def Ext (W : World) : Type := { w' : World // Below W.heap.size W w' }
instance (W : World) : Nonempty (Ext W) := ⟨⟨W, Below.refl _ _⟩⟩
def ext (W : World) (x : Ext W) : World := x.1
theorem ext_below {W : World} (x : Ext W) : Below W.heap.size W (ext W x) := x.2
theorem ext_cell {W : World} {b o : Nat} {u : Value} (h : W.cell? ⟨b, o, none⟩ = some u) (x : Ext W) : (ext W x).cell? ⟨b, o, none⟩ = some u := by
  rw [(ext_below x).cell (p := ⟨b, o, none⟩) (World.block_lt_of_cell? W (a := ⟨b, o, none⟩) h)]; exact h
theorem wp_region_grow {P : Program} {id : Nat} {Q : Exit → Act → World → Prop} {a : Act} {w : World} {l : List Oper} (hm : P.follows .mixedOrders = true) (hB : Region.lexB .any l.toArray = true)
    (h : wpQuiet P l.toArray (fun w' => ∃ x : Ext w, w' = ext w x) (fun a' => ∀ w', (∃ x : Ext w, w' = ext w x) → Q .normal a' w') l a) : (Code.region id l.toArray true).wp P Q a w :=
  wp_region_quiet (C := fun w' => ∃ x : Ext w, w' = ext w x) hm hB ⟨⟨_, (Below.refl _ w).drew⟩, rfl⟩ (by simpa using h)
/-- A callee's contract, met in a world that has grown. -/
theorem Calls.grow {P : Program} {f : FuncId} {args : Array Value} {W : World} {x : Ext W} {v : Value}
    (h : Calls P f args (ext W x) fun e w' => e = .returned v ∧ Below (ext W x).heap.size (ext W x) w') : Calls P f args (ext W x) fun e w'' => e = .returned v ∧ ∃ y : Ext W, w'' = ext W y :=
  h.mono fun _ w' ⟨he, hb⟩ => ⟨he, ⟨w', (ext_below x).trans (hb.mono (ext_below x).size)⟩, rfl⟩
theorem Calls.grow_same {P : Program} {f : FuncId} {args : Array Value} {W : World} {x : Ext W} {v : Value}
    (h : Calls P f args (ext W x) fun e w' => e = .returned v ∧ ext W x = w') : Calls P f args (ext W x) fun e w'' => e = .returned v ∧ ∃ y : Ext W, w'' = ext W y :=
  h.mono fun _ _ ⟨he, hw⟩ => ⟨he, x, hw.symm⟩
end Go.Proofs.Ytmholpploaecgaa
