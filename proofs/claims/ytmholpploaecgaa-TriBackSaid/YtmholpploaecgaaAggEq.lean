/-
  '==' between structs and arrays that hold structs and arrays.
-/
import Derived.Test.YtmholpploaecgaaStructEq
import Derived.ChangeKeysEq
import Derived.RowKit
namespace Go.Proofs.Ytmholpploaecgaa
section
variable {P : Program}
theorem part_struct {t : TypeId} {fs : Array Field} {i : TypeInfo} (ht : P.underlying t = some (.struct fs)) (hi : P.info? t = some i) (xs : Array Value) (off : Nat) (w : World) :
    (part t xs off).run P w = .ok (.agg (xs.extract off (off + i.size))) w := by
  simp [part, isAgg, run_underlying ht, sizeOf, typeInfo, hi]
theorem part_array {t e : TypeId} {n : Nat} {i : TypeInfo} (ht : P.underlying t = some (.array n e)) (hi : P.info? t = some i) (xs : Array Value) (off : Nat) (w : World) :
    (part t xs off).run P w = .ok (.agg (xs.extract off (off + i.size))) w := by
  simp [part, isAgg, run_underlying ht, sizeOf, typeInfo, hi]
theorem eqItems_step {d : Nat} {e : TypeId} {sz : Nat} {xs ys : Array Value} {i : Nat} {is : List Nat} {u v : Value} {r : Bool} {w : World}
    (hx : (part e xs (i * sz)).run P w = .ok u w) (hy : (part e ys (i * sz)).run P w = .ok v w) (he : (Op.equalIn d e u v).run P w = .ok r w) :
    (Op.eqItems d e sz xs ys (i :: is)).run P w = if r = true then (Op.eqItems d e sz xs ys is).run P w else .ok false w := by
  simp only [Op.eqItems, Sem.run_bind, hx, hy, he, Result.andThen_ok]
  cases r <;> simp
theorem eqItems_nil (d : Nat) (e : TypeId) (sz : Nat) (xs ys : Array Value) (w : World) : (Op.eqItems d e sz xs ys []).run P w = .ok true w := by simp [Op.eqItems]
end
end Go.Proofs.Ytmholpploaecgaa
