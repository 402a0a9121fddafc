/-
  '==' between structs, field by field.
-/
import Derived.Laws.StructEq
import Derived.RowKit
namespace Go.Proofs.Ytmholpploaecgaa

section
variable {P : Program}
def eqT (d : Nat) (xs ys : Array Value) : List (String × TypeId × Nat) → Sem Bool
  | [] => pure true
  | f :: fs =>
    if f.1 ≠ "_" then do
      let a ← part f.2.1 xs f.2.2
      let b ← part f.2.1 ys f.2.2
      let r ← Op.equalIn d f.2.1 a b
      if (!r) = true then pure false else eqT d xs ys fs
    else eqT d xs ys fs
theorem eqFields_map (d : Nat) (xs ys : Array Value) : ∀ (fs : List Field), Op.eqFields d xs ys fs = eqT d xs ys (fs.map (fun f => (f.name, f.type, f.offset)))
  | [] => rfl
  | f :: fs => by
    simp only [Op.eqFields, List.map_cons, eqT]
    rw [eqFields_map d xs ys fs]
theorem eqT_step {d : Nat} {xs ys : Array Value} {n : String} {t : TypeId} {off : Nat} {rest : List (String × TypeId × Nat)} {u v : Value} {r : Bool} {w : World} (hn : n ≠ "_")
    (hx : (part t xs off).run P w = .ok u w) (hy : (part t ys off).run P w = .ok v w) (he : (Op.equalIn d t u v).run P w = .ok r w) :
    (eqT d xs ys ((n, t, off) :: rest)).run P w = if r = true then (eqT d xs ys rest).run P w else .ok false w := by
  simp only [eqT]
  rw [if_pos hn]
  simp only [Sem.run_bind, hx, hy, he, Result.andThen_ok, Sem.run_ite]
  cases r <;> simp
theorem part_int {t : TypeId} {k : IntKind} (he : P.underlying t = some (.int k)) {xs : Array Value} {off : Nat} {v : Value} (hx : xs[off]? = some v) (w : World) : (part t xs off).run P w = .ok v w := by
  simp [part, isAgg, run_underlying he, hx]
theorem part_bool {t : TypeId} (he : P.underlying t = some .bool) {xs : Array Value} {off : Nat} {v : Value} (hx : xs[off]? = some v) (w : World) : (part t xs off).run P w = .ok v w := by
  simp [part, isAgg, run_underlying he, hx]
theorem eqT_int {d : Nat} {xs ys : Array Value} {n : String} {t : TypeId} {off : Nat} {rest : List (String × TypeId × Nat)} {k : IntKind} {a b : Int} {w : World} (hn : n ≠ "_") (hu : P.underlying t = some (.int k))
    (hx : xs[off]? = some (.int k a)) (hy : ys[off]? = some (.int k b)) :
    (eqT (d + 1) xs ys ((n, t, off) :: rest)).run P w = if (a == b) = true then (eqT (d + 1) xs ys rest).run P w else .ok false w :=
  eqT_step hn (part_int hu hx w) (part_int hu hy w) (run_equalIn_int (P := P) w d t k k a b hu)
theorem eqT_bool {d : Nat} {xs ys : Array Value} {n : String} {t : TypeId} {off : Nat} {rest : List (String × TypeId × Nat)} {a b : Bool} {w : World} (hn : n ≠ "_") (hu : P.underlying t = some .bool)
    (hx : xs[off]? = some (.bool a)) (hy : ys[off]? = some (.bool b)) :
    (eqT (d + 1) xs ys ((n, t, off) :: rest)).run P w = if (a == b) = true then (eqT (d + 1) xs ys rest).run P w else .ok false w :=
  eqT_step hn (part_bool hu hx w) (part_bool hu hy w) (run_equalIn_bool' (P := P) w d t a b hu)
theorem eqT_nil (d : Nat) (xs ys : Array Value) (w : World) : (eqT d xs ys []).run P w = .ok true w := rfl
/-- Two structs, by their fields. -/
theorem run_equalIn_fields {d : Nat} {t : TypeId} {xs ys : Array Value} {l : List (String × TypeId × Nat)} (ht : P.underlying t = some (.struct (P.fieldsOf t))) (hp : P.stoodInHeld t = false) (hl : (P.fieldsOf t).toList.map (fun f => (f.name, f.type, f.offset)) = l) (w : World) :
    (Op.equalIn (d + 1) t (.agg xs) (.agg ys)).run P w = (eqT d xs ys l).run P w := by
  rw [run_equalIn_struct w d t xs ys ht hp, eqFields_map, hl]
end
end Go.Proofs.Ytmholpploaecgaa
