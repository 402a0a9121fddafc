/-
  '==' between arrays of whole numbers.
-/
import Derived.ChangeKeysEq
import Derived.Laws.StructEq
import Derived.RowKit
namespace Go.Proofs.Ytmholpploaecgaa

section
variable {P : Program}

theorem run_part_int {e : TypeId} {k : IntKind} (he : P.underlying e = some (.int k)) {xs : Array Value} {off : Nat} {v : Value} (hx : xs[off]? = some v) (w : World) : (part e xs off).run P w = .ok v w := by
  simp [part, isAgg, run_underlying he, hx]

theorem run_eqItems_ints (d : Nat) {e : TypeId} {k : IntKind} (he : P.underlying e = some (.int k)) (xs ys : List Int) (hl : xs.length = ys.length) (w : World) : ∀ m j, j + m = xs.length →
    (Op.eqItems (d + 1) e 1 (xs.map (Value.int k)).toArray (ys.map (Value.int k)).toArray (List.range' j m)).run P w = .ok (xs.drop j == ys.drop j) w := by
  intro m
  induction m with
  | zero =>
    intro j hj
    simp [Op.eqItems, List.drop_of_length_le (show xs.length ≤ j by omega), List.drop_of_length_le (show ys.length ≤ j by omega)]
  | succ m ih =>
    intro j hj
    have hx : j < xs.length := by omega
    have hy : j < ys.length := by omega
    have h1 : (xs.map (Value.int k)).toArray[j * 1]? = some (Value.int k xs[j]) := by simp [hx]
    have h2 : (ys.map (Value.int k)).toArray[j * 1]? = some (Value.int k ys[j]) := by simp [hy]
    rw [List.range'_succ]
    simp only [Op.eqItems, Sem.run_bind, run_part_int he h1, run_part_int he h2, Result.andThen_ok, run_equalIn_int (P := P) w d e k k xs[j] ys[j] he]
    rw [List.drop_eq_getElem_cons hx, List.drop_eq_getElem_cons hy]
    by_cases e : xs[j] = ys[j]
    · have hb : (xs[j] == ys[j]) = true := by rw [e]; exact beq_self_eq_true _
      simp only [hb, Bool.not_true, Bool.false_eq_true, if_false, List.cons_beq_cons, Bool.true_and]
      exact ih (j + 1) (by omega)
    · have hb : (xs[j] == ys[j]) = false := beq_eq_false_iff_ne.2 e
      simp only [hb, Bool.not_false, if_true, List.cons_beq_cons, Bool.false_and, Sem.run_pure]

/-- '==' between two arrays of n whole numbers. -/
theorem run_equalIn_ints {t e : TypeId} {k : IntKind} {n : Nat} {i : TypeInfo} (ht : P.underlying t = some (.array n e)) (he : P.underlying e = some (.int k)) (hi : P.info? e = some i) (hc : P.cellsOf e = 1)
    (d : Nat) (xs ys : List Int) (hx : xs.length = n) (hy : ys.length = n) (w : World) :
    (Op.equalIn (d + 2) t (.agg (xs.map (Value.int k)).toArray) (.agg (ys.map (Value.int k)).toArray)).run P w = .ok (xs == ys) w := by
  rw [run_equalIn_array w (d + 1) _ _ ht hi, hc, List.range_eq_range']
  have := run_eqItems_ints d he xs ys (by omega) w n 0 (by omega)
  simpa using this

theorem run_eql_ints {t e : TypeId} {k : IntKind} {n : Nat} {i : TypeInfo} (ht : P.underlying t = some (.array n e)) (he : P.underlying e = some (.int k)) (hi : P.info? e = some i) (hc : P.cellsOf e = 1)
    (xs ys : List Int) (hx : xs.length = n) (hy : ys.length = n) (w : World) :
    (binOp .eql t (.agg (xs.map (Value.int k)).toArray) (.agg (ys.map (Value.int k)).toArray)).run P w = .ok (.bool (xs == ys)) w := by
  rw [run_eql_struct, run_equalIn_ints ht he hi hc 9998 xs ys hx hy w]
  rfl
theorem run_neq_ints {t e : TypeId} {k : IntKind} {n : Nat} {i : TypeInfo} (ht : P.underlying t = some (.array n e)) (he : P.underlying e = some (.int k)) (hi : P.info? e = some i) (hc : P.cellsOf e = 1)
    (xs ys : List Int) (hx : xs.length = n) (hy : ys.length = n) (w : World) :
    (binOp .neq t (.agg (xs.map (Value.int k)).toArray) (.agg (ys.map (Value.int k)).toArray)).run P w = .ok (.bool (!(xs == ys))) w := by
  rw [run_neq_struct, run_equalIn_ints ht he hi hc 9998 xs ys hx hy w]
  rfl
end
end Go.Proofs.Ytmholpploaecgaa
