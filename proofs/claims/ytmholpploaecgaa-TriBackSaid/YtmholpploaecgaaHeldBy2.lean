/-
  A region that draws its order, walked by hand: stores of parts of rows, of single cells.
-/
import Derived.Test.YtmholpploaecgaaHeldBy
import Derived.Laws.CopyRow
namespace Go.Proofs.Ytmholpploaecgaa
open Go.RowKit
section
variable {P : Program} {ops : Array Oper} {Q : Exit → Act → World → Prop} {md : Region.Mode} {S : World → Prop}
/-- The one operation that may come up, run to its end by the prover. -/
theorem held_do {i : Nat} {o : Oper} {fuel : Nat} {listed : Array Bool} {a : Act} {w : World} (hi : ops[i]? = some o) (hgd : o.guard = none) (dst : Option Tmp) (hdst : o.dst = dst) (hr : Region.ready md ops listed = [i])
    (w' : World) (hrun : (execOp a.eval o).run P w = .ok .skip w') (hS : S w')
    (h : wpAnyH P md ops Q S fuel (listed.setIfInBounds i true) (a.put dst undef) w') : wpAnyH P md ops Q S (fuel + 1) listed a w := by
  subst hdst
  exact wpAnyH_all hr (by simp) (fun j hj => by
    obtain rfl : j = i := by simpa using hj
    refine wpOp_step hi (fun K hK => ?_)
    rw [if_pos (by simp [Region.wanted, hgd])]
    unfold Oper.wp
    rw [hrun]
    exact hK _ _ ⟨hS, h⟩)
/-- A part of a row, written whole. -/
theorem run_storeVar_part (w : World) (g o : Nat) (t ty : TypeId) (old cells : Array Value) (hg : w.heap[g]? = some (.cells old t (0, 0))) (hi : (P.info? ty).map (·.size) = some cells.size)
    (ho : o + cells.size ≤ old.size) (h1 : cells.all (·.oneCell') = true) :
    (storeVar ty ⟨g, o, none⟩ (.agg cells)).run P w = .ok () (w.setRow g (old.toList.take o ++ cells.toList ++ old.toList.drop (o + cells.size)).toArray) := by
  have := run_storeCells_at (P := P) g o t cells.toList 0 old w hg (by simpa using ho) (fun v hv => (Array.all_eq_true_iff_forall_mem.1 h1) v (by simpa using hv))
  cases hq : P.info? ty with
  | none => simp [hq] at hi
  | some i =>
    have hs : cells.size = i.size := by simp [hq] at hi; omega
    simp only [Nat.add_zero, Array.length_toList] at this
    simp [storeVar, sizeOf, typeInfo, hq, Value.cells, hs, this]
theorem held_store_part {i : Nat} {o : Oper} {fuel : Nat} {listed : Array Bool} {a : Act} {w : World} (hi : ops[i]? = some o) (hgd : o.guard = none) (dst : Option Tmp) (hdst : o.dst = dst) (ty : TypeId) (x y : Operand) (ho : o.op = .store ty x y)
    (hr : Region.ready md ops listed = [i])
    (g off : Nat) (cells : Array Value) (hx : a.eval x = .pointer (some ⟨g, off, none⟩)) (hy : a.eval y = .agg cells)
    (t : TypeId) (old new : Array Value) (hg : w.heap[g]? = some (.cells old t (0, 0))) (hi2 : (P.info? ty).map (·.size) = some cells.size)
    (hold : off + cells.size ≤ old.size) (h1 : cells.all (·.oneCell') = true) (hnew : (old.toList.take off ++ cells.toList ++ old.toList.drop (off + cells.size)).toArray = new) (hS : S (w.setRow g new))
    (h : wpAnyH P md ops Q S fuel (listed.setIfInBounds i true) (a.put dst undef) (w.setRow g new)) : wpAnyH P md ops Q S (fuel + 1) listed a w := by
  subst hnew
  refine held_do hi hgd dst hdst hr _ ?_ hS h
  unfold execOp
  simp only [ho, hx, hy, Instr.storeAt, Instr.sureAddr, Sem.run_bind, Sem.run_pure, Result.andThen_ok, run_storeVar_part w g off t ty old cells hg hi2 hold h1]
theorem wpList_store_part {ops : Array Oper} {rest : List Oper} {op : Oper} {a : Act} {w : World} {Q : Exit → Act → World → Prop} (hgd : op.guard = none) (ty : TypeId) (x y : Operand) (ho : op.op = .store ty x y)
    (g off : Nat) (cells : Array Value) (hx : a.eval x = .pointer (some ⟨g, off, none⟩)) (hy : a.eval y = .agg cells)
    (t : TypeId) (old new : Array Value) (hg : w.heap[g]? = some (.cells old t (0, 0))) (hi2 : (P.info? ty).map (·.size) = some cells.size)
    (hold : off + cells.size ≤ old.size) (h1 : cells.all (·.oneCell') = true) (hnew : (old.toList.take off ++ cells.toList ++ old.toList.drop (off + cells.size)).toArray = new)
    (h : wpList P ops Q rest (a.put op.dst undef) (w.setRow g new)) : wpList P ops Q (op :: rest) a w := by
  subst hnew
  refine wpList_plain hgd fun _ hK => ?_
  unfold Oper.wp execOp
  simp only [ho, hx, hy, Instr.storeAt, Instr.sureAddr, Sem.run_bind, Sem.run_pure, Result.andThen_ok, run_storeVar_part w g off t ty old cells hg hi2 hold h1]
  exact hK _ _ h
end
end Go.Proofs.Ytmholpploaecgaa
