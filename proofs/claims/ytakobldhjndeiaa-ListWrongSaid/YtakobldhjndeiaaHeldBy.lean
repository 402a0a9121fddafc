/-
  A region that draws its order, walked by hand, one operation at a time: rows read and written whole, calls by their contracts.
-/
import Derived.Test.YtakobldhjndeiaaSteps
import Derived.OrdersHeld
import Derived.RegionTactic
namespace Go.Proofs.Ytakobldhjndeiaa
open Go.RowKit
section
variable {P : Program} {ops : Array Oper} {Q : Exit → Act → World → Prop} {md : Region.Mode} {S : World → Prop}
theorem held_load_row {i : Nat} {o : Oper} {fuel : Nat} {listed : Array Bool} {a : Act} {w : World} (hi : ops[i]? = some o) (hgd : o.guard = none) (dst : Option Tmp) (hdst : o.dst = dst) (ty : TypeId) (x : Operand) (ho : o.op = .load ty x)
    (hs : Region.noSelect ops = true) (hf : Region.free md ops listed i = true) (hr : (Region.ready md ops listed).contains i = true)
    (hQ : ∀ c a w v, Q (.panic c) (a.put dst v) w → Q (.panic c) a w)
    (g : Nat) (hx : a.eval x = .pointer (some ⟨g, 0, none⟩)) (t : TypeId) (cs : Array Value) (fr : Nat × Nat) (d : TypeDesc) (hg : ∀ w, S w → w.heap[g]? = some (.cells cs t fr))
    (hu : P.underlying ty = some d) (hd : (match d with | .struct _ | .array _ _ => true | _ => false) = true) (hi2 : (P.info? ty).map (·.size) = some cs.size) (hS : S w)
    (h : wpAnyH P md ops Q S fuel (listed.setIfInBounds i true) (a.put dst (.agg cs)) w) : wpAnyH P md ops Q S (fuel + 1) listed a w := by
  subst hdst
  exact wpAnyH_take hi hs hf hr (fun c a w => hQ c a w _) (.inl ⟨by simp [Region.wanted, hgd], fun w hw => by
    unfold execOp
    simp only [ho, hx, Instr.loadAt, Instr.sureAddr, Sem.run_bind, Sem.run_pure, Result.andThen_ok, run_loadVar_row w g t ty cs fr d (hg w hw) hu hd hi2]⟩) hS h
theorem held_store_row {i : Nat} {o : Oper} {fuel : Nat} {listed : Array Bool} {a : Act} {w : World} (hi : ops[i]? = some o) (hgd : o.guard = none) (dst : Option Tmp) (hdst : o.dst = dst) (ty : TypeId) (x y : Operand) (ho : o.op = .store ty x y)
    (hr : Region.ready md ops listed = [i])
    (g : Nat) (cells : Array Value) (hx : a.eval x = .pointer (some ⟨g, 0, none⟩)) (hy : a.eval y = .agg cells)
    (t : TypeId) (old : Array Value) (hg : w.heap[g]? = some (.cells old t (0, 0))) (hi2 : (P.info? ty).map (·.size) = some cells.size)
    (hold : old.size = cells.size) (h1 : cells.all (·.oneCell') = true) (hS : S (w.setRow g cells))
    (h : wpAnyH P md ops Q S fuel (listed.setIfInBounds i true) (a.put dst undef) (w.setRow g cells)) : wpAnyH P md ops Q S (fuel + 1) listed a w := by
  subst hdst
  exact wpAnyH_all hr (by simp) (fun j hj => by
    obtain rfl : j = i := by simpa using hj
    refine wpOp_step hi (fun K hK => ?_)
    rw [if_pos (by simp [Region.wanted, hgd])]
    exact wp_store_row ty x y ho g cells hx hy t old hg hi2 hold h1 (hK _ _ ⟨hS, h⟩))
theorem held_call {i : Nat} {o : Oper} {fuel : Nat} {listed : Array Bool} {a : Act} {w : World} (hi : ops[i]? = some o) (hgd : o.guard = none) (dst : Option Tmp) (hdst : o.dst = dst) (hr : Region.ready md ops listed = [i])
    (f : FuncId) (args : Array Value) (hrun : (execOp a.eval o).run P w = .ok (.enter f args) w) (v : Value) {R : World → Prop} (hc : Calls P f args w fun e w'' => e = .returned v ∧ R w'')
    (h : ∀ w'', R w'' → S w'' ∧ wpAnyH P md ops Q S fuel (listed.setIfInBounds i true) (a.put dst v) w'') : wpAnyH P md ops Q S (fuel + 1) listed a w := by
  subst hdst
  exact wpAnyH_all hr (by simp) (fun j hj => by
    obtain rfl : j = i := by simpa using hj
    refine wpOp_step hi (fun K hK => ?_)
    rw [if_pos (by simp [Region.wanted, hgd])]
    unfold Oper.wp
    rw [hrun, Oper.upon_enter]
    refine hc.mono fun e w'' hh => ?_
    obtain ⟨rfl, hR⟩ := hh
    exact hK _ _ (h _ hR))
/-- What yields a value in every world of the class is taken first. -/
theorem held_take {i : Nat} {o : Oper} {fuel : Nat} {listed : Array Bool} {a : Act} {w : World} (hi : ops[i]? = some o) (hgd : o.guard = none) (dst : Option Tmp) (hdst : o.dst = dst) (v : Value)
    (hs : Region.noSelect ops = true) (hf : Region.free md ops listed i = true) (hr : (Region.ready md ops listed).contains i = true)
    (hQ : ∀ c a w v, Q (.panic c) (a.put dst v) w → Q (.panic c) a w) (hS : S w) (hy : ∀ w, S w → (execOp a.eval o).run P w = .ok (.value v) w)
    (h : wpAnyH P md ops Q S fuel (listed.setIfInBounds i true) (a.put dst v) w) : wpAnyH P md ops Q S (fuel + 1) listed a w := by
  subst hdst
  exact wpAnyH_take hi hs hf hr (fun c a w => hQ c a w _) (.inl ⟨by simp [Region.wanted, hgd], hy⟩) hS h
end
end Go.Proofs.Ytakobldhjndeiaa
