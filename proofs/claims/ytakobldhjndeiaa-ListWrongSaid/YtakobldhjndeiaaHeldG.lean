/-
  A region that draws its order, walked by hand: operations with a guard that lets them be; a condition on the world that grows.
-/
import Derived.Test.YtakobldhjndeiaaHeldBy
import Derived.Test.YtakobldhjndeiaaFr
namespace Go.Proofs.Ytakobldhjndeiaa
open Go.RowKit
theorem fr_drew (w : World) : Fr [] w w.drew := ⟨rfl, rfl, rfl, Nat.le_refl _, fun _ _ _ => rfl⟩
section
variable {P : Program} {ops : Array Oper} {Q : Exit → Act → World → Prop} {md : Region.Mode} {S : World → Prop}
theorem wpAnyH_more {S' : World → Prop} (hS : ∀ w, S' w → S w) : ∀ (fuel : Nat) (listed : Array Bool) (a : Act) (w : World), wpAnyH P md ops Q S' fuel listed a w → wpAnyH P md ops Q S fuel listed a w
  | 0, _, _, _, h => h
  | fuel + 1, _, _, _, h => ⟨h.1, fun i hi => wpOp_mono (fun _ _ h' => ⟨hS _ h'.1, wpAnyH_more hS fuel _ _ _ h'.2⟩) (h.2 i hi)⟩
theorem held_loadG {i : Nat} {o : Oper} {fuel : Nat} {listed : Array Bool} {a : Act} {w : World} (hi : ops[i]? = some o) (hw : Region.wanted o (yielded ops a.tmps) = true) (dst : Option Tmp) (hdst : o.dst = dst) (ty : TypeId) (x : Operand) (ho : o.op = .load ty x)
    (hs : Region.noSelect ops = true) (hf : Region.free md ops listed i = true) (hr : (Region.ready md ops listed).contains i = true)
    (hQ : ∀ c a w v, Q (.panic c) (a.put dst v) w → Q (.panic c) a w)
    (g : Nat) (hx : a.eval x = .pointer (some ⟨g, 0, none⟩)) (t : TypeId) (cs : Array Value) (fr : Nat × Nat) (d : TypeDesc) (hg : ∀ w, S w → w.heap[g]? = some (.cells cs t fr))
    (hu : P.underlying ty = some d) (hd : (match d with | .struct _ | .array _ _ => true | _ => false) = true) (hi2 : (P.info? ty).map (·.size) = some cs.size) (hS : S w)
    (h : wpAnyH P md ops Q S fuel (listed.setIfInBounds i true) (a.put dst (.agg cs)) w) : wpAnyH P md ops Q S (fuel + 1) listed a w := by
  subst hdst
  exact wpAnyH_take hi hs hf hr (fun c a w => hQ c a w _) (.inl ⟨hw, fun w hw => by
    unfold execOp
    simp only [ho, hx, Instr.loadAt, Instr.sureAddr, Sem.run_bind, Sem.run_pure, Result.andThen_ok, run_loadVar_row w g t ty cs fr d (hg w hw) hu hd hi2]⟩) hS h
theorem held_takeG {i : Nat} {o : Oper} {fuel : Nat} {listed : Array Bool} {a : Act} {w : World} (hi : ops[i]? = some o) (hw : Region.wanted o (yielded ops a.tmps) = true) (dst : Option Tmp) (hdst : o.dst = dst) (v : Value)
    (hs : Region.noSelect ops = true) (hf : Region.free md ops listed i = true) (hr : (Region.ready md ops listed).contains i = true)
    (hQ : ∀ c a w v, Q (.panic c) (a.put dst v) w → Q (.panic c) a w) (hS : S w) (hy : ∀ w, S w → (execOp a.eval o).run P w = .ok (.value v) w)
    (h : wpAnyH P md ops Q S fuel (listed.setIfInBounds i true) (a.put dst v) w) : wpAnyH P md ops Q S (fuel + 1) listed a w := by
  subst hdst
  exact wpAnyH_take hi hs hf hr (fun c a w => hQ c a w _) (.inl ⟨hw, hy⟩) hS h
theorem held_not {i : Nat} {o : Oper} {fuel : Nat} {listed : Array Bool} {a : Act} {w : World} (hi : ops[i]? = some o) (hw : Region.wanted o (yielded ops a.tmps) = false) (dst : Option Tmp) (hdst : o.dst = dst)
    (hs : Region.noSelect ops = true) (hf : Region.free md ops listed i = true) (hr : (Region.ready md ops listed).contains i = true)
    (hQ : ∀ c a w v, Q (.panic c) (a.put dst v) w → Q (.panic c) a w) (hS : S w)
    (h : wpAnyH P md ops Q S fuel (listed.setIfInBounds i true) (a.put dst undef) w) : wpAnyH P md ops Q S (fuel + 1) listed a w := by
  subst hdst
  exact wpAnyH_take hi hs hf hr (fun c a w => hQ c a w _) (.inr ⟨hw, rfl⟩) hS h
theorem held_callG {i : Nat} {o : Oper} {fuel : Nat} {listed : Array Bool} {a : Act} {w : World} (hi : ops[i]? = some o) (hw : Region.wanted o (yielded ops a.tmps) = true) (dst : Option Tmp) (hdst : o.dst = dst) (hr : Region.ready md ops listed = [i])
    (f : FuncId) (args : Array Value) (hrun : (execOp a.eval o).run P w = .ok (.enter f args) w) (R : Value → World → Prop) (hc : Calls P f args w fun e w'' => ∃ v, e = .returned v ∧ R v w'')
    (h : ∀ v w'', R v w'' → S w'' ∧ wpAnyH P md ops Q S fuel (listed.setIfInBounds i true) (a.put dst v) w'') : wpAnyH P md ops Q S (fuel + 1) listed a w := by
  subst hdst
  exact wpAnyH_all hr (by simp) (fun j hj => by
    obtain rfl : j = i := by simpa using hj
    refine wpOp_step hi (fun K hK => ?_)
    rw [if_pos hw]
    unfold Oper.wp
    rw [hrun, Oper.upon_enter]
    refine hc.mono fun e w'' hh => ?_
    obtain ⟨v, rfl, hR⟩ := hh
    exact hK _ _ (h _ _ hR))
end
end Go.Proofs.Ytakobldhjndeiaa
