/-
  A region that draws its order, walked by hand: an operation that tells a value and turns the world.
-/
import Derived.Test.YtmholpploaecgaaHeldBy2
namespace Go.Proofs.Ytmholpploaecgaa
open Go.RowKit
section
variable {P : Program} {ops : Array Oper} {Q : Exit → Act → World → Prop} {md : Region.Mode} {S : World → Prop}
/-- The one operation that may come up, run to its end by the prover: it tells a value. -/
theorem held_val {i : Nat} {o : Oper} {fuel : Nat} {listed : Array Bool} {a : Act} {w : World} (hi : ops[i]? = some o) (hgd : o.guard = none) (dst : Option Tmp) (hdst : o.dst = dst) (hr : Region.ready md ops listed = [i])
    (v : Value) (w' : World) (hrun : (execOp a.eval o).run P w = .ok (.value v) w') (hS : S w')
    (h : wpAnyH P md ops Q S fuel (listed.setIfInBounds i true) (a.put dst v) w') : wpAnyH P md ops Q S (fuel + 1) listed a w := by
  subst hdst
  exact wpAnyH_all hr (by simp) (fun j hj => by
    obtain rfl : j = i := by simpa using hj
    refine wpOp_step hi (fun K hK => ?_)
    rw [if_pos (by simp [Region.wanted, hgd])]
    unfold Oper.wp
    rw [hrun]
    exact hK _ _ ⟨hS, h⟩)
end
end Go.Proofs.Ytmholpploaecgaa
