/-
  No cell of these rows narrows 'for every input' (looked for: loops, veiled, ifaces, maps, wideKeys, modest, calm, conditions, laid).
  DERIVED. THE GIVEN ROWS OF THIS SEAT. 4 by the template 'for every input the law returns true; each argument reads behind the call as it read before'; 0 by the template 'total and deterministic' (their statements: YtekimoblmcbjlaaTotals.lean).
  GIVEN WITH THE SEED: the statements are not yours to turn. If you find one false, say at which input.
  Laid BY PROGRAM, IN A SANDBOX (cutbox-rows.mjs): the forced cells as the released guide's own fill.sh prints them over the translation 872b40af3e69ebbe… (all of the seat's roots in one cut). By AI agents, Wed Nov 11 2026. No macro, syntax, notation, axiom, sorry.
-/
import Derived.Test.YtekimoblmcbjlaaChecked
import GoSem.Claim
import GoSem.ClaimJoined
import GoSem.ClaimMapViews
import Derived.JoinedTies
import Derived.KernelRfl
namespace Go.Proofs.Ytekimoblmcbjlaa
/- THE CELL 'sum', in the pinned program and in every row, IS THE sha256 OF THE DUMP (.gsa) THAT YtekimoblmcbjlaaProg.lean LOADS. Nothing in Lean hashes anything: it is a label: what it is worth is what the hold of that sum in a sandbox is worth. -/
noncomputable def Try.pinned : Pinned := { name := "ytekimoblmcbjlaa", sum := "872b40af3e69ebbe4b228def5df2713f2651cbe4d8beb85f6ceb7b3ab55631a6", checked := Try.checked }
namespace Rows
def none {H : Type} : Left H := { results := [], args := [] }

/-- 'azulejolaw24.StepsPlay': WHATEVER THE INPUT: true; the input reads as it did. -/
def stepsPlaySpec : ChangeSpec := { name := "stepsPlay", fn := fun _ => fun
  | [d1, d2, d3] => { results := [.lit (.bool true)], args := [d1, d2, d3] }
  | _ => none }
def stepsPlayRow : OpenClaim := { program := "ytekimoblmcbjlaa", sum := "872b40af3e69ebbe4b228def5df2713f2651cbe4d8beb85f6ceb7b3ab55631a6", func := "azulejo/azulejolaw24.StepsPlay", spec := "stepsPlay", unfollowed := true, recurses := true, apart := false }
def StepsPlaySaid : Prop := stepsPlayRow.holds Try.pinned (OpenSpec.ofChange stepsPlaySpec)

/-- ITS FALSE NEIGHBOUR: 'it returns false'. Refute it at one input. -/
def stepsPlayWrong : ChangeSpec := { name := "stepsPlay", fn := fun _ => fun
  | [d1, d2, d3] => { results := [.lit (.bool false)], args := [d1, d2, d3] }
  | _ => none }
def StepsPlayWrongFalsely : Prop := stepsPlayRow.holds Try.pinned (OpenSpec.ofChange stepsPlayWrong)

/-- 'azulejolaw24.StepsEnd': WHATEVER THE INPUT: true; the input reads as it did. -/
def stepsEndSpec : ChangeSpec := { name := "stepsEnd", fn := fun _ => fun
  | [d1, d2] => { results := [.lit (.bool true)], args := [d1, d2] }
  | _ => none }
def stepsEndRow : OpenClaim := { program := "ytekimoblmcbjlaa", sum := "872b40af3e69ebbe4b228def5df2713f2651cbe4d8beb85f6ceb7b3ab55631a6", func := "azulejo/azulejolaw24.StepsEnd", spec := "stepsEnd", unfollowed := true, recurses := true, apart := false }
def StepsEndSaid : Prop := stepsEndRow.holds Try.pinned (OpenSpec.ofChange stepsEndSpec)

/-- ITS FALSE NEIGHBOUR: 'it returns false'. Refute it at one input. -/
def stepsEndWrong : ChangeSpec := { name := "stepsEnd", fn := fun _ => fun
  | [d1, d2] => { results := [.lit (.bool false)], args := [d1, d2] }
  | _ => none }
def StepsEndWrongFalsely : Prop := stepsEndRow.holds Try.pinned (OpenSpec.ofChange stepsEndWrong)

/-- 'azulejolaw24.StepsRight': WHATEVER THE INPUT: true; the input reads as it did. -/
def stepsRightSpec : ChangeSpec := { name := "stepsRight", fn := fun _ => fun
  | [d1, d2] => { results := [.lit (.bool true)], args := [d1, d2] }
  | _ => none }
def stepsRightRow : OpenClaim := { program := "ytekimoblmcbjlaa", sum := "872b40af3e69ebbe4b228def5df2713f2651cbe4d8beb85f6ceb7b3ab55631a6", func := "azulejo/azulejolaw24.StepsRight", spec := "stepsRight", unfollowed := true, recurses := true, apart := false }
def StepsRightSaid : Prop := stepsRightRow.holds Try.pinned (OpenSpec.ofChange stepsRightSpec)

/-- ITS FALSE NEIGHBOUR: 'it returns false'. Refute it at one input. -/
def stepsRightWrong : ChangeSpec := { name := "stepsRight", fn := fun _ => fun
  | [d1, d2] => { results := [.lit (.bool false)], args := [d1, d2] }
  | _ => none }
def StepsRightWrongFalsely : Prop := stepsRightRow.holds Try.pinned (OpenSpec.ofChange stepsRightWrong)

/-- 'azulejolaw24.StepsOdd': WHATEVER THE INPUT: true; the input reads as it did. -/
def stepsOddSpec : ChangeSpec := { name := "stepsOdd", fn := fun _ => fun
  | [d1, d2] => { results := [.lit (.bool true)], args := [d1, d2] }
  | _ => none }
def stepsOddRow : OpenClaim := { program := "ytekimoblmcbjlaa", sum := "872b40af3e69ebbe4b228def5df2713f2651cbe4d8beb85f6ceb7b3ab55631a6", func := "azulejo/azulejolaw24.StepsOdd", spec := "stepsOdd", unfollowed := true, recurses := true, apart := false }
def StepsOddSaid : Prop := stepsOddRow.holds Try.pinned (OpenSpec.ofChange stepsOddSpec)

/-- ITS FALSE NEIGHBOUR: 'it returns false'. Refute it at one input. -/
def stepsOddWrong : ChangeSpec := { name := "stepsOdd", fn := fun _ => fun
  | [d1, d2] => { results := [.lit (.bool false)], args := [d1, d2] }
  | _ => none }
def StepsOddWrongFalsely : Prop := stepsOddRow.holds Try.pinned (OpenSpec.ofChange stepsOddWrong)

/- THE SECOND FORM. 'bulk': how many values and letters a reading holds, each counted each time it is reached (what is shared counts as often as it is met; a slice's spare places count too). A statement '..UptoSaid' is the law's where the arguments, and the package variables that the reading takes, are together of bulk at most 1048576: NARROWER than '..Said'. Prove '..Said' where nothing that the law and all that it calls make is longer than what came in: it says more and counts as full. Else prove '..UptoSaid'. A law counts once. -/
mutual
def uptoBulk {H : Type} : DataW H → Nat
  | .lit (.string bytes) => bytes.length + 1
  | .lit _ => 1
  | .nil => 1
  | .ptr d => uptoBulk d + 1
  | .slice elems spare => uptoBulkAll elems + uptoBulkAll spare + 1
  | .agg parts => uptoBulkAll parts + 1
  | .iface _ d => uptoBulk d + 1
  | .map entries => uptoBulkEntries entries + 1
  | .held _ => 1
def uptoBulkAll {H : Type} : List (DataW H) → Nat
  | [] => 0
  | d :: r => uptoBulk d + uptoBulkAll r
def uptoBulkEntries {H : Type} : List (Lit × DataW H) → Nat
  | [] => 0
  | x :: r => uptoBulkEntry x + uptoBulkEntries r
def uptoBulkEntry {H : Type} : Lit × DataW H → Nat
  | (.string bytes, d) => bytes.length + uptoBulk d + 1
  | (_, d) => uptoBulk d + 1
 end
def uptoSmall : (H : Type) → List (DataW H) → Bool := fun _ ds => decide (uptoBulkAll ds ≤ 1048576)
def OpenSpec.upto (s : _root_.Go.ChangeSpec) : _root_.Go.OpenSpec := { _root_.Go.OpenSpec.ofChange s with cond := some uptoSmall }

/-- 'azulejolaw24.StepsPlay', WHERE WHAT IT READS IS OF BULK AT MOST 1048576: true; the input reads as it did. -/
def stepsPlayUptoRow : OpenClaim := { program := "ytekimoblmcbjlaa", sum := "872b40af3e69ebbe4b228def5df2713f2651cbe4d8beb85f6ceb7b3ab55631a6", func := "azulejo/azulejolaw24.StepsPlay", spec := "stepsPlay", unfollowed := true, recurses := true, apart := false, narrowed := true }
def StepsPlayUptoSaid : Prop := stepsPlayUptoRow.holds Try.pinned (OpenSpec.upto stepsPlaySpec)

/-- 'azulejolaw24.StepsEnd', WHERE WHAT IT READS IS OF BULK AT MOST 1048576: true; the input reads as it did. -/
def stepsEndUptoRow : OpenClaim := { program := "ytekimoblmcbjlaa", sum := "872b40af3e69ebbe4b228def5df2713f2651cbe4d8beb85f6ceb7b3ab55631a6", func := "azulejo/azulejolaw24.StepsEnd", spec := "stepsEnd", unfollowed := true, recurses := true, apart := false, narrowed := true }
def StepsEndUptoSaid : Prop := stepsEndUptoRow.holds Try.pinned (OpenSpec.upto stepsEndSpec)

/-- 'azulejolaw24.StepsRight', WHERE WHAT IT READS IS OF BULK AT MOST 1048576: true; the input reads as it did. -/
def stepsRightUptoRow : OpenClaim := { program := "ytekimoblmcbjlaa", sum := "872b40af3e69ebbe4b228def5df2713f2651cbe4d8beb85f6ceb7b3ab55631a6", func := "azulejo/azulejolaw24.StepsRight", spec := "stepsRight", unfollowed := true, recurses := true, apart := false, narrowed := true }
def StepsRightUptoSaid : Prop := stepsRightUptoRow.holds Try.pinned (OpenSpec.upto stepsRightSpec)

/-- 'azulejolaw24.StepsOdd', WHERE WHAT IT READS IS OF BULK AT MOST 1048576: true; the input reads as it did. -/
def stepsOddUptoRow : OpenClaim := { program := "ytekimoblmcbjlaa", sum := "872b40af3e69ebbe4b228def5df2713f2651cbe4d8beb85f6ceb7b3ab55631a6", func := "azulejo/azulejolaw24.StepsOdd", spec := "stepsOdd", unfollowed := true, recurses := true, apart := false, narrowed := true }
def StepsOddUptoSaid : Prop := stepsOddUptoRow.holds Try.pinned (OpenSpec.upto stepsOddSpec)

end Rows
end Go.Proofs.Ytekimoblmcbjlaa
