/-
  No cell of these rows narrows 'for every input' (looked for: loops, veiled, ifaces, maps, wideKeys, modest, calm, conditions, laid).
  DERIVED. THE GIVEN ROWS OF THIS SEAT. 4 by the template 'for every input the law returns true; each argument reads behind the call as it read before'; 0 by the template 'total and deterministic' (their statements: YtnknhedhoibepaaTotals.lean).
  GIVEN WITH THE SEED: the statements are not yours to turn. If you find one false, say at which input.
  Laid BY PROGRAM, IN A SANDBOX (cutbox-rows.mjs): the forced cells as the released guide's own fill.sh prints them over the translation 51c39d4d5df6f896… (all of the seat's roots in one cut). By AI agents, Wed Nov 11 2026. No macro, syntax, notation, axiom, sorry.
-/
import Derived.Test.YtnknhedhoibepaaChecked
import GoSem.Claim
import GoSem.ClaimJoined
import GoSem.ClaimMapViews
import Derived.JoinedTies
import Derived.KernelRfl
namespace Go.Proofs.Ytnknhedhoibepaa
/- THE CELL 'sum', in the pinned program and in every row, IS THE sha256 OF THE DUMP (.gsa) THAT YtnknhedhoibepaaProg.lean LOADS. Nothing in Lean hashes anything: it is a label: what it is worth is what the hold of that sum in a sandbox is worth. -/
noncomputable def Try.pinned : Pinned := { name := "ytnknhedhoibepaa", sum := "51c39d4d5df6f896f797e0431113370ed88157f13ca9b60a8752c12f5cd3ae11", checked := Try.checked }
namespace Rows
def none {H : Type} : Left H := { results := [], args := [] }

/-- 'azulejolaw07.IsaMore': WHATEVER THE INPUT: true; the input reads as it did. -/
def isaMoreSpec : ChangeSpec := { name := "isaMore", fn := fun _ => fun
  | [d1, d2] => { results := [.lit (.bool true)], args := [d1, d2] }
  | _ => none }
def isaMoreRow : OpenClaim := { program := "ytnknhedhoibepaa", sum := "51c39d4d5df6f896f797e0431113370ed88157f13ca9b60a8752c12f5cd3ae11", func := "azulejo/azulejolaw07.IsaMore", spec := "isaMore", apart := false }
def IsaMoreSaid : Prop := isaMoreRow.holds Try.pinned (OpenSpec.ofChange isaMoreSpec)

/-- ITS FALSE NEIGHBOUR: 'it returns false'. Refute it at one input. -/
def isaMoreWrong : ChangeSpec := { name := "isaMore", fn := fun _ => fun
  | [d1, d2] => { results := [.lit (.bool false)], args := [d1, d2] }
  | _ => none }
def IsaMoreWrongFalsely : Prop := isaMoreRow.holds Try.pinned (OpenSpec.ofChange isaMoreWrong)

/-- 'azulejolaw07.IsaJoins': WHATEVER THE INPUT: true; the input reads as it did. -/
def isaJoinsSpec : ChangeSpec := { name := "isaJoins", fn := fun _ => fun
  | [d1, d2] => { results := [.lit (.bool true)], args := [d1, d2] }
  | _ => none }
def isaJoinsRow : OpenClaim := { program := "ytnknhedhoibepaa", sum := "51c39d4d5df6f896f797e0431113370ed88157f13ca9b60a8752c12f5cd3ae11", func := "azulejo/azulejolaw07.IsaJoins", spec := "isaJoins", apart := false }
def IsaJoinsSaid : Prop := isaJoinsRow.holds Try.pinned (OpenSpec.ofChange isaJoinsSpec)

/-- ITS FALSE NEIGHBOUR: 'it returns false'. Refute it at one input. -/
def isaJoinsWrong : ChangeSpec := { name := "isaJoins", fn := fun _ => fun
  | [d1, d2] => { results := [.lit (.bool false)], args := [d1, d2] }
  | _ => none }
def IsaJoinsWrongFalsely : Prop := isaJoinsRow.holds Try.pinned (OpenSpec.ofChange isaJoinsWrong)

/-- 'azulejolaw07.IsaBack': WHATEVER THE INPUT: true; the input reads as it did. -/
def isaBackSpec : ChangeSpec := { name := "isaBack", fn := fun _ => fun
  | [d1, d2] => { results := [.lit (.bool true)], args := [d1, d2] }
  | _ => none }
def isaBackRow : OpenClaim := { program := "ytnknhedhoibepaa", sum := "51c39d4d5df6f896f797e0431113370ed88157f13ca9b60a8752c12f5cd3ae11", func := "azulejo/azulejolaw07.IsaBack", spec := "isaBack", apart := false }
def IsaBackSaid : Prop := isaBackRow.holds Try.pinned (OpenSpec.ofChange isaBackSpec)

/-- ITS FALSE NEIGHBOUR: 'it returns false'. Refute it at one input. -/
def isaBackWrong : ChangeSpec := { name := "isaBack", fn := fun _ => fun
  | [d1, d2] => { results := [.lit (.bool false)], args := [d1, d2] }
  | _ => none }
def IsaBackWrongFalsely : Prop := isaBackRow.holds Try.pinned (OpenSpec.ofChange isaBackWrong)

/-- 'azulejolaw07.IsaAny': WHATEVER THE INPUT: true; the input reads as it did. -/
def isaAnySpec : ChangeSpec := { name := "isaAny", fn := fun _ => fun
  | [d1, d2, d3] => { results := [.lit (.bool true)], args := [d1, d2, d3] }
  | _ => none }
def isaAnyRow : OpenClaim := { program := "ytnknhedhoibepaa", sum := "51c39d4d5df6f896f797e0431113370ed88157f13ca9b60a8752c12f5cd3ae11", func := "azulejo/azulejolaw07.IsaAny", spec := "isaAny", apart := false }
def IsaAnySaid : Prop := isaAnyRow.holds Try.pinned (OpenSpec.ofChange isaAnySpec)

/-- ITS FALSE NEIGHBOUR: 'it returns false'. Refute it at one input. -/
def isaAnyWrong : ChangeSpec := { name := "isaAny", fn := fun _ => fun
  | [d1, d2, d3] => { results := [.lit (.bool false)], args := [d1, d2, d3] }
  | _ => none }
def IsaAnyWrongFalsely : Prop := isaAnyRow.holds Try.pinned (OpenSpec.ofChange isaAnyWrong)

/- THE SECOND FORM. 'bulk': how many values and letters a reading holds, each counted each time it is reached (what is shared counts as often as it is met; a slice's spare places count too). A statement '..UptoSaid' is the law's where the arguments, and the package variables that the reading takes, are together of bulk at most 1048576: NARROWER than '..Said'. Prove '..Said' where nothing that the law and all that it calls make is longer than what came in: it says more and counts as full. Else prove '..UptoSaid'. A law counts once. -/
mutual
def uptoBulk {H : Type} : DataW H → Nat
  | .lit (.string bytes) => bytes.length + 1
  | .lit _ => 1
  | .nil => 1
  | .ptr d => uptoBulk d + 1
  | .slice elems spare => uptoBulkAll elems + uptoBulkAll spare + 1
  | .agg parts => uptoBulkAll parts + 1
  | .iface _ d => uptoBulk d + 1
  | .map entries => uptoBulkEntries entries + 1
  | .held _ => 1
def uptoBulkAll {H : Type} : List (DataW H) → Nat
  | [] => 0
  | d :: r => uptoBulk d + uptoBulkAll r
def uptoBulkEntries {H : Type} : List (Lit × DataW H) → Nat
  | [] => 0
  | x :: r => uptoBulkEntry x + uptoBulkEntries r
def uptoBulkEntry {H : Type} : Lit × DataW H → Nat
  | (.string bytes, d) => bytes.length + uptoBulk d + 1
  | (_, d) => uptoBulk d + 1
 end
def uptoSmall : (H : Type) → List (DataW H) → Bool := fun _ ds => decide (uptoBulkAll ds ≤ 1048576)
def OpenSpec.upto (s : _root_.Go.ChangeSpec) : _root_.Go.OpenSpec := { _root_.Go.OpenSpec.ofChange s with cond := some uptoSmall }

/-- 'azulejolaw07.IsaMore', WHERE WHAT IT READS IS OF BULK AT MOST 1048576: true; the input reads as it did. -/
def isaMoreUptoRow : OpenClaim := { program := "ytnknhedhoibepaa", sum := "51c39d4d5df6f896f797e0431113370ed88157f13ca9b60a8752c12f5cd3ae11", func := "azulejo/azulejolaw07.IsaMore", spec := "isaMore", apart := false, narrowed := true }
def IsaMoreUptoSaid : Prop := isaMoreUptoRow.holds Try.pinned (OpenSpec.upto isaMoreSpec)

/-- 'azulejolaw07.IsaJoins', WHERE WHAT IT READS IS OF BULK AT MOST 1048576: true; the input reads as it did. -/
def isaJoinsUptoRow : OpenClaim := { program := "ytnknhedhoibepaa", sum := "51c39d4d5df6f896f797e0431113370ed88157f13ca9b60a8752c12f5cd3ae11", func := "azulejo/azulejolaw07.IsaJoins", spec := "isaJoins", apart := false, narrowed := true }
def IsaJoinsUptoSaid : Prop := isaJoinsUptoRow.holds Try.pinned (OpenSpec.upto isaJoinsSpec)

/-- 'azulejolaw07.IsaBack', WHERE WHAT IT READS IS OF BULK AT MOST 1048576: true; the input reads as it did. -/
def isaBackUptoRow : OpenClaim := { program := "ytnknhedhoibepaa", sum := "51c39d4d5df6f896f797e0431113370ed88157f13ca9b60a8752c12f5cd3ae11", func := "azulejo/azulejolaw07.IsaBack", spec := "isaBack", apart := false, narrowed := true }
def IsaBackUptoSaid : Prop := isaBackUptoRow.holds Try.pinned (OpenSpec.upto isaBackSpec)

/-- 'azulejolaw07.IsaAny', WHERE WHAT IT READS IS OF BULK AT MOST 1048576: true; the input reads as it did. -/
def isaAnyUptoRow : OpenClaim := { program := "ytnknhedhoibepaa", sum := "51c39d4d5df6f896f797e0431113370ed88157f13ca9b60a8752c12f5cd3ae11", func := "azulejo/azulejolaw07.IsaAny", spec := "isaAny", apart := false, narrowed := true }
def IsaAnyUptoSaid : Prop := isaAnyUptoRow.holds Try.pinned (OpenSpec.upto isaAnySpec)

end Rows
end Go.Proofs.Ytnknhedhoibepaa
