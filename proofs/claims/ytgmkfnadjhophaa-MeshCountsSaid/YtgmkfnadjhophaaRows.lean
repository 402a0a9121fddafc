/-
  No cell of these rows narrows 'for every input' (looked for: loops, veiled, ifaces, maps, wideKeys, modest, calm, conditions, laid).
  DERIVED. THE GIVEN ROWS OF THIS SEAT. 4 by the template 'for every input the law returns true; each argument reads behind the call as it read before'; 0 by the template 'total and deterministic' (their statements: YtgmkfnadjhophaaTotals.lean).
  GIVEN WITH THE SEED: the statements are not yours to turn. If you find one false, say at which input.
  Laid BY PROGRAM, IN A SANDBOX (cutbox-rows.mjs): the forced cells as the released guide's own fill.sh prints them over the translation 0c18c7e298a95e47… (all of the seat's roots in one cut). By AI agents, Wed Nov 11 2026. No macro, syntax, notation, axiom, sorry.
-/
import Derived.Test.YtgmkfnadjhophaaChecked
import GoSem.Claim
import GoSem.ClaimJoined
import GoSem.ClaimMapViews
import Derived.JoinedTies
import Derived.KernelRfl
namespace Go.Proofs.Ytgmkfnadjhophaa
/- THE CELL 'sum', in the pinned program and in every row, IS THE sha256 OF THE DUMP (.gsa) THAT YtgmkfnadjhophaaProg.lean LOADS. Nothing in Lean hashes anything: it is a label: what it is worth is what the hold of that sum in a sandbox is worth. -/
noncomputable def Try.pinned : Pinned := { name := "ytgmkfnadjhophaa", sum := "0c18c7e298a95e47807aedc51798673dca090babc4039b0e912ed3408af22b54", checked := Try.checked }
namespace Rows
def none {H : Type} : Left H := { results := [], args := [] }

/-- 'azulejolaw10.MeshTriangles': WHATEVER THE INPUT: true; the input reads as it did. -/
def meshTrianglesSpec : ChangeSpec := { name := "meshTriangles", fn := fun _ => fun
  | [d1, d2] => { results := [.lit (.bool true)], args := [d1, d2] }
  | _ => none }
def meshTrianglesRow : OpenClaim := { program := "ytgmkfnadjhophaa", sum := "0c18c7e298a95e47807aedc51798673dca090babc4039b0e912ed3408af22b54", func := "azulejo/azulejolaw10.MeshTriangles", spec := "meshTriangles", apart := false }
def MeshTrianglesSaid : Prop := meshTrianglesRow.holds Try.pinned (OpenSpec.ofChange meshTrianglesSpec)

/-- ITS FALSE NEIGHBOUR: 'it returns false'. Refute it at one input. -/
def meshTrianglesWrong : ChangeSpec := { name := "meshTriangles", fn := fun _ => fun
  | [d1, d2] => { results := [.lit (.bool false)], args := [d1, d2] }
  | _ => none }
def MeshTrianglesWrongFalsely : Prop := meshTrianglesRow.holds Try.pinned (OpenSpec.ofChange meshTrianglesWrong)

/-- 'azulejolaw10.MeshCounts': WHATEVER THE INPUT: true; the input reads as it did. -/
def meshCountsSpec : ChangeSpec := { name := "meshCounts", fn := fun _ => fun
  | [d1, d2] => { results := [.lit (.bool true)], args := [d1, d2] }
  | _ => none }
def meshCountsRow : OpenClaim := { program := "ytgmkfnadjhophaa", sum := "0c18c7e298a95e47807aedc51798673dca090babc4039b0e912ed3408af22b54", func := "azulejo/azulejolaw10.MeshCounts", spec := "meshCounts", apart := false }
def MeshCountsSaid : Prop := meshCountsRow.holds Try.pinned (OpenSpec.ofChange meshCountsSpec)

/-- ITS FALSE NEIGHBOUR: 'it returns false'. Refute it at one input. -/
def meshCountsWrong : ChangeSpec := { name := "meshCounts", fn := fun _ => fun
  | [d1, d2] => { results := [.lit (.bool false)], args := [d1, d2] }
  | _ => none }
def MeshCountsWrongFalsely : Prop := meshCountsRow.holds Try.pinned (OpenSpec.ofChange meshCountsWrong)

/-- 'azulejolaw10.MeshFirst': WHATEVER THE INPUT: true; the input reads as it did. -/
def meshFirstSpec : ChangeSpec := { name := "meshFirst", fn := fun _ => fun
  | [d1, d2, d3] => { results := [.lit (.bool true)], args := [d1, d2, d3] }
  | _ => none }
def meshFirstRow : OpenClaim := { program := "ytgmkfnadjhophaa", sum := "0c18c7e298a95e47807aedc51798673dca090babc4039b0e912ed3408af22b54", func := "azulejo/azulejolaw10.MeshFirst", spec := "meshFirst", apart := false }
def MeshFirstSaid : Prop := meshFirstRow.holds Try.pinned (OpenSpec.ofChange meshFirstSpec)

/-- ITS FALSE NEIGHBOUR: 'it returns false'. Refute it at one input. -/
def meshFirstWrong : ChangeSpec := { name := "meshFirst", fn := fun _ => fun
  | [d1, d2, d3] => { results := [.lit (.bool false)], args := [d1, d2, d3] }
  | _ => none }
def MeshFirstWrongFalsely : Prop := meshFirstRow.holds Try.pinned (OpenSpec.ofChange meshFirstWrong)

/-- 'azulejolaw10.MeshChecks': WHATEVER THE INPUT: true; the input reads as it did. -/
def meshChecksSpec : ChangeSpec := { name := "meshChecks", fn := fun _ => fun
  | [d1, d2, d3, d4] => { results := [.lit (.bool true)], args := [d1, d2, d3, d4] }
  | _ => none }
def meshChecksRow : OpenClaim := { program := "ytgmkfnadjhophaa", sum := "0c18c7e298a95e47807aedc51798673dca090babc4039b0e912ed3408af22b54", func := "azulejo/azulejolaw10.MeshChecks", spec := "meshChecks", apart := false }
def MeshChecksSaid : Prop := meshChecksRow.holds Try.pinned (OpenSpec.ofChange meshChecksSpec)

/-- ITS FALSE NEIGHBOUR: 'it returns false'. Refute it at one input. -/
def meshChecksWrong : ChangeSpec := { name := "meshChecks", fn := fun _ => fun
  | [d1, d2, d3, d4] => { results := [.lit (.bool false)], args := [d1, d2, d3, d4] }
  | _ => none }
def MeshChecksWrongFalsely : Prop := meshChecksRow.holds Try.pinned (OpenSpec.ofChange meshChecksWrong)

/- THE SECOND FORM. 'bulk': how many values and letters a reading holds, each counted each time it is reached (what is shared counts as often as it is met; a slice's spare places count too). A statement '..UptoSaid' is the law's where the arguments, and the package variables that the reading takes, are together of bulk at most 1048576: NARROWER than '..Said'. Prove '..Said' where nothing that the law and all that it calls make is longer than what came in: it says more and counts as full. Else prove '..UptoSaid'. A law counts once. -/
mutual
def uptoBulk {H : Type} : DataW H → Nat
  | .lit (.string bytes) => bytes.length + 1
  | .lit _ => 1
  | .nil => 1
  | .ptr d => uptoBulk d + 1
  | .slice elems spare => uptoBulkAll elems + uptoBulkAll spare + 1
  | .agg parts => uptoBulkAll parts + 1
  | .iface _ d => uptoBulk d + 1
  | .map entries => uptoBulkEntries entries + 1
  | .held _ => 1
def uptoBulkAll {H : Type} : List (DataW H) → Nat
  | [] => 0
  | d :: r => uptoBulk d + uptoBulkAll r
def uptoBulkEntries {H : Type} : List (Lit × DataW H) → Nat
  | [] => 0
  | x :: r => uptoBulkEntry x + uptoBulkEntries r
def uptoBulkEntry {H : Type} : Lit × DataW H → Nat
  | (.string bytes, d) => bytes.length + uptoBulk d + 1
  | (_, d) => uptoBulk d + 1
 end
def uptoSmall : (H : Type) → List (DataW H) → Bool := fun _ ds => decide (uptoBulkAll ds ≤ 1048576)
def OpenSpec.upto (s : _root_.Go.ChangeSpec) : _root_.Go.OpenSpec := { _root_.Go.OpenSpec.ofChange s with cond := some uptoSmall }

/-- 'azulejolaw10.MeshTriangles', WHERE WHAT IT READS IS OF BULK AT MOST 1048576: true; the input reads as it did. -/
def meshTrianglesUptoRow : OpenClaim := { program := "ytgmkfnadjhophaa", sum := "0c18c7e298a95e47807aedc51798673dca090babc4039b0e912ed3408af22b54", func := "azulejo/azulejolaw10.MeshTriangles", spec := "meshTriangles", apart := false, narrowed := true }
def MeshTrianglesUptoSaid : Prop := meshTrianglesUptoRow.holds Try.pinned (OpenSpec.upto meshTrianglesSpec)

/-- 'azulejolaw10.MeshCounts', WHERE WHAT IT READS IS OF BULK AT MOST 1048576: true; the input reads as it did. -/
def meshCountsUptoRow : OpenClaim := { program := "ytgmkfnadjhophaa", sum := "0c18c7e298a95e47807aedc51798673dca090babc4039b0e912ed3408af22b54", func := "azulejo/azulejolaw10.MeshCounts", spec := "meshCounts", apart := false, narrowed := true }
def MeshCountsUptoSaid : Prop := meshCountsUptoRow.holds Try.pinned (OpenSpec.upto meshCountsSpec)

/-- 'azulejolaw10.MeshFirst', WHERE WHAT IT READS IS OF BULK AT MOST 1048576: true; the input reads as it did. -/
def meshFirstUptoRow : OpenClaim := { program := "ytgmkfnadjhophaa", sum := "0c18c7e298a95e47807aedc51798673dca090babc4039b0e912ed3408af22b54", func := "azulejo/azulejolaw10.MeshFirst", spec := "meshFirst", apart := false, narrowed := true }
def MeshFirstUptoSaid : Prop := meshFirstUptoRow.holds Try.pinned (OpenSpec.upto meshFirstSpec)

/-- 'azulejolaw10.MeshChecks', WHERE WHAT IT READS IS OF BULK AT MOST 1048576: true; the input reads as it did. -/
def meshChecksUptoRow : OpenClaim := { program := "ytgmkfnadjhophaa", sum := "0c18c7e298a95e47807aedc51798673dca090babc4039b0e912ed3408af22b54", func := "azulejo/azulejolaw10.MeshChecks", spec := "meshChecks", apart := false, narrowed := true }
def MeshChecksUptoSaid : Prop := meshChecksUptoRow.holds Try.pinned (OpenSpec.upto meshChecksSpec)

end Rows
end Go.Proofs.Ytgmkfnadjhophaa
