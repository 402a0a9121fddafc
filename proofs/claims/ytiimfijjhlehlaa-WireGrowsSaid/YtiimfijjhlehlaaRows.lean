/-
  No cell of these rows narrows 'for every input' (looked for: loops, veiled, ifaces, maps, wideKeys, modest, calm, conditions, laid).
  DERIVED. THE GIVEN ROWS OF THIS SEAT. 4 by the template 'for every input the law returns true; each argument reads behind the call as it read before'; 0 by the template 'total and deterministic' (their statements: YtiimfijjhlehlaaTotals.lean).
  GIVEN WITH THE SEED: the statements are not yours to turn. If you find one false, say at which input.
  Laid BY PROGRAM, IN A SANDBOX (cutbox-rows.mjs): the forced cells as the released guide's own fill.sh prints them over the translation dd331a5883766bd9… (all of the seat's roots in one cut). By AI agents, Wed Nov 11 2026. No macro, syntax, notation, axiom, sorry.
-/
import Derived.Test.YtiimfijjhlehlaaChecked
import GoSem.Claim
import GoSem.ClaimJoined
import GoSem.ClaimMapViews
import Derived.JoinedTies
import Derived.KernelRfl
namespace Go.Proofs.Ytiimfijjhlehlaa
/- THE CELL 'sum', in the pinned program and in every row, IS THE sha256 OF THE DUMP (.gsa) THAT YtiimfijjhlehlaaProg.lean LOADS. Nothing in Lean hashes anything: it is a label: what it is worth is what the hold of that sum in a sandbox is worth. -/
noncomputable def Try.pinned : Pinned := { name := "ytiimfijjhlehlaa", sum := "dd331a5883766bd91ed0b507f447af5161b5a04da9e032fdd3c565f4de26a313", checked := Try.checked }
namespace Rows
def none {H : Type} : Left H := { results := [], args := [] }

/-- 'azulejolaw04.WireGrows': WHATEVER THE INPUT: true; the input reads as it did. -/
def wireGrowsSpec : ChangeSpec := { name := "wireGrows", fn := fun _ => fun
  | [d1, d2, d3] => { results := [.lit (.bool true)], args := [d1, d2, d3] }
  | _ => none }
def wireGrowsRow : OpenClaim := { program := "ytiimfijjhlehlaa", sum := "dd331a5883766bd91ed0b507f447af5161b5a04da9e032fdd3c565f4de26a313", func := "azulejo/azulejolaw04.WireGrows", spec := "wireGrows", unfollowed := true, recurses := true, apart := false }
def WireGrowsSaid : Prop := wireGrowsRow.holds Try.pinned (OpenSpec.ofChange wireGrowsSpec)

/-- ITS FALSE NEIGHBOUR: 'it returns false'. Refute it at one input. -/
def wireGrowsWrong : ChangeSpec := { name := "wireGrows", fn := fun _ => fun
  | [d1, d2, d3] => { results := [.lit (.bool false)], args := [d1, d2, d3] }
  | _ => none }
def WireGrowsWrongFalsely : Prop := wireGrowsRow.holds Try.pinned (OpenSpec.ofChange wireGrowsWrong)

/-- 'azulejolaw04.WireAny': WHATEVER THE INPUT: true; the input reads as it did. -/
def wireAnySpec : ChangeSpec := { name := "wireAny", fn := fun _ => fun
  | [d1, d2, d3] => { results := [.lit (.bool true)], args := [d1, d2, d3] }
  | _ => none }
def wireAnyRow : OpenClaim := { program := "ytiimfijjhlehlaa", sum := "dd331a5883766bd91ed0b507f447af5161b5a04da9e032fdd3c565f4de26a313", func := "azulejo/azulejolaw04.WireAny", spec := "wireAny", apart := false }
def WireAnySaid : Prop := wireAnyRow.holds Try.pinned (OpenSpec.ofChange wireAnySpec)

/-- ITS FALSE NEIGHBOUR: 'it returns false'. Refute it at one input. -/
def wireAnyWrong : ChangeSpec := { name := "wireAny", fn := fun _ => fun
  | [d1, d2, d3] => { results := [.lit (.bool false)], args := [d1, d2, d3] }
  | _ => none }
def WireAnyWrongFalsely : Prop := wireAnyRow.holds Try.pinned (OpenSpec.ofChange wireAnyWrong)

/-- 'azulejolaw04.WireBack': WHATEVER THE INPUT: true; the input reads as it did. -/
def wireBackSpec : ChangeSpec := { name := "wireBack", fn := fun _ => fun
  | [d1, d2, d3] => { results := [.lit (.bool true)], args := [d1, d2, d3] }
  | _ => none }
def wireBackRow : OpenClaim := { program := "ytiimfijjhlehlaa", sum := "dd331a5883766bd91ed0b507f447af5161b5a04da9e032fdd3c565f4de26a313", func := "azulejo/azulejolaw04.WireBack", spec := "wireBack", apart := false }
def WireBackSaid : Prop := wireBackRow.holds Try.pinned (OpenSpec.ofChange wireBackSpec)

/-- ITS FALSE NEIGHBOUR: 'it returns false'. Refute it at one input. -/
def wireBackWrong : ChangeSpec := { name := "wireBack", fn := fun _ => fun
  | [d1, d2, d3] => { results := [.lit (.bool false)], args := [d1, d2, d3] }
  | _ => none }
def WireBackWrongFalsely : Prop := wireBackRow.holds Try.pinned (OpenSpec.ofChange wireBackWrong)

/-- 'azulejolaw04.WireErrors': WHATEVER THE INPUT: true; the input reads as it did. -/
def wireErrorsSpec : ChangeSpec := { name := "wireErrors", fn := fun _ => fun
  | [d1, d2, d3] => { results := [.lit (.bool true)], args := [d1, d2, d3] }
  | _ => none }
def wireErrorsRow : OpenClaim := { program := "ytiimfijjhlehlaa", sum := "dd331a5883766bd91ed0b507f447af5161b5a04da9e032fdd3c565f4de26a313", func := "azulejo/azulejolaw04.WireErrors", spec := "wireErrors", apart := false }
def WireErrorsSaid : Prop := wireErrorsRow.holds Try.pinned (OpenSpec.ofChange wireErrorsSpec)

/-- ITS FALSE NEIGHBOUR: 'it returns false'. Refute it at one input. -/
def wireErrorsWrong : ChangeSpec := { name := "wireErrors", fn := fun _ => fun
  | [d1, d2, d3] => { results := [.lit (.bool false)], args := [d1, d2, d3] }
  | _ => none }
def WireErrorsWrongFalsely : Prop := wireErrorsRow.holds Try.pinned (OpenSpec.ofChange wireErrorsWrong)

/- THE SECOND FORM. 'bulk': how many values and letters a reading holds, each counted each time it is reached (what is shared counts as often as it is met; a slice's spare places count too). A statement '..UptoSaid' is the law's where the arguments, and the package variables that the reading takes, are together of bulk at most 1048576: NARROWER than '..Said'. Prove '..Said' where nothing that the law and all that it calls make is longer than what came in: it says more and counts as full. Else prove '..UptoSaid'. A law counts once. -/
mutual
def uptoBulk {H : Type} : DataW H → Nat
  | .lit (.string bytes) => bytes.length + 1
  | .lit _ => 1
  | .nil => 1
  | .ptr d => uptoBulk d + 1
  | .slice elems spare => uptoBulkAll elems + uptoBulkAll spare + 1
  | .agg parts => uptoBulkAll parts + 1
  | .iface _ d => uptoBulk d + 1
  | .map entries => uptoBulkEntries entries + 1
  | .held _ => 1
def uptoBulkAll {H : Type} : List (DataW H) → Nat
  | [] => 0
  | d :: r => uptoBulk d + uptoBulkAll r
def uptoBulkEntries {H : Type} : List (Lit × DataW H) → Nat
  | [] => 0
  | x :: r => uptoBulkEntry x + uptoBulkEntries r
def uptoBulkEntry {H : Type} : Lit × DataW H → Nat
  | (.string bytes, d) => bytes.length + uptoBulk d + 1
  | (_, d) => uptoBulk d + 1
 end
def uptoSmall : (H : Type) → List (DataW H) → Bool := fun _ ds => decide (uptoBulkAll ds ≤ 1048576)
def OpenSpec.upto (s : _root_.Go.ChangeSpec) : _root_.Go.OpenSpec := { _root_.Go.OpenSpec.ofChange s with cond := some uptoSmall }

/-- 'azulejolaw04.WireGrows', WHERE WHAT IT READS IS OF BULK AT MOST 1048576: true; the input reads as it did. -/
def wireGrowsUptoRow : OpenClaim := { program := "ytiimfijjhlehlaa", sum := "dd331a5883766bd91ed0b507f447af5161b5a04da9e032fdd3c565f4de26a313", func := "azulejo/azulejolaw04.WireGrows", spec := "wireGrows", unfollowed := true, recurses := true, apart := false, narrowed := true }
def WireGrowsUptoSaid : Prop := wireGrowsUptoRow.holds Try.pinned (OpenSpec.upto wireGrowsSpec)

/-- 'azulejolaw04.WireAny', WHERE WHAT IT READS IS OF BULK AT MOST 1048576: true; the input reads as it did. -/
def wireAnyUptoRow : OpenClaim := { program := "ytiimfijjhlehlaa", sum := "dd331a5883766bd91ed0b507f447af5161b5a04da9e032fdd3c565f4de26a313", func := "azulejo/azulejolaw04.WireAny", spec := "wireAny", apart := false, narrowed := true }
def WireAnyUptoSaid : Prop := wireAnyUptoRow.holds Try.pinned (OpenSpec.upto wireAnySpec)

/-- 'azulejolaw04.WireBack', WHERE WHAT IT READS IS OF BULK AT MOST 1048576: true; the input reads as it did. -/
def wireBackUptoRow : OpenClaim := { program := "ytiimfijjhlehlaa", sum := "dd331a5883766bd91ed0b507f447af5161b5a04da9e032fdd3c565f4de26a313", func := "azulejo/azulejolaw04.WireBack", spec := "wireBack", apart := false, narrowed := true }
def WireBackUptoSaid : Prop := wireBackUptoRow.holds Try.pinned (OpenSpec.upto wireBackSpec)

/-- 'azulejolaw04.WireErrors', WHERE WHAT IT READS IS OF BULK AT MOST 1048576: true; the input reads as it did. -/
def wireErrorsUptoRow : OpenClaim := { program := "ytiimfijjhlehlaa", sum := "dd331a5883766bd91ed0b507f447af5161b5a04da9e032fdd3c565f4de26a313", func := "azulejo/azulejolaw04.WireErrors", spec := "wireErrors", apart := false, narrowed := true }
def WireErrorsUptoSaid : Prop := wireErrorsUptoRow.holds Try.pinned (OpenSpec.upto wireErrorsSpec)

end Rows
end Go.Proofs.Ytiimfijjhlehlaa
