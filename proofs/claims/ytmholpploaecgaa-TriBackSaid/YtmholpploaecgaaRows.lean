/-
  No cell of these rows narrows 'for every input' (looked for: loops, veiled, ifaces, maps, wideKeys, modest, calm, conditions, laid).
  DERIVED. THE GIVEN ROWS OF THIS SEAT. 4 by the template 'for every input the law returns true; each argument reads behind the call as it read before'; 0 by the template 'total and deterministic' (their statements: YtmholpploaecgaaTotals.lean).
  GIVEN WITH THE SEED: the statements are not yours to turn. If you find one false, say at which input.
  Laid BY PROGRAM, IN A SANDBOX (cutbox-rows.mjs): the forced cells as the released guide's own fill.sh prints them over the translation a98be82db86915ed… (all of the seat's roots in one cut). By AI agents, Wed Nov 11 2026. No macro, syntax, notation, axiom, sorry.
-/
import Derived.Test.YtmholpploaecgaaChecked
import GoSem.Claim
import GoSem.ClaimJoined
import GoSem.ClaimMapViews
import Derived.JoinedTies
import Derived.KernelRfl
namespace Go.Proofs.Ytmholpploaecgaa
/- THE CELL 'sum', in the pinned program and in every row, IS THE sha256 OF THE DUMP (.gsa) THAT YtmholpploaecgaaProg.lean LOADS. Nothing in Lean hashes anything: it is a label: what it is worth is what the hold of that sum in a sandbox is worth. -/
noncomputable def Try.pinned : Pinned := { name := "ytmholpploaecgaa", sum := "a98be82db86915ed586fb5860601ef4f5ce873664573ad1c2f0f57adde593e51", checked := Try.checked }
namespace Rows
def none {H : Type} : Left H := { results := [], args := [] }

/-- 'azulejolaw14.TriChecks': WHATEVER THE INPUT: true; the input reads as it did. -/
def triChecksSpec : ChangeSpec := { name := "triChecks", fn := fun _ => fun
  | [d1, d2, d3, d4, d5] => { results := [.lit (.bool true)], args := [d1, d2, d3, d4, d5] }
  | _ => none }
def triChecksRow : OpenClaim := { program := "ytmholpploaecgaa", sum := "a98be82db86915ed586fb5860601ef4f5ce873664573ad1c2f0f57adde593e51", func := "azulejo/azulejolaw14.TriChecks", spec := "triChecks", apart := false }
def TriChecksSaid : Prop := triChecksRow.holds Try.pinned (OpenSpec.ofChange triChecksSpec)

/-- ITS FALSE NEIGHBOUR: 'it returns false'. Refute it at one input. -/
def triChecksWrong : ChangeSpec := { name := "triChecks", fn := fun _ => fun
  | [d1, d2, d3, d4, d5] => { results := [.lit (.bool false)], args := [d1, d2, d3, d4, d5] }
  | _ => none }
def TriChecksWrongFalsely : Prop := triChecksRow.holds Try.pinned (OpenSpec.ofChange triChecksWrong)

/-- 'azulejolaw14.TriBack': WHATEVER THE INPUT: true; the input reads as it did. -/
def triBackSpec : ChangeSpec := { name := "triBack", fn := fun _ => fun
  | [d1, d2, d3] => { results := [.lit (.bool true)], args := [d1, d2, d3] }
  | _ => none }
def triBackRow : OpenClaim := { program := "ytmholpploaecgaa", sum := "a98be82db86915ed586fb5860601ef4f5ce873664573ad1c2f0f57adde593e51", func := "azulejo/azulejolaw14.TriBack", spec := "triBack", apart := false }
def TriBackSaid : Prop := triBackRow.holds Try.pinned (OpenSpec.ofChange triBackSpec)

/-- ITS FALSE NEIGHBOUR: 'it returns false'. Refute it at one input. -/
def triBackWrong : ChangeSpec := { name := "triBack", fn := fun _ => fun
  | [d1, d2, d3] => { results := [.lit (.bool false)], args := [d1, d2, d3] }
  | _ => none }
def TriBackWrongFalsely : Prop := triBackRow.holds Try.pinned (OpenSpec.ofChange triBackWrong)

/-- 'azulejolaw14.TriAny': WHATEVER THE INPUT: true; the input reads as it did. -/
def triAnySpec : ChangeSpec := { name := "triAny", fn := fun _ => fun
  | [d1, d2, d3, d4, d5] => { results := [.lit (.bool true)], args := [d1, d2, d3, d4, d5] }
  | _ => none }
def triAnyRow : OpenClaim := { program := "ytmholpploaecgaa", sum := "a98be82db86915ed586fb5860601ef4f5ce873664573ad1c2f0f57adde593e51", func := "azulejo/azulejolaw14.TriAny", spec := "triAny", apart := false }
def TriAnySaid : Prop := triAnyRow.holds Try.pinned (OpenSpec.ofChange triAnySpec)

/-- ITS FALSE NEIGHBOUR: 'it returns false'. Refute it at one input. -/
def triAnyWrong : ChangeSpec := { name := "triAny", fn := fun _ => fun
  | [d1, d2, d3, d4, d5] => { results := [.lit (.bool false)], args := [d1, d2, d3, d4, d5] }
  | _ => none }
def TriAnyWrongFalsely : Prop := triAnyRow.holds Try.pinned (OpenSpec.ofChange triAnyWrong)

/-- 'azulejolaw14.TriCut': WHATEVER THE INPUT: true; the input reads as it did. -/
def triCutSpec : ChangeSpec := { name := "triCut", fn := fun _ => fun
  | [d1, d2, d3, d4] => { results := [.lit (.bool true)], args := [d1, d2, d3, d4] }
  | _ => none }
def triCutRow : OpenClaim := { program := "ytmholpploaecgaa", sum := "a98be82db86915ed586fb5860601ef4f5ce873664573ad1c2f0f57adde593e51", func := "azulejo/azulejolaw14.TriCut", spec := "triCut", apart := false }
def TriCutSaid : Prop := triCutRow.holds Try.pinned (OpenSpec.ofChange triCutSpec)

/-- ITS FALSE NEIGHBOUR: 'it returns false'. Refute it at one input. -/
def triCutWrong : ChangeSpec := { name := "triCut", fn := fun _ => fun
  | [d1, d2, d3, d4] => { results := [.lit (.bool false)], args := [d1, d2, d3, d4] }
  | _ => none }
def TriCutWrongFalsely : Prop := triCutRow.holds Try.pinned (OpenSpec.ofChange triCutWrong)

/- THE SECOND FORM. 'bulk': how many values and letters a reading holds, each counted each time it is reached (what is shared counts as often as it is met; a slice's spare places count too). A statement '..UptoSaid' is the law's where the arguments, and the package variables that the reading takes, are together of bulk at most 1048576: NARROWER than '..Said'. Prove '..Said' where nothing that the law and all that it calls make is longer than what came in: it says more and counts as full. Else prove '..UptoSaid'. A law counts once. -/
mutual
def uptoBulk {H : Type} : DataW H → Nat
  | .lit (.string bytes) => bytes.length + 1
  | .lit _ => 1
  | .nil => 1
  | .ptr d => uptoBulk d + 1
  | .slice elems spare => uptoBulkAll elems + uptoBulkAll spare + 1
  | .agg parts => uptoBulkAll parts + 1
  | .iface _ d => uptoBulk d + 1
  | .map entries => uptoBulkEntries entries + 1
  | .held _ => 1
def uptoBulkAll {H : Type} : List (DataW H) → Nat
  | [] => 0
  | d :: r => uptoBulk d + uptoBulkAll r
def uptoBulkEntries {H : Type} : List (Lit × DataW H) → Nat
  | [] => 0
  | x :: r => uptoBulkEntry x + uptoBulkEntries r
def uptoBulkEntry {H : Type} : Lit × DataW H → Nat
  | (.string bytes, d) => bytes.length + uptoBulk d + 1
  | (_, d) => uptoBulk d + 1
 end
def uptoSmall : (H : Type) → List (DataW H) → Bool := fun _ ds => decide (uptoBulkAll ds ≤ 1048576)
def OpenSpec.upto (s : _root_.Go.ChangeSpec) : _root_.Go.OpenSpec := { _root_.Go.OpenSpec.ofChange s with cond := some uptoSmall }

/-- 'azulejolaw14.TriChecks', WHERE WHAT IT READS IS OF BULK AT MOST 1048576: true; the input reads as it did. -/
def triChecksUptoRow : OpenClaim := { program := "ytmholpploaecgaa", sum := "a98be82db86915ed586fb5860601ef4f5ce873664573ad1c2f0f57adde593e51", func := "azulejo/azulejolaw14.TriChecks", spec := "triChecks", apart := false, narrowed := true }
def TriChecksUptoSaid : Prop := triChecksUptoRow.holds Try.pinned (OpenSpec.upto triChecksSpec)

/-- 'azulejolaw14.TriBack', WHERE WHAT IT READS IS OF BULK AT MOST 1048576: true; the input reads as it did. -/
def triBackUptoRow : OpenClaim := { program := "ytmholpploaecgaa", sum := "a98be82db86915ed586fb5860601ef4f5ce873664573ad1c2f0f57adde593e51", func := "azulejo/azulejolaw14.TriBack", spec := "triBack", apart := false, narrowed := true }
def TriBackUptoSaid : Prop := triBackUptoRow.holds Try.pinned (OpenSpec.upto triBackSpec)

/-- 'azulejolaw14.TriAny', WHERE WHAT IT READS IS OF BULK AT MOST 1048576: true; the input reads as it did. -/
def triAnyUptoRow : OpenClaim := { program := "ytmholpploaecgaa", sum := "a98be82db86915ed586fb5860601ef4f5ce873664573ad1c2f0f57adde593e51", func := "azulejo/azulejolaw14.TriAny", spec := "triAny", apart := false, narrowed := true }
def TriAnyUptoSaid : Prop := triAnyUptoRow.holds Try.pinned (OpenSpec.upto triAnySpec)

/-- 'azulejolaw14.TriCut', WHERE WHAT IT READS IS OF BULK AT MOST 1048576: true; the input reads as it did. -/
def triCutUptoRow : OpenClaim := { program := "ytmholpploaecgaa", sum := "a98be82db86915ed586fb5860601ef4f5ce873664573ad1c2f0f57adde593e51", func := "azulejo/azulejolaw14.TriCut", spec := "triCut", apart := false, narrowed := true }
def TriCutUptoSaid : Prop := triCutUptoRow.holds Try.pinned (OpenSpec.upto triCutSpec)

end Rows
end Go.Proofs.Ytmholpploaecgaa
