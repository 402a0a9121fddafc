/-
  No cell of these rows narrows 'for every input' (looked for: loops, veiled, ifaces, maps, wideKeys, modest, calm, conditions, laid).
  DERIVED. THE GIVEN ROWS OF THIS SEAT. 5 by the template 'for every input the law returns true; each argument reads behind the call as it read before'; 0 by the template 'total and deterministic' (their statements: YtakobldhjndeiaaTotals.lean).
  GIVEN WITH THE SEED: the statements are not yours to turn. If you find one false, say at which input.
  Laid BY PROGRAM, IN A SANDBOX (cutbox-rows.mjs): the forced cells as the released guide's own fill.sh prints them over the translation 0353ccef0f602145… (all of the seat's roots in one cut). By AI agents, Wed Nov 11 2026. No macro, syntax, notation, axiom, sorry.
-/
import Derived.Test.YtakobldhjndeiaaChecked
import GoSem.Claim
import GoSem.ClaimJoined
import GoSem.ClaimMapViews
import Derived.JoinedTies
import Derived.KernelRfl
namespace Go.Proofs.Ytakobldhjndeiaa
/- THE CELL 'sum', in the pinned program and in every row, IS THE sha256 OF THE DUMP (.gsa) THAT YtakobldhjndeiaaProg.lean LOADS. Nothing in Lean hashes anything: it is a label: what it is worth is what the hold of that sum in a sandbox is worth. -/
noncomputable def Try.pinned : Pinned := { name := "ytakobldhjndeiaa", sum := "0353ccef0f60214561fdee8c4416e2424c2abc2d8d1357ac2ff7b933b81f7cf5", checked := Try.checked }
namespace Rows
def none {H : Type} : Left H := { results := [], args := [] }

/-- 'azulejolaw17.ListApart': WHATEVER THE INPUT: true; the input reads as it did. -/
def listApartSpec : ChangeSpec := { name := "listApart", fn := fun _ => fun
  | [d1, d2] => { results := [.lit (.bool true)], args := [d1, d2] }
  | _ => none }
def listApartRow : OpenClaim := { program := "ytakobldhjndeiaa", sum := "0353ccef0f60214561fdee8c4416e2424c2abc2d8d1357ac2ff7b933b81f7cf5", func := "azulejo/azulejolaw17.ListApart", spec := "listApart", apart := false }
def ListApartSaid : Prop := listApartRow.holds Try.pinned (OpenSpec.ofChange listApartSpec)

/-- ITS FALSE NEIGHBOUR: 'it returns false'. Refute it at one input. -/
def listApartWrong : ChangeSpec := { name := "listApart", fn := fun _ => fun
  | [d1, d2] => { results := [.lit (.bool false)], args := [d1, d2] }
  | _ => none }
def ListApartWrongFalsely : Prop := listApartRow.holds Try.pinned (OpenSpec.ofChange listApartWrong)

/-- 'azulejolaw17.ListSizes': WHATEVER THE INPUT: true; the input reads as it did. -/
def listSizesSpec : ChangeSpec := { name := "listSizes", fn := fun _ => fun
  | [d1, d2] => { results := [.lit (.bool true)], args := [d1, d2] }
  | _ => none }
def listSizesRow : OpenClaim := { program := "ytakobldhjndeiaa", sum := "0353ccef0f60214561fdee8c4416e2424c2abc2d8d1357ac2ff7b933b81f7cf5", func := "azulejo/azulejolaw17.ListSizes", spec := "listSizes", apart := false }
def ListSizesSaid : Prop := listSizesRow.holds Try.pinned (OpenSpec.ofChange listSizesSpec)

/-- ITS FALSE NEIGHBOUR: 'it returns false'. Refute it at one input. -/
def listSizesWrong : ChangeSpec := { name := "listSizes", fn := fun _ => fun
  | [d1, d2] => { results := [.lit (.bool false)], args := [d1, d2] }
  | _ => none }
def ListSizesWrongFalsely : Prop := listSizesRow.holds Try.pinned (OpenSpec.ofChange listSizesWrong)

/-- 'azulejolaw17.ListWrong': WHATEVER THE INPUT: true; the input reads as it did. -/
def listWrongSpec : ChangeSpec := { name := "listWrong", fn := fun _ => fun
  | [d1, d2, d3, d4, d5] => { results := [.lit (.bool true)], args := [d1, d2, d3, d4, d5] }
  | _ => none }
def listWrongRow : OpenClaim := { program := "ytakobldhjndeiaa", sum := "0353ccef0f60214561fdee8c4416e2424c2abc2d8d1357ac2ff7b933b81f7cf5", func := "azulejo/azulejolaw17.ListWrong", spec := "listWrong", apart := false }
def ListWrongSaid : Prop := listWrongRow.holds Try.pinned (OpenSpec.ofChange listWrongSpec)

/-- ITS FALSE NEIGHBOUR: 'it returns false'. Refute it at one input. -/
def listWrongWrong : ChangeSpec := { name := "listWrong", fn := fun _ => fun
  | [d1, d2, d3, d4, d5] => { results := [.lit (.bool false)], args := [d1, d2, d3, d4, d5] }
  | _ => none }
def ListWrongWrongFalsely : Prop := listWrongRow.holds Try.pinned (OpenSpec.ofChange listWrongWrong)

/-- 'azulejolaw17.ListNone': WHATEVER THE INPUT: true; the input reads as it did. -/
def listNoneSpec : ChangeSpec := { name := "listNone", fn := fun _ => fun
  | [d1, d2, d3] => { results := [.lit (.bool true)], args := [d1, d2, d3] }
  | _ => none }
def listNoneRow : OpenClaim := { program := "ytakobldhjndeiaa", sum := "0353ccef0f60214561fdee8c4416e2424c2abc2d8d1357ac2ff7b933b81f7cf5", func := "azulejo/azulejolaw17.ListNone", spec := "listNone", apart := false }
def ListNoneSaid : Prop := listNoneRow.holds Try.pinned (OpenSpec.ofChange listNoneSpec)

/-- ITS FALSE NEIGHBOUR: 'it returns false'. Refute it at one input. -/
def listNoneWrong : ChangeSpec := { name := "listNone", fn := fun _ => fun
  | [d1, d2, d3] => { results := [.lit (.bool false)], args := [d1, d2, d3] }
  | _ => none }
def ListNoneWrongFalsely : Prop := listNoneRow.holds Try.pinned (OpenSpec.ofChange listNoneWrong)

/-- 'azulejolaw17.ListPlays': WHATEVER THE INPUT: true; the input reads as it did. -/
def listPlaysSpec : ChangeSpec := { name := "listPlays", fn := fun _ => fun
  | [d1, d2, d3] => { results := [.lit (.bool true)], args := [d1, d2, d3] }
  | _ => none }
def listPlaysRow : OpenClaim := { program := "ytakobldhjndeiaa", sum := "0353ccef0f60214561fdee8c4416e2424c2abc2d8d1357ac2ff7b933b81f7cf5", func := "azulejo/azulejolaw17.ListPlays", spec := "listPlays", apart := false }
def ListPlaysSaid : Prop := listPlaysRow.holds Try.pinned (OpenSpec.ofChange listPlaysSpec)

/-- ITS FALSE NEIGHBOUR: 'it returns false'. Refute it at one input. -/
def listPlaysWrong : ChangeSpec := { name := "listPlays", fn := fun _ => fun
  | [d1, d2, d3] => { results := [.lit (.bool false)], args := [d1, d2, d3] }
  | _ => none }
def ListPlaysWrongFalsely : Prop := listPlaysRow.holds Try.pinned (OpenSpec.ofChange listPlaysWrong)

/- THE SECOND FORM. 'bulk': how many values and letters a reading holds, each counted each time it is reached (what is shared counts as often as it is met; a slice's spare places count too). A statement '..UptoSaid' is the law's where the arguments, and the package variables that the reading takes, are together of bulk at most 1048576: NARROWER than '..Said'. Prove '..Said' where nothing that the law and all that it calls make is longer than what came in: it says more and counts as full. Else prove '..UptoSaid'. A law counts once. -/
mutual
def uptoBulk {H : Type} : DataW H → Nat
  | .lit (.string bytes) => bytes.length + 1
  | .lit _ => 1
  | .nil => 1
  | .ptr d => uptoBulk d + 1
  | .slice elems spare => uptoBulkAll elems + uptoBulkAll spare + 1
  | .agg parts => uptoBulkAll parts + 1
  | .iface _ d => uptoBulk d + 1
  | .map entries => uptoBulkEntries entries + 1
  | .held _ => 1
def uptoBulkAll {H : Type} : List (DataW H) → Nat
  | [] => 0
  | d :: r => uptoBulk d + uptoBulkAll r
def uptoBulkEntries {H : Type} : List (Lit × DataW H) → Nat
  | [] => 0
  | x :: r => uptoBulkEntry x + uptoBulkEntries r
def uptoBulkEntry {H : Type} : Lit × DataW H → Nat
  | (.string bytes, d) => bytes.length + uptoBulk d + 1
  | (_, d) => uptoBulk d + 1
 end
def uptoSmall : (H : Type) → List (DataW H) → Bool := fun _ ds => decide (uptoBulkAll ds ≤ 1048576)
def OpenSpec.upto (s : _root_.Go.ChangeSpec) : _root_.Go.OpenSpec := { _root_.Go.OpenSpec.ofChange s with cond := some uptoSmall }

/-- 'azulejolaw17.ListApart', WHERE WHAT IT READS IS OF BULK AT MOST 1048576: true; the input reads as it did. -/
def listApartUptoRow : OpenClaim := { program := "ytakobldhjndeiaa", sum := "0353ccef0f60214561fdee8c4416e2424c2abc2d8d1357ac2ff7b933b81f7cf5", func := "azulejo/azulejolaw17.ListApart", spec := "listApart", apart := false, narrowed := true }
def ListApartUptoSaid : Prop := listApartUptoRow.holds Try.pinned (OpenSpec.upto listApartSpec)

/-- 'azulejolaw17.ListSizes', WHERE WHAT IT READS IS OF BULK AT MOST 1048576: true; the input reads as it did. -/
def listSizesUptoRow : OpenClaim := { program := "ytakobldhjndeiaa", sum := "0353ccef0f60214561fdee8c4416e2424c2abc2d8d1357ac2ff7b933b81f7cf5", func := "azulejo/azulejolaw17.ListSizes", spec := "listSizes", apart := false, narrowed := true }
def ListSizesUptoSaid : Prop := listSizesUptoRow.holds Try.pinned (OpenSpec.upto listSizesSpec)

/-- 'azulejolaw17.ListWrong', WHERE WHAT IT READS IS OF BULK AT MOST 1048576: true; the input reads as it did. -/
def listWrongUptoRow : OpenClaim := { program := "ytakobldhjndeiaa", sum := "0353ccef0f60214561fdee8c4416e2424c2abc2d8d1357ac2ff7b933b81f7cf5", func := "azulejo/azulejolaw17.ListWrong", spec := "listWrong", apart := false, narrowed := true }
def ListWrongUptoSaid : Prop := listWrongUptoRow.holds Try.pinned (OpenSpec.upto listWrongSpec)

/-- 'azulejolaw17.ListNone', WHERE WHAT IT READS IS OF BULK AT MOST 1048576: true; the input reads as it did. -/
def listNoneUptoRow : OpenClaim := { program := "ytakobldhjndeiaa", sum := "0353ccef0f60214561fdee8c4416e2424c2abc2d8d1357ac2ff7b933b81f7cf5", func := "azulejo/azulejolaw17.ListNone", spec := "listNone", apart := false, narrowed := true }
def ListNoneUptoSaid : Prop := listNoneUptoRow.holds Try.pinned (OpenSpec.upto listNoneSpec)

/-- 'azulejolaw17.ListPlays', WHERE WHAT IT READS IS OF BULK AT MOST 1048576: true; the input reads as it did. -/
def listPlaysUptoRow : OpenClaim := { program := "ytakobldhjndeiaa", sum := "0353ccef0f60214561fdee8c4416e2424c2abc2d8d1357ac2ff7b933b81f7cf5", func := "azulejo/azulejolaw17.ListPlays", spec := "listPlays", apart := false, narrowed := true }
def ListPlaysUptoSaid : Prop := listPlaysUptoRow.holds Try.pinned (OpenSpec.upto listPlaysSpec)

end Rows
end Go.Proofs.Ytakobldhjndeiaa
