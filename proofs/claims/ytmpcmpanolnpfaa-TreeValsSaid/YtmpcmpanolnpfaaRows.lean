/-
  No cell of these rows narrows 'for every input' (looked for: loops, veiled, ifaces, maps, wideKeys, modest, calm, conditions, laid).
  DERIVED. THE GIVEN ROWS OF THIS SEAT. 6 by the template 'for every input the law returns true; each argument reads behind the call as it read before'; 0 by the template 'total and deterministic' (their statements: YtmpcmpanolnpfaaTotals.lean).
  GIVEN WITH THE SEED: the statements are not yours to turn. If you find one false, say at which input.
  Laid BY PROGRAM, IN A SANDBOX (cutbox-rows.mjs): the forced cells as the released guide's own fill.sh prints them over the translation 7011b437c23a85ac… (all of the seat's roots in one cut). By AI agents, Wed Nov 11 2026. No macro, syntax, notation, axiom, sorry.
-/
import Derived.Test.YtmpcmpanolnpfaaChecked
import GoSem.Claim
import GoSem.ClaimJoined
import GoSem.ClaimMapViews
import Derived.JoinedTies
import Derived.KernelRfl
namespace Go.Proofs.Ytmpcmpanolnpfaa
/- THE CELL 'sum', in the pinned program and in every row, IS THE sha256 OF THE DUMP (.gsa) THAT YtmpcmpanolnpfaaProg.lean LOADS. Nothing in Lean hashes anything: it is a label: what it is worth is what the hold of that sum in a sandbox is worth. -/
noncomputable def Try.pinned : Pinned := { name := "ytmpcmpanolnpfaa", sum := "7011b437c23a85aca98bbcf04b1c205477860ef54c8269b9e3bcbd4a0d70342d", checked := Try.checked }
namespace Rows
def none {H : Type} : Left H := { results := [], args := [] }

/-- 'mailbaglaw06.TreeMany': WHATEVER THE INPUT: true; the input reads as it did. -/
def treeManySpec : ChangeSpec := { name := "treeMany", fn := fun _ => fun
  | [d1, d2, d3] => { results := [.lit (.bool true)], args := [d1, d2, d3] }
  | _ => none }
def treeManyRow : OpenClaim := { program := "ytmpcmpanolnpfaa", sum := "7011b437c23a85aca98bbcf04b1c205477860ef54c8269b9e3bcbd4a0d70342d", func := "mailbag/mailbaglaw06.TreeMany", spec := "treeMany", inPlace := ["internal/bytealg.abigen_runtime_cmpstring", "slices.overlaps[mailbag/tree.item[int]]", "slices.overlaps[[]mailbag/tree.item[int]]"], unfollowed := true, recurses := true, apart := false }
def TreeManySaid : Prop := treeManyRow.holds Try.pinned (OpenSpec.ofChange treeManySpec)

/-- ITS FALSE NEIGHBOUR: 'it returns false'. Refute it at one input. -/
def treeManyWrong : ChangeSpec := { name := "treeMany", fn := fun _ => fun
  | [d1, d2, d3] => { results := [.lit (.bool false)], args := [d1, d2, d3] }
  | _ => none }
def TreeManyWrongFalsely : Prop := treeManyRow.holds Try.pinned (OpenSpec.ofChange treeManyWrong)

/-- 'mailbaglaw06.TreeOrders': WHATEVER THE INPUT: true; the input reads as it did. -/
def treeOrdersSpec : ChangeSpec := { name := "treeOrders", fn := fun _ => fun
  | [d1, d2, d3] => { results := [.lit (.bool true)], args := [d1, d2, d3] }
  | _ => none }
def treeOrdersRow : OpenClaim := { program := "ytmpcmpanolnpfaa", sum := "7011b437c23a85aca98bbcf04b1c205477860ef54c8269b9e3bcbd4a0d70342d", func := "mailbag/mailbaglaw06.TreeOrders", spec := "treeOrders", inPlace := ["internal/bytealg.abigen_runtime_cmpstring", "slices.overlaps[mailbag/tree.item[int]]", "slices.overlaps[[]mailbag/tree.item[int]]"], unfollowed := true, recurses := true, apart := false }
def TreeOrdersSaid : Prop := treeOrdersRow.holds Try.pinned (OpenSpec.ofChange treeOrdersSpec)

/-- ITS FALSE NEIGHBOUR: 'it returns false'. Refute it at one input. -/
def treeOrdersWrong : ChangeSpec := { name := "treeOrders", fn := fun _ => fun
  | [d1, d2, d3] => { results := [.lit (.bool false)], args := [d1, d2, d3] }
  | _ => none }
def TreeOrdersWrongFalsely : Prop := treeOrdersRow.holds Try.pinned (OpenSpec.ofChange treeOrdersWrong)

/-- 'mailbaglaw06.TreeVals': WHATEVER THE INPUT: true; the input reads as it did. -/
def treeValsSpec : ChangeSpec := { name := "treeVals", fn := fun _ => fun
  | [d1, d2] => { results := [.lit (.bool true)], args := [d1, d2] }
  | _ => none }
def treeValsRow : OpenClaim := { program := "ytmpcmpanolnpfaa", sum := "7011b437c23a85aca98bbcf04b1c205477860ef54c8269b9e3bcbd4a0d70342d", func := "mailbag/mailbaglaw06.TreeVals", spec := "treeVals", inPlace := ["internal/bytealg.abigen_runtime_cmpstring", "slices.overlaps[mailbag/tree.item[int]]", "slices.overlaps[[]mailbag/tree.item[int]]", "slices.overlaps[mailbag/tree.item[string]]", "slices.overlaps[[]mailbag/tree.item[string]]"], unfollowed := true, recurses := true, apart := false }
def TreeValsSaid : Prop := treeValsRow.holds Try.pinned (OpenSpec.ofChange treeValsSpec)

/-- ITS FALSE NEIGHBOUR: 'it returns false'. Refute it at one input. -/
def treeValsWrong : ChangeSpec := { name := "treeVals", fn := fun _ => fun
  | [d1, d2] => { results := [.lit (.bool false)], args := [d1, d2] }
  | _ => none }
def TreeValsWrongFalsely : Prop := treeValsRow.holds Try.pinned (OpenSpec.ofChange treeValsWrong)

/-- 'mailbaglaw06.TreeActs': WHATEVER THE INPUT: true; the input reads as it did. -/
def treeActsSpec : ChangeSpec := { name := "treeActs", fn := fun _ => fun
  | [d1, d2] => { results := [.lit (.bool true)], args := [d1, d2] }
  | _ => none }
def treeActsRow : OpenClaim := { program := "ytmpcmpanolnpfaa", sum := "7011b437c23a85aca98bbcf04b1c205477860ef54c8269b9e3bcbd4a0d70342d", func := "mailbag/mailbaglaw06.TreeActs", spec := "treeActs", inPlace := ["internal/bytealg.abigen_runtime_cmpstring", "slices.overlaps[mailbag/tree.item[int]]", "slices.overlaps[[]mailbag/tree.item[int]]"], unfollowed := true, recurses := true, apart := false }
def TreeActsSaid : Prop := treeActsRow.holds Try.pinned (OpenSpec.ofChange treeActsSpec)

/-- ITS FALSE NEIGHBOUR: 'it returns false'. Refute it at one input. -/
def treeActsWrong : ChangeSpec := { name := "treeActs", fn := fun _ => fun
  | [d1, d2] => { results := [.lit (.bool false)], args := [d1, d2] }
  | _ => none }
def TreeActsWrongFalsely : Prop := treeActsRow.holds Try.pinned (OpenSpec.ofChange treeActsWrong)

/-- 'mailbaglaw06.TreeRanges': WHATEVER THE INPUT: true; the input reads as it did. -/
def treeRangesSpec : ChangeSpec := { name := "treeRanges", fn := fun _ => fun
  | [d1, d2, d3, d4] => { results := [.lit (.bool true)], args := [d1, d2, d3, d4] }
  | _ => none }
def treeRangesRow : OpenClaim := { program := "ytmpcmpanolnpfaa", sum := "7011b437c23a85aca98bbcf04b1c205477860ef54c8269b9e3bcbd4a0d70342d", func := "mailbag/mailbaglaw06.TreeRanges", spec := "treeRanges", inPlace := ["internal/bytealg.abigen_runtime_cmpstring", "slices.overlaps[mailbag/tree.item[int]]", "slices.overlaps[[]mailbag/tree.item[int]]"], unfollowed := true, recurses := true, apart := false }
def TreeRangesSaid : Prop := treeRangesRow.holds Try.pinned (OpenSpec.ofChange treeRangesSpec)

/-- ITS FALSE NEIGHBOUR: 'it returns false'. Refute it at one input. -/
def treeRangesWrong : ChangeSpec := { name := "treeRanges", fn := fun _ => fun
  | [d1, d2, d3, d4] => { results := [.lit (.bool false)], args := [d1, d2, d3, d4] }
  | _ => none }
def TreeRangesWrongFalsely : Prop := treeRangesRow.holds Try.pinned (OpenSpec.ofChange treeRangesWrong)

/-- 'mailbaglaw06.TreeEnds': WHATEVER THE INPUT: true; the input reads as it did. -/
def treeEndsSpec : ChangeSpec := { name := "treeEnds", fn := fun _ => fun
  | [d1, d2] => { results := [.lit (.bool true)], args := [d1, d2] }
  | _ => none }
def treeEndsRow : OpenClaim := { program := "ytmpcmpanolnpfaa", sum := "7011b437c23a85aca98bbcf04b1c205477860ef54c8269b9e3bcbd4a0d70342d", func := "mailbag/mailbaglaw06.TreeEnds", spec := "treeEnds", inPlace := ["internal/bytealg.abigen_runtime_cmpstring", "slices.overlaps[mailbag/tree.item[int]]", "slices.overlaps[[]mailbag/tree.item[int]]"], unfollowed := true, recurses := true, apart := false }
def TreeEndsSaid : Prop := treeEndsRow.holds Try.pinned (OpenSpec.ofChange treeEndsSpec)

/-- ITS FALSE NEIGHBOUR: 'it returns false'. Refute it at one input. -/
def treeEndsWrong : ChangeSpec := { name := "treeEnds", fn := fun _ => fun
  | [d1, d2] => { results := [.lit (.bool false)], args := [d1, d2] }
  | _ => none }
def TreeEndsWrongFalsely : Prop := treeEndsRow.holds Try.pinned (OpenSpec.ofChange treeEndsWrong)

/- THE SECOND FORM. 'bulk': how many values and letters a reading holds, each counted each time it is reached (what is shared counts as often as it is met; a slice's spare places count too). A statement '..UptoSaid' is the law's where the arguments, and the package variables that the reading takes, are together of bulk at most 1048576: NARROWER than '..Said'. Prove '..Said' where nothing that the law and all that it calls make is longer than what came in: it says more and counts as full. Else prove '..UptoSaid'. A law counts once. -/
mutual
def uptoBulk {H : Type} : DataW H → Nat
  | .lit (.string bytes) => bytes.length + 1
  | .lit _ => 1
  | .nil => 1
  | .ptr d => uptoBulk d + 1
  | .slice elems spare => uptoBulkAll elems + uptoBulkAll spare + 1
  | .agg parts => uptoBulkAll parts + 1
  | .iface _ d => uptoBulk d + 1
  | .map entries => uptoBulkEntries entries + 1
  | .held _ => 1
def uptoBulkAll {H : Type} : List (DataW H) → Nat
  | [] => 0
  | d :: r => uptoBulk d + uptoBulkAll r
def uptoBulkEntries {H : Type} : List (Lit × DataW H) → Nat
  | [] => 0
  | x :: r => uptoBulkEntry x + uptoBulkEntries r
def uptoBulkEntry {H : Type} : Lit × DataW H → Nat
  | (.string bytes, d) => bytes.length + uptoBulk d + 1
  | (_, d) => uptoBulk d + 1
 end
def uptoSmall : (H : Type) → List (DataW H) → Bool := fun _ ds => decide (uptoBulkAll ds ≤ 1048576)
def OpenSpec.upto (s : _root_.Go.ChangeSpec) : _root_.Go.OpenSpec := { _root_.Go.OpenSpec.ofChange s with cond := some uptoSmall }

/-- 'mailbaglaw06.TreeMany', WHERE WHAT IT READS IS OF BULK AT MOST 1048576: true; the input reads as it did. -/
def treeManyUptoRow : OpenClaim := { program := "ytmpcmpanolnpfaa", sum := "7011b437c23a85aca98bbcf04b1c205477860ef54c8269b9e3bcbd4a0d70342d", func := "mailbag/mailbaglaw06.TreeMany", spec := "treeMany", inPlace := ["internal/bytealg.abigen_runtime_cmpstring", "slices.overlaps[mailbag/tree.item[int]]", "slices.overlaps[[]mailbag/tree.item[int]]"], unfollowed := true, recurses := true, apart := false, narrowed := true }
def TreeManyUptoSaid : Prop := treeManyUptoRow.holds Try.pinned (OpenSpec.upto treeManySpec)

/-- 'mailbaglaw06.TreeOrders', WHERE WHAT IT READS IS OF BULK AT MOST 1048576: true; the input reads as it did. -/
def treeOrdersUptoRow : OpenClaim := { program := "ytmpcmpanolnpfaa", sum := "7011b437c23a85aca98bbcf04b1c205477860ef54c8269b9e3bcbd4a0d70342d", func := "mailbag/mailbaglaw06.TreeOrders", spec := "treeOrders", inPlace := ["internal/bytealg.abigen_runtime_cmpstring", "slices.overlaps[mailbag/tree.item[int]]", "slices.overlaps[[]mailbag/tree.item[int]]"], unfollowed := true, recurses := true, apart := false, narrowed := true }
def TreeOrdersUptoSaid : Prop := treeOrdersUptoRow.holds Try.pinned (OpenSpec.upto treeOrdersSpec)

/-- 'mailbaglaw06.TreeVals', WHERE WHAT IT READS IS OF BULK AT MOST 1048576: true; the input reads as it did. -/
def treeValsUptoRow : OpenClaim := { program := "ytmpcmpanolnpfaa", sum := "7011b437c23a85aca98bbcf04b1c205477860ef54c8269b9e3bcbd4a0d70342d", func := "mailbag/mailbaglaw06.TreeVals", spec := "treeVals", inPlace := ["internal/bytealg.abigen_runtime_cmpstring", "slices.overlaps[mailbag/tree.item[int]]", "slices.overlaps[[]mailbag/tree.item[int]]", "slices.overlaps[mailbag/tree.item[string]]", "slices.overlaps[[]mailbag/tree.item[string]]"], unfollowed := true, recurses := true, apart := false, narrowed := true }
def TreeValsUptoSaid : Prop := treeValsUptoRow.holds Try.pinned (OpenSpec.upto treeValsSpec)

/-- 'mailbaglaw06.TreeActs', WHERE WHAT IT READS IS OF BULK AT MOST 1048576: true; the input reads as it did. -/
def treeActsUptoRow : OpenClaim := { program := "ytmpcmpanolnpfaa", sum := "7011b437c23a85aca98bbcf04b1c205477860ef54c8269b9e3bcbd4a0d70342d", func := "mailbag/mailbaglaw06.TreeActs", spec := "treeActs", inPlace := ["internal/bytealg.abigen_runtime_cmpstring", "slices.overlaps[mailbag/tree.item[int]]", "slices.overlaps[[]mailbag/tree.item[int]]"], unfollowed := true, recurses := true, apart := false, narrowed := true }
def TreeActsUptoSaid : Prop := treeActsUptoRow.holds Try.pinned (OpenSpec.upto treeActsSpec)

/-- 'mailbaglaw06.TreeRanges', WHERE WHAT IT READS IS OF BULK AT MOST 1048576: true; the input reads as it did. -/
def treeRangesUptoRow : OpenClaim := { program := "ytmpcmpanolnpfaa", sum := "7011b437c23a85aca98bbcf04b1c205477860ef54c8269b9e3bcbd4a0d70342d", func := "mailbag/mailbaglaw06.TreeRanges", spec := "treeRanges", inPlace := ["internal/bytealg.abigen_runtime_cmpstring", "slices.overlaps[mailbag/tree.item[int]]", "slices.overlaps[[]mailbag/tree.item[int]]"], unfollowed := true, recurses := true, apart := false, narrowed := true }
def TreeRangesUptoSaid : Prop := treeRangesUptoRow.holds Try.pinned (OpenSpec.upto treeRangesSpec)

/-- 'mailbaglaw06.TreeEnds', WHERE WHAT IT READS IS OF BULK AT MOST 1048576: true; the input reads as it did. -/
def treeEndsUptoRow : OpenClaim := { program := "ytmpcmpanolnpfaa", sum := "7011b437c23a85aca98bbcf04b1c205477860ef54c8269b9e3bcbd4a0d70342d", func := "mailbag/mailbaglaw06.TreeEnds", spec := "treeEnds", inPlace := ["internal/bytealg.abigen_runtime_cmpstring", "slices.overlaps[mailbag/tree.item[int]]", "slices.overlaps[[]mailbag/tree.item[int]]"], unfollowed := true, recurses := true, apart := false, narrowed := true }
def TreeEndsUptoSaid : Prop := treeEndsUptoRow.holds Try.pinned (OpenSpec.upto treeEndsSpec)

end Rows
end Go.Proofs.Ytmpcmpanolnpfaa
