/-
  No cell of these rows narrows 'for every input' (looked for: loops, veiled, ifaces, maps, wideKeys, modest, calm, conditions, laid).
  DERIVED. THE GIVEN ROWS OF THIS SEAT. 5 by the template 'for every input the law returns true; each argument reads behind the call as it read before'; 0 by the template 'total and deterministic' (their statements: YtpfpejkndjdgkaaTotals.lean).
  GIVEN WITH THE SEED: the statements are not yours to turn. If you find one false, say at which input.
  Laid BY PROGRAM, IN A SANDBOX (cutbox-rows.mjs): the forced cells as the released guide's own fill.sh prints them over the translation a8d9ea94a23c903c… (all of the seat's roots in one cut). By AI agents, Wed Nov 11 2026. No macro, syntax, notation, axiom, sorry.
-/
import Derived.Test.YtpfpejkndjdgkaaChecked
import GoSem.Claim
import GoSem.ClaimJoined
import GoSem.ClaimMapViews
import Derived.JoinedTies
import Derived.KernelRfl
namespace Go.Proofs.Ytpfpejkndjdgkaa
/- THE CELL 'sum', in the pinned program and in every row, IS THE sha256 OF THE DUMP (.gsa) THAT YtpfpejkndjdgkaaProg.lean LOADS. Nothing in Lean hashes anything: it is a label: what it is worth is what the hold of that sum in a sandbox is worth. -/
noncomputable def Try.pinned : Pinned := { name := "ytpfpejkndjdgkaa", sum := "a8d9ea94a23c903c26d29413dc345ed871eeee4513096602ba64a7cd58613c32", checked := Try.checked }
namespace Rows
def none {H : Type} : Left H := { results := [], args := [] }

/-- 'mailbaglaw16.ClaimActs': WHATEVER THE INPUT: true; the input reads as it did. -/
def claimActsSpec : ChangeSpec := { name := "claimActs", fn := fun _ => fun
  | [d1, d2, d3] => { results := [.lit (.bool true)], args := [d1, d2, d3] }
  | _ => none }
def claimActsRow : OpenClaim := { program := "ytpfpejkndjdgkaa", sum := "a8d9ea94a23c903c26d29413dc345ed871eeee4513096602ba64a7cd58613c32", func := "mailbag/mailbaglaw16.ClaimActs", spec := "claimActs", unfollowed := true, recurses := true, apart := false }
def ClaimActsSaid : Prop := claimActsRow.holds Try.pinned (OpenSpec.ofChange claimActsSpec)

/-- ITS FALSE NEIGHBOUR: 'it returns false'. Refute it at one input. -/
def claimActsWrong : ChangeSpec := { name := "claimActs", fn := fun _ => fun
  | [d1, d2, d3] => { results := [.lit (.bool false)], args := [d1, d2, d3] }
  | _ => none }
def ClaimActsWrongFalsely : Prop := claimActsRow.holds Try.pinned (OpenSpec.ofChange claimActsWrong)

/-- 'mailbaglaw16.ClaimAlone': WHATEVER THE INPUT: true; the input reads as it did. -/
def claimAloneSpec : ChangeSpec := { name := "claimAlone", fn := fun _ => fun
  | [d1, d2, d3] => { results := [.lit (.bool true)], args := [d1, d2, d3] }
  | _ => none }
def claimAloneRow : OpenClaim := { program := "ytpfpejkndjdgkaa", sum := "a8d9ea94a23c903c26d29413dc345ed871eeee4513096602ba64a7cd58613c32", func := "mailbag/mailbaglaw16.ClaimAlone", spec := "claimAlone", unfollowed := true, recurses := true, apart := false }
def ClaimAloneSaid : Prop := claimAloneRow.holds Try.pinned (OpenSpec.ofChange claimAloneSpec)

/-- ITS FALSE NEIGHBOUR: 'it returns false'. Refute it at one input. -/
def claimAloneWrong : ChangeSpec := { name := "claimAlone", fn := fun _ => fun
  | [d1, d2, d3] => { results := [.lit (.bool false)], args := [d1, d2, d3] }
  | _ => none }
def ClaimAloneWrongFalsely : Prop := claimAloneRow.holds Try.pinned (OpenSpec.ofChange claimAloneWrong)

/-- 'mailbaglaw16.ClaimMany': WHATEVER THE INPUT: true; the input reads as it did. -/
def claimManySpec : ChangeSpec := { name := "claimMany", fn := fun _ => fun
  | [d1, d2, d3] => { results := [.lit (.bool true)], args := [d1, d2, d3] }
  | _ => none }
def claimManyRow : OpenClaim := { program := "ytpfpejkndjdgkaa", sum := "a8d9ea94a23c903c26d29413dc345ed871eeee4513096602ba64a7cd58613c32", func := "mailbag/mailbaglaw16.ClaimMany", spec := "claimMany", unfollowed := true, recurses := true, apart := false }
def ClaimManySaid : Prop := claimManyRow.holds Try.pinned (OpenSpec.ofChange claimManySpec)

/-- ITS FALSE NEIGHBOUR: 'it returns false'. Refute it at one input. -/
def claimManyWrong : ChangeSpec := { name := "claimMany", fn := fun _ => fun
  | [d1, d2, d3] => { results := [.lit (.bool false)], args := [d1, d2, d3] }
  | _ => none }
def ClaimManyWrongFalsely : Prop := claimManyRow.holds Try.pinned (OpenSpec.ofChange claimManyWrong)

/-- 'mailbaglaw17.WatchHolds': WHATEVER THE INPUT: true; the input reads as it did. -/
def watchHoldsSpec : ChangeSpec := { name := "watchHolds", fn := fun _ => fun
  | [d1, d2] => { results := [.lit (.bool true)], args := [d1, d2] }
  | _ => none }
def watchHoldsRow : OpenClaim := { program := "ytpfpejkndjdgkaa", sum := "a8d9ea94a23c903c26d29413dc345ed871eeee4513096602ba64a7cd58613c32", func := "mailbag/mailbaglaw17.WatchHolds", spec := "watchHolds", inPlace := ["internal/bytealg.abigen_runtime_cmpstring", "slices.overlaps[mailbag/tree.item[mailbag/chain.Chain]]", "slices.overlaps[[]mailbag/tree.item[mailbag/chain.Chain]]"], unfollowed := true, recurses := true, apart := false }
def WatchHoldsSaid : Prop := watchHoldsRow.holds Try.pinned (OpenSpec.ofChange watchHoldsSpec)

/-- ITS FALSE NEIGHBOUR: 'it returns false'. Refute it at one input. -/
def watchHoldsWrong : ChangeSpec := { name := "watchHolds", fn := fun _ => fun
  | [d1, d2] => { results := [.lit (.bool false)], args := [d1, d2] }
  | _ => none }
def WatchHoldsWrongFalsely : Prop := watchHoldsRow.holds Try.pinned (OpenSpec.ofChange watchHoldsWrong)

/-- 'mailbaglaw17.WatchMarks': WHATEVER THE INPUT: true; the input reads as it did. -/
def watchMarksSpec : ChangeSpec := { name := "watchMarks", fn := fun _ => fun
  | [d1, d2] => { results := [.lit (.bool true)], args := [d1, d2] }
  | _ => none }
def watchMarksRow : OpenClaim := { program := "ytpfpejkndjdgkaa", sum := "a8d9ea94a23c903c26d29413dc345ed871eeee4513096602ba64a7cd58613c32", func := "mailbag/mailbaglaw17.WatchMarks", spec := "watchMarks", inPlace := ["internal/bytealg.abigen_runtime_cmpstring", "slices.overlaps[mailbag/tree.item[mailbag/chain.Chain]]", "slices.overlaps[[]mailbag/tree.item[mailbag/chain.Chain]]"], unfollowed := true, recurses := true, apart := false }
def WatchMarksSaid : Prop := watchMarksRow.holds Try.pinned (OpenSpec.ofChange watchMarksSpec)

/-- ITS FALSE NEIGHBOUR: 'it returns false'. Refute it at one input. -/
def watchMarksWrong : ChangeSpec := { name := "watchMarks", fn := fun _ => fun
  | [d1, d2] => { results := [.lit (.bool false)], args := [d1, d2] }
  | _ => none }
def WatchMarksWrongFalsely : Prop := watchMarksRow.holds Try.pinned (OpenSpec.ofChange watchMarksWrong)

/- THE SECOND FORM. 'bulk': how many values and letters a reading holds, each counted each time it is reached (what is shared counts as often as it is met; a slice's spare places count too). A statement '..UptoSaid' is the law's where the arguments, and the package variables that the reading takes, are together of bulk at most 1048576: NARROWER than '..Said'. Prove '..Said' where nothing that the law and all that it calls make is longer than what came in: it says more and counts as full. Else prove '..UptoSaid'. A law counts once. -/
mutual
def uptoBulk {H : Type} : DataW H → Nat
  | .lit (.string bytes) => bytes.length + 1
  | .lit _ => 1
  | .nil => 1
  | .ptr d => uptoBulk d + 1
  | .slice elems spare => uptoBulkAll elems + uptoBulkAll spare + 1
  | .agg parts => uptoBulkAll parts + 1
  | .iface _ d => uptoBulk d + 1
  | .map entries => uptoBulkEntries entries + 1
  | .held _ => 1
def uptoBulkAll {H : Type} : List (DataW H) → Nat
  | [] => 0
  | d :: r => uptoBulk d + uptoBulkAll r
def uptoBulkEntries {H : Type} : List (Lit × DataW H) → Nat
  | [] => 0
  | x :: r => uptoBulkEntry x + uptoBulkEntries r
def uptoBulkEntry {H : Type} : Lit × DataW H → Nat
  | (.string bytes, d) => bytes.length + uptoBulk d + 1
  | (_, d) => uptoBulk d + 1
 end
def uptoSmall : (H : Type) → List (DataW H) → Bool := fun _ ds => decide (uptoBulkAll ds ≤ 1048576)
def OpenSpec.upto (s : _root_.Go.ChangeSpec) : _root_.Go.OpenSpec := { _root_.Go.OpenSpec.ofChange s with cond := some uptoSmall }

/-- 'mailbaglaw16.ClaimActs', WHERE WHAT IT READS IS OF BULK AT MOST 1048576: true; the input reads as it did. -/
def claimActsUptoRow : OpenClaim := { program := "ytpfpejkndjdgkaa", sum := "a8d9ea94a23c903c26d29413dc345ed871eeee4513096602ba64a7cd58613c32", func := "mailbag/mailbaglaw16.ClaimActs", spec := "claimActs", unfollowed := true, recurses := true, apart := false, narrowed := true }
def ClaimActsUptoSaid : Prop := claimActsUptoRow.holds Try.pinned (OpenSpec.upto claimActsSpec)

/-- 'mailbaglaw16.ClaimAlone', WHERE WHAT IT READS IS OF BULK AT MOST 1048576: true; the input reads as it did. -/
def claimAloneUptoRow : OpenClaim := { program := "ytpfpejkndjdgkaa", sum := "a8d9ea94a23c903c26d29413dc345ed871eeee4513096602ba64a7cd58613c32", func := "mailbag/mailbaglaw16.ClaimAlone", spec := "claimAlone", unfollowed := true, recurses := true, apart := false, narrowed := true }
def ClaimAloneUptoSaid : Prop := claimAloneUptoRow.holds Try.pinned (OpenSpec.upto claimAloneSpec)

/-- 'mailbaglaw16.ClaimMany', WHERE WHAT IT READS IS OF BULK AT MOST 1048576: true; the input reads as it did. -/
def claimManyUptoRow : OpenClaim := { program := "ytpfpejkndjdgkaa", sum := "a8d9ea94a23c903c26d29413dc345ed871eeee4513096602ba64a7cd58613c32", func := "mailbag/mailbaglaw16.ClaimMany", spec := "claimMany", unfollowed := true, recurses := true, apart := false, narrowed := true }
def ClaimManyUptoSaid : Prop := claimManyUptoRow.holds Try.pinned (OpenSpec.upto claimManySpec)

/-- 'mailbaglaw17.WatchHolds', WHERE WHAT IT READS IS OF BULK AT MOST 1048576: true; the input reads as it did. -/
def watchHoldsUptoRow : OpenClaim := { program := "ytpfpejkndjdgkaa", sum := "a8d9ea94a23c903c26d29413dc345ed871eeee4513096602ba64a7cd58613c32", func := "mailbag/mailbaglaw17.WatchHolds", spec := "watchHolds", inPlace := ["internal/bytealg.abigen_runtime_cmpstring", "slices.overlaps[mailbag/tree.item[mailbag/chain.Chain]]", "slices.overlaps[[]mailbag/tree.item[mailbag/chain.Chain]]"], unfollowed := true, recurses := true, apart := false, narrowed := true }
def WatchHoldsUptoSaid : Prop := watchHoldsUptoRow.holds Try.pinned (OpenSpec.upto watchHoldsSpec)

/-- 'mailbaglaw17.WatchMarks', WHERE WHAT IT READS IS OF BULK AT MOST 1048576: true; the input reads as it did. -/
def watchMarksUptoRow : OpenClaim := { program := "ytpfpejkndjdgkaa", sum := "a8d9ea94a23c903c26d29413dc345ed871eeee4513096602ba64a7cd58613c32", func := "mailbag/mailbaglaw17.WatchMarks", spec := "watchMarks", inPlace := ["internal/bytealg.abigen_runtime_cmpstring", "slices.overlaps[mailbag/tree.item[mailbag/chain.Chain]]", "slices.overlaps[[]mailbag/tree.item[mailbag/chain.Chain]]"], unfollowed := true, recurses := true, apart := false, narrowed := true }
def WatchMarksUptoSaid : Prop := watchMarksUptoRow.holds Try.pinned (OpenSpec.upto watchMarksSpec)

end Rows
end Go.Proofs.Ytpfpejkndjdgkaa
