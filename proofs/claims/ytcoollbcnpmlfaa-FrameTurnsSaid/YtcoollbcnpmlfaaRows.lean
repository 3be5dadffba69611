/-
  No cell of these rows narrows 'for every input' (looked for: loops, veiled, ifaces, maps, wideKeys, modest, calm, conditions, laid).
  DERIVED. THE GIVEN ROWS OF THIS SEAT. 9 by the template 'for every input the law returns true; each argument reads behind the call as it read before'; 0 by the template 'total and deterministic' (their statements: YtcoollbcnpmlfaaTotals.lean).
  GIVEN WITH THE SEED: the statements are not yours to turn. If you find one false, say at which input.
  Laid BY PROGRAM, IN A SANDBOX (cutbox-rows.mjs): the forced cells as the released guide's own fill.sh prints them over the translation 045d3411f6812b4a… (all of the seat's roots in one cut). By AI agents, Wed Nov 11 2026. No macro, syntax, notation, axiom, sorry.
-/
import Derived.Test.YtcoollbcnpmlfaaChecked
import GoSem.Claim
import GoSem.ClaimJoined
import GoSem.ClaimMapViews
import Derived.JoinedTies
import Derived.KernelRfl
namespace Go.Proofs.Ytcoollbcnpmlfaa
/- THE CELL 'sum', in the pinned program and in every row, IS THE sha256 OF THE DUMP (.gsa) THAT YtcoollbcnpmlfaaProg.lean LOADS. Nothing in Lean hashes anything: it is a label: what it is worth is what the hold of that sum in a sandbox is worth. -/
noncomputable def Try.pinned : Pinned := { name := "ytcoollbcnpmlfaa", sum := "045d3411f6812b4aa3a61c908ca9ca0361d8d53b2a9267e8714b4b6574908b57", checked := Try.checked }
namespace Rows
def none {H : Type} : Left H := { results := [], args := [] }

/-- 'mailbaglaw05.FrameGets': WHATEVER THE INPUT: true; the input reads as it did. -/
def frameGetsSpec : ChangeSpec := { name := "frameGets", fn := fun _ => fun
  | [d] => { results := [.lit (.bool true)], args := [d] }
  | _ => none }
def frameGetsRow : OpenClaim := { program := "ytcoollbcnpmlfaa", sum := "045d3411f6812b4aa3a61c908ca9ca0361d8d53b2a9267e8714b4b6574908b57", func := "mailbag/mailbaglaw05.FrameGets", spec := "frameGets", apart := false }
def FrameGetsSaid : Prop := frameGetsRow.holds Try.pinned (OpenSpec.ofChange frameGetsSpec)

/-- ITS FALSE NEIGHBOUR: 'it returns false'. Refute it at one input. -/
def frameGetsWrong : ChangeSpec := { name := "frameGets", fn := fun _ => fun
  | [d] => { results := [.lit (.bool false)], args := [d] }
  | _ => none }
def FrameGetsWrongFalsely : Prop := frameGetsRow.holds Try.pinned (OpenSpec.ofChange frameGetsWrong)

/-- 'mailbaglaw05.FrameSums': WHATEVER THE INPUT: true; the input reads as it did. -/
def frameSumsSpec : ChangeSpec := { name := "frameSums", fn := fun _ => fun
  | [d1, d2] => { results := [.lit (.bool true)], args := [d1, d2] }
  | _ => none }
def frameSumsRow : OpenClaim := { program := "ytcoollbcnpmlfaa", sum := "045d3411f6812b4aa3a61c908ca9ca0361d8d53b2a9267e8714b4b6574908b57", func := "mailbag/mailbaglaw05.FrameSums", spec := "frameSums", apart := false }
def FrameSumsSaid : Prop := frameSumsRow.holds Try.pinned (OpenSpec.ofChange frameSumsSpec)

/-- ITS FALSE NEIGHBOUR: 'it returns false'. Refute it at one input. -/
def frameSumsWrong : ChangeSpec := { name := "frameSums", fn := fun _ => fun
  | [d1, d2] => { results := [.lit (.bool false)], args := [d1, d2] }
  | _ => none }
def FrameSumsWrongFalsely : Prop := frameSumsRow.holds Try.pinned (OpenSpec.ofChange frameSumsWrong)

/-- 'mailbaglaw05.FrameNests': WHATEVER THE INPUT: true; the input reads as it did. -/
def frameNestsSpec : ChangeSpec := { name := "frameNests", fn := fun _ => fun
  | [d1, d2] => { results := [.lit (.bool true)], args := [d1, d2] }
  | _ => none }
def frameNestsRow : OpenClaim := { program := "ytcoollbcnpmlfaa", sum := "045d3411f6812b4aa3a61c908ca9ca0361d8d53b2a9267e8714b4b6574908b57", func := "mailbag/mailbaglaw05.FrameNests", spec := "frameNests", apart := false }
def FrameNestsSaid : Prop := frameNestsRow.holds Try.pinned (OpenSpec.ofChange frameNestsSpec)

/-- ITS FALSE NEIGHBOUR: 'it returns false'. Refute it at one input. -/
def frameNestsWrong : ChangeSpec := { name := "frameNests", fn := fun _ => fun
  | [d1, d2] => { results := [.lit (.bool false)], args := [d1, d2] }
  | _ => none }
def FrameNestsWrongFalsely : Prop := frameNestsRow.holds Try.pinned (OpenSpec.ofChange frameNestsWrong)

/-- 'mailbaglaw05.FrameLong': WHATEVER THE INPUT: true; the input reads as it did. -/
def frameLongSpec : ChangeSpec := { name := "frameLong", fn := fun _ => fun
  | [d] => { results := [.lit (.bool true)], args := [d] }
  | _ => none }
def frameLongRow : OpenClaim := { program := "ytcoollbcnpmlfaa", sum := "045d3411f6812b4aa3a61c908ca9ca0361d8d53b2a9267e8714b4b6574908b57", func := "mailbag/mailbaglaw05.FrameLong", spec := "frameLong", apart := false }
def FrameLongSaid : Prop := frameLongRow.holds Try.pinned (OpenSpec.ofChange frameLongSpec)

/-- ITS FALSE NEIGHBOUR: 'it returns false'. Refute it at one input. -/
def frameLongWrong : ChangeSpec := { name := "frameLong", fn := fun _ => fun
  | [d] => { results := [.lit (.bool false)], args := [d] }
  | _ => none }
def FrameLongWrongFalsely : Prop := frameLongRow.holds Try.pinned (OpenSpec.ofChange frameLongWrong)

/-- 'mailbaglaw11.RecApart': WHATEVER THE INPUT: true; the input reads as it did. -/
def recApartSpec : ChangeSpec := { name := "recApart", fn := fun _ => fun
  | [d1, d2] => { results := [.lit (.bool true)], args := [d1, d2] }
  | _ => none }
def recApartRow : OpenClaim := { program := "ytcoollbcnpmlfaa", sum := "045d3411f6812b4aa3a61c908ca9ca0361d8d53b2a9267e8714b4b6574908b57", func := "mailbag/mailbaglaw11.RecApart", spec := "recApart", apart := false }
def RecApartSaid : Prop := recApartRow.holds Try.pinned (OpenSpec.ofChange recApartSpec)

/-- ITS FALSE NEIGHBOUR: 'it returns false'. Refute it at one input. -/
def recApartWrong : ChangeSpec := { name := "recApart", fn := fun _ => fun
  | [d1, d2] => { results := [.lit (.bool false)], args := [d1, d2] }
  | _ => none }
def RecApartWrongFalsely : Prop := recApartRow.holds Try.pinned (OpenSpec.ofChange recApartWrong)

/-- 'mailbaglaw05.FrameAlls': WHATEVER THE INPUT: true; the input reads as it did. -/
def frameAllsSpec : ChangeSpec := { name := "frameAlls", fn := fun _ => fun
  | [d1, d2, d3] => { results := [.lit (.bool true)], args := [d1, d2, d3] }
  | _ => none }
def frameAllsRow : OpenClaim := { program := "ytcoollbcnpmlfaa", sum := "045d3411f6812b4aa3a61c908ca9ca0361d8d53b2a9267e8714b4b6574908b57", func := "mailbag/mailbaglaw05.FrameAlls", spec := "frameAlls", apart := false }
def FrameAllsSaid : Prop := frameAllsRow.holds Try.pinned (OpenSpec.ofChange frameAllsSpec)

/-- ITS FALSE NEIGHBOUR: 'it returns false'. Refute it at one input. -/
def frameAllsWrong : ChangeSpec := { name := "frameAlls", fn := fun _ => fun
  | [d1, d2, d3] => { results := [.lit (.bool false)], args := [d1, d2, d3] }
  | _ => none }
def FrameAllsWrongFalsely : Prop := frameAllsRow.holds Try.pinned (OpenSpec.ofChange frameAllsWrong)

/-- 'mailbaglaw05.FrameTurns': WHATEVER THE INPUT: true; the input reads as it did. -/
def frameTurnsSpec : ChangeSpec := { name := "frameTurns", fn := fun _ => fun
  | [d1, d2, d3, d4, d5] => { results := [.lit (.bool true)], args := [d1, d2, d3, d4, d5] }
  | _ => none }
def frameTurnsRow : OpenClaim := { program := "ytcoollbcnpmlfaa", sum := "045d3411f6812b4aa3a61c908ca9ca0361d8d53b2a9267e8714b4b6574908b57", func := "mailbag/mailbaglaw05.FrameTurns", spec := "frameTurns", apart := false }
def FrameTurnsSaid : Prop := frameTurnsRow.holds Try.pinned (OpenSpec.ofChange frameTurnsSpec)

/-- ITS FALSE NEIGHBOUR: 'it returns false'. Refute it at one input. -/
def frameTurnsWrong : ChangeSpec := { name := "frameTurns", fn := fun _ => fun
  | [d1, d2, d3, d4, d5] => { results := [.lit (.bool false)], args := [d1, d2, d3, d4, d5] }
  | _ => none }
def FrameTurnsWrongFalsely : Prop := frameTurnsRow.holds Try.pinned (OpenSpec.ofChange frameTurnsWrong)

/-- 'mailbaglaw07.ChainPuts': WHATEVER THE INPUT: true; the input reads as it did. -/
def chainPutsSpec : ChangeSpec := { name := "chainPuts", fn := fun _ => fun
  | [d1, d2] => { results := [.lit (.bool true)], args := [d1, d2] }
  | _ => none }
def chainPutsRow : OpenClaim := { program := "ytcoollbcnpmlfaa", sum := "045d3411f6812b4aa3a61c908ca9ca0361d8d53b2a9267e8714b4b6574908b57", func := "mailbag/mailbaglaw07.ChainPuts", spec := "chainPuts", unfollowed := true, recurses := true, apart := false }
def ChainPutsSaid : Prop := chainPutsRow.holds Try.pinned (OpenSpec.ofChange chainPutsSpec)

/-- ITS FALSE NEIGHBOUR: 'it returns false'. Refute it at one input. -/
def chainPutsWrong : ChangeSpec := { name := "chainPuts", fn := fun _ => fun
  | [d1, d2] => { results := [.lit (.bool false)], args := [d1, d2] }
  | _ => none }
def ChainPutsWrongFalsely : Prop := chainPutsRow.holds Try.pinned (OpenSpec.ofChange chainPutsWrong)

/-- 'mailbaglaw07.ChainGrows': WHATEVER THE INPUT: true; the input reads as it did. -/
def chainGrowsSpec : ChangeSpec := { name := "chainGrows", fn := fun _ => fun
  | [d1, d2] => { results := [.lit (.bool true)], args := [d1, d2] }
  | _ => none }
def chainGrowsRow : OpenClaim := { program := "ytcoollbcnpmlfaa", sum := "045d3411f6812b4aa3a61c908ca9ca0361d8d53b2a9267e8714b4b6574908b57", func := "mailbag/mailbaglaw07.ChainGrows", spec := "chainGrows", unfollowed := true, recurses := true, apart := false }
def ChainGrowsSaid : Prop := chainGrowsRow.holds Try.pinned (OpenSpec.ofChange chainGrowsSpec)

/-- ITS FALSE NEIGHBOUR: 'it returns false'. Refute it at one input. -/
def chainGrowsWrong : ChangeSpec := { name := "chainGrows", fn := fun _ => fun
  | [d1, d2] => { results := [.lit (.bool false)], args := [d1, d2] }
  | _ => none }
def ChainGrowsWrongFalsely : Prop := chainGrowsRow.holds Try.pinned (OpenSpec.ofChange chainGrowsWrong)

/- THE SECOND FORM. 'bulk': how many values and letters a reading holds, each counted each time it is reached (what is shared counts as often as it is met; a slice's spare places count too). A statement '..UptoSaid' is the law's where the arguments, and the package variables that the reading takes, are together of bulk at most 1048576: NARROWER than '..Said'. Prove '..Said' where nothing that the law and all that it calls make is longer than what came in: it says more and counts as full. Else prove '..UptoSaid'. A law counts once. -/
mutual
def uptoBulk {H : Type} : DataW H → Nat
  | .lit (.string bytes) => bytes.length + 1
  | .lit _ => 1
  | .nil => 1
  | .ptr d => uptoBulk d + 1
  | .slice elems spare => uptoBulkAll elems + uptoBulkAll spare + 1
  | .agg parts => uptoBulkAll parts + 1
  | .iface _ d => uptoBulk d + 1
  | .map entries => uptoBulkEntries entries + 1
  | .held _ => 1
def uptoBulkAll {H : Type} : List (DataW H) → Nat
  | [] => 0
  | d :: r => uptoBulk d + uptoBulkAll r
def uptoBulkEntries {H : Type} : List (Lit × DataW H) → Nat
  | [] => 0
  | x :: r => uptoBulkEntry x + uptoBulkEntries r
def uptoBulkEntry {H : Type} : Lit × DataW H → Nat
  | (.string bytes, d) => bytes.length + uptoBulk d + 1
  | (_, d) => uptoBulk d + 1
 end
def uptoSmall : (H : Type) → List (DataW H) → Bool := fun _ ds => decide (uptoBulkAll ds ≤ 1048576)
def OpenSpec.upto (s : _root_.Go.ChangeSpec) : _root_.Go.OpenSpec := { _root_.Go.OpenSpec.ofChange s with cond := some uptoSmall }

/-- 'mailbaglaw05.FrameGets', WHERE WHAT IT READS IS OF BULK AT MOST 1048576: true; the input reads as it did. -/
def frameGetsUptoRow : OpenClaim := { program := "ytcoollbcnpmlfaa", sum := "045d3411f6812b4aa3a61c908ca9ca0361d8d53b2a9267e8714b4b6574908b57", func := "mailbag/mailbaglaw05.FrameGets", spec := "frameGets", apart := false, narrowed := true }
def FrameGetsUptoSaid : Prop := frameGetsUptoRow.holds Try.pinned (OpenSpec.upto frameGetsSpec)

/-- 'mailbaglaw05.FrameSums', WHERE WHAT IT READS IS OF BULK AT MOST 1048576: true; the input reads as it did. -/
def frameSumsUptoRow : OpenClaim := { program := "ytcoollbcnpmlfaa", sum := "045d3411f6812b4aa3a61c908ca9ca0361d8d53b2a9267e8714b4b6574908b57", func := "mailbag/mailbaglaw05.FrameSums", spec := "frameSums", apart := false, narrowed := true }
def FrameSumsUptoSaid : Prop := frameSumsUptoRow.holds Try.pinned (OpenSpec.upto frameSumsSpec)

/-- 'mailbaglaw05.FrameNests', WHERE WHAT IT READS IS OF BULK AT MOST 1048576: true; the input reads as it did. -/
def frameNestsUptoRow : OpenClaim := { program := "ytcoollbcnpmlfaa", sum := "045d3411f6812b4aa3a61c908ca9ca0361d8d53b2a9267e8714b4b6574908b57", func := "mailbag/mailbaglaw05.FrameNests", spec := "frameNests", apart := false, narrowed := true }
def FrameNestsUptoSaid : Prop := frameNestsUptoRow.holds Try.pinned (OpenSpec.upto frameNestsSpec)

/-- 'mailbaglaw05.FrameLong', WHERE WHAT IT READS IS OF BULK AT MOST 1048576: true; the input reads as it did. -/
def frameLongUptoRow : OpenClaim := { program := "ytcoollbcnpmlfaa", sum := "045d3411f6812b4aa3a61c908ca9ca0361d8d53b2a9267e8714b4b6574908b57", func := "mailbag/mailbaglaw05.FrameLong", spec := "frameLong", apart := false, narrowed := true }
def FrameLongUptoSaid : Prop := frameLongUptoRow.holds Try.pinned (OpenSpec.upto frameLongSpec)

/-- 'mailbaglaw11.RecApart', WHERE WHAT IT READS IS OF BULK AT MOST 1048576: true; the input reads as it did. -/
def recApartUptoRow : OpenClaim := { program := "ytcoollbcnpmlfaa", sum := "045d3411f6812b4aa3a61c908ca9ca0361d8d53b2a9267e8714b4b6574908b57", func := "mailbag/mailbaglaw11.RecApart", spec := "recApart", apart := false, narrowed := true }
def RecApartUptoSaid : Prop := recApartUptoRow.holds Try.pinned (OpenSpec.upto recApartSpec)

/-- 'mailbaglaw05.FrameAlls', WHERE WHAT IT READS IS OF BULK AT MOST 1048576: true; the input reads as it did. -/
def frameAllsUptoRow : OpenClaim := { program := "ytcoollbcnpmlfaa", sum := "045d3411f6812b4aa3a61c908ca9ca0361d8d53b2a9267e8714b4b6574908b57", func := "mailbag/mailbaglaw05.FrameAlls", spec := "frameAlls", apart := false, narrowed := true }
def FrameAllsUptoSaid : Prop := frameAllsUptoRow.holds Try.pinned (OpenSpec.upto frameAllsSpec)

/-- 'mailbaglaw05.FrameTurns', WHERE WHAT IT READS IS OF BULK AT MOST 1048576: true; the input reads as it did. -/
def frameTurnsUptoRow : OpenClaim := { program := "ytcoollbcnpmlfaa", sum := "045d3411f6812b4aa3a61c908ca9ca0361d8d53b2a9267e8714b4b6574908b57", func := "mailbag/mailbaglaw05.FrameTurns", spec := "frameTurns", apart := false, narrowed := true }
def FrameTurnsUptoSaid : Prop := frameTurnsUptoRow.holds Try.pinned (OpenSpec.upto frameTurnsSpec)

/-- 'mailbaglaw07.ChainPuts', WHERE WHAT IT READS IS OF BULK AT MOST 1048576: true; the input reads as it did. -/
def chainPutsUptoRow : OpenClaim := { program := "ytcoollbcnpmlfaa", sum := "045d3411f6812b4aa3a61c908ca9ca0361d8d53b2a9267e8714b4b6574908b57", func := "mailbag/mailbaglaw07.ChainPuts", spec := "chainPuts", unfollowed := true, recurses := true, apart := false, narrowed := true }
def ChainPutsUptoSaid : Prop := chainPutsUptoRow.holds Try.pinned (OpenSpec.upto chainPutsSpec)

/-- 'mailbaglaw07.ChainGrows', WHERE WHAT IT READS IS OF BULK AT MOST 1048576: true; the input reads as it did. -/
def chainGrowsUptoRow : OpenClaim := { program := "ytcoollbcnpmlfaa", sum := "045d3411f6812b4aa3a61c908ca9ca0361d8d53b2a9267e8714b4b6574908b57", func := "mailbag/mailbaglaw07.ChainGrows", spec := "chainGrows", unfollowed := true, recurses := true, apart := false, narrowed := true }
def ChainGrowsUptoSaid : Prop := chainGrowsUptoRow.holds Try.pinned (OpenSpec.upto chainGrowsSpec)

end Rows
end Go.Proofs.Ytcoollbcnpmlfaa
