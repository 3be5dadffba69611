/- ClaimActs: the walk, as the row asks for it. -/
import Derived.Test.YtpfpejkndjdgkaaQn
set_option linter.unusedVariables false
namespace Go.Proofs.Ytpfpejkndjdgkaa.Q
open Go.RowKit Go.Proofs.YtpfpejkndjdgkaaW.PrintWords
theorem acts_walk (l : List S30) (A : Option Addr) (c : Nat) (who : Int) (key : ByteArray) (w : World) (hC : k30.C w A l.length l) (hl : l.length ≤ c) (ho : okS30 l) (hw : (Lit.int .i64 who).wf = true) (hk : key.size ≤ 140737488351232) :
    Calls Try.prog 3 #[.slice A l.length c, .int .i64 who, .string key] w fun e w' => e = .returned (.bool true) ∧ Below w.heap.size w w' :=
  (callsIn_wide (n := 4)).1 (acts_in A c l who key w hw (acts_cells hC) (by have := ho.2.1; omega) hl (fun a ha => ⟨(ho.2.2 a ha).1, (ho.2.2 a ha).2.1⟩))
end Go.Proofs.Ytpfpejkndjdgkaa.Q
