/- FrameTurns: the walk and the plain half together, as the row takes them. -/
import Derived.Test.YtcoollbcnpmlfaaFt
import Derived.Test.YtcoollbcnpmlfaaPureFrameTurns
set_option linter.unusedVariables false
namespace Go.Proofs.Ytcoollbcnpmlfaa.Pure
open Go.RowKit Go.Proofs.Ytcoollbcnpmlfaa.P Go.Proofs.YtcoollbcnpmlfaaW.PrintWords Go.Proofs.YtcoollbcnpmlfaaW.PrintLast
theorem walk_FrameTurns (l0 : List ByteArray) (A0 : Option Addr) (c0 : Nat) (a1 a2 a3 : Int) (a4 : Bool) (w : World) (hC : Kd.C Kd.string w A0 l0.length l0) (hl : l0.length ≤ c0)
    (_ : l0.length ≤ maxLen ∧ l0.length * 16 ≤ 140737488351232 ∧ ∀ x ∈ l0, x.size ≤ 140737488351232) (_ : (Lit.int .i64 a1).wf = true) (_ : (Lit.int .i64 a2).wf = true) (_ : (Lit.int .u32 a3).wf = true) :
    Calls Try.prog 9 #[.slice A0 l0.length c0, .int .i64 a1, .int .i64 a2, .int .u32 a3, .bool a4] w fun e w' => e = .returned (.bool true) ∧ Below w.heap.size w w' := by
  obtain ⟨k, h⟩ := FrameTurns l0 a1 a2 a3 a4
  exact mailbaglaw05_FrameTurns.calls k A0 c0 l0 a1 a2 a3 a4 true w hC hl h
end Go.Proofs.Ytcoollbcnpmlfaa.Pure
