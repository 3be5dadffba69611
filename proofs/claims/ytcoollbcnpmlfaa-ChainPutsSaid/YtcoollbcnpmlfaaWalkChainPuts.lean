/- ChainPuts: the walk and the plain half together, as the row takes them. -/
import Derived.Test.YtcoollbcnpmlfaaCq
import Derived.Test.YtcoollbcnpmlfaaPureChainPuts
set_option linter.unusedVariables false
namespace Go.Proofs.Ytcoollbcnpmlfaa.Pure
open Go.RowKit Go.Proofs.Ytcoollbcnpmlfaa.C Go.Proofs.YtcoollbcnpmlfaaW.PrintWords Go.Proofs.YtcoollbcnpmlfaaW.PrintLast
theorem walk_ChainPuts (l : List S52) (A : Option Addr) (c : Nat) (x : Int × ByteArray × Bool) (cs : List Value) (w : World) (hC : Kd.C k52 w A l.length l) (hl : l.length ≤ c)
    {ok0 ok1 : Prop} (_ : ok0) (hK : (Kd.pair (Kd.int .i64) (Kd.pair Kd.string Kd.bool)).K w x cs) (_ : ok1) :
    Calls Try.prog 10 #[.slice A l.length c, .agg cs.toArray] w fun e w' => e = .returned (.bool true) ∧ Below w.heap.size w w' := by
  obtain ⟨q, s, g⟩ := x
  obtain ⟨_, _, rfl, rfl, ⟨_, _, rfl, rfl, rfl⟩⟩ := hK
  obtain ⟨k, h⟩ := ChainPuts l q s g
  exact mailbaglaw07_ChainPuts.calls k A c l q s g true w hC hl h
end Go.Proofs.Ytcoollbcnpmlfaa.Pure
