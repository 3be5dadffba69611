/- WatchHolds: the row, out of its walk and its plain half. For every input; no condition. -/
import Derived.Test.YtmafibbnojdpjaaRows
import Derived.WalkKit
import Derived.ProofKit
import Derived.OpenShut
import Derived.ShutString
import Derived.ChangeOld
import Derived.Below
import Derived.SizedLaws
import Derived.Carry
import Derived.ChangeAt
import Derived.Test.YtmafibbnojdpjaaWh1
import Derived.Test.YtmafibbnojdpjaaWh2
import Derived.Test.YtmafibbnojdpjaaWh3
import Derived.Test.YtmafibbnojdpjaaWh4
import Derived.Test.YtmafibbnojdpjaaWh5
import Derived.Test.YtmafibbnojdpjaaWh6
import Derived.Test.YtmafibbnojdpjaaWh7
import Derived.Test.YtmafibbnojdpjaaWh8
import Derived.Test.YtmafibbnojdpjaaWh9
import Derived.Test.YtmafibbnojdpjaaWh10
import Derived.Test.YtmafibbnojdpjaaWh11
import Derived.Test.YtmafibbnojdpjaaWh12
import Derived.Test.YtmafibbnojdpjaaWh13
import Derived.Test.YtmafibbnojdpjaaWh14
import Derived.Test.YtmafibbnojdpjaaWh15
import Derived.Test.YtmafibbnojdpjaaWh16
set_option linter.unusedVariables false
namespace Go.Proofs.Ytmafibbnojdpjaa.watchHolds
open Go.ChangeShapes Go.WideShapes Go.ChangeAt Go.RowKit Go.Proofs.Ytmafibbnojdpjaa Go.Proofs.Ytmafibbnojdpjaa.P Go.Proofs.Ytmafibbnojdpjaa.St Go.Proofs.Ytmafibbnojdpjaa.Tr Go.Proofs.YtmafibbnojdpjaaW.PrintWords
open Go.ChangeMaps (open_string shut_string)
theorem own : ownKnob Try.prog.godebug = none := by kernel_rfl
set_option maxRecDepth 100000 in
theorem lifted (os : Os) (started : os.Started) (H : Type) (enc : TypeId × Value → H) :
    ReturnsInHanded {} Try.checked os 4 .any (Rows.watchHoldsSpec.pre6 enc Try.prog Try.f4 Rows.watchHoldsRow.domain false) (Rows.watchHoldsSpec.post enc Try.prog Try.f4 false true false false) := by
  refine returnsInHanded_of_change_sized (C := Try.checked) own started (by kernel_rfl) Try.func4
    (ChangeSpec.witness6 (enc := enc) (C := Try.checked) false ⟨#[], #[.int .i64 0, .int .i64 0], []⟩ 8 (by kernel_rfl) (by kernel_rfl) (by kernel_rfl) (by kernel_rfl)) ?_
  intro W base args ds gs before hval0 hW hcnd hsz0 _
  have hsz : (DataW.weightsEach Try.prog (Try.f4.params.toList ++ Rows.watchHoldsSpec.plain.varTypes Try.prog) (ds ++ gs)).all (· ≤ reachBytes) = true := hsz0
  have hval : ∀ (j : Nat) t v, Try.f4.params[j]? = some t → args[j]? = some v → Value.okWide Try.prog W .any base t v := hval0
  have hW' := hW
  obtain ⟨p, q, hA0, hV, rfl, hfz, hnd⟩ := hW
  have hA : DataW.TrodAll enc Try.prog W 0 (fun _ => true) true Try.f4.params.toList args.toList ds p := hA0
  rw [Try.params4] at hA hval hsz
  obtain ⟨v0, vs0, d0, ds0, p0, q0, hargs, rfl, rfl, h0, r0⟩ := trodAll_cons hA
  obtain ⟨v1, vs1, d1, ds1, p1, q1, rfl, rfl, rfl, h1, r1⟩ := trodAll_cons r0
  obtain ⟨rfl, rfl, rfl⟩ := trodAll_nil r1
  obtain rfl : args = #[v0, v1] := by cases args; simp_all
  obtain ⟨rfl, rfl⟩ := trodVars_none hV
  have hwt0 := Rd.weights_of hsz
  obtain ⟨g0, hwt1⟩ := Rd.weights_head hwt0
  obtain ⟨a0, rfl, rfl, rfl, w0⟩ := open_int Try.underlying3 (hval 0 3 v0 rfl rfl) h0
  obtain ⟨g1, hwt2⟩ := Rd.weights_head hwt1
  obtain ⟨a1, rfl, rfl, rfl, w1⟩ := open_int Try.underlying3 (hval 1 3 v1 rfl rfl) h1
  clear hA0 hval0 hsz0 hsz
  refine (watchHolds_walk a0 a1 W w0 w1).mono fun e W' ⟨he, bel⟩ => ?_
  subst he
  exact ⟨_, rfl, _, _, _, [], _, [], hW', trodAll_mk1 (shut_bool Try.underlying4 _), (trodAll_cons_mk (shut_int Try.underlying3 w0) (trodAll_cons_mk (shut_int Try.underlying3 w1) trodAll_mk0)), rfl, bel.frame _, fun h => by cases h⟩
theorem over : Rows.watchHoldsRow.holds Try.pinned (OpenSpec.ofChange Rows.watchHoldsSpec) :=
  OpenClaim.holds_of_wide 4 Try.f4 rfl rfl rfl rfl rfl rfl rfl ⟨rfl, rfl, rfl, rfl, rfl⟩ rfl rfl rfl rfl rfl (by kernel_rfl) Try.func4 (by kernel_rfl)
    (of_decide_eq_true (by kernel_rfl)) (by unfold Func.isWrapper; first | (rw [if_pos (by decide +kernel)]; kernel_rfl) | (rw [if_neg (by decide +kernel)]; exact ⟨rfl, rfl⟩))
    (fun os started H enc _ => lifted os started H enc)
theorem proved : Rows.WatchHoldsSaid := over
#print axioms proved
end Go.Proofs.Ytmafibbnojdpjaa.watchHolds
namespace Go.Proofs.Ytmafibbnojdpjaa
/-- The row, under a short name, for the claim. -/
theorem watchHolds_holds : Rows.WatchHoldsSaid := watchHolds.proved
end Go.Proofs.Ytmafibbnojdpjaa
