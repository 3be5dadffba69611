/- RecOf: the row, out of its walk and its plain half. For every input; no condition. -/
import Derived.Test.YtmafibbnojdpjaaRows
import Derived.WalkKit
import Derived.ProofKit
import Derived.OpenShut
import Derived.ShutString
import Derived.ChangeOld
import Derived.Below
import Derived.SizedLaws
import Derived.Carry
import Derived.ChangeAt
import Derived.Test.YtmafibbnojdpjaaRo1
import Derived.Test.YtmafibbnojdpjaaRo2
import Derived.Test.YtmafibbnojdpjaaRo3
import Derived.Test.YtmafibbnojdpjaaRo4
import Derived.Test.YtmafibbnojdpjaaRo5
import Derived.Test.YtmafibbnojdpjaaRo6
import Derived.Test.YtmafibbnojdpjaaRo7
import Derived.Test.YtmafibbnojdpjaaRo8
import Derived.Test.YtmafibbnojdpjaaRo9
import Derived.Test.YtmafibbnojdpjaaRo10
import Derived.Test.YtmafibbnojdpjaaRo11
import Derived.Test.YtmafibbnojdpjaaRo12
import Derived.Test.YtmafibbnojdpjaaRo13
import Derived.Test.YtmafibbnojdpjaaRo14
import Derived.Test.YtmafibbnojdpjaaRo15
import Derived.Test.YtmafibbnojdpjaaRo16
import Derived.Test.YtmafibbnojdpjaaRo17
set_option linter.unusedVariables false
namespace Go.Proofs.Ytmafibbnojdpjaa.recOf
open Go.ChangeShapes Go.WideShapes Go.ChangeAt Go.RowKit Go.Proofs.Ytmafibbnojdpjaa Go.Proofs.Ytmafibbnojdpjaa.P Go.Proofs.Ytmafibbnojdpjaa.St Go.Proofs.Ytmafibbnojdpjaa.Tr Go.Proofs.YtmafibbnojdpjaaW.PrintWords
open Go.ChangeMaps (open_string shut_string)
theorem own : ownKnob Try.prog.godebug = none := by kernel_rfl
theorem laidOut : laidOutB Try.prog = true := by kernel_rfl
set_option maxRecDepth 100000 in
theorem lifted (os : Os) (started : os.Started) (H : Type) (enc : TypeId × Value → H) :
    ReturnsInHanded {} Try.checked os 6 .any (Rows.recOfSpec.pre6 enc Try.prog Try.f6 Rows.recOfRow.domain false) (Rows.recOfSpec.post enc Try.prog Try.f6 false true false false) := by
  refine returnsInHanded_of_change_sized (C := Try.checked) own started (by kernel_rfl) Try.func6
    (ChangeSpec.witness6 (enc := enc) (C := Try.checked) false ⟨#[], #[.agg #[.int .i64 0, .slice none 0 0, .slice none 0 0]], []⟩ 8 (by kernel_rfl) (by kernel_rfl) (by kernel_rfl) (by kernel_rfl)) ?_
  intro W base args ds gs before hval0 hW hcnd hsz0 _
  have hsz : (DataW.weightsEach Try.prog (Try.f6.params.toList ++ Rows.recOfSpec.plain.varTypes Try.prog) (ds ++ gs)).all (· ≤ reachBytes) = true := hsz0
  have hval : ∀ (j : Nat) t v, Try.f6.params[j]? = some t → args[j]? = some v → Value.okWide Try.prog W .any base t v := hval0
  have hW' := hW
  obtain ⟨p, q, hA0, hV, rfl, hfz, hnd⟩ := hW
  have hA : DataW.TrodAll enc Try.prog W 0 (fun _ => true) true Try.f6.params.toList args.toList ds p := hA0
  rw [Try.params6] at hA hval hsz
  obtain ⟨v0, vs0, d0, ds0, p0, q0, hargs, rfl, rfl, h0, r0⟩ := trodAll_cons hA
  obtain ⟨rfl, rfl, rfl⟩ := trodAll_nil r0
  obtain rfl : args = #[v0] := by cases args; simp_all
  obtain ⟨rfl, rfl⟩ := trodVars_none hV
  have hwt0 := Rd.weights_of hsz
  obtain ⟨g0, hwt1⟩ := Rd.weights_head hwt0
  have k0 := h0
  have lt0 : ∀ x ∈ p0, x.block < W.heap.size := by obtain ⟨m, hm⟩ := k0; exact DataW.trod_lt m _ _ _ hm
  obtain ⟨x0, cs0, rfl, hK0, ho0⟩ := Rd.Rd.top_struct (Rd.Rd.struct Try.underlying25 (by kernel_rfl) (Rd.RdF.cons _ rfl (by kernel_rfl) (Rd.Rd.int Try.underlying3) (Rd.RdF.cons _ rfl (by kernel_rfl) (Rd.Rd.slice (B := 40) Try.underlying22 (Rd.Rd.iso (Rd.Rd.struct Try.underlying31 (by kernel_rfl) (Rd.RdF.cons _ rfl (by kernel_rfl) (Rd.Rd.string Try.underlying9) (Rd.RdF.cons _ rfl (by kernel_rfl) (Rd.Rd.string Try.underlying9) (Rd.RdF.last _ rfl (by kernel_rfl) (Rd.Rd.bool Try.underlying4))))) (fun x : S31 => (x.f0, x.f1, x.f2)) (fun y => ⟨y.1, y.2.1, y.2.2⟩) (fun _ => rfl)) (by kernel_rfl) (by kernel_rfl)) (Rd.RdF.last _ rfl (by kernel_rfl) (Rd.Rd.slice (B := 40) Try.underlying23 (Rd.Rd.iso (Rd.Rd.struct Try.underlying28 (by kernel_rfl) (Rd.RdF.cons _ rfl (by kernel_rfl) (Rd.Rd.int Try.underlying3) (Rd.RdF.cons _ rfl (by kernel_rfl) (Rd.Rd.int Try.underlying3) (Rd.RdF.last _ rfl (by kernel_rfl) (Rd.Rd.slice (B := 40) Try.underlying22 (Rd.Rd.iso (Rd.Rd.struct Try.underlying31 (by kernel_rfl) (Rd.RdF.cons _ rfl (by kernel_rfl) (Rd.Rd.string Try.underlying9) (Rd.RdF.cons _ rfl (by kernel_rfl) (Rd.Rd.string Try.underlying9) (Rd.RdF.last _ rfl (by kernel_rfl) (Rd.Rd.bool Try.underlying4))))) (fun x : S31 => (x.f0, x.f1, x.f2)) (fun y => ⟨y.1, y.2.1, y.2.2⟩) (fun _ => rfl)) (by kernel_rfl) (by kernel_rfl)))))) (fun x : S28 => (x.f0, x.f1, x.f2)) (fun y => ⟨y.1, y.2.1, y.2.2⟩) (fun _ => rfl)) (by kernel_rfl) (by kernel_rfl)))))) Try.underlying25 (hval 0 25 v0 rfl rfl) h0 g0
  clear hA0 hval0 hsz0 hsz
  refine (recOf_walk x0 cs0 W hK0 ho0).mono fun e W' ⟨he, bel⟩ => ?_
  subst he
  exact ⟨_, rfl, _, _, _, [], _, [], hW', trodAll_mk1 (shut_bool Try.underlying4 _), (trodAll_cons_mk (Below.trod laidOut (by kernel_rfl) (of_decide_eq_true (by kernel_rfl)) k0 bel lt0) trodAll_mk0), rfl, bel.frame _, fun h => by cases h⟩
theorem over : Rows.recOfRow.holds Try.pinned (OpenSpec.ofChange Rows.recOfSpec) :=
  OpenClaim.holds_of_wide 6 Try.f6 rfl rfl rfl rfl rfl rfl rfl ⟨rfl, rfl, rfl, rfl, rfl⟩ rfl rfl rfl rfl rfl (by kernel_rfl) Try.func6 (by kernel_rfl)
    (of_decide_eq_true (by kernel_rfl)) (by unfold Func.isWrapper; first | (rw [if_pos (by decide +kernel)]; kernel_rfl) | (rw [if_neg (by decide +kernel)]; exact ⟨rfl, rfl⟩))
    (fun os started H enc _ => lifted os started H enc)
theorem proved : Rows.RecOfSaid := over
#print axioms proved
end Go.Proofs.Ytmafibbnojdpjaa.recOf
namespace Go.Proofs.Ytmafibbnojdpjaa
/-- The row, under a short name, for the claim. -/
theorem recOf_holds : Rows.RecOfSaid := recOf.proved
end Go.Proofs.Ytmafibbnojdpjaa
