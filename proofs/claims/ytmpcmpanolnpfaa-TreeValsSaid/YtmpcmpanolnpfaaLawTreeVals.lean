/- TreeVals: the row, out of its walk and its plain half. For every input; no condition. -/
import Derived.Test.YtmpcmpanolnpfaaRows
import Derived.Test.YtmpcmpanolnpfaaSf
import Derived.Test.YtmpcmpanolnpfaaRd
import Derived.WalkKit
import Derived.ProofKit
import Derived.OpenShut
import Derived.ShutString
import Derived.ChangeOld
import Derived.Below
import Derived.SizedLaws
import Derived.Carry
import Derived.ChangeAt
set_option linter.unusedVariables false
namespace Go.Proofs.Ytmpcmpanolnpfaa.treeVals
open Go.ChangeShapes Go.WideShapes Go.ChangeAt Go.RowKit Go.Proofs.Ytmpcmpanolnpfaa Go.Proofs.Ytmpcmpanolnpfaa.Tr Go.Proofs.YtmpcmpanolnpfaaW.PrintWords
open Go.ChangeMaps (open_string shut_string)
theorem own : ownKnob Try.prog.godebug = none := by kernel_rfl
theorem laidOut : laidOutB Try.prog = true := by kernel_rfl
set_option maxRecDepth 100000 in
theorem lifted (os : Os) (started : os.Started) (H : Type) (enc : TypeId × Value → H) :
    ReturnsInHanded {} Try.checked os 5 .any (Rows.treeValsSpec.pre6 enc Try.prog Try.f5 Rows.treeValsRow.domain false) (Rows.treeValsSpec.post enc Try.prog Try.f5 false true false false) := by
  refine returnsInHanded_of_change_sized (C := Try.checked) own started (by kernel_rfl) Try.func5
    (ChangeSpec.witness6 (enc := enc) (C := Try.checked) false ⟨#[], #[.slice none 0 0, .slice none 0 0], []⟩ 8 (by kernel_rfl) (by kernel_rfl) (by kernel_rfl) (by kernel_rfl)) ?_
  intro W base args ds gs before hval0 hW hcnd hsz0 _
  have hsz : (DataW.weightsEach Try.prog (Try.f5.params.toList ++ Rows.treeValsSpec.plain.varTypes Try.prog) (ds ++ gs)).all (· ≤ reachBytes) = true := hsz0
  have hval : ∀ (j : Nat) t v, Try.f5.params[j]? = some t → args[j]? = some v → Value.okWide Try.prog W .any base t v := hval0
  have hW' := hW
  obtain ⟨p, q, hA0, hV, rfl, hfz, hnd⟩ := hW
  have hA : DataW.TrodAll enc Try.prog W 0 (fun _ => true) true Try.f5.params.toList args.toList ds p := hA0
  rw [Try.params5] at hA hval hsz
  obtain ⟨v0, vs0, d0, ds0, p0, q0, hargs, rfl, rfl, h0, r0⟩ := trodAll_cons hA
  obtain ⟨v1, vs1, d1, ds1, p1, q1, rfl, rfl, rfl, h1, r1⟩ := trodAll_cons r0
  obtain ⟨rfl, rfl, rfl⟩ := trodAll_nil r1
  obtain rfl : args = #[v0, v1] := by cases args; simp_all
  obtain ⟨rfl, rfl⟩ := trodVars_none hV
  have hwt0 := Rd.weights_of hsz
  obtain ⟨g0, hwt1⟩ := Rd.weights_head hwt0
  have k0 := h0
  have lt0 : ∀ x ∈ p0, x.block < W.heap.size := by obtain ⟨m, hm⟩ := k0; exact DataW.trod_lt m _ _ _ hm
  obtain ⟨l0, A0, c0, rfl, hl0, hC0, ho0⟩ := Rd.Rd.top_slice (Rd.Rd.slice (B := 16) Try.underlying36 (Rd.Rd.string Try.underlying9) (by kernel_rfl) (by kernel_rfl)) Try.underlying36 (hval 0 36 v0 rfl rfl) h0 g0
  obtain ⟨g1, hwt2⟩ := Rd.weights_head hwt1
  have k1 := h1
  have lt1 : ∀ x ∈ p1, x.block < W.heap.size := by obtain ⟨m, hm⟩ := k1; exact DataW.trod_lt m _ _ _ hm
  obtain ⟨l1, A1, c1, rfl, hl1, hC1, ho1⟩ := Rd.Rd.top_slice (Rd.Rd.slice (B := 16) Try.underlying36 (Rd.Rd.string Try.underlying9) (by kernel_rfl) (by kernel_rfl)) Try.underlying36 (hval 1 36 v1 rfl rfl) h1 g1
  clear hA0 hval0 hsz0 hsz
  refine (Go.Proofs.Ytmpcmpanolnpfaa.Tr.Sr.vals_walk l0 A0 c0 l1 A1 c1 W hC0 hl0 ho0 hC1 hl1 ho1).mono fun e W' ⟨he, bel⟩ => ?_
  subst he
  exact ⟨_, rfl, _, _, _, [], _, [], hW', trodAll_mk1 (shut_bool Try.underlying4 _), (trodAll_cons_mk (Below.trod laidOut (by kernel_rfl) (of_decide_eq_true (by kernel_rfl)) k0 bel lt0) (trodAll_cons_mk (Below.trod laidOut (by kernel_rfl) (of_decide_eq_true (by kernel_rfl)) k1 bel lt1) trodAll_mk0)), rfl, bel.frame _, fun h => by cases h⟩
theorem over : Rows.treeValsRow.holds Try.pinned (OpenSpec.ofChange Rows.treeValsSpec) :=
  OpenClaim.holds_of_wide 5 Try.f5 rfl rfl rfl rfl rfl rfl rfl ⟨rfl, rfl, rfl, rfl, rfl⟩ rfl rfl rfl rfl rfl (by kernel_rfl) Try.func5 (by kernel_rfl)
    (of_decide_eq_true (by kernel_rfl)) (by unfold Func.isWrapper; first | (rw [if_pos (by decide +kernel)]; kernel_rfl) | (rw [if_neg (by decide +kernel)]; exact ⟨rfl, rfl⟩))
    (fun os started H enc _ => lifted os started H enc)
theorem proved : Rows.TreeValsSaid := over
#print axioms proved
end Go.Proofs.Ytmpcmpanolnpfaa.treeVals
namespace Go.Proofs.Ytmpcmpanolnpfaa
/-- The row, under a short name, for the claim. -/
theorem treeVals_holds : Rows.TreeValsSaid := treeVals.proved
end Go.Proofs.Ytmpcmpanolnpfaa
