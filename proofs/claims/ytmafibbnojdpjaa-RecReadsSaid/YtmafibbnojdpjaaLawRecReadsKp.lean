/- RecReads: the row, out of its walk and its plain half. For every input; no condition. -/
import Derived.Test.YtmafibbnojdpjaaRows
import Derived.WalkKit
import Derived.ProofKit
import Derived.OpenShut
import Derived.ShutString
import Derived.ChangeOld
import Derived.Below
import Derived.SizedLaws
import Derived.Carry
import Derived.ChangeAt
import Derived.Test.YtmafibbnojdpjaaKp1
import Derived.Test.YtmafibbnojdpjaaKp2
import Derived.Test.YtmafibbnojdpjaaKp3
import Derived.Test.YtmafibbnojdpjaaKp4
import Derived.Test.YtmafibbnojdpjaaKp5
import Derived.Test.YtmafibbnojdpjaaKp6
import Derived.Test.YtmafibbnojdpjaaKp7
import Derived.Test.YtmafibbnojdpjaaKp8
import Derived.Test.YtmafibbnojdpjaaKp9
import Derived.Test.YtmafibbnojdpjaaKp10
import Derived.Test.YtmafibbnojdpjaaKp11
import Derived.Test.YtmafibbnojdpjaaKp12
import Derived.Test.YtmafibbnojdpjaaKp13
import Derived.Test.YtmafibbnojdpjaaKp14
import Derived.Test.YtmafibbnojdpjaaKp15
import Derived.Test.YtmafibbnojdpjaaKp16
import Derived.Test.YtmafibbnojdpjaaKp17
set_option linter.unusedVariables false
namespace Go.Proofs.Ytmafibbnojdpjaa.recReads
open Go.ChangeShapes Go.WideShapes Go.ChangeAt Go.RowKit Go.Proofs.Ytmafibbnojdpjaa Go.Proofs.Ytmafibbnojdpjaa.P Go.Proofs.Ytmafibbnojdpjaa.St Go.Proofs.Ytmafibbnojdpjaa.Tr Go.Proofs.YtmafibbnojdpjaaW.PrintWords
open Go.ChangeMaps (open_string shut_string)
theorem own : ownKnob Try.prog.godebug = none := by kernel_rfl
set_option maxRecDepth 100000 in
theorem lifted (os : Os) (started : os.Started) (H : Type) (enc : TypeId × Value → H) :
    ReturnsInHanded {} Try.checked os 9 .any (Rows.recReadsSpec.pre6 enc Try.prog Try.f9 Rows.recReadsRow.domain false) (Rows.recReadsSpec.post enc Try.prog Try.f9 false true false false) := by
  refine returnsInHanded_of_change_sized (C := Try.checked) own started (by kernel_rfl) Try.func9
    (ChangeSpec.witness6 (enc := enc) (C := Try.checked) false ⟨#[], #[.string ByteArray.empty], []⟩ 8 (by kernel_rfl) (by kernel_rfl) (by kernel_rfl) (by kernel_rfl)) ?_
  intro W base args ds gs before hval0 hW hcnd hsz0 _
  have hsz : (DataW.weightsEach Try.prog (Try.f9.params.toList ++ Rows.recReadsSpec.plain.varTypes Try.prog) (ds ++ gs)).all (· ≤ reachBytes) = true := hsz0
  have hval : ∀ (j : Nat) t v, Try.f9.params[j]? = some t → args[j]? = some v → Value.okWide Try.prog W .any base t v := hval0
  have hW' := hW
  obtain ⟨p, q, hA0, hV, rfl, hfz, hnd⟩ := hW
  have hA : DataW.TrodAll enc Try.prog W 0 (fun _ => true) true Try.f9.params.toList args.toList ds p := hA0
  rw [Try.params9] at hA hval hsz
  obtain ⟨v0, vs0, d0, ds0, p0, q0, hargs, rfl, rfl, h0, r0⟩ := trodAll_cons hA
  obtain ⟨rfl, rfl, rfl⟩ := trodAll_nil r0
  obtain rfl : args = #[v0] := by cases args; simp_all
  obtain ⟨rfl, rfl⟩ := trodVars_none hV
  have hwt0 := Rd.weights_of hsz
  obtain ⟨g0, hwt1⟩ := Rd.weights_head hwt0
  obtain ⟨a0, rfl, rfl, rfl, y0⟩ := open_string Try.underlying9 (hval 0 9 v0 rfl rfl) h0
  have w0 : a0.size ≤ 140737488351232 := by
    have z := g0 a0.data.toList.length (by simp [DataW.weights])
    rw [Array.length_toList] at z
    exact z
  clear hA0 hval0 hsz0 hsz
  refine (recReads_walk a0 W w0).mono fun e W' ⟨he, bel⟩ => ?_
  subst he
  exact ⟨_, rfl, _, _, _, [], _, [], hW', trodAll_mk1 (shut_bool Try.underlying4 _), (trodAll_cons_mk (shut_string Try.underlying9 y0) trodAll_mk0), rfl, bel.frame _, fun h => by cases h⟩
theorem and_t {a b : Bool} (ha : a = true) (hb : b = true) : (a && b) = true := by rw [ha, hb]; rfl
theorem j_all : (Try.pinned.checked.prog.mayEnter && ((Rows.recReadsRow.lifted == Try.pinned.checked.prog.liftsFinal) && (Try.pinned.checked.prog.make == some Rows.recReadsRow.make))) = true := by kernel_rfl
theorem j_may : Try.pinned.checked.prog.mayEnter = true := (Bool.and_eq_true_iff.1 j_all).1
theorem j_lift : (Rows.recReadsRow.lifted == Try.pinned.checked.prog.liftsFinal) = true := (Bool.and_eq_true_iff.1 (Bool.and_eq_true_iff.1 j_all).2).1
theorem j_make : (Try.pinned.checked.prog.make == some Rows.recReadsRow.make) = true := (Bool.and_eq_true_iff.1 (Bool.and_eq_true_iff.1 j_all).2).2
theorem j_inPlace : (Rows.recReadsRow.inPlace == Try.pinned.checked.prog.inPlace 9) = true := by kernel_rfl
theorem j_unfollowed : (Rows.recReadsRow.unfollowed == Try.pinned.checked.prog.unfollowed 9) = true := by kernel_rfl
theorem j_recurses : (Rows.recReadsRow.recurses == Try.pinned.checked.prog.recurses 9) = true := by kernel_rfl
theorem j_named : (Rows.recReadsRow.named == Try.pinned.checked.prog.varsNamed 9) = true := by kernel_rfl
theorem closed : joinedFacts Try.pinned.checked.prog 9 Try.f9 Rows.recReadsSpec Rows.recReadsRow = true := by
  unfold joinedFacts
  repeat' (with_reducible refine and_t ?_ ?_)
  all_goals (first | (with_reducible exact j_inPlace) | (with_reducible exact j_unfollowed) | (with_reducible exact j_recurses) | (with_reducible exact j_named) | (with_reducible exact j_may) | (with_reducible exact j_lift) | (with_reducible exact j_make) | kernel_rfl)
theorem over : Rows.recReadsRow.holds Try.pinned (OpenSpec.ofChange Rows.recReadsSpec) :=
  OpenClaim.holds_of_wide 9 Try.f9 rfl rfl rfl rfl rfl rfl rfl ⟨rfl, rfl, rfl, rfl, rfl⟩ rfl rfl rfl rfl rfl (by kernel_rfl) Try.func9 closed
    (of_decide_eq_true (by kernel_rfl)) (by unfold Func.isWrapper; first | (rw [if_pos (by decide +kernel)]; kernel_rfl) | (rw [if_neg (by decide +kernel)]; exact ⟨rfl, rfl⟩))
    (fun os started H enc _ => lifted os started H enc)
theorem proved : Rows.RecReadsSaid := over
#print axioms proved
end Go.Proofs.Ytmafibbnojdpjaa.recReads
namespace Go.Proofs.Ytmafibbnojdpjaa
/-- The row, under a short name, for the claim. -/
theorem recReads_holds : Rows.RecReadsSaid := recReads.proved
end Go.Proofs.Ytmafibbnojdpjaa
