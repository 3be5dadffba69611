/- DiskFalls: the row, out of its walk and its plain half. For every input; no condition. -/
import Derived.Test.YthcjoiflkhbpfaaRows
import Derived.WalkKit
import Derived.ProofKit
import Derived.OpenShut
import Derived.ShutString
import Derived.ChangeOld
import Derived.Below
import Derived.SizedLaws
import Derived.Carry
import Derived.ChangeAt
import Derived.Test.YthcjoiflkhbpfaaKf1
import Derived.Test.YthcjoiflkhbpfaaKf2
import Derived.Test.YthcjoiflkhbpfaaKf3
import Derived.Test.YthcjoiflkhbpfaaKf4
import Derived.Test.YthcjoiflkhbpfaaKf5
import Derived.Test.YthcjoiflkhbpfaaKf6
set_option linter.unusedVariables false
namespace Go.Proofs.Ythcjoiflkhbpfaa.diskFalls
open Go.ChangeShapes Go.WideShapes Go.ChangeAt Go.RowKit Go.Proofs.Ythcjoiflkhbpfaa Go.Proofs.Ythcjoiflkhbpfaa.P Go.Proofs.Ythcjoiflkhbpfaa.Dk  Go.Proofs.YthcjoiflkhbpfaaW.PrintWords
open Go.ChangeMaps (open_string shut_string)
theorem own : ownKnob Try.prog.godebug = none := by kernel_rfl
set_option maxRecDepth 100000 in
theorem lifted (os : Os) (started : os.Started) (H : Type) (enc : TypeId × Value → H) :
    ReturnsInHanded {} Try.checked os 3 .any (Rows.diskFallsSpec.pre6 enc Try.prog Try.f3 Rows.diskFallsRow.domain false) (Rows.diskFallsSpec.post enc Try.prog Try.f3 false true false false) := by
  refine returnsInHanded_of_change_sized (C := Try.checked) own started (by kernel_rfl) Try.func3
    (ChangeSpec.witness6 (enc := enc) (C := Try.checked) false ⟨#[], #[.int .i64 0, .int .i64 0], []⟩ 8 (by kernel_rfl) (by kernel_rfl) (by kernel_rfl) (by kernel_rfl)) ?_
  intro W base args ds gs before hval0 hW hcnd hsz0 _
  have hsz : (DataW.weightsEach Try.prog (Try.f3.params.toList ++ Rows.diskFallsSpec.plain.varTypes Try.prog) (ds ++ gs)).all (· ≤ reachBytes) = true := hsz0
  have hval : ∀ (j : Nat) t v, Try.f3.params[j]? = some t → args[j]? = some v → Value.okWide Try.prog W .any base t v := hval0
  have hW' := hW
  obtain ⟨p, q, hA0, hV, rfl, hfz, hnd⟩ := hW
  have hA : DataW.TrodAll enc Try.prog W 0 (fun _ => true) true Try.f3.params.toList args.toList ds p := hA0
  rw [Try.params3] at hA hval hsz
  obtain ⟨v0, vs0, d0, ds0, p0, q0, hargs, rfl, rfl, h0, r0⟩ := trodAll_cons hA
  obtain ⟨v1, vs1, d1, ds1, p1, q1, rfl, rfl, rfl, h1, r1⟩ := trodAll_cons r0
  obtain ⟨rfl, rfl, rfl⟩ := trodAll_nil r1
  obtain rfl : args = #[v0, v1] := by cases args; simp_all
  obtain ⟨rfl, rfl⟩ := trodVars_none hV
  have hwt0 := Rd.weights_of hsz
  obtain ⟨g0, hwt1⟩ := Rd.weights_head hwt0
  obtain ⟨a0, rfl, rfl, rfl, w0⟩ := open_int Try.underlying3 (hval 0 3 v0 rfl rfl) h0
  obtain ⟨g1, hwt2⟩ := Rd.weights_head hwt1
  obtain ⟨a1, rfl, rfl, rfl, w1⟩ := open_int Try.underlying3 (hval 1 3 v1 rfl rfl) h1
  clear hA0 hval0 hsz0 hsz
  refine (diskFalls_walk a0 a1 W w0 w1).mono fun e W' ⟨he, bel⟩ => ?_
  subst he
  exact ⟨_, rfl, _, _, _, [], _, [], hW', trodAll_mk1 (shut_bool Try.underlying4 _), (trodAll_cons_mk (shut_int Try.underlying3 w0) (trodAll_cons_mk (shut_int Try.underlying3 w1) trodAll_mk0)), rfl, bel.frame _, fun h => by cases h⟩
theorem and_t {a b : Bool} (ha : a = true) (hb : b = true) : (a && b) = true := by rw [ha, hb]; rfl
theorem j_all : (Try.pinned.checked.prog.mayEnter && ((Rows.diskFallsRow.lifted == Try.pinned.checked.prog.liftsFinal) && (Try.pinned.checked.prog.make == some Rows.diskFallsRow.make))) = true := by kernel_rfl
theorem j_may : Try.pinned.checked.prog.mayEnter = true := (Bool.and_eq_true_iff.1 j_all).1
theorem j_lift : (Rows.diskFallsRow.lifted == Try.pinned.checked.prog.liftsFinal) = true := (Bool.and_eq_true_iff.1 (Bool.and_eq_true_iff.1 j_all).2).1
theorem j_make : (Try.pinned.checked.prog.make == some Rows.diskFallsRow.make) = true := (Bool.and_eq_true_iff.1 (Bool.and_eq_true_iff.1 j_all).2).2
theorem j_inPlace : (Rows.diskFallsRow.inPlace == Try.pinned.checked.prog.inPlace 3) = true := by kernel_rfl
theorem j_unfollowed : (Rows.diskFallsRow.unfollowed == Try.pinned.checked.prog.unfollowed 3) = true := by kernel_rfl
theorem j_recurses : (Rows.diskFallsRow.recurses == Try.pinned.checked.prog.recurses 3) = true := by kernel_rfl
theorem j_named : (Rows.diskFallsRow.named == Try.pinned.checked.prog.varsNamed 3) = true := by kernel_rfl
theorem closed : joinedFacts Try.pinned.checked.prog 3 Try.f3 Rows.diskFallsSpec Rows.diskFallsRow = true := by
  unfold joinedFacts
  repeat' (with_reducible refine and_t ?_ ?_)
  all_goals (first | (with_reducible exact j_inPlace) | (with_reducible exact j_unfollowed) | (with_reducible exact j_recurses) | (with_reducible exact j_named) | (with_reducible exact j_may) | (with_reducible exact j_lift) | (with_reducible exact j_make) | kernel_rfl)
theorem over : Rows.diskFallsRow.holds Try.pinned (OpenSpec.ofChange Rows.diskFallsSpec) :=
  OpenClaim.holds_of_wide 3 Try.f3 rfl rfl rfl rfl rfl rfl rfl ⟨rfl, rfl, rfl, rfl, rfl⟩ rfl rfl rfl rfl rfl (by kernel_rfl) Try.func3 closed
    (of_decide_eq_true (by kernel_rfl)) (by unfold Func.isWrapper; first | (rw [if_pos (by decide +kernel)]; kernel_rfl) | (rw [if_neg (by decide +kernel)]; exact ⟨rfl, rfl⟩))
    (fun os started H enc _ => lifted os started H enc)
theorem proved : Rows.DiskFallsSaid := over
#print axioms proved
end Go.Proofs.Ythcjoiflkhbpfaa.diskFalls
namespace Go.Proofs.Ythcjoiflkhbpfaa
/-- The row, under a short name, for the claim. -/
theorem diskFalls_holds : Rows.DiskFallsSaid := diskFalls.proved
end Go.Proofs.Ythcjoiflkhbpfaa
