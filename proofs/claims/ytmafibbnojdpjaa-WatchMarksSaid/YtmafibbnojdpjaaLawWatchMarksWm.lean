/- WatchMarks: the row, out of its walk and its plain half. For every input; no condition. -/
import Derived.Test.YtmafibbnojdpjaaRows
import Derived.WalkKit
import Derived.ProofKit
import Derived.OpenShut
import Derived.ShutString
import Derived.ChangeOld
import Derived.Below
import Derived.SizedLaws
import Derived.Carry
import Derived.ChangeAt
import Derived.Test.YtmafibbnojdpjaaWm1
import Derived.Test.YtmafibbnojdpjaaWm2
import Derived.Test.YtmafibbnojdpjaaWm3
import Derived.Test.YtmafibbnojdpjaaWm4
import Derived.Test.YtmafibbnojdpjaaWm5
import Derived.Test.YtmafibbnojdpjaaWm6
import Derived.Test.YtmafibbnojdpjaaWm7
import Derived.Test.YtmafibbnojdpjaaWm8
import Derived.Test.YtmafibbnojdpjaaWm9
import Derived.Test.YtmafibbnojdpjaaWm10
import Derived.Test.YtmafibbnojdpjaaWm11
import Derived.Test.YtmafibbnojdpjaaWm12
import Derived.Test.YtmafibbnojdpjaaWm13
import Derived.Test.YtmafibbnojdpjaaWm14
import Derived.Test.YtmafibbnojdpjaaWm15
import Derived.Test.YtmafibbnojdpjaaWm16
set_option linter.unusedVariables false
namespace Go.Proofs.Ytmafibbnojdpjaa.watchMarks
open Go.ChangeShapes Go.WideShapes Go.ChangeAt Go.RowKit Go.Proofs.Ytmafibbnojdpjaa Go.Proofs.Ytmafibbnojdpjaa.P Go.Proofs.Ytmafibbnojdpjaa.St Go.Proofs.Ytmafibbnojdpjaa.Tr Go.Proofs.YtmafibbnojdpjaaW.PrintWords
open Go.ChangeMaps (open_string shut_string)
theorem own : ownKnob Try.prog.godebug = none := by kernel_rfl
theorem laidOut : laidOutB Try.prog = true := by kernel_rfl
set_option maxRecDepth 100000 in
theorem lifted (os : Os) (started : os.Started) (H : Type) (enc : TypeId × Value → H) :
    ReturnsInHanded {} Try.checked os 5 .any (Rows.watchMarksSpec.pre6 enc Try.prog Try.f5 Rows.watchMarksRow.domain false) (Rows.watchMarksSpec.post enc Try.prog Try.f5 false true false false) := by
  refine returnsInHanded_of_change_sized (C := Try.checked) own started (by kernel_rfl) Try.func5
    (ChangeSpec.witness6 (enc := enc) (C := Try.checked) false ⟨#[], #[.slice none 0 0, .int .i64 0], []⟩ 8 (by kernel_rfl) (by kernel_rfl) (by kernel_rfl) (by kernel_rfl)) ?_
  intro W base args ds gs before hval0 hW hcnd hsz0 _
  have hsz : (DataW.weightsEach Try.prog (Try.f5.params.toList ++ Rows.watchMarksSpec.plain.varTypes Try.prog) (ds ++ gs)).all (· ≤ reachBytes) = true := hsz0
  have hval : ∀ (j : Nat) t v, Try.f5.params[j]? = some t → args[j]? = some v → Value.okWide Try.prog W .any base t v := hval0
  have hW' := hW
  obtain ⟨p, q, hA0, hV, rfl, hfz, hnd⟩ := hW
  have hA : DataW.TrodAll enc Try.prog W 0 (fun _ => true) true Try.f5.params.toList args.toList ds p := hA0
  rw [Try.params5] at hA hval hsz
  obtain ⟨v0, vs0, d0, ds0, p0, q0, hargs, rfl, rfl, h0, r0⟩ := trodAll_cons hA
  obtain ⟨v1, vs1, d1, ds1, p1, q1, rfl, rfl, rfl, h1, r1⟩ := trodAll_cons r0
  obtain ⟨rfl, rfl, rfl⟩ := trodAll_nil r1
  obtain rfl : args = #[v0, v1] := by cases args; simp_all
  obtain ⟨rfl, rfl⟩ := trodVars_none hV
  have hwt0 := Rd.weights_of hsz
  obtain ⟨g0, hwt1⟩ := Rd.weights_head hwt0
  have k0 := h0
  have lt0 : ∀ x ∈ p0, x.block < W.heap.size := by obtain ⟨m, hm⟩ := k0; exact DataW.trod_lt m _ _ _ hm
  obtain ⟨l0, A0, c0, rfl, hl0, hC0, ho0⟩ := Rd.Rd.top_slice (Rd.Rd.slice (B := 24) Try.underlying46 (Rd.Rd.iso (Rd.Rd.struct Try.underlying49 (by kernel_rfl) (Rd.RdF.cons _ rfl (by kernel_rfl) (Rd.Rd.int Try.underlying3) (Rd.RdF.cons _ rfl (by kernel_rfl) (Rd.Rd.int Try.underlying3) (Rd.RdF.last _ rfl (by kernel_rfl) (Rd.Rd.int Try.underlying3))))) (fun x : S49 => (x.f0, x.f1, x.f2)) (fun y => ⟨y.1, y.2.1, y.2.2⟩) (fun _ => rfl)) (by kernel_rfl) (by kernel_rfl)) Try.underlying46 (hval 0 46 v0 rfl rfl) h0 g0
  obtain ⟨g1, hwt2⟩ := Rd.weights_head hwt1
  obtain ⟨a1, rfl, rfl, rfl, w1⟩ := open_int Try.underlying3 (hval 1 3 v1 rfl rfl) h1
  clear hA0 hval0 hsz0 hsz
  refine (watchMarks_walk l0 A0 c0 a1 W hC0 hl0 ho0 w1).mono fun e W' ⟨he, bel⟩ => ?_
  subst he
  exact ⟨_, rfl, _, _, _, [], _, [], hW', trodAll_mk1 (shut_bool Try.underlying4 _), (trodAll_cons_mk (Below.trod laidOut (by kernel_rfl) (of_decide_eq_true (by kernel_rfl)) k0 bel lt0) (trodAll_cons_mk (shut_int Try.underlying3 w1) trodAll_mk0)), rfl, bel.frame _, fun h => by cases h⟩
theorem over : Rows.watchMarksRow.holds Try.pinned (OpenSpec.ofChange Rows.watchMarksSpec) :=
  OpenClaim.holds_of_wide 5 Try.f5 rfl rfl rfl rfl rfl rfl rfl ⟨rfl, rfl, rfl, rfl, rfl⟩ rfl rfl rfl rfl rfl (by kernel_rfl) Try.func5 (by kernel_rfl)
    (of_decide_eq_true (by kernel_rfl)) (by unfold Func.isWrapper; first | (rw [if_pos (by decide +kernel)]; kernel_rfl) | (rw [if_neg (by decide +kernel)]; exact ⟨rfl, rfl⟩))
    (fun os started H enc _ => lifted os started H enc)
theorem proved : Rows.WatchMarksSaid := over
#print axioms proved
end Go.Proofs.Ytmafibbnojdpjaa.watchMarks
namespace Go.Proofs.Ytmafibbnojdpjaa
/-- The row, under a short name, for the claim. -/
theorem watchMarks_holds : Rows.WatchMarksSaid := watchMarks.proved
end Go.Proofs.Ytmafibbnojdpjaa
