/- WatchParts: the row, out of its walk and its plain half. For every input; no condition. -/
import Derived.Test.YtmafibbnojdpjaaRows
import Derived.WalkKit
import Derived.ProofKit
import Derived.OpenShut
import Derived.ShutString
import Derived.ChangeOld
import Derived.Below
import Derived.SizedLaws
import Derived.Carry
import Derived.ChangeAt
import Derived.Test.YtmafibbnojdpjaaWp1
import Derived.Test.YtmafibbnojdpjaaWp2
import Derived.Test.YtmafibbnojdpjaaWp3
import Derived.Test.YtmafibbnojdpjaaWp4
import Derived.Test.YtmafibbnojdpjaaWp5
import Derived.Test.YtmafibbnojdpjaaWp6
import Derived.Test.YtmafibbnojdpjaaWp7
import Derived.Test.YtmafibbnojdpjaaWp8
import Derived.Test.YtmafibbnojdpjaaWp9
import Derived.Test.YtmafibbnojdpjaaWp10
import Derived.Test.YtmafibbnojdpjaaWp11
import Derived.Test.YtmafibbnojdpjaaWp12
import Derived.Test.YtmafibbnojdpjaaWp13
import Derived.Test.YtmafibbnojdpjaaWp14
import Derived.Test.YtmafibbnojdpjaaWp15
import Derived.Test.YtmafibbnojdpjaaWp16
import Derived.Test.YtmafibbnojdpjaaWp17
import Derived.Test.YtmafibbnojdpjaaWp18
import Derived.Test.YtmafibbnojdpjaaWp19
import Derived.Test.YtmafibbnojdpjaaWp20
import Derived.Test.YtmafibbnojdpjaaWp21
set_option linter.unusedVariables false
namespace Go.Proofs.Ytmafibbnojdpjaa.watchParts
open Go.ChangeShapes Go.WideShapes Go.ChangeAt Go.RowKit Go.Proofs.Ytmafibbnojdpjaa Go.Proofs.Ytmafibbnojdpjaa.P Go.Proofs.Ytmafibbnojdpjaa.St Go.Proofs.Ytmafibbnojdpjaa.Tr Go.Proofs.YtmafibbnojdpjaaW.PrintWords
open Go.ChangeMaps (open_string shut_string)
theorem own : ownKnob Try.prog.godebug = none := by kernel_rfl
theorem laidOut : laidOutB Try.prog = true := by kernel_rfl
set_option maxRecDepth 100000 in
theorem lifted (os : Os) (started : os.Started) (H : Type) (enc : TypeId × Value → H) :
    ReturnsInHanded {} Try.checked os 18 .any (Rows.watchPartsSpec.pre6 enc Try.prog Try.f18 Rows.watchPartsRow.domain false) (Rows.watchPartsSpec.post enc Try.prog Try.f18 false true false false) := by
  refine returnsInHanded_of_change_sized (C := Try.checked) own started (by kernel_rfl) Try.func18
    (ChangeSpec.witness6 (enc := enc) (C := Try.checked) false ⟨#[], #[.slice none 0 0], []⟩ 8 (by kernel_rfl) (by kernel_rfl) (by kernel_rfl) (by kernel_rfl)) ?_
  intro W base args ds gs before hval0 hW hcnd hsz0 _
  have hsz : (DataW.weightsEach Try.prog (Try.f18.params.toList ++ Rows.watchPartsSpec.plain.varTypes Try.prog) (ds ++ gs)).all (· ≤ reachBytes) = true := hsz0
  have hval : ∀ (j : Nat) t v, Try.f18.params[j]? = some t → args[j]? = some v → Value.okWide Try.prog W .any base t v := hval0
  have hW' := hW
  obtain ⟨p, q, hA0, hV, rfl, hfz, hnd⟩ := hW
  have hA : DataW.TrodAll enc Try.prog W 0 (fun _ => true) true Try.f18.params.toList args.toList ds p := hA0
  rw [Try.params18] at hA hval hsz
  obtain ⟨v0, vs0, d0, ds0, p0, q0, hargs, rfl, rfl, h0, r0⟩ := trodAll_cons hA
  obtain ⟨rfl, rfl, rfl⟩ := trodAll_nil r0
  obtain rfl : args = #[v0] := by cases args; simp_all
  obtain ⟨rfl, rfl⟩ := trodVars_none hV
  have hwt0 := Rd.weights_of hsz
  obtain ⟨g0, hwt1⟩ := Rd.weights_head hwt0
  have k0 := h0
  have lt0 : ∀ x ∈ p0, x.block < W.heap.size := by obtain ⟨m, hm⟩ := k0; exact DataW.trod_lt m _ _ _ hm
  obtain ⟨l0, A0, c0, rfl, hl0, hC0, ho0⟩ := Rd.Rd.top_slice (Rd.Rd.slice (B := 24) Try.underlying71 (Rd.Rd.slice (B := 40) Try.underlying22 (Rd.Rd.iso (Rd.Rd.struct Try.underlying31 (by kernel_rfl) (Rd.RdF.cons _ rfl (by kernel_rfl) (Rd.Rd.string Try.underlying9) (Rd.RdF.cons _ rfl (by kernel_rfl) (Rd.Rd.string Try.underlying9) (Rd.RdF.last _ rfl (by kernel_rfl) (Rd.Rd.bool Try.underlying4))))) (fun x : S31 => (x.f0, x.f1, x.f2)) (fun y => ⟨y.1, y.2.1, y.2.2⟩) (fun _ => rfl)) (by kernel_rfl) (by kernel_rfl)) (by kernel_rfl) (by kernel_rfl)) Try.underlying71 (hval 0 71 v0 rfl rfl) h0 g0
  clear hA0 hval0 hsz0 hsz
  refine (watchParts_walk l0 A0 c0 W hC0 hl0 ho0).mono fun e W' ⟨he, bel⟩ => ?_
  subst he
  exact ⟨_, rfl, _, _, _, [], _, [], hW', trodAll_mk1 (shut_bool Try.underlying4 _), (trodAll_cons_mk (Below.trod laidOut (by kernel_rfl) (of_decide_eq_true (by kernel_rfl)) k0 bel lt0) trodAll_mk0), rfl, bel.frame _, fun h => by cases h⟩
theorem and_t {a b : Bool} (ha : a = true) (hb : b = true) : (a && b) = true := by rw [ha, hb]; rfl
theorem j_all : (Try.pinned.checked.prog.mayEnter && ((Rows.watchPartsRow.lifted == Try.pinned.checked.prog.liftsFinal) && (Try.pinned.checked.prog.make == some Rows.watchPartsRow.make))) = true := by kernel_rfl
theorem j_may : Try.pinned.checked.prog.mayEnter = true := (Bool.and_eq_true_iff.1 j_all).1
theorem j_lift : (Rows.watchPartsRow.lifted == Try.pinned.checked.prog.liftsFinal) = true := (Bool.and_eq_true_iff.1 (Bool.and_eq_true_iff.1 j_all).2).1
theorem j_make : (Try.pinned.checked.prog.make == some Rows.watchPartsRow.make) = true := (Bool.and_eq_true_iff.1 (Bool.and_eq_true_iff.1 j_all).2).2
theorem j_inPlace : (Rows.watchPartsRow.inPlace == Try.pinned.checked.prog.inPlace 18) = true := by kernel_rfl
theorem j_unfollowed : (Rows.watchPartsRow.unfollowed == Try.pinned.checked.prog.unfollowed 18) = true := by kernel_rfl
theorem j_recurses : (Rows.watchPartsRow.recurses == Try.pinned.checked.prog.recurses 18) = true := by kernel_rfl
theorem j_named : (Rows.watchPartsRow.named == Try.pinned.checked.prog.varsNamed 18) = true := by kernel_rfl
theorem closed : joinedFacts Try.pinned.checked.prog 18 Try.f18 Rows.watchPartsSpec Rows.watchPartsRow = true := by
  unfold joinedFacts
  repeat' (with_reducible refine and_t ?_ ?_)
  all_goals (first | (with_reducible exact j_inPlace) | (with_reducible exact j_unfollowed) | (with_reducible exact j_recurses) | (with_reducible exact j_named) | (with_reducible exact j_may) | (with_reducible exact j_lift) | (with_reducible exact j_make) | kernel_rfl)
theorem over : Rows.watchPartsRow.holds Try.pinned (OpenSpec.ofChange Rows.watchPartsSpec) :=
  OpenClaim.holds_of_wide 18 Try.f18 rfl rfl rfl rfl rfl rfl rfl ⟨rfl, rfl, rfl, rfl, rfl⟩ rfl rfl rfl rfl rfl (by kernel_rfl) Try.func18 closed
    (of_decide_eq_true (by kernel_rfl)) (by unfold Func.isWrapper; first | (rw [if_pos (by decide +kernel)]; kernel_rfl) | (rw [if_neg (by decide +kernel)]; exact ⟨rfl, rfl⟩))
    (fun os started H enc _ => lifted os started H enc)
theorem proved : Rows.WatchPartsSaid := over
#print axioms proved
end Go.Proofs.Ytmafibbnojdpjaa.watchParts
namespace Go.Proofs.Ytmafibbnojdpjaa
/-- The row, under a short name, for the claim. -/
theorem watchParts_holds : Rows.WatchPartsSaid := watchParts.proved
end Go.Proofs.Ytmafibbnojdpjaa
