/- StoreFrees: the row, out of its walk and its plain half. For every input; no condition. -/
import Derived.Test.YtmafibbnojdpjaaRows
import Derived.WalkKit
import Derived.ProofKit
import Derived.OpenShut
import Derived.ShutString
import Derived.ChangeOld
import Derived.Below
import Derived.SizedLaws
import Derived.Carry
import Derived.ChangeAt
import Derived.Test.YtmafibbnojdpjaaSf1
import Derived.Test.YtmafibbnojdpjaaSf2
import Derived.Test.YtmafibbnojdpjaaSf3
import Derived.Test.YtmafibbnojdpjaaSf4
import Derived.Test.YtmafibbnojdpjaaSf5
import Derived.Test.YtmafibbnojdpjaaSf6
import Derived.Test.YtmafibbnojdpjaaSf7
import Derived.Test.YtmafibbnojdpjaaSf8
import Derived.Test.YtmafibbnojdpjaaSf9
import Derived.Test.YtmafibbnojdpjaaSf10
import Derived.Test.YtmafibbnojdpjaaSf11
import Derived.Test.YtmafibbnojdpjaaSf12
import Derived.Test.YtmafibbnojdpjaaSf13
import Derived.Test.YtmafibbnojdpjaaSf14
import Derived.Test.YtmafibbnojdpjaaSf15
import Derived.Test.YtmafibbnojdpjaaSf16
import Derived.Test.YtmafibbnojdpjaaSf17
import Derived.Test.YtmafibbnojdpjaaSf18
import Derived.Test.YtmafibbnojdpjaaSf19
import Derived.Test.YtmafibbnojdpjaaSf20
import Derived.Test.YtmafibbnojdpjaaSf21
set_option linter.unusedVariables false
namespace Go.Proofs.Ytmafibbnojdpjaa.storeFrees
open Go.ChangeShapes Go.WideShapes Go.ChangeAt Go.RowKit Go.Proofs.Ytmafibbnojdpjaa Go.Proofs.Ytmafibbnojdpjaa.P Go.Proofs.Ytmafibbnojdpjaa.St Go.Proofs.Ytmafibbnojdpjaa.Tr Go.Proofs.YtmafibbnojdpjaaW.PrintWords
open Go.ChangeMaps (open_string shut_string)
theorem own : ownKnob Try.prog.godebug = none := by kernel_rfl
theorem laidOut : laidOutB Try.prog = true := by kernel_rfl
set_option maxRecDepth 100000 in
theorem lifted (os : Os) (started : os.Started) (H : Type) (enc : TypeId × Value → H) :
    ReturnsInHanded {} Try.checked os 19 .any (Rows.storeFreesSpec.pre6 enc Try.prog Try.f19 Rows.storeFreesRow.domain false) (Rows.storeFreesSpec.post enc Try.prog Try.f19 false true false false) := by
  refine returnsInHanded_of_change_sized (C := Try.checked) own started (by kernel_rfl) Try.func19
    (ChangeSpec.witness6 (enc := enc) (C := Try.checked) false ⟨#[], #[.slice none 0 0, .slice none 0 0, .int .i64 0], []⟩ 8 (by kernel_rfl) (by kernel_rfl) (by kernel_rfl) (by kernel_rfl)) ?_
  intro W base args ds gs before hval0 hW hcnd hsz0 _
  have hsz : (DataW.weightsEach Try.prog (Try.f19.params.toList ++ Rows.storeFreesSpec.plain.varTypes Try.prog) (ds ++ gs)).all (· ≤ reachBytes) = true := hsz0
  have hval : ∀ (j : Nat) t v, Try.f19.params[j]? = some t → args[j]? = some v → Value.okWide Try.prog W .any base t v := hval0
  have hW' := hW
  obtain ⟨p, q, hA0, hV, rfl, hfz, hnd⟩ := hW
  have hA : DataW.TrodAll enc Try.prog W 0 (fun _ => true) true Try.f19.params.toList args.toList ds p := hA0
  rw [Try.params19] at hA hval hsz
  obtain ⟨v0, vs0, d0, ds0, p0, q0, hargs, rfl, rfl, h0, r0⟩ := trodAll_cons hA
  obtain ⟨v1, vs1, d1, ds1, p1, q1, rfl, rfl, rfl, h1, r1⟩ := trodAll_cons r0
  obtain ⟨v2, vs2, d2, ds2, p2, q2, rfl, rfl, rfl, h2, r2⟩ := trodAll_cons r1
  obtain ⟨rfl, rfl, rfl⟩ := trodAll_nil r2
  obtain rfl : args = #[v0, v1, v2] := by cases args; simp_all
  obtain ⟨rfl, rfl⟩ := trodVars_none hV
  have hwt0 := Rd.weights_of hsz
  obtain ⟨g0, hwt1⟩ := Rd.weights_head hwt0
  have k0 := h0
  have lt0 : ∀ x ∈ p0, x.block < W.heap.size := by obtain ⟨m, hm⟩ := k0; exact DataW.trod_lt m _ _ _ hm
  obtain ⟨l0, A0, c0, rfl, hl0, hC0, ho0⟩ := Rd.Rd.top_slice (Rd.Rd.slice (B := 24) Try.underlying71 (Rd.Rd.slice (B := 40) Try.underlying22 (Rd.Rd.iso (Rd.Rd.struct Try.underlying31 (by kernel_rfl) (Rd.RdF.cons _ rfl (by kernel_rfl) (Rd.Rd.string Try.underlying9) (Rd.RdF.cons _ rfl (by kernel_rfl) (Rd.Rd.string Try.underlying9) (Rd.RdF.last _ rfl (by kernel_rfl) (Rd.Rd.bool Try.underlying4))))) (fun x : S31 => (x.f0, x.f1, x.f2)) (fun y => ⟨y.1, y.2.1, y.2.2⟩) (fun _ => rfl)) (by kernel_rfl) (by kernel_rfl)) (by kernel_rfl) (by kernel_rfl)) Try.underlying71 (hval 0 71 v0 rfl rfl) h0 g0
  obtain ⟨g1, hwt2⟩ := Rd.weights_head hwt1
  have k1 := h1
  have lt1 : ∀ x ∈ p1, x.block < W.heap.size := by obtain ⟨m, hm⟩ := k1; exact DataW.trod_lt m _ _ _ hm
  obtain ⟨l1, A1, c1, rfl, hl1, hC1, ho1⟩ := Rd.Rd.top_slice (Rd.Rd.slice (B := 40) Try.underlying22 (Rd.Rd.iso (Rd.Rd.struct Try.underlying31 (by kernel_rfl) (Rd.RdF.cons _ rfl (by kernel_rfl) (Rd.Rd.string Try.underlying9) (Rd.RdF.cons _ rfl (by kernel_rfl) (Rd.Rd.string Try.underlying9) (Rd.RdF.last _ rfl (by kernel_rfl) (Rd.Rd.bool Try.underlying4))))) (fun x : S31 => (x.f0, x.f1, x.f2)) (fun y => ⟨y.1, y.2.1, y.2.2⟩) (fun _ => rfl)) (by kernel_rfl) (by kernel_rfl)) Try.underlying22 (hval 1 22 v1 rfl rfl) h1 g1
  obtain ⟨g2, hwt3⟩ := Rd.weights_head hwt2
  obtain ⟨a2, rfl, rfl, rfl, w2⟩ := open_int Try.underlying3 (hval 2 3 v2 rfl rfl) h2
  clear hA0 hval0 hsz0 hsz
  refine (storeFrees_walk l0 A0 c0 l1 A1 c1 a2 W hC0 hl0 ho0 hC1 hl1 ho1 w2).mono fun e W' ⟨he, bel⟩ => ?_
  subst he
  exact ⟨_, rfl, _, _, _, [], _, [], hW', trodAll_mk1 (shut_bool Try.underlying4 _), (trodAll_cons_mk (Below.trod laidOut (by kernel_rfl) (of_decide_eq_true (by kernel_rfl)) k0 bel lt0) (trodAll_cons_mk (Below.trod laidOut (by kernel_rfl) (of_decide_eq_true (by kernel_rfl)) k1 bel lt1) (trodAll_cons_mk (shut_int Try.underlying3 w2) trodAll_mk0))), rfl, bel.frame _, fun h => by cases h⟩
theorem and_t {a b : Bool} (ha : a = true) (hb : b = true) : (a && b) = true := by rw [ha, hb]; rfl
theorem j_all : (Try.pinned.checked.prog.mayEnter && ((Rows.storeFreesRow.lifted == Try.pinned.checked.prog.liftsFinal) && (Try.pinned.checked.prog.make == some Rows.storeFreesRow.make))) = true := by kernel_rfl
theorem j_may : Try.pinned.checked.prog.mayEnter = true := (Bool.and_eq_true_iff.1 j_all).1
theorem j_lift : (Rows.storeFreesRow.lifted == Try.pinned.checked.prog.liftsFinal) = true := (Bool.and_eq_true_iff.1 (Bool.and_eq_true_iff.1 j_all).2).1
theorem j_make : (Try.pinned.checked.prog.make == some Rows.storeFreesRow.make) = true := (Bool.and_eq_true_iff.1 (Bool.and_eq_true_iff.1 j_all).2).2
theorem j_inPlace : (Rows.storeFreesRow.inPlace == Try.pinned.checked.prog.inPlace 19) = true := by kernel_rfl
theorem j_unfollowed : (Rows.storeFreesRow.unfollowed == Try.pinned.checked.prog.unfollowed 19) = true := by kernel_rfl
theorem j_recurses : (Rows.storeFreesRow.recurses == Try.pinned.checked.prog.recurses 19) = true := by kernel_rfl
theorem j_named : (Rows.storeFreesRow.named == Try.pinned.checked.prog.varsNamed 19) = true := by kernel_rfl
theorem closed : joinedFacts Try.pinned.checked.prog 19 Try.f19 Rows.storeFreesSpec Rows.storeFreesRow = true := by
  unfold joinedFacts
  repeat' (with_reducible refine and_t ?_ ?_)
  all_goals (first | (with_reducible exact j_inPlace) | (with_reducible exact j_unfollowed) | (with_reducible exact j_recurses) | (with_reducible exact j_named) | (with_reducible exact j_may) | (with_reducible exact j_lift) | (with_reducible exact j_make) | kernel_rfl)
theorem over : Rows.storeFreesRow.holds Try.pinned (OpenSpec.ofChange Rows.storeFreesSpec) :=
  OpenClaim.holds_of_wide 19 Try.f19 rfl rfl rfl rfl rfl rfl rfl ⟨rfl, rfl, rfl, rfl, rfl⟩ rfl rfl rfl rfl rfl (by kernel_rfl) Try.func19 closed
    (of_decide_eq_true (by kernel_rfl)) (by unfold Func.isWrapper; first | (rw [if_pos (by decide +kernel)]; kernel_rfl) | (rw [if_neg (by decide +kernel)]; exact ⟨rfl, rfl⟩))
    (fun os started H enc _ => lifted os started H enc)
theorem proved : Rows.StoreFreesSaid := over
#print axioms proved
end Go.Proofs.Ytmafibbnojdpjaa.storeFrees
namespace Go.Proofs.Ytmafibbnojdpjaa
/-- The row, under a short name, for the claim. -/
theorem storeFrees_holds : Rows.StoreFreesSaid := storeFrees.proved
end Go.Proofs.Ytmafibbnojdpjaa
