/- StoreKeys: the row, out of its walk and its plain half. For every input; no condition. -/
import Derived.Test.YtmafibbnojdpjaaRows
import Derived.WalkKit
import Derived.ProofKit
import Derived.OpenShut
import Derived.ShutString
import Derived.ChangeOld
import Derived.Below
import Derived.SizedLaws
import Derived.Carry
import Derived.ChangeAt
import Derived.Test.YtmafibbnojdpjaaKs1
import Derived.Test.YtmafibbnojdpjaaKs2
import Derived.Test.YtmafibbnojdpjaaKs3
import Derived.Test.YtmafibbnojdpjaaKs4
import Derived.Test.YtmafibbnojdpjaaKs5
import Derived.Test.YtmafibbnojdpjaaKs6
import Derived.Test.YtmafibbnojdpjaaKs7
import Derived.Test.YtmafibbnojdpjaaKs8
import Derived.Test.YtmafibbnojdpjaaKs9
import Derived.Test.YtmafibbnojdpjaaKs10
import Derived.Test.YtmafibbnojdpjaaKs11
import Derived.Test.YtmafibbnojdpjaaKs12
import Derived.Test.YtmafibbnojdpjaaKs13
import Derived.Test.YtmafibbnojdpjaaKs14
import Derived.Test.YtmafibbnojdpjaaKs15
import Derived.Test.YtmafibbnojdpjaaKs16
import Derived.Test.YtmafibbnojdpjaaKs17
import Derived.Test.YtmafibbnojdpjaaKs18
import Derived.Test.YtmafibbnojdpjaaKs19
import Derived.Test.YtmafibbnojdpjaaKs20
import Derived.Test.YtmafibbnojdpjaaKs21
set_option linter.unusedVariables false
namespace Go.Proofs.Ytmafibbnojdpjaa.storeKeys
open Go.ChangeShapes Go.WideShapes Go.ChangeAt Go.RowKit Go.Proofs.Ytmafibbnojdpjaa Go.Proofs.Ytmafibbnojdpjaa.P Go.Proofs.Ytmafibbnojdpjaa.St Go.Proofs.Ytmafibbnojdpjaa.Tr Go.Proofs.YtmafibbnojdpjaaW.PrintWords
open Go.ChangeMaps (open_string shut_string)
theorem own : ownKnob Try.prog.godebug = none := by kernel_rfl
theorem laidOut : laidOutB Try.prog = true := by kernel_rfl
set_option maxRecDepth 100000 in
theorem lifted (os : Os) (started : os.Started) (H : Type) (enc : TypeId × Value → H) :
    ReturnsInHanded {} Try.checked os 12 .any (Rows.storeKeysSpec.pre6 enc Try.prog Try.f12 Rows.storeKeysRow.domain false) (Rows.storeKeysSpec.post enc Try.prog Try.f12 false true false false) := by
  refine returnsInHanded_of_change_sized (C := Try.checked) own started (by kernel_rfl) Try.func12
    (ChangeSpec.witness6 (enc := enc) (C := Try.checked) false ⟨#[], #[.slice none 0 0, .string ByteArray.empty], []⟩ 8 (by kernel_rfl) (by kernel_rfl) (by kernel_rfl) (by kernel_rfl)) ?_
  intro W base args ds gs before hval0 hW hcnd hsz0 _
  have hsz : (DataW.weightsEach Try.prog (Try.f12.params.toList ++ Rows.storeKeysSpec.plain.varTypes Try.prog) (ds ++ gs)).all (· ≤ reachBytes) = true := hsz0
  have hval : ∀ (j : Nat) t v, Try.f12.params[j]? = some t → args[j]? = some v → Value.okWide Try.prog W .any base t v := hval0
  have hW' := hW
  obtain ⟨p, q, hA0, hV, rfl, hfz, hnd⟩ := hW
  have hA : DataW.TrodAll enc Try.prog W 0 (fun _ => true) true Try.f12.params.toList args.toList ds p := hA0
  rw [Try.params12] at hA hval hsz
  obtain ⟨v0, vs0, d0, ds0, p0, q0, hargs, rfl, rfl, h0, r0⟩ := trodAll_cons hA
  obtain ⟨v1, vs1, d1, ds1, p1, q1, rfl, rfl, rfl, h1, r1⟩ := trodAll_cons r0
  obtain ⟨rfl, rfl, rfl⟩ := trodAll_nil r1
  obtain rfl : args = #[v0, v1] := by cases args; simp_all
  obtain ⟨rfl, rfl⟩ := trodVars_none hV
  have hwt0 := Rd.weights_of hsz
  obtain ⟨g0, hwt1⟩ := Rd.weights_head hwt0
  have k0 := h0
  have lt0 : ∀ x ∈ p0, x.block < W.heap.size := by obtain ⟨m, hm⟩ := k0; exact DataW.trod_lt m _ _ _ hm
  obtain ⟨l0, A0, c0, rfl, hl0, hC0, ho0⟩ := Rd.Rd.top_slice (Rd.Rd.slice (B := 24) Try.underlying71 (Rd.Rd.slice (B := 40) Try.underlying22 (Rd.Rd.iso (Rd.Rd.struct Try.underlying31 (by kernel_rfl) (Rd.RdF.cons _ rfl (by kernel_rfl) (Rd.Rd.string Try.underlying9) (Rd.RdF.cons _ rfl (by kernel_rfl) (Rd.Rd.string Try.underlying9) (Rd.RdF.last _ rfl (by kernel_rfl) (Rd.Rd.bool Try.underlying4))))) (fun x : S31 => (x.f0, x.f1, x.f2)) (fun y => ⟨y.1, y.2.1, y.2.2⟩) (fun _ => rfl)) (by kernel_rfl) (by kernel_rfl)) (by kernel_rfl) (by kernel_rfl)) Try.underlying71 (hval 0 71 v0 rfl rfl) h0 g0
  obtain ⟨g1, hwt2⟩ := Rd.weights_head hwt1
  obtain ⟨a1, rfl, rfl, rfl, y1⟩ := open_string Try.underlying9 (hval 1 9 v1 rfl rfl) h1
  have w1 : a1.size ≤ 140737488351232 := by
    have z := g1 a1.data.toList.length (by simp [DataW.weights])
    rw [Array.length_toList] at z
    exact z
  clear hA0 hval0 hsz0 hsz
  refine (storeKeys_walk l0 A0 c0 a1 W hC0 hl0 ho0 w1).mono fun e W' ⟨he, bel⟩ => ?_
  subst he
  exact ⟨_, rfl, _, _, _, [], _, [], hW', trodAll_mk1 (shut_bool Try.underlying4 _), (trodAll_cons_mk (Below.trod laidOut (by kernel_rfl) (of_decide_eq_true (by kernel_rfl)) k0 bel lt0) (trodAll_cons_mk (shut_string Try.underlying9 y1) trodAll_mk0)), rfl, bel.frame _, fun h => by cases h⟩
theorem and_t {a b : Bool} (ha : a = true) (hb : b = true) : (a && b) = true := by rw [ha, hb]; rfl
theorem j_all : (Try.pinned.checked.prog.mayEnter && ((Rows.storeKeysRow.lifted == Try.pinned.checked.prog.liftsFinal) && (Try.pinned.checked.prog.make == some Rows.storeKeysRow.make))) = true := by kernel_rfl
theorem j_may : Try.pinned.checked.prog.mayEnter = true := (Bool.and_eq_true_iff.1 j_all).1
theorem j_lift : (Rows.storeKeysRow.lifted == Try.pinned.checked.prog.liftsFinal) = true := (Bool.and_eq_true_iff.1 (Bool.and_eq_true_iff.1 j_all).2).1
theorem j_make : (Try.pinned.checked.prog.make == some Rows.storeKeysRow.make) = true := (Bool.and_eq_true_iff.1 (Bool.and_eq_true_iff.1 j_all).2).2
theorem j_inPlace : (Rows.storeKeysRow.inPlace == Try.pinned.checked.prog.inPlace 12) = true := by kernel_rfl
theorem j_unfollowed : (Rows.storeKeysRow.unfollowed == Try.pinned.checked.prog.unfollowed 12) = true := by kernel_rfl
theorem j_recurses : (Rows.storeKeysRow.recurses == Try.pinned.checked.prog.recurses 12) = true := by kernel_rfl
theorem j_named : (Rows.storeKeysRow.named == Try.pinned.checked.prog.varsNamed 12) = true := by kernel_rfl
theorem closed : joinedFacts Try.pinned.checked.prog 12 Try.f12 Rows.storeKeysSpec Rows.storeKeysRow = true := by
  unfold joinedFacts
  repeat' (with_reducible refine and_t ?_ ?_)
  all_goals (first | (with_reducible exact j_inPlace) | (with_reducible exact j_unfollowed) | (with_reducible exact j_recurses) | (with_reducible exact j_named) | (with_reducible exact j_may) | (with_reducible exact j_lift) | (with_reducible exact j_make) | kernel_rfl)
theorem over : Rows.storeKeysRow.holds Try.pinned (OpenSpec.ofChange Rows.storeKeysSpec) :=
  OpenClaim.holds_of_wide 12 Try.f12 rfl rfl rfl rfl rfl rfl rfl ⟨rfl, rfl, rfl, rfl, rfl⟩ rfl rfl rfl rfl rfl (by kernel_rfl) Try.func12 closed
    (of_decide_eq_true (by kernel_rfl)) (by unfold Func.isWrapper; first | (rw [if_pos (by decide +kernel)]; kernel_rfl) | (rw [if_neg (by decide +kernel)]; exact ⟨rfl, rfl⟩))
    (fun os started H enc _ => lifted os started H enc)
theorem proved : Rows.StoreKeysSaid := over
#print axioms proved
end Go.Proofs.Ytmafibbnojdpjaa.storeKeys
namespace Go.Proofs.Ytmafibbnojdpjaa
/-- The row, under a short name, for the claim. -/
theorem storeKeys_holds : Rows.StoreKeysSaid := storeKeys.proved
end Go.Proofs.Ytmafibbnojdpjaa
