/- StoreSees: the row, out of its walk and its plain half. For every input; no condition. -/
import Derived.Test.YtmafibbnojdpjaaRows
import Derived.WalkKit
import Derived.ProofKit
import Derived.OpenShut
import Derived.ShutString
import Derived.ChangeOld
import Derived.Below
import Derived.SizedLaws
import Derived.Carry
import Derived.ChangeAt
import Derived.Test.YtmafibbnojdpjaaSs91
import Derived.Test.YtmafibbnojdpjaaSs92
import Derived.Test.YtmafibbnojdpjaaSs93
import Derived.Test.YtmafibbnojdpjaaSs94
import Derived.Test.YtmafibbnojdpjaaSs95
import Derived.Test.YtmafibbnojdpjaaSs96
import Derived.Test.YtmafibbnojdpjaaSs97
import Derived.Test.YtmafibbnojdpjaaSs98
import Derived.Test.YtmafibbnojdpjaaSs99
import Derived.Test.YtmafibbnojdpjaaSs910
import Derived.Test.YtmafibbnojdpjaaSs911
import Derived.Test.YtmafibbnojdpjaaSs912
import Derived.Test.YtmafibbnojdpjaaSs913
import Derived.Test.YtmafibbnojdpjaaSs914
import Derived.Test.YtmafibbnojdpjaaSs915
import Derived.Test.YtmafibbnojdpjaaSs916
import Derived.Test.YtmafibbnojdpjaaSs917
import Derived.Test.YtmafibbnojdpjaaSs918
import Derived.Test.YtmafibbnojdpjaaSs919
import Derived.Test.YtmafibbnojdpjaaSs920
import Derived.Test.YtmafibbnojdpjaaSs921
set_option linter.unusedVariables false
namespace Go.Proofs.Ytmafibbnojdpjaa.storeSees
open Go.ChangeShapes Go.WideShapes Go.ChangeAt Go.RowKit Go.Proofs.Ytmafibbnojdpjaa Go.Proofs.Ytmafibbnojdpjaa.P Go.Proofs.Ytmafibbnojdpjaa.St Go.Proofs.Ytmafibbnojdpjaa.Tr Go.Proofs.YtmafibbnojdpjaaW.PrintWords
open Go.ChangeMaps (open_string shut_string)
theorem own : ownKnob Try.prog.godebug = none := by kernel_rfl
theorem laidOut : laidOutB Try.prog = true := by kernel_rfl
set_option maxRecDepth 100000 in
theorem lifted (os : Os) (started : os.Started) (H : Type) (enc : TypeId × Value → H) :
    ReturnsInHanded {} Try.checked os 13 .any (Rows.storeSeesSpec.pre6 enc Try.prog Try.f13 Rows.storeSeesRow.domain false) (Rows.storeSeesSpec.post enc Try.prog Try.f13 false true false false) := by
  refine returnsInHanded_of_change_sized (C := Try.checked) own started (by kernel_rfl) Try.func13
    (ChangeSpec.witness6 (enc := enc) (C := Try.checked) false ⟨#[], #[.int .i64 0, .slice none 0 0, .slice none 0 0, .string ByteArray.empty, .string ByteArray.empty, .string ByteArray.empty], []⟩ 8 (by kernel_rfl) (by kernel_rfl) (by kernel_rfl) (by kernel_rfl)) ?_
  intro W base args ds gs before hval0 hW hcnd hsz0 _
  have hsz : (DataW.weightsEach Try.prog (Try.f13.params.toList ++ Rows.storeSeesSpec.plain.varTypes Try.prog) (ds ++ gs)).all (· ≤ reachBytes) = true := hsz0
  have hval : ∀ (j : Nat) t v, Try.f13.params[j]? = some t → args[j]? = some v → Value.okWide Try.prog W .any base t v := hval0
  have hW' := hW
  obtain ⟨p, q, hA0, hV, rfl, hfz, hnd⟩ := hW
  have hA : DataW.TrodAll enc Try.prog W 0 (fun _ => true) true Try.f13.params.toList args.toList ds p := hA0
  rw [Try.params13] at hA hval hsz
  obtain ⟨v0, vs0, d0, ds0, p0, q0, hargs, rfl, rfl, h0, r0⟩ := trodAll_cons hA
  obtain ⟨v1, vs1, d1, ds1, p1, q1, rfl, rfl, rfl, h1, r1⟩ := trodAll_cons r0
  obtain ⟨v2, vs2, d2, ds2, p2, q2, rfl, rfl, rfl, h2, r2⟩ := trodAll_cons r1
  obtain ⟨v3, vs3, d3, ds3, p3, q3, rfl, rfl, rfl, h3, r3⟩ := trodAll_cons r2
  obtain ⟨v4, vs4, d4, ds4, p4, q4, rfl, rfl, rfl, h4, r4⟩ := trodAll_cons r3
  obtain ⟨v5, vs5, d5, ds5, p5, q5, rfl, rfl, rfl, h5, r5⟩ := trodAll_cons r4
  obtain ⟨rfl, rfl, rfl⟩ := trodAll_nil r5
  obtain rfl : args = #[v0, v1, v2, v3, v4, v5] := by cases args; simp_all
  obtain ⟨rfl, rfl⟩ := trodVars_none hV
  have hwt0 := Rd.weights_of hsz
  obtain ⟨g0, hwt1⟩ := Rd.weights_head hwt0
  obtain ⟨a0, rfl, rfl, rfl, w0⟩ := open_int Try.underlying3 (hval 0 3 v0 rfl rfl) h0
  obtain ⟨g1, hwt2⟩ := Rd.weights_head hwt1
  have k1 := h1
  have lt1 : ∀ x ∈ p1, x.block < W.heap.size := by obtain ⟨m, hm⟩ := k1; exact DataW.trod_lt m _ _ _ hm
  obtain ⟨l1, A1, c1, rfl, hl1, hC1, ho1⟩ := Rd.Rd.top_slice (Rd.Rd.slice (B := 40) Try.underlying22 (Rd.Rd.iso (Rd.Rd.struct Try.underlying31 (by kernel_rfl) (Rd.RdF.cons _ rfl (by kernel_rfl) (Rd.Rd.string Try.underlying9) (Rd.RdF.cons _ rfl (by kernel_rfl) (Rd.Rd.string Try.underlying9) (Rd.RdF.last _ rfl (by kernel_rfl) (Rd.Rd.bool Try.underlying4))))) (fun x : S31 => (x.f0, x.f1, x.f2)) (fun y => ⟨y.1, y.2.1, y.2.2⟩) (fun _ => rfl)) (by kernel_rfl) (by kernel_rfl)) Try.underlying22 (hval 1 22 v1 rfl rfl) h1 g1
  obtain ⟨g2, hwt3⟩ := Rd.weights_head hwt2
  have k2 := h2
  have lt2 : ∀ x ∈ p2, x.block < W.heap.size := by obtain ⟨m, hm⟩ := k2; exact DataW.trod_lt m _ _ _ hm
  obtain ⟨l2, A2, c2, rfl, hl2, hC2, ho2⟩ := Rd.Rd.top_slice (Rd.Rd.slice (B := 24) Try.underlying71 (Rd.Rd.slice (B := 40) Try.underlying22 (Rd.Rd.iso (Rd.Rd.struct Try.underlying31 (by kernel_rfl) (Rd.RdF.cons _ rfl (by kernel_rfl) (Rd.Rd.string Try.underlying9) (Rd.RdF.cons _ rfl (by kernel_rfl) (Rd.Rd.string Try.underlying9) (Rd.RdF.last _ rfl (by kernel_rfl) (Rd.Rd.bool Try.underlying4))))) (fun x : S31 => (x.f0, x.f1, x.f2)) (fun y => ⟨y.1, y.2.1, y.2.2⟩) (fun _ => rfl)) (by kernel_rfl) (by kernel_rfl)) (by kernel_rfl) (by kernel_rfl)) Try.underlying71 (hval 2 71 v2 rfl rfl) h2 g2
  obtain ⟨g3, hwt4⟩ := Rd.weights_head hwt3
  obtain ⟨a3, rfl, rfl, rfl, y3⟩ := open_string Try.underlying9 (hval 3 9 v3 rfl rfl) h3
  have w3 : a3.size ≤ 140737488351232 := by
    have z := g3 a3.data.toList.length (by simp [DataW.weights])
    rw [Array.length_toList] at z
    exact z
  obtain ⟨g4, hwt5⟩ := Rd.weights_head hwt4
  obtain ⟨a4, rfl, rfl, rfl, y4⟩ := open_string Try.underlying9 (hval 4 9 v4 rfl rfl) h4
  have w4 : a4.size ≤ 140737488351232 := by
    have z := g4 a4.data.toList.length (by simp [DataW.weights])
    rw [Array.length_toList] at z
    exact z
  obtain ⟨g5, hwt6⟩ := Rd.weights_head hwt5
  obtain ⟨a5, rfl, rfl, rfl, y5⟩ := open_string Try.underlying9 (hval 5 9 v5 rfl rfl) h5
  have w5 : a5.size ≤ 140737488351232 := by
    have z := g5 a5.data.toList.length (by simp [DataW.weights])
    rw [Array.length_toList] at z
    exact z
  clear hA0 hval0 hsz0 hsz
  refine (storeSees_walk a0 l1 A1 c1 l2 A2 c2 a3 a4 a5 W w0 hC1 hl1 ho1 hC2 hl2 ho2 w3 w4 w5).mono fun e W' ⟨he, bel⟩ => ?_
  subst he
  exact ⟨_, rfl, _, _, _, [], _, [], hW', trodAll_mk1 (shut_bool Try.underlying4 _), (trodAll_cons_mk (shut_int Try.underlying3 w0) (trodAll_cons_mk (Below.trod laidOut (by kernel_rfl) (of_decide_eq_true (by kernel_rfl)) k1 bel lt1) (trodAll_cons_mk (Below.trod laidOut (by kernel_rfl) (of_decide_eq_true (by kernel_rfl)) k2 bel lt2) (trodAll_cons_mk (shut_string Try.underlying9 y3) (trodAll_cons_mk (shut_string Try.underlying9 y4) (trodAll_cons_mk (shut_string Try.underlying9 y5) trodAll_mk0)))))), rfl, bel.frame _, fun h => by cases h⟩
theorem and_t {a b : Bool} (ha : a = true) (hb : b = true) : (a && b) = true := by rw [ha, hb]; rfl
theorem j_all : (Try.pinned.checked.prog.mayEnter && ((Rows.storeSeesRow.lifted == Try.pinned.checked.prog.liftsFinal) && (Try.pinned.checked.prog.make == some Rows.storeSeesRow.make))) = true := by kernel_rfl
theorem j_may : Try.pinned.checked.prog.mayEnter = true := (Bool.and_eq_true_iff.1 j_all).1
theorem j_lift : (Rows.storeSeesRow.lifted == Try.pinned.checked.prog.liftsFinal) = true := (Bool.and_eq_true_iff.1 (Bool.and_eq_true_iff.1 j_all).2).1
theorem j_make : (Try.pinned.checked.prog.make == some Rows.storeSeesRow.make) = true := (Bool.and_eq_true_iff.1 (Bool.and_eq_true_iff.1 j_all).2).2
theorem j_inPlace : (Rows.storeSeesRow.inPlace == Try.pinned.checked.prog.inPlace 13) = true := by kernel_rfl
theorem j_unfollowed : (Rows.storeSeesRow.unfollowed == Try.pinned.checked.prog.unfollowed 13) = true := by kernel_rfl
theorem j_recurses : (Rows.storeSeesRow.recurses == Try.pinned.checked.prog.recurses 13) = true := by kernel_rfl
theorem j_named : (Rows.storeSeesRow.named == Try.pinned.checked.prog.varsNamed 13) = true := by kernel_rfl
theorem closed : joinedFacts Try.pinned.checked.prog 13 Try.f13 Rows.storeSeesSpec Rows.storeSeesRow = true := by
  unfold joinedFacts
  repeat' (with_reducible refine and_t ?_ ?_)
  all_goals (first | (with_reducible exact j_inPlace) | (with_reducible exact j_unfollowed) | (with_reducible exact j_recurses) | (with_reducible exact j_named) | (with_reducible exact j_may) | (with_reducible exact j_lift) | (with_reducible exact j_make) | kernel_rfl)
theorem over : Rows.storeSeesRow.holds Try.pinned (OpenSpec.ofChange Rows.storeSeesSpec) :=
  OpenClaim.holds_of_wide 13 Try.f13 rfl rfl rfl rfl rfl rfl rfl ⟨rfl, rfl, rfl, rfl, rfl⟩ rfl rfl rfl rfl rfl (by kernel_rfl) Try.func13 closed
    (of_decide_eq_true (by kernel_rfl)) (by unfold Func.isWrapper; first | (rw [if_pos (by decide +kernel)]; kernel_rfl) | (rw [if_neg (by decide +kernel)]; exact ⟨rfl, rfl⟩))
    (fun os started H enc _ => lifted os started H enc)
theorem proved : Rows.StoreSeesSaid := over
#print axioms proved
end Go.Proofs.Ytmafibbnojdpjaa.storeSees
namespace Go.Proofs.Ytmafibbnojdpjaa
/-- The row, under a short name, for the claim. -/
theorem storeSees_holds : Rows.StoreSeesSaid := storeSees.proved
end Go.Proofs.Ytmafibbnojdpjaa
