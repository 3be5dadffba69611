/- Tree, by hand: few. -/
import Derived.Test.YtmpcmpanolnpfaaCa
set_option linter.unusedVariables false
set_option linter.unusedSimpArgs false
namespace Go.Proofs.Ytmpcmpanolnpfaa.Tr
open Go.RowKit Go.Proofs.YtmpcmpanolnpfaaW.PrintWords Go.Proofs.YtmpcmpanolnpfaaW.PrintLast Go.Proofs.YtmpcmpanolnpfaaW.PrintMore

/-- an act: K, N, Key -/
structure S81 where
  f0 : Int
  f1 : Int
  f2 : ByteArray
def act0 : S81 := ⟨0, 0, ⟨#[]⟩⟩
def act (l : List S81) (i : Nat) : S81 := l.getD i act0
def ActsAt (w : World) (A : Option Addr) (l : List S81) : Prop := ∀ i, i < l.length → ∃ ad, A = some ad ∧ w.cell? (ad.add (i * 3)) = some (.int .i64 (act l i).f0) ∧ w.cell? ⟨(ad.add (i * 3)).block, (ad.add (i * 3)).off + 1, none⟩ = some (.int .i64 (act l i).f1) ∧ w.cell? ⟨(ad.add (i * 3)).block, (ad.add (i * 3)).off + 2, none⟩ = some (.string (act l i).f2)
theorem ActsAt.up {w w1 : World} (hb : Below w.heap.size w w1) {A : Option Addr} {l : List S81} (h : ActsAt w A l) : ActsAt w1 A l := fun i hi => by
  obtain ⟨ad, e, h0, h1, h2⟩ := h i hi
  exact ⟨ad, e, Tr.up hb h0, Tr.up hb h1, Tr.up hb h2⟩
def shortB (l : List S81) (i : Nat) : Bool := decide ((act l i).f2.size ≤ 40)
def fewB (l : List S81) : Bool := (List.range l.length).all (shortB l) && decide (l.length ≤ 200)
theorem act_eq {l : List S81} {i : Nat} (h : i < l.length) : act l i = l[i] := by simp [act, List.getD, h]
theorem fewB_spec {l : List S81} (h : fewB l = true) : l.length ≤ 200 ∧ ∀ a ∈ l, a.f2.size ≤ 40 := by
  unfold fewB at h
  rw [Bool.and_eq_true, List.all_eq_true, decide_eq_true_eq] at h
  refine ⟨h.2, fun a ha => ?_⟩
  obtain ⟨i, hi, e⟩ := List.mem_iff_getElem.1 ha
  have := h.1 i (List.mem_range.2 hi)
  unfold shortB at this
  rw [decide_eq_true_eq, act_eq hi, e] at this
  exact this
set_option maxHeartbeats 1000000 in
set_option maxRecDepth 100000 in
theorem few_any (A : Option Addr) (c : Nat) (l : List S81) (w : World) (hA : ActsAt w A l) (hn : l.length < 4611686018427387904) (hc : l.length ≤ c) (hk : ∀ a ∈ l, a.f2.size ≤ 140737488351232) :
    Calls Try.prog 18 #[.slice A l.length c] w fun e w' => e = .returned (.bool (fewB l)) ∧ Below w.heap.size w w' := by
  have HA := Aside0.mk hA
  have HK := Aside0.mk hk
  have HB0 : Aside0 (Below w.heap.size w w) := ⟨Below.refl _ _⟩
  clear hA hk
  go_enter Try.func18, Try.ntmps18
  go_wp2
  go_loopg [7] (l.length + 1) (fun kq v7 w' => ∃ i : Nat, v7 = .int .i64 (i : Int) ∧ i ≤ l.length ∧ l.length - i < kq ∧ Aside0 ((List.range i).all (shortB l) = true) ∧ Aside0 (Below w.heap.size w w'))
  case atStart => exact ⟨0, rfl, by omega, by omega, ⟨rfl⟩, HB0⟩
  case round =>
    obtain ⟨i, rfl, hi, hkk, HS, HB⟩ := hrel
    by_cases hlt : i < l.length
    · obtain ⟨ad, ea, f0, f1, f2⟩ := HA.out i hlt
      cases ea
      have f0 := up HB.out f0
      have f1 := up HB.out f1
      have f2 := up HB.out f2
      have hks := HK.out (act l i) (by rw [act_eq hlt]; exact List.getElem_mem hlt)
      obtain ⟨a, ha⟩ : ∃ a, a = act l i := ⟨_, rfl⟩
      rw [← ha] at f0 f1 f2 hks
      have HAA := Aside0.mk ha
      clear ha
      by_cases h40 : a.f2.size ≤ 40
      · have hle : ¬ (40 : Int) < (a.f2.size : Int) := by omega
        go_wp2
        go_roundg (gk - 1)
        case measure => omega
        case rel =>
          refine ⟨i + 1, by go_num, by omega, by omega, ⟨?_⟩, ⟨HB.out.alloc HB.out.size _⟩⟩
          rw [List.range_succ, List.all_append, HS.out]
          simp [shortB, ← HAA.out, h40]
      · have hle : (40 : Int) < (a.f2.size : Int) := by omega
        go_wp2
        go_ret
        refine ⟨?_, HB.out.alloc HB.out.size _⟩
        have : fewB l = false := by
          unfold fewB
          rw [Bool.and_eq_false_iff]
          left
          rw [List.all_eq_false]
          refine ⟨i, List.mem_range.2 hlt, ?_⟩
          simp [shortB, ← HAA.out, h40]
        rw [this]
        rfl
    · have hi2 : i = l.length := by omega
      have hall : fewB l = decide (l.length ≤ 200) := by
        have := HS.out
        rw [hi2] at this
        unfold fewB
        rw [this, Bool.true_and]
      have HF := Aside0.mk hall
      clear hall hi2
      go_wp2
      go_ret
      refine ⟨?_, HB.out⟩
      rw [HF.out]
      congr 2
      simp
      omega
end Go.Proofs.Ytmpcmpanolnpfaa.Tr
