/- Lemmas that the proof needs, part 10. -/
import Derived.Test.YtmafibbnojdpjaaRb1
import Derived.Test.YtmafibbnojdpjaaRb2
import Derived.Test.YtmafibbnojdpjaaRb3
import Derived.Test.YtmafibbnojdpjaaRb4
import Derived.Test.YtmafibbnojdpjaaRb5
import Derived.Test.YtmafibbnojdpjaaRb6
import Derived.Test.YtmafibbnojdpjaaRb7
import Derived.Test.YtmafibbnojdpjaaRb8
import Derived.Test.YtmafibbnojdpjaaRb9
section
set_option linter.unusedVariables false
set_option maxRecDepth 100000
set_option linter.unusedSimpArgs false
namespace Go.Proofs.Ytmafibbnojdpjaa.St
open Go.Proofs.Ytmafibbnojdpjaa.Tr Go.RowKit Go.Proofs.YtmafibbnojdpjaaW.PrintWords Go.Proofs.Ytmafibbnojdpjaa.P
theorem ev_pos {α : Type} {c : Prop} [Decidable c] {f g : Nat → Option α} {r : α} (h : c) (k : Ev f r) : Ev (fun n => if c then f n else g n) r := by
  simp only [if_pos h]; exact k
theorem ev_neg {α : Type} {c : Prop} [Decidable c] {f g : Nat → Option α} {r : α} (h : ¬ c) (k : Ev g r) : Ev (fun n => if c then f n else g n) r := by
  simp only [if_neg h]; exact k
theorem ev_bind {α β : Type} {g : Nat → Option α} {f : Nat → α → Option β} {a : α} {r : β} (h : Ev g a) (k : Ev (fun n => f n a) r) : Ev (fun n => (g n).bind (f n)) r := h.bind k
theorem w64 {x : Int} (h0 : -9223372036854775808 ≤ x) (h1 : x < 9223372036854775808) : wrap64 x = x := by
  unfold wrap64; omega
theorem rd_wA (ws : List Wr) (i : Nat) : rd_T31 ws (i : Int) = wA ws i := by simp [rd_T31, wA, w0, z31]
theorem toList_nil {x : ByteArray} : x.toList = ([] : List UInt8) ↔ x.size = 0 := by
  rw [ByteArray.toList_eq]
  constructor
  · intro h
    have := congrArg List.length h
    simpa using this
  · intro h
    exact List.length_eq_zero_iff.1 (by simpa using h)
theorem less_kl (x y : ByteArray) : Op.bytesLess x.toList y.toList = decide (kl x y) := by
  rw [cb_less, ByteArray.toList_eq, ByteArray.toList_eq]
  rfl
theorem rises_l0 (ws : List Wr) (hn : ws.length < 4611686018427387904) : ∀ (d i : Nat), i + d = ws.length → risesTo ws i = true → Ev (fun k => store_rises.l0 k ws ws (ws.length : Int) (i : Int)) (rises ws)
  | 0, i, h, hr => by
    have e : rises ws = true := by unfold rises; rw [← h]; exact hr
    rw [e]
    refine Ev.step (fun k => by simp only [store_rises.l0]; rfl) ?_
    exact ev_neg (by omega) (Ev.now _)
  | d + 1, i, h, hr => by
    have hi : i < ws.length := by omega
    have bad : okAt ws i = false → rises ws = false := rises_less hi
    have good : okAt ws i = true → Ev (fun k => store_rises.l0 k ws ws (ws.length : Int) ((i + 1 : Nat) : Int)) (rises ws) := fun e => rises_l0 ws hn d (i + 1) (by omega) (by rw [rises_succ, hr, e]; rfl)
    refine Ev.step (fun k => by simp only [store_rises.l0]; rfl) ?_
    rw [show wrap64 ((i : Int) + 1) = ((i + 1 : Nat) : Int) from by rw [w64 (by omega) (by omega)]; rfl, rd_wA]
    have hil : (i : Int) < (ws.length : Int) := by omega
    refine ev_pos hil (ev_pos (by omega) (ev_pos hil ?_))
    have tail : okW (wA ws i) = true → Ev (fun k => if (i : Int) > 0 then (if 0 ≤ wrap64 ((i : Int) - 1) then (if wrap64 ((i : Int) - 1) < (ws.length : Int) then (if ((Op.bytesLess ((rd_T31 ws (wrap64 ((i : Int) - 1))).f0).toList (wA ws i).f0.toList) = true) then (store_rises.l0 k ws ws (ws.length : Int) ((i + 1 : Nat) : Int)) else (some false)) else (none)) else (none)) else (store_rises.l0 k ws ws (ws.length : Int) ((i + 1 : Nat) : Int))) (rises ws) := by
      intro hok
      by_cases c : 0 < i
      · rw [show wrap64 ((i : Int) - 1) = ((i - 1 : Nat) : Int) from by rw [w64 (by omega) (by omega)]; omega, rd_wA]
        refine ev_pos (by omega) (ev_pos (by omega) (ev_pos (by omega) ?_))
        rw [less_kl]
        by_cases e : kl (wA ws (i - 1)).f0 (wA ws i).f0
        · exact ev_pos (decide_eq_true e) (good (by unfold okAt; rw [hok, decide_eq_true e]; simp))
        · rw [bad (by unfold okAt; rw [hok, decide_eq_false e, decide_eq_false (by omega)]; rfl)]
          exact ev_neg (by simpa using e) (Ev.now _)
      · exact ev_neg (by omega) (good (by unfold okAt; rw [hok, decide_eq_true (show i = 0 by omega)]; rfl))
    have bad2 : okW (wA ws i) = false → rises ws = false := fun e => bad (by unfold okAt; rw [e]; rfl)
    by_cases c1 : (wA ws i).f0.size = 0
    · rw [bad2 (by unfold okW; simp [c1])]
      exact ev_pos (toList_nil.2 c1) (Ev.now _)
    refine ev_neg (fun e => c1 (toList_nil.1 e)) ?_
    by_cases c2 : ¬ (wA ws i).f0.size ≤ 400
    · rw [bad2 (by unfold okW; simp [c2])]
      exact ev_pos (by omega) (Ev.now _)
    replace c2 := Decidable.not_not.1 c2
    refine ev_neg (by omega) ?_
    by_cases c3 : ¬ (wA ws i).f1.size ≤ 4096
    · rw [bad2 (by unfold okW; simp [c3])]
      exact ev_pos (by omega) (Ev.now _)
    replace c3 := Decidable.not_not.1 c3
    refine ev_neg (by omega) ?_
    cases c4 : (wA ws i).f2 with
    | false => exact ev_neg (by simp) (tail (by unfold okW; simp [c1, c2, c3, c4]))
    | true =>
      refine ev_pos rfl ?_
      by_cases c5 : (wA ws i).f1.size = 0
      · exact ev_pos (toList_nil.2 c5) (tail (by unfold okW; simp [c1, c2, c4, c5]))
      · rw [bad2 (by unfold okW; simp [c4, c5])]
        exact ev_neg (fun e => c5 (toList_nil.1 e)) (Ev.now _)
theorem rises_ev (ws : List Wr) (hn : ws.length < 4611686018427387904) : Ev (fun k => store_rises.f k ws) (rises ws) := rises_l0 ws hn ws.length 0 (by omega) rfl
theorem right_ev (ws : List Wr) (hn : ws.length < 4611686018427387904) : Ev (fun k => store_Right.f k ws) (rightW ws) := by
  unfold store_Right.f rightW
  by_cases c : ws.length ≤ 200
  · rw [decide_eq_true c]
    refine ev_pos (by omega) (ev_bind (rises_ev ws hn) ?_)
    simp only [Bool.true_and]
    exact Ev.now _
  · rw [decide_eq_false c]
    exact ev_neg (by omega) (Ev.now _)
theorem rises_any (ws : List Wr) (A : Option Addr) (c : Nat) (w : World) (hr : Kd.C k31 w A ws.length ws) (hc : ws.length ≤ c) (hn : ws.length < 4611686018427387904) :
    Calls Try.prog 64 #[.slice A ws.length c] w fun e w' => e = .returned (.bool (rises ws)) ∧ Below w.heap.size w w' := by
  obtain ⟨k, hk⟩ := (rises_ev ws hn).rounds
  exact store_rises.calls k A c ws _ w hr hc hk
theorem right_any (ws : List Wr) (A : Option Addr) (c : Nat) (w : World) (hr : Kd.C k31 w A ws.length ws) (hc : ws.length ≤ c) (hn : ws.length < 4611686018427387904) :
    Calls Try.prog 38 #[.slice A ws.length c] w fun e w' => e = .returned (.bool (rightW ws)) ∧ Below w.heap.size w w' := by
  obtain ⟨k, hk⟩ := (right_ev ws hn).rounds
  exact store_Right.calls k A c ws _ w hr hc hk
end Go.Proofs.Ytmafibbnojdpjaa.St
end
