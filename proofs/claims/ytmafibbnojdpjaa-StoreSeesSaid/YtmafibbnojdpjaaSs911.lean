/- Lemmas that the proof needs, part 11. -/
import Derived.Test.YtmafibbnojdpjaaWWords
import Derived.Test.YtmafibbnojdpjaaSs96
import Derived.Test.YtmafibbnojdpjaaSs910
section
set_option linter.unusedVariables false
set_option linter.unusedSimpArgs false
namespace Go.Proofs.Ytmafibbnojdpjaa.RecEv
open Go.RowKit Go.Proofs.Ytmafibbnojdpjaa.P Go.Proofs.YtmafibbnojdpjaaW.PrintWords Go.Proofs.YtmafibbnojdpjaaW.PrintLast Go.Proofs.YtmafibbnojdpjaaW.PrintMore
open Go.Proofs.Ytmafibbnojdpjaa.RecP
open Go.Proofs.Ytmafibbnojdpjaa.FrEv (ev_pos ev_neg ev_bind ev_some w64 B B_of B_size B_toList B_append B_extract B_upto B_from B_bt)
/-- bytes as the program's numbers -/
def I (l : List UInt8) : List Int := l.map fun b => (b.toNat : Int)
def toS (w : Wr) : S31 := ⟨B w.key, B w.val, w.gone⟩
theorem rd_toS (ws : List Wr) (i : Nat) (h : i < ws.length) : rd_T31 (ws.map toS) (i : Int) = toS ws[i] := by
  unfold rd_T31
  simp [List.getD, List.getElem?_eq_getElem h]
def prevOf (ws : List Wr) (i : Nat) : Option (List UInt8) := if h : 0 < i ∧ i ≤ ws.length then some (ws[i - 1]'(by omega)).key else none
def risesP (ws : List Wr) : Bool := risesFrom Op.bytesLess none ws
theorem rises_l0 (ws : List Wr) (hn : ws.length < 4611686018427387904) : ∀ (d i : Nat), i + d = ws.length →
    Ev (fun k => store_rises.l0 k (ws.map toS) (ws.map toS) ((ws.map toS).length : Int) (i : Int)) (risesFrom Op.bytesLess (prevOf ws i) (ws.drop i))
  | 0, i, h => by
    rw [List.drop_of_length_le (by omega)]
    refine Ev.step (fun k => by simp only [store_rises.l0]; rfl) ?_
    exact ev_neg (by simp; omega) (Ev.now _)
  | d + 1, i, h => by
    have hi : i < ws.length := by omega
    have ih := rises_l0 ws hn d (i + 1) (by omega)
    have hp : prevOf ws (i + 1) = some ws[i].key := by unfold prevOf; rw [dif_pos (by omega)]; rfl
    rw [hp] at ih
    refine Ev.step (fun k => by simp only [store_rises.l0]; rfl) ?_
    rw [show wrap64 ((i : Int) + 1) = ((i + 1 : Nat) : Int) from by rw [w64 (by omega) (by omega)]; rfl, rd_toS ws i hi, List.drop_eq_getElem_cons hi]
    simp only [risesFrom, toS, B_toList, B_size]
    have hil : (i : Int) < ((ws.map toS).length : Int) := by simp; omega
    refine ev_pos hil (ev_pos (by omega) (ev_pos hil ?_))
    have tail : Ev (fun k => if (i : Int) > 0 then (if 0 ≤ wrap64 ((i : Int) - 1) then (if wrap64 ((i : Int) - 1) < ((ws.map toS).length : Int) then (if ((Op.bytesLess ((rd_T31 (ws.map toS) (wrap64 ((i : Int) - 1))).f0).toList ws[i].key) = true) then (store_rises.l0 k (ws.map toS) (ws.map toS) ((ws.map toS).length : Int) ((i + 1 : Nat) : Int)) else (some false)) else (none)) else (none)) else (store_rises.l0 k (ws.map toS) (ws.map toS) ((ws.map toS).length : Int) ((i + 1 : Nat) : Int)))
        (prevOk Op.bytesLess (prevOf ws i) ws[i].key && risesFrom Op.bytesLess (some ws[i].key) (ws.drop (i + 1))) := by
      by_cases c : 0 < i
      · have hp2 : prevOf ws i = some (ws[i - 1]).key := by unfold prevOf; rw [dif_pos (by omega)]
        rw [hp2, show wrap64 ((i : Int) - 1) = ((i - 1 : Nat) : Int) from by rw [w64 (by omega) (by omega)]; omega, rd_toS ws (i - 1) (by omega)]
        refine ev_pos (by omega) (ev_pos (by omega) (ev_pos (by simp; omega) ?_))
        simp only [toS, B_toList, prevOk]
        cases e : Op.bytesLess (ws[i - 1]).key ws[i].key with
        | true => exact ev_pos rfl (by simpa using ih)
        | false => exact ev_neg (by simp) (Ev.now _)
      · have hp2 : prevOf ws i = none := by unfold prevOf; rw [dif_neg (by omega)]
        rw [hp2]
        simp only [prevOk]
        exact ev_neg (by omega) (by simpa using ih)
    by_cases c1 : ws[i].key = []
    · refine ev_pos c1 ?_
      rw [c1]
      exact Ev.now _
    refine ev_neg c1 ?_
    have b1 : ws[i].key.isEmpty = false := by cases h : ws[i].key with | nil => exact absurd h c1 | cons a b => rfl
    by_cases c2 : ws[i].key.length > 400
    · refine ev_pos (by omega) ?_
      rw [b1, decide_eq_false (by omega : ¬ ws[i].key.length ≤ 400)]
      exact Ev.now _
    refine ev_neg (by omega) ?_
    by_cases c3 : ws[i].val.length > 4096
    · refine ev_pos (by omega) ?_
      rw [b1, decide_eq_true (by omega : ws[i].key.length ≤ 400), decide_eq_false (by omega : ¬ ws[i].val.length ≤ 4096)]
      exact Ev.now _
    refine ev_neg (by omega) ?_
    rw [b1, decide_eq_true (by omega : ws[i].key.length ≤ 400), decide_eq_true (by omega : ws[i].val.length ≤ 4096)]
    cases c4 : ws[i].gone with
    | false =>
      refine ev_neg (by simp) ?_
      simpa using tail
    | true =>
      refine ev_pos rfl ?_
      by_cases c5 : ws[i].val = []
      · refine ev_pos c5 ?_
        rw [c5]
        simpa using tail
      · refine ev_neg c5 ?_
        have b5 : ws[i].val.isEmpty = false := by cases h : ws[i].val with | nil => exact absurd h c5 | cons a b => rfl
        rw [b5]
        exact Ev.now _
theorem rises_ev (ws : List Wr) (hn : ws.length < 4611686018427387904) : Ev (fun k => store_rises.f k (ws.map toS)) (risesP ws) := by
  have := rises_l0 ws hn ws.length 0 (by omega)
  rw [List.drop_zero, show prevOf ws 0 = none from by unfold prevOf; rw [dif_neg (by omega)]] at this
  exact this
def rightW (ws : List Wr) : Bool := decide (ws.length ≤ 200) && risesP ws
theorem right_ev (ws : List Wr) (hn : ws.length < 4611686018427387904) : Ev (fun k => store_Right.f k (ws.map toS)) (rightW ws) := by
  unfold store_Right.f rightW
  by_cases c : ws.length ≤ 200
  · rw [decide_eq_true c]
    refine ev_pos (by simp; omega) (ev_bind (rises_ev ws hn) ?_)
    simp only [Bool.true_and]
    exact Ev.now _
  · rw [decide_eq_false c]
    exact ev_neg (by simp; omega) (Ev.now _)
end Go.Proofs.Ytmafibbnojdpjaa.RecEv
end
