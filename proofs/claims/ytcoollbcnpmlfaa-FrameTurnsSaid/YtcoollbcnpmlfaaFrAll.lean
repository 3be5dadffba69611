/- The printed frame.All, as the plain functions on lists of bytes. -/
import Derived.Test.YtcoollbcnpmlfaaPx12
import Derived.Test.YtcoollbcnpmlfaaFrEv
import Derived.Test.YtcoollbcnpmlfaaPx4
set_option linter.unusedVariables false
set_option linter.unusedSimpArgs false
namespace Go.Proofs.Ytcoollbcnpmlfaa.FrAll
open Go.RowKit Go.Proofs.Ytcoollbcnpmlfaa.P Go.Proofs.YtcoollbcnpmlfaaW.PrintWords Go.Proofs.YtcoollbcnpmlfaaW.PrintLast
open Go.Proofs.Ytcoollbcnpmlfaa.Fr Go.Proofs.Ytcoollbcnpmlfaa.FrEv

def frames (ls : List (List UInt8)) : List UInt8 := (ls.map frame).flatten
theorem frames_nil : frames [] = [] := rfl
theorem frames_cons (s : List UInt8) (ls : List (List UInt8)) : frames (s :: ls) = frame s ++ frames ls := by simp [frames]
theorem frames_append (a b : List (List UInt8)) : frames (a ++ b) = frames a ++ frames b := by simp [frames]
theorem frames_length_ge (ls : List (List UInt8)) : ls.length ≤ (frames ls).length := by
  induction ls with
  | nil => simp
  | cons s ls ih => rw [frames_cons, List.length_append, frame_length, List.length_cons]; omega
theorem all_stop (b : List UInt8) (hb : b.length ≤ 140737488355328) (acc : List ByteArray) (p : Nat) (hp : p ≤ b.length) (h : gets (b.drop p) = none) :
    Ev (fun k => frame_All.l0 k (B b) acc (p : Int)) (acc, (p : Int)) := by
  refine Ev.step (fun k => by simp only [frame_All.l0]; rfl) ?_
  rw [show (p : Int).toNat = p from rfl, B_from, B_size]
  refine ev_pos (by omega) (ev_pos (by omega) (ev_bind (get_ev _ (by rw [List.length_drop]; omega)) ?_))
  have e : got (b.drop p) = (B [], 0) := by unfold got; rw [h]
  rw [e]
  exact ev_pos rfl (Ev.now _)
theorem all_one (b : List UInt8) (hb : b.length ≤ 140737488355328) (acc : List ByteArray) (p : Nat) (hp : p ≤ b.length) (s : List UInt8) (h : gets (b.drop p) = some s) (ha : acc.length < 8796093022208) (r : List ByteArray × Int)
    (k : Ev (fun k => frame_All.l0 k (B b) (acc ++ [B s]) ((p + (12 + s.length) : Nat) : Int)) r) : Ev (fun k => frame_All.l0 k (B b) acc (p : Int)) r := by
  obtain ⟨_, h2, _⟩ := gets_some _ _ h
  rw [List.length_drop] at h2
  refine Ev.step (fun k => by simp only [frame_All.l0]; rfl) ?_
  rw [show (p : Int).toNat = p from rfl, B_from, B_size]
  refine ev_pos (by omega) (ev_pos (by omega) (ev_bind (get_ev _ (by rw [List.length_drop]; omega)) ?_))
  have e : got (b.drop p) = (B s, ((12 + s.length : Nat) : Int)) := by unfold got; rw [h]
  rw [e]
  refine ev_neg (by simp only; omega) (ev_pos ha ?_)
  simp only
  rw [w64 (by omega) (by omega), show (p : Int) + ((12 + s.length : Nat) : Int) = ((p + (12 + s.length) : Nat) : Int) from by omega]
  exact k
theorem all_steps (b t : List UInt8) (hb : b.length ≤ 140737488355328) (r : List ByteArray × Int) : ∀ (ls : List (List UInt8)) (acc : List ByteArray) (p : Nat), p ≤ b.length → b.drop p = frames ls ++ t → (∀ s ∈ ls, s.length ≤ 262144) →
    acc.length + ls.length < 8796093022208 → Ev (fun k => frame_All.l0 k (B b) (acc ++ ls.map B) ((p + (frames ls).length : Nat) : Int)) r → Ev (fun k => frame_All.l0 k (B b) acc (p : Int)) r
  | [], acc, p, hp, hd, _, _, k => by simpa [frames] using k
  | s :: ls, acc, p, hp, hd, hs, ha, k => by
    rw [frames_cons, List.append_assoc] at hd
    have hg : gets (b.drop p) = some s := by rw [hd]; exact gets_frame _ _ (hs s List.mem_cons_self)
    have hlen := congrArg List.length hd
    rw [List.length_drop, List.length_append, frame_length] at hlen
    refine all_one b hb acc p hp s hg (by simp at ha; omega) r (all_steps b t hb r ls _ _ (by omega) ?_ (fun x hx => hs x (List.mem_cons_of_mem _ hx)) (by simp at ha ⊢; omega) ?_)
    · rw [← List.drop_drop, hd]
      exact List.drop_left' (by rw [frame_length])
    · rw [frames_cons, List.length_append, frame_length] at k
      simp only [List.map_cons, List.append_assoc, List.singleton_append] at k ⊢
      rw [show p + (12 + s.length) + (frames ls).length = p + (12 + s.length + (frames ls).length) from by omega]
      exact k
theorem all_any (b : List UInt8) (hb : b.length ≤ 140737488355328) : ∀ (d p : Nat) (acc : List ByteArray), p + d = b.length → acc.length + d < 8796093022208 →
    ∃ (out : List ByteArray) (n : Nat), Ev (fun k => frame_All.l0 k (B b) acc (p : Int)) (acc ++ out, ((p + n : Nat) : Int)) := by
  intro d
  induction d using Nat.strongRecOn with
  | _ d ih =>
    intro p acc hp ha
    cases hg : gets (b.drop p) with
    | none => exact ⟨[], 0, by simpa using all_stop b hb acc p (by omega) hg⟩
    | some s =>
      obtain ⟨_, h2, _⟩ := gets_some _ _ hg
      rw [List.length_drop] at h2
      obtain ⟨out, n, h⟩ := ih (d - (12 + s.length)) (by omega) (p + (12 + s.length)) (acc ++ [B s]) (by omega) (by simp; omega)
      refine ⟨B s :: out, 12 + s.length + n, all_one b hb acc p (by omega) s hg (by omega) _ ?_⟩
      simp only [List.append_assoc, List.singleton_append] at h
      rw [show p + (12 + s.length + n) = p + (12 + s.length) + n from by omega]
      exact h
end Go.Proofs.Ytcoollbcnpmlfaa.FrAll
