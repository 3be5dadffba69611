/- Tree, by hand: slices.Grow at nil, slices.Concat of two leaves. -/
import Derived.Test.YtmpcmpanolnpfaaTq
set_option linter.unusedVariables false
set_option linter.unusedSimpArgs false
namespace Go.Proofs.Ytmpcmpanolnpfaa.Tr
open Go.RowKit Go.Proofs.YtmpcmpanolnpfaaW.PrintWords Go.Proofs.YtmpcmpanolnpfaaW.PrintLast Go.Proofs.YtmpcmpanolnpfaaW.PrintMore

set_option maxHeartbeats 1000000 in
set_option maxRecDepth 100000 in
theorem grow_any (n : Nat) (w : World) (h0 : 0 < n) (hb : n ≤ 4398046511104) :
    Calls Try.prog 59 #[.slice none 0 0, .int .i64 (n : Int)] w fun e w' => ∃ g cap, e = .returned (.slice (some ⟨g, 0, none⟩) 0 cap) ∧ w'.ownsRow w.heap.size 64 2 (.slice (some ⟨g, 0, none⟩) 0 cap) 0 [] ∧ Below w.heap.size w w' := by
  obtain ⟨i0, hi0, hz0, hs0, hb0⟩ := info_parts info64
  obtain ⟨z, hz⟩ : ∃ z : Value, z = .agg #[.string ⟨#[]⟩, .int .i64 0] := ⟨_, rfl⟩
  have hzc : z.cells.size = 2 := by rw [hz]; rfl
  rw [← hz] at hz0
  obtain ⟨G, hG⟩ : ∃ G, G = grownCap w n 0 64 := ⟨_, rfl⟩
  obtain ⟨row, hr⟩ : ∃ r : Array Value, r = Builtin.zeroCells z.cells n ++ Builtin.zeroCells z.cells (G - n) := ⟨_, rfl⟩
  have hGn : n ≤ G := by rw [hG]; exact grownCap_ge w _ _ _
  have hGm : G ≤ maxLen := by rw [hG]; exact grownCap_le_maxLen w n 0 64 (by unfold maxLen; omega)
  have hrs : row.size = G * 2 := by rw [hr, Array.size_append, size_zeroCells, size_zeroCells, hzc]; omega
  have hrz : ∀ ty, (Builtin.append_ #[65, 3] ty #[.slice none 0 0, .int .i64 (n : Int)]).run Try.prog w = .ok (.slice (some ⟨w.heap.size, 0, none⟩) n G) (w.drew.alloc (.cells row 64)) := fun ty => by
    rw [hr, hG]
    exact Lib.run_append_nil_zeros w 65 3 ty 64 i0 _ .i64 .i64 Try.underlying65 Try.underlying3 hi0 hz0 n h0 (by omega) (by omega) (by rw [hb0]; omega)
  have HRZ := Aside0.mk hrz
  clear hrz hr hG hz
  have a1 : ¬ (n : Int) < 0 := by omega
  have a2 : (0 : Int) < (n : Int) := by omega
  go_enter Try.func59, Try.ntmps59
  go_wp2_with (first | (refine Lib.wpList_append_run _ rfl _ _ 65 3 rfl _ _ rfl rfl _ _ (HRZ.out _) ?_))
  go_ret
  refine ⟨w.heap.size, G, rfl, ?_, ?_⟩
  · exact World.ownsRow_made (base := w.heap.size) (e := 64) (size := 2) w.drew row G (Nat.le_refl _) hGm hrs
  · exact belowDrew (below_alloc (Below.refl _ _) _)
set_option maxHeartbeats 1000000 in
set_option maxRecDepth 100000 in
theorem concat_any (vb ba ca bb cb : Nat) (la lb : List Item) (w : World) (h0 : w.cell? ⟨vb, 0, none⟩ = some (.slice (some ⟨ba, 0, none⟩) la.length ca)) (h1 : w.cell? ⟨vb, 1, none⟩ = some (.slice (some ⟨bb, 0, none⟩) lb.length cb))
    (ha : ∀ j u, (flat la)[j]? = some u → w.cell? ((⟨ba, 0, none⟩ : Addr).add j) = some u) (hb : ∀ j u, (flat lb)[j]? = some u → w.cell? ((⟨bb, 0, none⟩ : Addr).add j) = some u)
    (oa : ∀ x ∈ la, x.2.oneCell' = true) (ob : ∀ x ∈ lb, x.2.oneCell' = true) (pa : 0 < la.length) (pb : 0 < lb.length) (hs : la.length + lb.length ≤ 4398046511104) :
    Calls Try.prog 45 #[.slice (some ⟨vb, 0, none⟩) 2 2] w fun e w' => ∃ g cap, e = .returned (.slice (some ⟨g, 0, none⟩) (la.length + lb.length) cap) ∧ w'.ownsRow w.heap.size 64 2 (.slice (some ⟨g, 0, none⟩) (la.length + lb.length) cap) (la.length + lb.length) (flat la ++ flat lb) ∧ Below w.heap.size w w' := by
  obtain ⟨i0, hi0, hz0, hs0, hb0⟩ := info_parts info64
  have HA := Aside0.mk ha
  have HBb := Aside0.mk hb
  have OA := Aside0.mk (flat_one oa)
  have OB := Aside0.mk (flat_one ob)
  have HB : Aside0 (Below w.heap.size w w) := ⟨Below.refl _ _⟩
  have wa : IntKind.i64.wrap (la.length : Int) = (la.length : Int) := by rw [IntKind.wrap_i64]; omega
  have wb : IntKind.i64.wrap ((la.length : Int) + (lb.length : Int)) = ((la.length + lb.length : Nat) : Int) := by rw [IntKind.wrap_i64]; omega
  have na : ¬ (la.length : Int) < 0 := by omega
  have nb : ¬ ((la.length + lb.length : Nat) : Int) < 0 := by omega
  have hvl := World.block_lt_of_cell? w _ h0
  clear ha hb oa ob
  go_enter Try.func45, Try.ntmps45
  go_wp2
  go_loopg [3, 11] 3 (fun kq v3 v11 w' => ∃ i : Nat, v11 = .int .i64 (i : Int) ∧ v3 = .int .i64 ((if i = 0 then 0 else if i = 1 then la.length else la.length + lb.length : Nat) : Int) ∧ i ≤ 2 ∧ 2 - i < kq ∧ Aside0 (Below w.heap.size w w'))
  case atStart => exact ⟨0, rfl, rfl, by omega, by omega, HB⟩
  case round =>
    obtain ⟨i, rfl, rfl, hi, hk, HB1⟩ := hrel
    have k0 := h0
    have k1 := h1
    have h0 := up HB1.out h0
    have h1 := up HB1.out h1
    rcases (by omega : i = 0 ∨ i = 1 ∨ i = 2) with rfl | rfl | rfl
    · go_wp2
      go_roundg (gk - 1)
      case measure => omega
      case rel => exact ⟨1, rfl, rfl, by omega, by omega, HB1⟩
    · rw [if_neg (by decide), if_pos rfl] at *
      go_wp2
      go_roundg (gk - 1)
      case measure => omega
      case rel => exact ⟨2, rfl, rfl, by omega, by omega, HB1⟩
    · rw [if_neg (by decide), if_neg (by decide)] at *
      go_wp2_with (go_at_call 59; refine (grow_any (la.length + lb.length) _ (by omega) hs).mono ?_; rintro e w1 ⟨g, cap, rfl, ho, hb⟩; have HO := Aside0.mk (ownsRow_lower ho HB1.out.size); have HB2 := Aside0.mk (below_step HB1.out hb); clear ho hb)
      clear h0 h1
      go_loopg [6, 27] 3 (fun kq v6 v27 w' => ∃ (i g cap : Nat), v27 = .int .i64 (i : Int) ∧ v6 = .slice (some ⟨g, 0, none⟩) (if i = 0 then 0 else if i = 1 then la.length else la.length + lb.length) cap ∧ i ≤ 2 ∧ 2 - i < kq ∧ Aside0 (Below w.heap.size w w') ∧ Aside0 (w'.ownsRow w.heap.size 64 2 v6 (if i = 0 then 0 else if i = 1 then la.length else la.length + lb.length) (if i = 0 then [] else if i = 1 then flat la else flat la ++ flat lb)))
      case atStart => exact ⟨0, g, cap, rfl, rfl, by omega, by omega, HB2, HO⟩
      case round =>
        obtain ⟨i, g, cap, rfl, rfl, hi, hk, HB3, HO3⟩ := hrel
        have h0 := up HB3.out k0
        have h1 := up HB3.out k1
        rcases (by omega : i = 0 ∨ i = 1 ∨ i = 2) with rfl | rfl | rfl
        · go_wp2_with (first | (refine wpList_append_lies _ rfl _ _ 65 rfl w.heap.size 64 i0 _ 2 24 Try.underlying65 hi0 hz0 hs0 hb0 rfl (by decide) (.slice (some ⟨g, 0, none⟩) 0 cap) 0 [] rfl HO3.out ⟨ba, 0, none⟩ la.length ca (flat la) rfl (flat_length la) (fun j u h => up HB3.out (HA.out j u h)) OA.out pa (by simp only [maxLen]; omega) (by omega) HB3.out.size _ rfl ?_; intro g2 cap2 w3 ho hg hat hlt))
          have HB4 := Aside0.mk (HB3.out.grown hg HB3.out.size (fun k hk => (HO3.out.lt k hk).1))
          have HO4 : Aside0 (w3.ownsRow w.heap.size 64 2 (.slice (some ⟨g2, 0, none⟩) la.length cap2) la.length (flat la)) := ⟨by simpa using ho⟩
          clear ho hg
          go_roundg (gk - 1)
          case measure => omega
          case rel => exact ⟨1, g2, cap2, rfl, rfl, by omega, by omega, HB4, HO4⟩
        · have HO3' : Aside0 (wr.ownsRow w.heap.size 64 2 (.slice (some ⟨g, 0, none⟩) la.length cap) la.length (flat la)) := ⟨HO3.out⟩
          clear HO3
          rw [if_neg (by decide), if_pos rfl]
          go_wp2_with (first | (refine wpList_append_lies _ rfl _ _ 65 rfl w.heap.size 64 i0 _ 2 24 Try.underlying65 hi0 hz0 hs0 hb0 rfl (by decide) (.slice (some ⟨g, 0, none⟩) la.length cap) la.length (flat la) rfl HO3'.out ⟨bb, 0, none⟩ lb.length cb (flat lb) rfl (flat_length lb) (fun j u h => up HB3.out (HBb.out j u h)) OB.out pb (by simp only [maxLen]; omega) (by omega) HB3.out.size _ rfl ?_; intro g2 cap2 w3 ho hg hat hlt))
          have HB4 := Aside0.mk (HB3.out.grown hg HB3.out.size (fun k hk => (HO3'.out.lt k hk).1))
          have HO4 : Aside0 (w3.ownsRow w.heap.size 64 2 (.slice (some ⟨g2, 0, none⟩) (la.length + lb.length) cap2) (la.length + lb.length) (flat la ++ flat lb)) := ⟨ho⟩
          clear ho hg
          go_roundg (gk - 1)
          case measure => omega
          case rel => exact ⟨2, g2, cap2, rfl, rfl, by omega, by omega, HB4, HO4⟩
        · have HO3' : Aside0 (wr.ownsRow w.heap.size 64 2 (.slice (some ⟨g, 0, none⟩) (la.length + lb.length) cap) (la.length + lb.length) (flat la ++ flat lb)) := ⟨HO3.out⟩
          clear HO3
          rw [if_neg (by decide), if_neg (by decide)]
          go_wp2
          go_ret
          exact ⟨g, cap, rfl, HO3'.out, HB3.out⟩
end Go.Proofs.Ytmpcmpanolnpfaa.Tr
