/- Tree, by hand: slices.Insert at items. -/
import Derived.Test.YtmpcmpanolnpfaaTh
set_option linter.unusedVariables false
set_option linter.unusedSimpArgs false
namespace Go.Proofs.Ytmpcmpanolnpfaa.Tr
open Go.RowKit Go.Proofs.YtmpcmpanolnpfaaW.PrintWords Go.Proofs.YtmpcmpanolnpfaaW.PrintLast Go.Proofs.YtmpcmpanolnpfaaW.PrintMore

set_option maxHeartbeats 1000000 in
set_option maxRecDepth 100000 in
/-- behind all -/
theorem insert_end (base b n cap0 : Nat) (xs : List Value) (ad : Addr) (m c : Nat) (news : List Value) (w : World) (hown : w.ownsRow base 64 2 (.slice (some ⟨b, 0, none⟩) n cap0) n xs) (hbase : base ≤ w.heap.size)
    (hn0 : 0 < n) (hnc : n ≤ cap0) (hcap : cap0 ≤ 9223372036854775807) (hl : news.length = m * 2) (hnews : ∀ j u, news[j]? = some u → w.cell? (ad.add j) = some u) (h1 : ∀ u ∈ news, u.oneCell' = true) (hm : 0 < m) (hb : n + m ≤ 4398046511104) :
    Calls Try.prog 24 #[.slice (some ⟨b, 0, none⟩) n cap0, .int .i64 (n : Int), .slice (some ad) m c] w fun e w' => ∃ g cap, e = .returned (.slice (some ⟨g, 0, none⟩) (n + m) cap) ∧
      w'.ownsRow base 64 2 (.slice (some ⟨g, 0, none⟩) (n + m) cap) (n + m) (xs ++ news) ∧ w.grownBy w' (some b) ∧ (g = b ∨ g = w.heap.size) ∧ g < w'.heap.size := by
  obtain ⟨i0, hi0, hz0, hs0, hb0⟩ := info_parts info64
  have hN := Aside0.mk hnews
  have HO := Aside0.mk hown
  clear hnews hown
  have a1 : (0 : Int) ≤ (n : Int) := by omega
  have a2 : (n : Int) ≤ (cap0 : Int) := by omega
  have a3 : ¬ (m : Int) = 0 := by omega
  have a4 : ((m : Int) == 0) = false := by simpa using (show ¬ m = 0 by omega)
  go_enter Try.func24, Try.ntmps24
  go_wp2_with (first | (refine wpList_append_lies _ rfl (.tmp 23) (.tmp 24) 65 rfl base 64 i0 _ 2 24 Try.underlying65 hi0 hz0 hs0 hb0 rfl (by decide) (.slice (some ⟨b, 0, none⟩) n cap0) n xs rfl HO.out ad m c news rfl hl hN.out h1 hm (by simp only [maxLen]; omega) (by omega) hbase _ rfl ?_; intro g cap w1 ho hg hat hlt))
  all_goals
    go_ret
    refine ⟨g, cap, rfl, ho, hg, ?_, hlt⟩
    rcases hat with h | h
    · left
      simp [Value.ownBlock] at h
      omega
    · exact .inr h
end Go.Proofs.Ytmpcmpanolnpfaa.Tr
