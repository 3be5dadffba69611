/- Lemmas that the proof needs, part 3. -/
import Derived.Deep.AppendLies
import Derived.Laws.OwnMore
import Derived.Lib.SliceRun
import Derived.Deep.RegionLaw
import Derived.Deep.RegionLawGrows
import Derived.Test.YtmafibbnojdpjaaKp2
section
set_option linter.unusedVariables false
set_option maxRecDepth 100000
set_option linter.unusedSimpArgs false
namespace Go.Proofs.Ytmafibbnojdpjaa.Tr
open Go.RowKit Go.Proofs.YtmafibbnojdpjaaW.PrintWords Go.Proofs.YtmafibbnojdpjaaW.PrintLast Go.Proofs.YtmafibbnojdpjaaW.PrintMore
theorem info153 : (Try.prog.info? 153).map (fun i => (i.zero, i.size, i.bytes)) = some (some (.agg #[.string ⟨#[]⟩, .slice none 0 0]), 2, 40) := by kernel_rfl
set_option maxHeartbeats 1000000 in
set_option maxRecDepth 100000 in
theorem clone_any (ad : Addr) (m c : Nat) (news : List Value) (w : World) (hl : news.length = m * 2) (hnews : ∀ j u, news[j]? = some u → w.cell? (ad.add j) = some u) (h1 : ∀ u ∈ news, u.oneCell' = true)
    (hm : 0 < m) (hb : m ≤ 1700000000001) :
    Calls Try.prog 116 #[.slice (some ad) m c] w fun e w' => ∃ g cap, e = .returned (.slice (some ⟨g, 0, none⟩) m cap) ∧ w'.ownsRow w.heap.size 153 2 (.slice (some ⟨g, 0, none⟩) m cap) m news ∧ Below w.heap.size w w' := by
  obtain ⟨i0, hi0, hz0, hs0, hb0⟩ := info_parts info153
  have hN := Aside0.mk hnews
  have hO := World.ownsRow_lit (base := w.heap.size) (e := 153) (size := 2) w #[] 0 (Nat.le_refl _) (Nat.zero_le _) rfl
  have HO := Aside0.mk hO
  have HBl : Below w.heap.size w (w.alloc (.cells #[] 153 (0, 0))) := below_alloc (Below.refl _ _) _
  have HB := Aside0.mk HBl
  clear hnews hO HBl
  have q65 : ∀ (w : World) (a : Option Addr) (n c n' c' : Nat), (binOp .eql 154 (.slice a n c) (.slice none n' c')).run Try.prog w = .ok (.bool a.isNone) w := fun w a n c n' c' => Lib.run_eql_slice_nil w _ _ a n c n' c' Try.underlying154
  go_enter Try.func116, Try.ntmps116
  go_wp2_with (first | (refine wpList_append_lies _ rfl (.tmp 5) (.tmp 6) 154 rfl w.heap.size 153 i0 _ 2 40 Try.underlying154 hi0 hz0 hs0 hb0 rfl (by decide) (.slice (some ⟨w.heap.size, 0, none⟩) 0 0) 0 [] rfl HO.out ad m c news rfl hl (fun j u h => up HB.out (hN.out j u h)) h1 hm (by simp only [maxLen]; omega) (by omega) (by simp) _ rfl ?_; intro g cap w1 ho hg hat hlt))
  go_ret
  exact ⟨g, cap, rfl, by simpa using ho, HB.out.grown hg (by simp) (by intro k hk; simp [Value.ownBlock] at hk; omega)⟩
theorem ownsRow_below {w1 w2 : World} {base e size n : Nat} {v : Value} {xs : List Value} (h : w1.ownsRow base e size v n xs) (hb : Below w1.heap.size w1 w2) : w2.ownsRow base e size v n xs :=
  h.kept (row := none) ⟨hb.os, hb.tape, hb.output, hb.size, fun k hk _ => hb.block k hk⟩ (by cases hv : v.ownBlock with | none => exact .inl rfl | some k => exact .inr (by simp))
theorem ownsRow_lower {w1 : World} {base base' e size n : Nat} {v : Value} {xs : List Value} (h : w1.ownsRow base e size v n xs) (hb : base' ≤ base) : w1.ownsRow base' e size v n xs := by
  obtain ⟨h0, h1⟩ := h
  refine ⟨h0, ?_⟩
  rcases h1 with h1 | ⟨g, cap, cur, hv, hg, r⟩
  · exact .inl h1
  · exact .inr ⟨g, cap, cur, hv, Nat.le_trans hb hg, r⟩
theorem add_add (a : Addr) (i j : Nat) : (a.add i).add j = a.add (i + j) := by
  by_cases c1 : i = 0 <;> by_cases c2 : j = 0 <;> simp [Addr.add, c1, c2, Nat.add_assoc]
set_option maxHeartbeats 1000000 in
set_option maxRecDepth 100000 in
theorem halves_any (ad : Addr) (m c : Nat) (news : List Value) (w : World) (hl : news.length = m * 2) (hnews : ∀ j u, news[j]? = some u → w.cell? (ad.add j) = some u) (h1 : ∀ u ∈ news, u.oneCell' = true)
    (hm : 2 ≤ m) (hb : m ≤ 1700000000001) (hc : m ≤ c) (hc2 : c ≤ 9223372036854775807) :
    Calls Try.prog 94 #[.slice (some ad) m c] w fun e w' => ∃ g cap g2 cap2, e = .returned (.tuple #[.slice (some ⟨g, 0, none⟩) (m / 2) cap, .slice (some ⟨g2, 0, none⟩) (m - m / 2) cap2]) ∧
      w'.ownsRow w.heap.size 153 2 (.slice (some ⟨g, 0, none⟩) (m / 2) cap) (m / 2) (news.take (m / 2 * 2)) ∧ w'.ownsRow w.heap.size 153 2 (.slice (some ⟨g2, 0, none⟩) (m - m / 2) cap2) (m - m / 2) (news.drop (m / 2 * 2)) ∧ g ≠ g2 ∧ Below w.heap.size w w' := by
  have hN := Aside0.mk hnews
  clear hnews
  have a0 : (m : Int) / 2 = ((m / 2 : Nat) : Int) := by omega
  have a1 : (0 : Int) ≤ ((m / 2 : Nat) : Int) := by omega
  have a2 : ((m / 2 : Nat) : Int) ≤ (c : Int) := by omega
  have a3 : ((m / 2 : Nat) : Int) ≤ (m : Int) := by omega
  have a4 : m / 2 ≤ c := by omega
  have a5 : ¬ c = m / 2 := by omega
  have a6 : m / 2 ≤ m := by omega
  have HB0 : Aside0 (Below w.heap.size w w.drew) := ⟨⟨rfl, rfl, rfl, Nat.le_refl _, fun _ _ => rfl⟩⟩
  generalize hh : m / 2 = d at a0 a1 a2 a3 a4 a5 a6 ⊢
  go_enter Try.func94, Try.ntmps94
  go_wp2
  go_region_law ((rw [if_pos (by rfl)]; go_simp; first
    | (refine (clone_any ad d c (news.take (d * 2)) _ (by rw [List.length_take]; omega) (fun j u h => up (HB0.out) (hN.out j u (by rw [List.getElem?_take] at h; split at h <;> simp_all))) (fun u h => h1 u (List.mem_of_mem_take h)) (by omega) (by omega)).mono ?_; rintro e w1 ⟨g, cap, rfl, ho, hb⟩; have HO1 := Aside0.mk ho; have HB1 := Aside0.mk hb; clear ho hb)
    | (refine (clone_any (ad.add (d * 2)) (m - d) (c - d) (news.drop (d * 2)) _ (by rw [List.length_drop]; omega) (fun j u h => up HB1.out (up HB0.out (by rw [add_add]; exact hN.out _ u (by rw [List.getElem?_drop] at h; exact h)))) (fun u h => h1 u (List.mem_of_mem_drop h)) (by omega) (by omega)).mono ?_; rintro e w2 ⟨g2, cap2, rfl, ho, hb⟩; have HO2 := Aside0.mk ho; have HB2 := Aside0.mk hb; clear ho hb)))
  go_wp2
  go_ret2
  have hsz : w.heap.size ≤ w1.heap.size := HB1.out.size
  have g1 := (HO1.out.lt g (by rfl)).2
  have g3 := (HO2.out.lt g2 (by rfl)).1
  exact ⟨g, cap, g2, cap2, rfl, ownsRow_below HO1.out HB2.out, ownsRow_lower HO2.out hsz, by omega, below_step (below_step HB0.out HB1.out) HB2.out⟩
end Go.Proofs.Ytmafibbnojdpjaa.Tr
end
section
set_option linter.unusedVariables false
set_option maxRecDepth 100000
set_option linter.unusedSimpArgs false
namespace Go.Proofs.Ytmafibbnojdpjaa.Tr
open Go.RowKit Go.Proofs.YtmafibbnojdpjaaW.PrintWords Go.Proofs.YtmafibbnojdpjaaW.PrintLast Go.Proofs.YtmafibbnojdpjaaW.PrintMore
set_option maxHeartbeats 1000000 in
set_option maxRecDepth 100000 in
/-- behind all -/
theorem insert_end (base b n cap0 : Nat) (xs : List Value) (ad : Addr) (m c : Nat) (news : List Value) (w : World) (hown : w.ownsRow base 153 2 (.slice (some ⟨b, 0, none⟩) n cap0) n xs) (hbase : base ≤ w.heap.size)
    (hn0 : 0 < n) (hnc : n ≤ cap0) (hcap : cap0 ≤ 9223372036854775807) (hl : news.length = m * 2) (hnews : ∀ j u, news[j]? = some u → w.cell? (ad.add j) = some u) (h1 : ∀ u ∈ news, u.oneCell' = true) (hm : 0 < m) (hb : n + m ≤ 1700000000001) :
    Calls Try.prog 93 #[.slice (some ⟨b, 0, none⟩) n cap0, .int .i64 (n : Int), .slice (some ad) m c] w fun e w' => ∃ g cap, e = .returned (.slice (some ⟨g, 0, none⟩) (n + m) cap) ∧
      w'.ownsRow base 153 2 (.slice (some ⟨g, 0, none⟩) (n + m) cap) (n + m) (xs ++ news) ∧ w.grownBy w' (some b) ∧ (g = b ∨ g = w.heap.size) ∧ g < w'.heap.size := by
  obtain ⟨i0, hi0, hz0, hs0, hb0⟩ := info_parts info153
  have hN := Aside0.mk hnews
  have HO := Aside0.mk hown
  clear hnews hown
  have a1 : (0 : Int) ≤ (n : Int) := by omega
  have a2 : (n : Int) ≤ (cap0 : Int) := by omega
  have a3 : ¬ (m : Int) = 0 := by omega
  have a4 : ((m : Int) == 0) = false := by simpa using (show ¬ m = 0 by omega)
  go_enter Try.func93, Try.ntmps93
  go_wp2_with (first | (refine wpList_append_lies _ rfl (.tmp 23) (.tmp 24) 154 rfl base 153 i0 _ 2 40 Try.underlying154 hi0 hz0 hs0 hb0 rfl (by decide) (.slice (some ⟨b, 0, none⟩) n cap0) n xs rfl HO.out ad m c news rfl hl hN.out h1 hm (by simp only [maxLen]; omega) (by omega) hbase _ rfl ?_; intro g cap w1 ho hg hat hlt))
  all_goals
    go_ret
    refine ⟨g, cap, rfl, ho, hg, ?_, hlt⟩
    rcases hat with h | h
    · left
      simp [Value.ownBlock] at h
      omega
    · exact .inr h
end Go.Proofs.Ytmafibbnojdpjaa.Tr
end
