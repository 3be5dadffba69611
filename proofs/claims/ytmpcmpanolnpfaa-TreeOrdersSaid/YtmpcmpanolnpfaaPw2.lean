/- play: the walk. -/
import Derived.Test.YtmpcmpanolnpfaaPv
set_option linter.unusedVariables false
set_option linter.unusedSimpArgs false
namespace Go.Proofs.Ytmpcmpanolnpfaa.Tr
open Go.RowKit Go.Proofs.YtmpcmpanolnpfaaW.PrintWords Go.Proofs.YtmpcmpanolnpfaaW.PrintLast Go.Proofs.YtmpcmpanolnpfaaW.PrintMore

set_option maxHeartbeats 8000000 in
set_option maxRecDepth 100000 in
theorem play_any (A : Option Addr) (c : Nat) (l : List S81) (w : World) (hA : ActsAt w A l) (hn : l.length ≤ 200) (hc : l.length ≤ c) :
    Calls Try.prog 19 #[.slice A l.length c] w fun e w' => ∃ g lb cap, e = .returned (.tuple #[.pointer (some ⟨g, 0, none⟩), .slice (some ⟨lb, 0, none⟩) (playZ l).length cap, .bool true]) ∧ PSt w w' g lb cap (playZ l) := by
  obtain ⟨i0, hi0, hz0, hs0, hb0⟩ := info_parts info55
  have HA := Aside0.mk hA
  have P0 : Aside0 (PSt w ((w.alloc (.cells #[.slice none 0 0, .int .i64 0] 28)).alloc (.cells #[] 55)) w.heap.size (w.heap.size + 1) 0 []) := ⟨by
    refine ⟨?_, ?_, ?_⟩
    · have := World.ownsRow_lit (base := w.heap.size) (e := 55) (size := 2) (w.alloc (.cells #[.slice none 0 0, .int .i64 0] 28)) #[] 0 (by simp) (Nat.zero_le _) rfl
      rw [World.size_alloc] at this
      exact this
    · refine ((tree_new w).turn (G := FL w (w.heap.size + 1)) (fun k hk hq => ⟨hq, ?_⟩)).below (below_alloc (Below.refl _ _) _)
      rw [World.size_alloc] at hk
      omega
    · exact ((Below.refl _ _).alloc (Nat.le_refl _) _).alloc (by simp) _⟩
  clear hA
  go_enter Try.func19, Try.ntmps19
  go_wp2
  go_loopg [5, 6, 20] (l.length + 1) (fun kq v5 v6 v20 w' => ∃ (i g lb cap : Nat), v20 = .int .i64 (i : Int) ∧ v5 = .pointer (some ⟨g, 0, none⟩) ∧ v6 = .slice (some ⟨lb, 0, none⟩) (playZ (l.take i)).length cap ∧ i ≤ l.length ∧ l.length - i < kq ∧ Aside0 (PSt w w' g lb cap (playZ (l.take i))))
  case atStart => exact ⟨0, w.heap.size, w.heap.size + 1, 0, rfl, rfl, rfl, by omega, by omega, P0⟩
  case round =>
    obtain ⟨i, g, lb, cap, rfl, rfl, rfl, hi, hk, HP⟩ := hrel
    by_cases hlt : i < l.length
    · have hstep := playZ_take hlt
      have hzl := playZ_len (l.take i)
      rw [List.length_take] at hzl
      generalize playZ (l.take i) = Z at *
      obtain ⟨ad, ea, f0, f1, f2⟩ := HA.out i hlt
      cases ea
      have f0 := up HP.out.bel f0
      have f1 := up HP.out.bel f1
      have f2 := up HP.out.bel f2
      obtain ⟨a, ha⟩ : ∃ a, a = act l i := ⟨_, rfl⟩
      rw [← ha] at f0 f1 f2 hstep
      have HST := Aside0.mk hstep
      have HAA := Aside0.mk ha
      clear ha hstep
      go_wp2
      obtain ⟨V, hV⟩ : ∃ V, V = wr := ⟨_, rfl⟩
      subst hV
      obtain ⟨V1, hV1⟩ : ∃ V1, V1 = V.alloc (.cells #[.int .i64 a.f0, .int .i64 a.f1, .string a.f2] 81) := ⟨_, rfl⟩
      rw [← hV1]
      have hba : Below V.heap.size V V1 := by rw [hV1]; exact below_alloc (Below.refl _ _) _
      have hch : V1.heap[V.heap.size]? = some (.cells #[.int .i64 a.f0, .int .i64 a.f1, .string a.f2] 81 (0, 0)) := by rw [hV1]; exact heap_alloc_new V _
      have d0 := cells_of_heap hch 0 0 _ rfl
      have d1 := cells_of_heap hch 0 1 _ rfl
      have d2 := cells_of_heap hch 0 2 _ rfl
      rw [Addr.add_lit] at d0 d1 d2
      have HP1 := Aside0.mk (HP.out.below hba)
      have D0 := Aside0.mk d0
      have D1 := Aside0.mk d1
      have D2 := Aside0.mk d2
      have hcapb := own_caps HP.out.row
      obtain ⟨o1, o2, o3, o4, o5⟩ := hcapb
      have hbs : V.heap.size < V1.heap.size := (Array.getElem?_eq_some_iff.1 hch).1
      have HTV := Aside0.mk ((HP.out.tree.turn (G := fun k => FL w lb k ∧ k ≠ V.heap.size) (fun k hk hq => ⟨hq, by omega⟩)).below hba)
      clear hV1 hch d0 d1 d2 f0 f1 f2 hba HP
      obtain ⟨R, hR⟩ : ∃ R : Nat, a.f0 % 4 = (R : Int) := ⟨(a.f0 % 4).toNat, by omega⟩
      have hR4 : R < 4 := by omega
      obtain ⟨GK, hGK⟩ : ∃ GK, GK = gk := ⟨_, rfl⟩
      go_loopg [9] (Z.length + 1) (fun kq v9 w' => ∃ k : Nat, v9 = .int .i64 (k : Int) ∧ k ≤ Z.length ∧ Z.length - k < kq ∧ Aside0 (∀ x ∈ Z.take k, kl x.1 a.f2) ∧ Aside0 (Below V1.heap.size V1 w'))
      case atStart => exact ⟨0, rfl, by omega, by omega, ⟨by simp⟩, ⟨Below.refl _ _⟩⟩
      case round =>
        obtain ⟨k, rfl, hkz, hkk, HLs, HBq⟩ := hrel
        have c2 := up HBq.out D2.out
        have a0 : (0 : Int) ≤ (k : Int) := by omega
        by_cases hkl : k < Z.length
        · have e0 := up HBq.out (HP1.out.cell0 hkl)
          have a1 : (k : Int) < (Z.length : Int) := by omega
          obtain ⟨q, hq⟩ : ∃ q, q = Z[k] := ⟨_, rfl⟩
          rw [← hq] at e0
          have HQ := Aside0.mk hq
          clear hq
          by_cases hlt2 : kl q.1 a.f2
          · have hbl : Op.bytesLess q.1.toList a.f2.toList = true := by rw [cb_less, ByteArray.toList_eq, ByteArray.toList_eq]; exact decide_eq_true hlt2
            go_wp2
            go_quiet (fail)
            go_wp2
            go_roundg (gk - 1)
            case measure => omega
            case rel =>
              refine ⟨k + 1, by go_num, by omega, by omega, ⟨?_⟩, ⟨pw_below_drewN HBq.out nq⟩⟩
              intro x hx
              rw [List.take_succ_eq_append_getElem hkl, List.mem_append, List.mem_singleton] at hx
              rcases hx with hx | hx
              · exact HLs.out x hx
              · rw [hx, ← HQ.out]; exact hlt2
          · have hbl : Op.bytesLess q.1.toList a.f2.toList = false := by rw [cb_less, ByteArray.toList_eq, ByteArray.toList_eq]; exact decide_eq_false hlt2
            go_wp2
            go_quiet (fail)
            go_wp2
            have hb1 := pw_below_drewN HBq.out nq
            generalize wr.drewN nq = X1 at hb1 ⊢
            have c2 := up hb1 D2.out
            have c0 := up hb1 D0.out
            have c1 := up hb1 D1.out
            have e0 := up hb1 (HP1.out.cell0 hkl)
            rw [← HQ.out] at e0
            have hn1 : ∀ (hl : k < Z.length), ¬ kl (Z[k]).1 a.f2 := fun _ => by rw [← HQ.out]; exact hlt2
            have DA := Aside0.mk (del_at HP1.out.srt hkz HLs.out hn1)
            have IA := Aside0.mk (ins_at HP1.out.srt hkz HLs.out hn1 a.f1)
            have hsp := (at_spec HP1.out.srt hkz HLs.out hn1).2.1
            by_cases heq : q.1 = a.f2
            · have hthere : hasZ Z a.f2 = true := hsp.2 ⟨hkl, by rw [← HQ.out]; exact heq⟩
              have hbe : (q.1.toList == a.f2.toList) = true := by rw [heq]; simp
              go_quiet (fail)
              have hb2 := pw_below_drewN hb1 nq
              generalize X1.drewN nq = X at hb2 ⊢
              have c2 := up hb2 D2.out
              have c0 := up hb2 D0.out
              have c1 := up hb2 D1.out
              have HX := Aside0.mk (HP1.out.below hb2)
              have HBX := Aside0.mk hb2
              have HTX := Aside0.mk (HTV.out.below hb2)
              have HFX : Aside0 (∀ k, X.heap.size ≤ k → FL w lb k ∧ k ≠ V.heap.size) := ⟨fun k hk => ⟨HX.out.hF k hk, by have := hb2.size; omega⟩⟩
              clear hb1 hb2
              have m3 : bits .and .i64 a.f0 3 = (R : Int) := (and_3 a.f0).trans hR
              by_cases hR2 : R = 2
              · subst hR2
                have hstd : playZ (List.take (i + 1) l) = Z.take k ++ Z.drop (k + 1) := by rw [HST.out, ← DA.out.1 hthere]; exact if_pos hR
                have HST2 := Aside0.mk hstd
                clear hstd
                go_wp2_with (first
                  | (go_at_call 12; refine (drop_int HX.out.tree HX.out.hF (by unfold maxTree; omega) a.f2).mono ?_; rw [hthere]; rintro e X2 ⟨rfl, ht, hf⟩; have HT := Aside0.mk ht; have HFr := Aside0.mk hf; clear ht hf))
                have hrb := HX.out.turned HT.out HFr.out
                have HRB := Aside0.mk hrb
                have hkc : k ≤ cap := by omega
                obtain ⟨A, hA, hAl, hsrc⟩ := cut_from hrb.1 (k := k + 1) (by omega)
                have hlbX := hrb.1.lt lb rfl
                have HLb := Aside0.mk hlbX
                have b1 : Below X2.heap.size X2 (X2.drew.alloc (.cells #[] 55)) := (belowDrew (Below.refl _ _)).alloc (Nat.le_refl _) _
                have HB1 := Aside0.mk b1
                have ho0 : (X2.drew.alloc (.cells #[] 55)).ownsRow X2.heap.size 55 2 (.slice (some ⟨X2.heap.size, 0, none⟩) 0 0) 0 [] := World.ownsRow_lit (base := X2.heap.size) (e := 55) (size := 2) X2.drew #[] 0 (Nat.le_refl _) (Nat.zero_le _) rfl
                have HO0 := Aside0.mk ho0
                have htk : ∀ j u, ((fp Z).take (k * 2))[j]? = some u → X2.cell? ((⟨lb, 0, none⟩ : Addr).add j) = some u := fun j u hu => hrb.1.cells (g := lb) rfl j u (by rw [List.getElem?_take] at hu; split at hu; exact hu; cases hu)
                have HTK := Aside0.mk htk
                have hlT : ((fp Z).take (k * 2)).length = k * 2 := by rw [List.length_take, fp_len]; omega
                have o1t : ∀ u ∈ (fp Z).take (k * 2), u.oneCell' = true := fun u hu => fp_one Z u (List.mem_of_mem_take hu)
                have o1d : ∀ u ∈ (fp Z).drop ((k + 1) * 2), u.oneCell' = true := fun u hu => fp_one Z u (List.mem_of_mem_drop hu)
                have O1T := Aside0.mk o1t
                have O1D := Aside0.mk o1d
                have a2 : (k : Int) ≤ (Z.length : Int) := by omega
                have a3 : (0 : Int) ≤ (k : Int) + 1 := by omega
                have a4 : (k : Int) + 1 ≤ (Z.length : Int) := by omega
                have a6 : (Z.length : Int) ≤ (cap : Int) := by omega
                have a9 : (k : Int) ≤ (cap : Int) := by omega
                have q2 : ((k + 1 : Nat) : Int) = (k : Int) + 1 := by omega
                have q3 : ((k : Int) + 1).toNat = k + 1 := by omega
                have q4 : (k : Int) + 1 ≤ (cap : Int) := by omega
                have q5 : IntKind.i64.wrap ((k : Int) + 1) = (k : Int) + 1 := by rw [IntKind.wrap_i64]; omega
                clear hrb hlbX b1 ho0 htk o1t o1d
                go_region_law (first
                  | (rw [if_pos (by rfl)]; refine app51 _ _ _ rfl X2.heap.size X2.heap.size 0 0 [] (by simp [Act.eval, Act.put]) HO0.out ⟨lb, 0, none⟩ k cap ((fp Z).take (k * 2)) (by simp [Act.eval, Act.put]) hlT (fun j u hu => up HB1.out (HTK.out j u hu)) O1T.out (by omega) HB1.out.size ?_
                     intro g1 cap1 w1 ho1 hb1
                     have HO1 := Aside0.mk ho1
                     have HB2 := Aside0.mk (HB1.out.trans hb1)
                     clear ho1 hb1)
                  | (rw [if_pos (by rfl)]; refine app51 _ _ _ rfl X2.heap.size g1 (0 + k) cap1 ([] ++ (fp Z).take (k * 2)) (by simp [Act.eval, Act.put]) HO1.out A (Z.length - (k + 1)) (cap - (k + 1)) ((fp Z).drop ((k + 1) * 2)) (by simp [Act.eval, Act.put]) hAl (fun j u hu => up HB2.out (hsrc.out j u hu)) O1D.out (by omega) HB2.out.size ?_
                     intro g2 cap2 w2 ho2 hb2
                     have HO2 := Aside0.mk ho2
                     have HB3 := Aside0.mk (HB2.out.trans hb2)
                     clear ho2 hb2))
                have hlen : (Z.take k ++ Z.drop (k + 1)).length = k + (Z.length - (k + 1)) := by rw [List.length_append, List.length_take, List.length_drop]; omega
                have HP2 : Aside0 (PSt w w2 g g2 cap2 (Z.take k ++ Z.drop (k + 1))) := ⟨by
                  refine PSt.renew HT.out (by rw [DA.out.1 hthere]) HRB.out.2 HB3.out ?_
                  have := HO2.out
                  rw [List.nil_append, ← fp_take, ← fp_drop, ← fp_append, Nat.zero_add] at this
                  rw [hlen]
                  exact this⟩
                have HLN := Aside0.mk hlen
                clear hlen
                go_wp2_with (first
                  | (go_at_call 14; refine (len_int HP2.out.tree).mono ?_; rw [HLN.out]; rintro e Y ⟨rfl, rfl⟩))
                go_roundg (GK - 1)
                case measure => omega
                case rel => exact ⟨i + 1, _, _, _, by go_num, rfl, by rw [HST2.out, HLN.out], by omega, by omega, ⟨by rw [HST2.out]; exact HP2.out⟩⟩
              · by_cases hR3 : R = 3
                · subst hR3
                  have hstc : playZ (List.take (i + 1) l) = Z := by rw [HST.out]; exact (if_neg (by rw [hR]; decide)).trans (if_pos hR)
                  have HST2 := Aside0.mk hstc
                  clear hstc
                  obtain ⟨F1, hF1⟩ : ∃ F1 : Nat → Prop, F1 = fun k => FL w lb k ∧ k ≠ V.heap.size := ⟨_, rfl⟩
                  have HLB : Aside0 (¬ F1 lb) := ⟨by rw [hF1]; exact fun q => q.1.2 rfl⟩
                  have HNV : Aside0 (¬ F1 V.heap.size) := ⟨by rw [hF1]; exact fun q => q.2 rfl⟩
                  have HFB : Aside0 (∀ k, k < w.heap.size → ¬ F1 k) := ⟨by rw [hF1]; intro k hk q; have := q.1.1; omega⟩
                  have HTX := HTX
                  have HFX := HFX
                  rw [← hF1] at HTX
                  have HFX : Aside0 (∀ k, X.heap.size ≤ k → F1 k) := ⟨by rw [hF1]; exact HFX.out⟩
                  clear hF1
                  go_wp2_with (first
                    | (go_at_call 22; refine (clonet HTX.out (by rw [List.length_map]; unfold maxTree; omega)).mono ?_; rintro e Y0 ⟨rfl, hct, hcb⟩
                       have c1 := up hcb c1
                       have c2 := up hcb c2
                       have HCT : Aside0 (TreeAt (fun k => X.heap.size ≤ k ∧ k < Y0.heap.size) Y0 X.heap.size (Z.map zi)) := ⟨hct.turn (fun k hk q => ⟨q, hk⟩)⟩
                       have HOT : Aside0 (TreeAt (FO F1 X Y0) Y0 g (Z.map zi)) := ⟨(HTX.out.turn (G := FO F1 X Y0) (fun k hk q => ⟨q, by omega⟩)).below hcb⟩
                       have HOF : Aside0 (∀ k, Y0.heap.size ≤ k → FO F1 X Y0 k) := ⟨fun k hk => ⟨HFX.out k (by have := hcb.size; omega), by omega⟩⟩
                       have HCB := Aside0.mk hcb
                       clear hct hcb)
                    | (go_at_call 11; refine (put_int HOT.out HOF.out (by unfold maxTree; omega) a.f2 a.f1).mono ?_; rintro e Y1 ⟨rfl, ht, hf⟩
                       have HT1 : Aside0 (∃ Z2 : List Pair, Z2.length ≤ 300 ∧ TreeAt (FO F1 X Y0) Y1 g (Z2.map zi)) := ⟨_, Nat.le_trans (insZ_len' Z a.f2 a.f1 (n := 200) (by omega)) (by omega), ht⟩
                       have HF1 := Aside0.mk hf
                       clear ht hf))
                  go_loopg [124] (Z.length + 1) (fun kq v124 w' => ∃ j : Nat, v124 = .int .i64 (j : Int) ∧ j ≤ Z.length ∧ Z.length - j < kq ∧ Aside0 (∃ Z2 : List Pair, Z2.length ≤ 300 ∧ TreeAt (FO F1 X Y0) w' g (Z2.map zi)) ∧ Aside0 (Fr (FO F1 X Y0) Y0 w'))
                  case atStart => exact ⟨0, rfl, by omega, by omega, HT1, HF1⟩
                  case round =>
                    obtain ⟨j, rfl, hjz, hjk, HT2, HF2⟩ := hrel
                    by_cases hjl : j < Z.length
                    · have e0 := HF2.out.cellOf (up HCB.out (HX.out.cell0 hjl)) (fun q => HLB.out q.1)
                      have e1 := HF2.out.cellOf (up HCB.out (HX.out.cell1 hjl)) (fun q => HLB.out q.1)
                      have g0 : (0 : Int) ≤ (j : Int) := by omega
                      have g1 : (j : Int) < (Z.length : Int) := by omega
                      obtain ⟨p, hp⟩ : ∃ p, p = Z[j] := ⟨_, rfl⟩
                      rw [← hp] at e0 e1
                      clear hp
                      obtain ⟨Z2, hz2, ht2⟩ := HT2.out
                      have hba : Below wr.heap.size wr (wr.alloc (.cells #[.string p.1, .int .i64 p.2] 55)) := below_alloc (Below.refl _ _) _
                      have HT3 := Aside0.mk (ht2.below hba)
                      have HF3 := Aside0.mk (HF2.out.trans (Fr.below hba))
                      clear hba ht2
                      go_wp2_with (first
                        | (go_at_call 12; refine (drop_int HT3.out (fun k hk => HOF.out k (Nat.le_trans HF3.out.size hk)) (by unfold maxTree; omega) p.1).mono ?_; rintro e Y5 ⟨rfl, ht5, hf5⟩
                           have HT5 : Aside0 (∃ Z2 : List Pair, Z2.length ≤ 300 ∧ TreeAt (FO F1 X Y0) Y5 g (Z2.map zi)) := ⟨_, Nat.le_trans (delZ_len Z2 p.1) hz2, ht5⟩
                           have HF5 := Aside0.mk (HF3.out.trans hf5)
                           clear ht5 hf5))
                      go_roundg (gk - 1)
                      case measure => omega
                      case rel => exact ⟨j + 1, by go_num, by omega, by omega, HT5, HF5⟩
                    · have HP2 : Aside0 (PSt w wr X.heap.size lb cap Z) := ⟨by
                        have hlbX := HX.out.row.lt lb rfl
                        have hcs := HCB.out.size
                        have hwx := HX.out.bel.size
                        refine ⟨ownsRow_same (ownsRow_below HX.out.row HCB.out) (fun k e => ?_), (HCT.out.kept (fun k hk hl => HF2.out.block k hl (fun q => q.2 hk))).turn (G := FL w lb) (fun k _ q => ⟨by omega, by omega⟩), ?_⟩
                        · cases e
                          exact HF2.out.block lb (by omega) (fun q => HLB.out q.1)
                        · exact (HX.out.bel.trans (HCB.out.mono hwx)).trans ⟨HF2.out.os, HF2.out.tape, HF2.out.output, HF2.out.size, fun k hk => HF2.out.block k (by omega) (fun q => HFB.out k hk q.1)⟩⟩
                      go_wp2_with (first
                        | (go_at_call 14; refine (len_int HP2.out.tree).mono ?_; rintro e Y ⟨rfl, rfl⟩))
                      go_roundg (GK - 1)
                      case measure => omega
                      case rel => exact ⟨i + 1, _, _, _, by go_num, rfl, by rw [HST2.out], by omega, by omega, ⟨by rw [HST2.out]; exact HP2.out⟩⟩
                · have hRi2 : ¬ (R : Int) = 2 := by omega
                  have hRi3 : ¬ (R : Int) = 3 := by omega
                  have hRn2 : ¬ a.f0 % 4 = 2 := by rw [hR]; exact hRi2
                  have hRn3 : ¬ a.f0 % 4 = 3 := by rw [hR]; exact hRi3
                  have hke : ∃ hl : k < Z.length, (Z[k]).1 = a.f2 := hsp.1 hthere
                  obtain ⟨hkl3, hke⟩ := hke
                  have HKE := Aside0.mk hke
                  have hstp : playZ (List.take (i + 1) l) = Z.set k (a.f2, a.f1) := by rw [HST.out, ← IA.out.1 hthere]; exact (if_neg hRn2).trans (if_neg hRn3)
                  have HST2 := Aside0.mk hstp
                  clear hstp hke
                  go_wp2_with (first
                    | (go_at_call 11; refine (put_int HTX.out HFX.out (by unfold maxTree; omega) a.f2 a.f1).mono ?_; rw [hthere]; rintro e X2 ⟨rfl, ht, hf⟩
                       have c1 := hf.cellOf c1 (fun q => q.2 rfl)
                       have ht := ht.turn (G := FL w lb) (fun k _ q => q.1)
                       have hf := hf.mono (G := FL w lb) (fun k _ q => q.1)
                       have HT := Aside0.mk ht
                       have HRB := Aside0.mk (HX.out.turned ht hf)
                       have HB1 : Aside0 (Below X2.heap.size X2 (X2.alloc (.cells #[] 55))) := ⟨(Below.refl _ _).alloc (Nat.le_refl _) _⟩
                       have HO0 : Aside0 ((X2.alloc (.cells #[] 55)).ownsRow X2.heap.size 55 2 (.slice (some ⟨X2.heap.size, 0, none⟩) 0 0) 0 []) := ⟨World.ownsRow_lit (base := X2.heap.size) (e := 55) (size := 2) X2 #[] 0 (Nat.le_refl _) (Nat.zero_le _) rfl⟩
                       clear ht hf)
                    | (refine app51L rfl _ _ _ rfl X2.heap.size X2.heap.size 0 0 [] (by simp [Act.eval, Act.put]) HO0.out ⟨lb, 0, none⟩ Z.length cap (fp Z) (by simp [Act.eval, Act.put]) (fp_len Z) (fun j u hu => up HB1.out (HRB.out.1.cells (g := lb) rfl j u hu)) (fp_one Z) (by omega) HB1.out.size ?_
                       intro g1 cap1 w1 ho1 hb1
                       have c1 := up (HB1.out.trans hb1) c1
                       rw [Nat.zero_add, List.nil_append] at ho1
                       have s0 : w1.cell? ⟨g1, k * 2 + 1, none⟩ = some (.int .i64 (Z[k]).2) := (ho1.cellAt (k * 2 + 1) (by omega)).trans (fp_get1 hkl3)
                       have s1 := ho1.frozenAt (k * 2 + 1)
                       have hlen : (Z.set k (a.f2, a.f1)).length = Z.length := List.length_set
                       have HP2 : Aside0 (PSt w (w1.setCell ⟨g1, k * 2 + 1, none⟩ (.int .i64 a.f1)) g g1 cap1 (Z.set k (a.f2, a.f1))) := ⟨by
                         refine PSt.renew HT.out (by rw [IA.out.1 hthere]) HRB.out.2 (Below.setCell (HB1.out.trans hb1) (p := ⟨g1, k * 2 + 1, none⟩) (ho1.lt g1 rfl).1 _) ?_
                         rw [hlen, fp_set hkl3 a.f1 HKE.out]
                         exact (ho1.stored (k * 2 + 1) (.int .i64 a.f1)).1⟩
                       have HLN := Aside0.mk hlen
                       clear ho1 hb1 hlen
                       rw [Nat.zero_add Z.length])
                    | (go_at_call 14; refine (len_int HP2.out.tree).mono ?_; rw [HLN.out]; rintro e Y ⟨rfl, rfl⟩))
                  go_roundg (GK - 1)
                  case measure => omega
                  case rel => exact ⟨i + 1, _, _, _, by go_num, rfl, by rw [HST2.out, HLN.out], by omega, by omega, ⟨by rw [HST2.out]; exact HP2.out⟩⟩
            · have hthere : hasZ Z a.f2 = false := by
                cases hh : hasZ Z a.f2 with
                | false => rfl
                | true => obtain ⟨_, e⟩ := hsp.1 hh; rw [← HQ.out] at e; exact absurd e heq
              have hbe : (q.1.toList == a.f2.toList) = false := by
                rw [ByteArray.toList_eq, ByteArray.toList_eq]
                simp only [beq_eq_false_iff_ne, ne_eq]
                intro e
                apply heq
                cases hq1 : q.1
                cases hq2 : a.f2
                rw [hq1, hq2] at e
                simp at e
                rw [e]
              go_quiet (fail)
              have hb2 := pw_below_drewN hb1 nq
              generalize X1.drewN nq = X at hb2 ⊢
              have c2 := up hb2 D2.out
              have c0 := up hb2 D0.out
              have c1 := up hb2 D1.out
              have HX := Aside0.mk (HP1.out.below hb2)
              have HBX := Aside0.mk hb2
              have HTX := Aside0.mk (HTV.out.below hb2)
              have HFX : Aside0 (∀ k, X.heap.size ≤ k → FL w lb k ∧ k ≠ V.heap.size) := ⟨fun k hk => ⟨HX.out.hF k hk, by have := hb2.size; omega⟩⟩
              clear hb1 hb2
              have m3 : bits .and .i64 a.f0 3 = (R : Int) := (and_3 a.f0).trans hR
              by_cases hR2 : R = 2
              · subst hR2
                have hstd : playZ (List.take (i + 1) l) = Z := by rw [HST.out]; refine (if_pos hR).trans (DA.out.2 hthere)
                have HST2 := Aside0.mk hstd
                clear hstd
                go_wp2_with (first
                  | (go_at_call 12; refine (drop_int HX.out.tree HX.out.hF (by unfold maxTree; omega) a.f2).mono ?_; rw [hthere, DA.out.2 hthere]; rintro e X2 ⟨rfl, ht, hf⟩; have HP2 : Aside0 (PSt w X2 g lb cap Z) := ⟨⟨(HX.out.turned ht hf).1, ht, (HX.out.turned ht hf).2⟩⟩; clear ht hf)
                  | (go_at_call 14; refine (len_int HP2.out.tree).mono ?_; rintro e Y ⟨rfl, rfl⟩))
                go_roundg (GK - 1)
                case measure => omega
                case rel => exact ⟨i + 1, _, _, _, by go_num, rfl, by rw [HST2.out], by omega, by omega, ⟨by rw [HST2.out]; exact HP2.out⟩⟩
              · by_cases hR3 : R = 3
                · subst hR3
                  have hstc : playZ (List.take (i + 1) l) = Z := by rw [HST.out]; exact (if_neg (by rw [hR]; decide)).trans (if_pos hR)
                  have HST2 := Aside0.mk hstc
                  clear hstc
                  obtain ⟨F1, hF1⟩ : ∃ F1 : Nat → Prop, F1 = fun k => FL w lb k ∧ k ≠ V.heap.size := ⟨_, rfl⟩
                  have HLB : Aside0 (¬ F1 lb) := ⟨by rw [hF1]; exact fun q => q.1.2 rfl⟩
                  have HNV : Aside0 (¬ F1 V.heap.size) := ⟨by rw [hF1]; exact fun q => q.2 rfl⟩
                  have HFB : Aside0 (∀ k, k < w.heap.size → ¬ F1 k) := ⟨by rw [hF1]; intro k hk q; have := q.1.1; omega⟩
                  have HTX := HTX
                  have HFX := HFX
                  rw [← hF1] at HTX
                  have HFX : Aside0 (∀ k, X.heap.size ≤ k → F1 k) := ⟨by rw [hF1]; exact HFX.out⟩
                  clear hF1
                  go_wp2_with (first
                    | (go_at_call 22; refine (clonet HTX.out (by rw [List.length_map]; unfold maxTree; omega)).mono ?_; rintro e Y0 ⟨rfl, hct, hcb⟩
                       have c1 := up hcb c1
                       have c2 := up hcb c2
                       have HCT : Aside0 (TreeAt (fun k => X.heap.size ≤ k ∧ k < Y0.heap.size) Y0 X.heap.size (Z.map zi)) := ⟨hct.turn (fun k hk q => ⟨q, hk⟩)⟩
                       have HOT : Aside0 (TreeAt (FO F1 X Y0) Y0 g (Z.map zi)) := ⟨(HTX.out.turn (G := FO F1 X Y0) (fun k hk q => ⟨q, by omega⟩)).below hcb⟩
                       have HOF : Aside0 (∀ k, Y0.heap.size ≤ k → FO F1 X Y0 k) := ⟨fun k hk => ⟨HFX.out k (by have := hcb.size; omega), by omega⟩⟩
                       have HCB := Aside0.mk hcb
                       clear hct hcb)
                    | (go_at_call 11; refine (put_int HOT.out HOF.out (by unfold maxTree; omega) a.f2 a.f1).mono ?_; rintro e Y1 ⟨rfl, ht, hf⟩
                       have HT1 : Aside0 (∃ Z2 : List Pair, Z2.length ≤ 300 ∧ TreeAt (FO F1 X Y0) Y1 g (Z2.map zi)) := ⟨_, Nat.le_trans (insZ_len' Z a.f2 a.f1 (n := 200) (by omega)) (by omega), ht⟩
                       have HF1 := Aside0.mk hf
                       clear ht hf))
                  go_loopg [124] (Z.length + 1) (fun kq v124 w' => ∃ j : Nat, v124 = .int .i64 (j : Int) ∧ j ≤ Z.length ∧ Z.length - j < kq ∧ Aside0 (∃ Z2 : List Pair, Z2.length ≤ 300 ∧ TreeAt (FO F1 X Y0) w' g (Z2.map zi)) ∧ Aside0 (Fr (FO F1 X Y0) Y0 w'))
                  case atStart => exact ⟨0, rfl, by omega, by omega, HT1, HF1⟩
                  case round =>
                    obtain ⟨j, rfl, hjz, hjk, HT2, HF2⟩ := hrel
                    by_cases hjl : j < Z.length
                    · have e0 := HF2.out.cellOf (up HCB.out (HX.out.cell0 hjl)) (fun q => HLB.out q.1)
                      have e1 := HF2.out.cellOf (up HCB.out (HX.out.cell1 hjl)) (fun q => HLB.out q.1)
                      have g0 : (0 : Int) ≤ (j : Int) := by omega
                      have g1 : (j : Int) < (Z.length : Int) := by omega
                      obtain ⟨p, hp⟩ : ∃ p, p = Z[j] := ⟨_, rfl⟩
                      rw [← hp] at e0 e1
                      clear hp
                      obtain ⟨Z2, hz2, ht2⟩ := HT2.out
                      have hba : Below wr.heap.size wr (wr.alloc (.cells #[.string p.1, .int .i64 p.2] 55)) := below_alloc (Below.refl _ _) _
                      have HT3 := Aside0.mk (ht2.below hba)
                      have HF3 := Aside0.mk (HF2.out.trans (Fr.below hba))
                      clear hba ht2
                      go_wp2_with (first
                        | (go_at_call 12; refine (drop_int HT3.out (fun k hk => HOF.out k (Nat.le_trans HF3.out.size hk)) (by unfold maxTree; omega) p.1).mono ?_; rintro e Y5 ⟨rfl, ht5, hf5⟩
                           have HT5 : Aside0 (∃ Z2 : List Pair, Z2.length ≤ 300 ∧ TreeAt (FO F1 X Y0) Y5 g (Z2.map zi)) := ⟨_, Nat.le_trans (delZ_len Z2 p.1) hz2, ht5⟩
                           have HF5 := Aside0.mk (HF3.out.trans hf5)
                           clear ht5 hf5))
                      go_roundg (gk - 1)
                      case measure => omega
                      case rel => exact ⟨j + 1, by go_num, by omega, by omega, HT5, HF5⟩
                    · have HP2 : Aside0 (PSt w wr X.heap.size lb cap Z) := ⟨by
                        have hlbX := HX.out.row.lt lb rfl
                        have hcs := HCB.out.size
                        have hwx := HX.out.bel.size
                        refine ⟨ownsRow_same (ownsRow_below HX.out.row HCB.out) (fun k e => ?_), (HCT.out.kept (fun k hk hl => HF2.out.block k hl (fun q => q.2 hk))).turn (G := FL w lb) (fun k _ q => ⟨by omega, by omega⟩), ?_⟩
                        · cases e
                          exact HF2.out.block lb (by omega) (fun q => HLB.out q.1)
                        · exact (HX.out.bel.trans (HCB.out.mono hwx)).trans ⟨HF2.out.os, HF2.out.tape, HF2.out.output, HF2.out.size, fun k hk => HF2.out.block k (by omega) (fun q => HFB.out k hk q.1)⟩⟩
                      go_wp2_with (first
                        | (go_at_call 14; refine (len_int HP2.out.tree).mono ?_; rintro e Y ⟨rfl, rfl⟩))
                      go_roundg (GK - 1)
                      case measure => omega
                      case rel => exact ⟨i + 1, _, _, _, by go_num, rfl, by rw [HST2.out], by omega, by omega, ⟨by rw [HST2.out]; exact HP2.out⟩⟩
                · have hRi2 : ¬ (R : Int) = 2 := by omega
                  have hRi3 : ¬ (R : Int) = 3 := by omega
                  have hRn2 : ¬ a.f0 % 4 = 2 := by rw [hR]; exact hRi2
                  have hRn3 : ¬ a.f0 % 4 = 3 := by rw [hR]; exact hRi3
                  have hstp : playZ (List.take (i + 1) l) = Z.take k ++ [(a.f2, a.f1)] ++ Z.drop k := by rw [HST.out, ← IA.out.2 hthere]; exact (if_neg hRn2).trans (if_neg hRn3)
                  have HST2 := Aside0.mk hstp
                  have o1d : ∀ u ∈ (fp Z).drop (k * 2), u.oneCell' = true := fun u hu => fp_one Z u (List.mem_of_mem_drop hu)
                  have O1D := Aside0.mk o1d
                  have a2 : (k : Int) ≤ (Z.length : Int) := by omega
                  have a9 : (k : Int) ≤ (cap : Int) := by omega
                  have a6 : (Z.length : Int) ≤ (cap : Int) := by omega
                  have hlT : ((fp Z).take (k * 2)).length = k * 2 := by rw [List.length_take, fp_len]; omega
                  clear hstp o1d
                  go_wp2_with (first
                    | (go_at_call 11; refine (put_int HTX.out HFX.out (by unfold maxTree; omega) a.f2 a.f1).mono ?_; rw [hthere]; rintro e X2 ⟨rfl, ht, hf⟩
                       have c1 := hf.cellOf c1 (fun q => q.2 rfl)
                       have c2 := hf.cellOf c2 (fun q => q.2 rfl)
                       have ht := ht.turn (G := FL w lb) (fun k _ q => q.1)
                       have hf := hf.mono (G := FL w lb) (fun k _ q => q.1)
                       have HT := Aside0.mk ht
                       have HRB := Aside0.mk (HX.out.turned ht hf)
                       obtain ⟨A, hA, hAl, hsrc⟩ := cut_from (HX.out.turned ht hf).1 (k := k) hkz
                       have HB1 : Aside0 (Below X2.heap.size X2 (X2.alloc (.cells #[] 55))) := ⟨(Below.refl _ _).alloc (Nat.le_refl _) _⟩
                       have HO0 : Aside0 ((X2.alloc (.cells #[] 55)).ownsRow X2.heap.size 55 2 (.slice (some ⟨X2.heap.size, 0, none⟩) 0 0) 0 []) := ⟨World.ownsRow_lit (base := X2.heap.size) (e := 55) (size := 2) X2 #[] 0 (Nat.le_refl _) (Nat.zero_le _) rfl⟩
                       clear ht hf)
                    | (refine app51L rfl _ _ _ rfl X2.heap.size X2.heap.size 0 0 [] (by simp [Act.eval, Act.put]) HO0.out A (Z.length - k) (cap - k) ((fp Z).drop (k * 2)) (by first | (simp [Act.eval, Act.put, hA]; done) | (have hne : ¬ cap = k := (by omega); have hB := hA; rw [if_neg hne, Option.some.injEq] at hB; rw [← hB]; simp [Act.eval, Act.put]; done)) hAl (fun j u hu => up HB1.out (hsrc.out j u hu)) O1D.out (by omega) HB1.out.size ?_
                       intro g1 cap1 w1 ho1 hb1
                       rw [Nat.zero_add, List.nil_append] at ho1
                       have HO1 := Aside0.mk ho1
                       have hb2 := HB1.out.trans hb1
                       have c1 := up hb2 c1
                       have c2 := up hb2 c2
                       have k1 := up (belowDrew (Below.refl _ _)) c1
                       have k2 := up (belowDrew (Below.refl _ _)) c2
                       have HB2 := Aside0.mk hb2
                       have HB3 : Aside0 (Below X2.heap.size X2 (w1.drew.alloc (.cells #[.string a.f2, .int .i64 a.f1] 55))) := ⟨(belowDrew hb2).alloc hb2.size _⟩
                       have HB3a : Aside0 (Below w1.heap.size w1 (w1.drew.alloc (.cells #[.string a.f2, .int .i64 a.f1] 55))) := ⟨(belowDrew (Below.refl _ _)).alloc (Nat.le_refl _) _⟩
                       have HTK : Aside0 (∀ j u, ((fp Z).take (k * 2))[j]? = some u → (w1.drew.alloc (.cells #[.string a.f2, .int .i64 a.f1] 55)).cell? ((⟨lb, 0, none⟩ : Addr).add j) = some u) := ⟨fun j u hu => up HB3.out (HRB.out.1.cells (g := lb) rfl j u (by rw [List.getElem?_take] at hu; split at hu; exact hu; cases hu))⟩
                       have HNW : Aside0 (∀ j u, [Value.string a.f2, Value.int .i64 a.f1][j]? = some u → (w1.drew.alloc (.cells #[.string a.f2, .int .i64 a.f1] 55)).cell? ((⟨w1.heap.size, 0, none⟩ : Addr).add j) = some u) := ⟨World.news_of_block (heap_alloc_new w1.drew _)⟩
                       clear ho1 hb1 hb2
                       rw [Nat.zero_add (Z.length - k)]))
                  go_region_law (first
                    | (rw [if_pos (by rfl)]; refine app51g _ _ _ rfl lb k ((fp Z).take (k * 2)) (by simp [Act.eval, Act.put]) hlT HTK.out ⟨w1.heap.size, 0, none⟩ 1 1 [.string a.f2, .int .i64 a.f1] (by simp [Act.eval, Act.put]) rfl HNW.out (by omega) (by omega) ?_
                       intro g2 cap2 w2 ho2 hb2
                       have HO2 := Aside0.mk ho2
                       have HB4 := Aside0.mk hb2
                       have HB5 := Aside0.mk (HB3.out.trans (hb2.mono HB3.out.size))
                       clear ho2 hb2)
                    | (rw [if_pos (by rfl)]; refine app51 _ _ _ rfl _ g2 (k + 1) cap2 ((fp Z).take (k * 2) ++ [.string a.f2, .int .i64 a.f1]) (by simp [Act.eval, Act.put]) HO2.out ⟨g1, 0, none⟩ (Z.length - k) cap1 ((fp Z).drop (k * 2)) (by simp [Act.eval, Act.put]) hAl (fun j u hu => up HB4.out (up HB3a.out (HO1.out.cells (g := g1) rfl j u hu))) O1D.out (by omega) HB4.out.size ?_
                       intro g3 cap3 w3 ho3 hb3
                       have HO3 := Aside0.mk ho3
                       have HB6 := Aside0.mk (HB5.out.trans (hb3.mono HB3.out.size))
                       clear ho3 hb3))
                  all_goals
                    have hlen : (Z.take k ++ [(a.f2, a.f1)] ++ Z.drop k).length = k + 1 + (Z.length - k) := by rw [List.length_append, List.length_append, List.length_take, List.length_drop, List.length_singleton]; omega
                    have HP2 : Aside0 (PSt w w3 g g3 cap3 (Z.take k ++ [(a.f2, a.f1)] ++ Z.drop k)) := ⟨by
                      refine PSt.renew HT.out (by rw [IA.out.2 hthere]) HRB.out.2 HB6.out ?_
                      have := HO3.out
                      have e1 : [Value.string a.f2, Value.int .i64 a.f1] = fp [(a.f2, a.f1)] := rfl
                      rw [e1, ← fp_take, ← fp_drop, ← fp_append, ← fp_append] at this
                      rw [hlen]
                      exact ownsRow_lower this HB3.out.size⟩
                    have HLN := Aside0.mk hlen
                    clear hlen
                    go_wp2_with (first
                      | (go_at_call 14; refine (len_int HP2.out.tree).mono ?_; rw [HLN.out]; rintro e Y ⟨rfl, rfl⟩))
                    go_roundg (GK - 1)
                    case measure => omega
                    case rel => exact ⟨i + 1, _, _, _, by go_num, rfl, by rw [HST2.out, HLN.out], by omega, by omega, ⟨by rw [HST2.out]; exact HP2.out⟩⟩
        · have a1 : ¬ (k : Int) < (Z.length : Int) := by omega
          go_wp2
          go_quiet (fail)
          go_wp2
          have hb1 := pw_below_drewN HBq.out nq
          generalize wr.drewN nq = X1 at hb1 ⊢
          have c2 := up hb1 D2.out
          have c0 := up hb1 D0.out
          have c1 := up hb1 D1.out
          have hn1 : ∀ (hl : k < Z.length), ¬ kl (Z[k]).1 a.f2 := fun hl => absurd hl hkl
          have DA := Aside0.mk (del_at HP1.out.srt hkz HLs.out hn1)
          have IA := Aside0.mk (ins_at HP1.out.srt hkz HLs.out hn1 a.f1)
          have hsp := (at_spec HP1.out.srt hkz HLs.out hn1).2.1
          have hthere : hasZ Z a.f2 = false := by
            cases hh : hasZ Z a.f2 with
            | false => rfl
            | true => obtain ⟨hl, _⟩ := hsp.1 hh; exact absurd hl hkl
          go_quiet (fail)
          have hb2 := pw_below_drewN hb1 nq
          generalize X1.drewN nq = X at hb2 ⊢
          have c2 := up hb2 D2.out
          have c0 := up hb2 D0.out
          have c1 := up hb2 D1.out
          have HX := Aside0.mk (HP1.out.below hb2)
          have HBX := Aside0.mk hb2
          have HTX := Aside0.mk (HTV.out.below hb2)
          have HFX : Aside0 (∀ k, X.heap.size ≤ k → FL w lb k ∧ k ≠ V.heap.size) := ⟨fun k hk => ⟨HX.out.hF k hk, by have := hb2.size; omega⟩⟩
          clear hb1 hb2
          have m3 : bits .and .i64 a.f0 3 = (R : Int) := (and_3 a.f0).trans hR
          by_cases hR2 : R = 2
          · subst hR2
            have hstd : playZ (List.take (i + 1) l) = Z := by rw [HST.out]; refine (if_pos hR).trans (DA.out.2 hthere)
            have HST2 := Aside0.mk hstd
            clear hstd
            go_wp2_with (first
              | (go_at_call 12; refine (drop_int HX.out.tree HX.out.hF (by unfold maxTree; omega) a.f2).mono ?_; rw [hthere, DA.out.2 hthere]; rintro e X2 ⟨rfl, ht, hf⟩; have HP2 : Aside0 (PSt w X2 g lb cap Z) := ⟨⟨(HX.out.turned ht hf).1, ht, (HX.out.turned ht hf).2⟩⟩; clear ht hf)
              | (go_at_call 14; refine (len_int HP2.out.tree).mono ?_; rintro e Y ⟨rfl, rfl⟩))
            go_roundg (GK - 1)
            case measure => omega
            case rel => exact ⟨i + 1, _, _, _, by go_num, rfl, by rw [HST2.out], by omega, by omega, ⟨by rw [HST2.out]; exact HP2.out⟩⟩
          · by_cases hR3 : R = 3
            · subst hR3
              have hstc : playZ (List.take (i + 1) l) = Z := by rw [HST.out]; exact (if_neg (by rw [hR]; decide)).trans (if_pos hR)
              have HST2 := Aside0.mk hstc
              clear hstc
              obtain ⟨F1, hF1⟩ : ∃ F1 : Nat → Prop, F1 = fun k => FL w lb k ∧ k ≠ V.heap.size := ⟨_, rfl⟩
              have HLB : Aside0 (¬ F1 lb) := ⟨by rw [hF1]; exact fun q => q.1.2 rfl⟩
              have HNV : Aside0 (¬ F1 V.heap.size) := ⟨by rw [hF1]; exact fun q => q.2 rfl⟩
              have HFB : Aside0 (∀ k, k < w.heap.size → ¬ F1 k) := ⟨by rw [hF1]; intro k hk q; have := q.1.1; omega⟩
              have HTX := HTX
              have HFX := HFX
              rw [← hF1] at HTX
              have HFX : Aside0 (∀ k, X.heap.size ≤ k → F1 k) := ⟨by rw [hF1]; exact HFX.out⟩
              clear hF1
              go_wp2_with (first
                | (go_at_call 22; refine (clonet HTX.out (by rw [List.length_map]; unfold maxTree; omega)).mono ?_; rintro e Y0 ⟨rfl, hct, hcb⟩
                   have c1 := up hcb c1
                   have c2 := up hcb c2
                   have HCT : Aside0 (TreeAt (fun k => X.heap.size ≤ k ∧ k < Y0.heap.size) Y0 X.heap.size (Z.map zi)) := ⟨hct.turn (fun k hk q => ⟨q, hk⟩)⟩
                   have HOT : Aside0 (TreeAt (FO F1 X Y0) Y0 g (Z.map zi)) := ⟨(HTX.out.turn (G := FO F1 X Y0) (fun k hk q => ⟨q, by omega⟩)).below hcb⟩
                   have HOF : Aside0 (∀ k, Y0.heap.size ≤ k → FO F1 X Y0 k) := ⟨fun k hk => ⟨HFX.out k (by have := hcb.size; omega), by omega⟩⟩
                   have HCB := Aside0.mk hcb
                   clear hct hcb)
                | (go_at_call 11; refine (put_int HOT.out HOF.out (by unfold maxTree; omega) a.f2 a.f1).mono ?_; rintro e Y1 ⟨rfl, ht, hf⟩
                   have HT1 : Aside0 (∃ Z2 : List Pair, Z2.length ≤ 300 ∧ TreeAt (FO F1 X Y0) Y1 g (Z2.map zi)) := ⟨_, Nat.le_trans (insZ_len' Z a.f2 a.f1 (n := 200) (by omega)) (by omega), ht⟩
                   have HF1 := Aside0.mk hf
                   clear ht hf))
              go_loopg [124] (Z.length + 1) (fun kq v124 w' => ∃ j : Nat, v124 = .int .i64 (j : Int) ∧ j ≤ Z.length ∧ Z.length - j < kq ∧ Aside0 (∃ Z2 : List Pair, Z2.length ≤ 300 ∧ TreeAt (FO F1 X Y0) w' g (Z2.map zi)) ∧ Aside0 (Fr (FO F1 X Y0) Y0 w'))
              case atStart => exact ⟨0, rfl, by omega, by omega, HT1, HF1⟩
              case round =>
                obtain ⟨j, rfl, hjz, hjk, HT2, HF2⟩ := hrel
                by_cases hjl : j < Z.length
                · have e0 := HF2.out.cellOf (up HCB.out (HX.out.cell0 hjl)) (fun q => HLB.out q.1)
                  have e1 := HF2.out.cellOf (up HCB.out (HX.out.cell1 hjl)) (fun q => HLB.out q.1)
                  have g0 : (0 : Int) ≤ (j : Int) := by omega
                  have g1 : (j : Int) < (Z.length : Int) := by omega
                  obtain ⟨p, hp⟩ : ∃ p, p = Z[j] := ⟨_, rfl⟩
                  rw [← hp] at e0 e1
                  clear hp
                  obtain ⟨Z2, hz2, ht2⟩ := HT2.out
                  have hba : Below wr.heap.size wr (wr.alloc (.cells #[.string p.1, .int .i64 p.2] 55)) := below_alloc (Below.refl _ _) _
                  have HT3 := Aside0.mk (ht2.below hba)
                  have HF3 := Aside0.mk (HF2.out.trans (Fr.below hba))
                  clear hba ht2
                  go_wp2_with (first
                    | (go_at_call 12; refine (drop_int HT3.out (fun k hk => HOF.out k (Nat.le_trans HF3.out.size hk)) (by unfold maxTree; omega) p.1).mono ?_; rintro e Y5 ⟨rfl, ht5, hf5⟩
                       have HT5 : Aside0 (∃ Z2 : List Pair, Z2.length ≤ 300 ∧ TreeAt (FO F1 X Y0) Y5 g (Z2.map zi)) := ⟨_, Nat.le_trans (delZ_len Z2 p.1) hz2, ht5⟩
                       have HF5 := Aside0.mk (HF3.out.trans hf5)
                       clear ht5 hf5))
                  go_roundg (gk - 1)
                  case measure => omega
                  case rel => exact ⟨j + 1, by go_num, by omega, by omega, HT5, HF5⟩
                · have HP2 : Aside0 (PSt w wr X.heap.size lb cap Z) := ⟨by
                    have hlbX := HX.out.row.lt lb rfl
                    have hcs := HCB.out.size
                    have hwx := HX.out.bel.size
                    refine ⟨ownsRow_same (ownsRow_below HX.out.row HCB.out) (fun k e => ?_), (HCT.out.kept (fun k hk hl => HF2.out.block k hl (fun q => q.2 hk))).turn (G := FL w lb) (fun k _ q => ⟨by omega, by omega⟩), ?_⟩
                    · cases e
                      exact HF2.out.block lb (by omega) (fun q => HLB.out q.1)
                    · exact (HX.out.bel.trans (HCB.out.mono hwx)).trans ⟨HF2.out.os, HF2.out.tape, HF2.out.output, HF2.out.size, fun k hk => HF2.out.block k (by omega) (fun q => HFB.out k hk q.1)⟩⟩
                  go_wp2_with (first
                    | (go_at_call 14; refine (len_int HP2.out.tree).mono ?_; rintro e Y ⟨rfl, rfl⟩))
                  go_roundg (GK - 1)
                  case measure => omega
                  case rel => exact ⟨i + 1, _, _, _, by go_num, rfl, by rw [HST2.out], by omega, by omega, ⟨by rw [HST2.out]; exact HP2.out⟩⟩
            · have hRi2 : ¬ (R : Int) = 2 := by omega
              have hRi3 : ¬ (R : Int) = 3 := by omega
              have hRn2 : ¬ a.f0 % 4 = 2 := by rw [hR]; exact hRi2
              have hRn3 : ¬ a.f0 % 4 = 3 := by rw [hR]; exact hRi3
              have hstp : playZ (List.take (i + 1) l) = Z.take k ++ [(a.f2, a.f1)] ++ Z.drop k := by rw [HST.out, ← IA.out.2 hthere]; exact (if_neg hRn2).trans (if_neg hRn3)
              have HST2 := Aside0.mk hstp
              have o1d : ∀ u ∈ (fp Z).drop (k * 2), u.oneCell' = true := fun u hu => fp_one Z u (List.mem_of_mem_drop hu)
              have O1D := Aside0.mk o1d
              have a2 : (k : Int) ≤ (Z.length : Int) := by omega
              have a9 : (k : Int) ≤ (cap : Int) := by omega
              have a6 : (Z.length : Int) ≤ (cap : Int) := by omega
              have hlT : ((fp Z).take (k * 2)).length = k * 2 := by rw [List.length_take, fp_len]; omega
              clear hstp o1d
              go_wp2_with (first
                | (go_at_call 11; refine (put_int HTX.out HFX.out (by unfold maxTree; omega) a.f2 a.f1).mono ?_; rw [hthere]; rintro e X2 ⟨rfl, ht, hf⟩
                   have c1 := hf.cellOf c1 (fun q => q.2 rfl)
                   have c2 := hf.cellOf c2 (fun q => q.2 rfl)
                   have ht := ht.turn (G := FL w lb) (fun k _ q => q.1)
                   have hf := hf.mono (G := FL w lb) (fun k _ q => q.1)
                   have HT := Aside0.mk ht
                   have HRB := Aside0.mk (HX.out.turned ht hf)
                   obtain ⟨A, hA, hAl, hsrc⟩ := cut_from (HX.out.turned ht hf).1 (k := k) hkz
                   have HB1 : Aside0 (Below X2.heap.size X2 (X2.alloc (.cells #[] 55))) := ⟨(Below.refl _ _).alloc (Nat.le_refl _) _⟩
                   have HO0 : Aside0 ((X2.alloc (.cells #[] 55)).ownsRow X2.heap.size 55 2 (.slice (some ⟨X2.heap.size, 0, none⟩) 0 0) 0 []) := ⟨World.ownsRow_lit (base := X2.heap.size) (e := 55) (size := 2) X2 #[] 0 (Nat.le_refl _) (Nat.zero_le _) rfl⟩
                   clear ht hf)
                | (refine app51L rfl _ _ _ rfl X2.heap.size X2.heap.size 0 0 [] (by simp [Act.eval, Act.put]) HO0.out A (Z.length - k) (cap - k) ((fp Z).drop (k * 2)) (by first | (simp [Act.eval, Act.put, hA]; done) | (have hne : ¬ cap = k := (by omega); have hB := hA; rw [if_neg hne, Option.some.injEq] at hB; rw [← hB]; simp [Act.eval, Act.put]; done)) hAl (fun j u hu => up HB1.out (hsrc.out j u hu)) O1D.out (by omega) HB1.out.size ?_
                   intro g1 cap1 w1 ho1 hb1
                   rw [Nat.zero_add, List.nil_append] at ho1
                   have HO1 := Aside0.mk ho1
                   have hb2 := HB1.out.trans hb1
                   have c1 := up hb2 c1
                   have c2 := up hb2 c2
                   have k1 := up (belowDrew (Below.refl _ _)) c1
                   have k2 := up (belowDrew (Below.refl _ _)) c2
                   have HB2 := Aside0.mk hb2
                   have HB3 : Aside0 (Below X2.heap.size X2 (w1.drew.alloc (.cells #[.string a.f2, .int .i64 a.f1] 55))) := ⟨(belowDrew hb2).alloc hb2.size _⟩
                   have HB3a : Aside0 (Below w1.heap.size w1 (w1.drew.alloc (.cells #[.string a.f2, .int .i64 a.f1] 55))) := ⟨(belowDrew (Below.refl _ _)).alloc (Nat.le_refl _) _⟩
                   have HTK : Aside0 (∀ j u, ((fp Z).take (k * 2))[j]? = some u → (w1.drew.alloc (.cells #[.string a.f2, .int .i64 a.f1] 55)).cell? ((⟨lb, 0, none⟩ : Addr).add j) = some u) := ⟨fun j u hu => up HB3.out (HRB.out.1.cells (g := lb) rfl j u (by rw [List.getElem?_take] at hu; split at hu; exact hu; cases hu))⟩
                   have HNW : Aside0 (∀ j u, [Value.string a.f2, Value.int .i64 a.f1][j]? = some u → (w1.drew.alloc (.cells #[.string a.f2, .int .i64 a.f1] 55)).cell? ((⟨w1.heap.size, 0, none⟩ : Addr).add j) = some u) := ⟨World.news_of_block (heap_alloc_new w1.drew _)⟩
                   clear ho1 hb1 hb2
                   rw [Nat.zero_add (Z.length - k)]))
              go_region_law (first
                | (rw [if_pos (by rfl)]; refine app51g _ _ _ rfl lb k ((fp Z).take (k * 2)) (by simp [Act.eval, Act.put]) hlT HTK.out ⟨w1.heap.size, 0, none⟩ 1 1 [.string a.f2, .int .i64 a.f1] (by simp [Act.eval, Act.put]) rfl HNW.out (by omega) (by omega) ?_
                   intro g2 cap2 w2 ho2 hb2
                   have HO2 := Aside0.mk ho2
                   have HB4 := Aside0.mk hb2
                   have HB5 := Aside0.mk (HB3.out.trans (hb2.mono HB3.out.size))
                   clear ho2 hb2)
                | (rw [if_pos (by rfl)]; refine app51 _ _ _ rfl _ g2 (k + 1) cap2 ((fp Z).take (k * 2) ++ [.string a.f2, .int .i64 a.f1]) (by simp [Act.eval, Act.put]) HO2.out ⟨g1, 0, none⟩ (Z.length - k) cap1 ((fp Z).drop (k * 2)) (by simp [Act.eval, Act.put]) hAl (fun j u hu => up HB4.out (up HB3a.out (HO1.out.cells (g := g1) rfl j u hu))) O1D.out (by omega) HB4.out.size ?_
                   intro g3 cap3 w3 ho3 hb3
                   have HO3 := Aside0.mk ho3
                   have HB6 := Aside0.mk (HB5.out.trans (hb3.mono HB3.out.size))
                   clear ho3 hb3))
              all_goals
                have hlen : (Z.take k ++ [(a.f2, a.f1)] ++ Z.drop k).length = k + 1 + (Z.length - k) := by rw [List.length_append, List.length_append, List.length_take, List.length_drop, List.length_singleton]; omega
                have HP2 : Aside0 (PSt w w3 g g3 cap3 (Z.take k ++ [(a.f2, a.f1)] ++ Z.drop k)) := ⟨by
                  refine PSt.renew HT.out (by rw [IA.out.2 hthere]) HRB.out.2 HB6.out ?_
                  have := HO3.out
                  have e1 : [Value.string a.f2, Value.int .i64 a.f1] = fp [(a.f2, a.f1)] := rfl
                  rw [e1, ← fp_take, ← fp_drop, ← fp_append, ← fp_append] at this
                  rw [hlen]
                  exact ownsRow_lower this HB3.out.size⟩
                have HLN := Aside0.mk hlen
                clear hlen
                go_wp2_with (first
                  | (go_at_call 14; refine (len_int HP2.out.tree).mono ?_; rw [HLN.out]; rintro e Y ⟨rfl, rfl⟩))
                go_roundg (GK - 1)
                case measure => omega
                case rel => exact ⟨i + 1, _, _, _, by go_num, rfl, by rw [HST2.out, HLN.out], by omega, by omega, ⟨by rw [HST2.out]; exact HP2.out⟩⟩
    · have hi2 : i = l.length := by omega
      have hl2 : l.take i = l := by rw [hi2, List.take_length]
      rw [hl2] at HP ⊢
      clear hl2
      go_wp2
      go_ret3
      exact ⟨g, lb, cap, rfl, HP.out⟩
end Go.Proofs.Ytmpcmpanolnpfaa.Tr
