/- Lemmas that the proof needs, part 20. -/
import Derived.Test.YtmafibbnojdpjaaWKept
import Derived.Deep.RegionHeld3
import Derived.Test.YtmafibbnojdpjaaWWords
import Derived.Test.YtmafibbnojdpjaaSo1
import Derived.Test.YtmafibbnojdpjaaSo2
import Derived.Test.YtmafibbnojdpjaaSo3
import Derived.Test.YtmafibbnojdpjaaSo4
import Derived.Test.YtmafibbnojdpjaaSo5
import Derived.Test.YtmafibbnojdpjaaSo6
import Derived.Test.YtmafibbnojdpjaaSo7
import Derived.Test.YtmafibbnojdpjaaSo8
import Derived.Test.YtmafibbnojdpjaaSo9
import Derived.Test.YtmafibbnojdpjaaSo10
import Derived.Test.YtmafibbnojdpjaaSo11
import Derived.Test.YtmafibbnojdpjaaSo12
import Derived.Test.YtmafibbnojdpjaaSo13
import Derived.Test.YtmafibbnojdpjaaSo14
import Derived.Test.YtmafibbnojdpjaaSo15
import Derived.Test.YtmafibbnojdpjaaSo16
import Derived.Test.YtmafibbnojdpjaaSo17
import Derived.Test.YtmafibbnojdpjaaSo18
import Derived.Test.YtmafibbnojdpjaaSo19
section
set_option linter.unusedVariables false
set_option maxRecDepth 100000
set_option linter.unusedSimpArgs false
namespace Go.Proofs.Ytmafibbnojdpjaa.St
open Go.Proofs.Ytmafibbnojdpjaa.Tr Go.RowKit Go.Proofs.YtmafibbnojdpjaaW.PrintWords Go.Proofs.YtmafibbnojdpjaaW.PrintLast Go.Proofs.YtmafibbnojdpjaaW.PrintMore Go.Proofs.Ytmafibbnojdpjaa.P
attribute [local go_sem] Oper.semAt_some
/-- writes by their keys, of one key the last one -/
def insAll (ws : List Wr) : List (ByteArray × Wr) := ws.foldl (fun K x => insK K x.f0 x) []
def sortedW (ws : List Wr) : List Wr := (insAll ws).map (·.2)
def mapW (ws : List Wr) : List (ByteArray × Wr) := ws.foldl (fun C x => Mv.putC C x.f0 x) []
theorem insAll_snoc (ws : List Wr) (x : Wr) : insAll (ws ++ [x]) = insK (insAll ws) x.f0 x := by simp [insAll]
theorem mapW_snoc (ws : List Wr) (x : Wr) : mapW (ws ++ [x]) = Mv.putC (mapW ws) x.f0 x := by simp [mapW]
theorem list_snoc {α : Type} {p : List α → Prop} (h0 : p []) (h1 : ∀ l x, p l → p (l ++ [x])) : ∀ l, p l := by
  intro l
  have : ∀ n (l : List α), l.length = n → p l := by
    intro n
    induction n with
    | zero => intro l h; rw [List.length_eq_zero_iff.1 h]; exact h0
    | succ n ih =>
      intro l h
      have hne : l ≠ [] := fun e => by rw [e] at h; cases h
      rw [← List.dropLast_concat_getLast hne]
      exact h1 _ _ (ih _ (by rw [List.length_dropLast]; omega))
  exact this _ l rfl
theorem srtK_insAll (ws : List Wr) : SrtK (insAll ws) := by
  refine list_snoc (p := fun l => SrtK (insAll l)) List.Pairwise.nil (fun l x h => ?_) ws
  rw [insAll_snoc]
  exact srtK_ins h _ _
theorem nd_mapW (ws : List Wr) : Mv.NdC (mapW ws) := by
  refine list_snoc (p := fun l => Mv.NdC (mapW l)) List.Pairwise.nil (fun l x h => ?_) ws
  rw [mapW_snoc]
  exact Mv.nd_put h _ _
theorem find_mapW (ws : List Wr) (z : ByteArray) : Mv.findC (mapW ws) z = getK (insAll ws) z := by
  refine list_snoc (p := fun l => Mv.findC (mapW l) z = getK (insAll l) z) rfl (fun l x h => ?_) ws
  rw [mapW_snoc, insAll_snoc, Mv.find_put, getK_ins (srtK_insAll l), h]
theorem key_mapW (ws : List Wr) : ∀ a ∈ mapW ws, a.2.f0 = a.1 := by
  refine list_snoc (p := fun l => ∀ a ∈ mapW l, a.2.f0 = a.1) (fun a ha => by cases ha) (fun l x h => ?_) ws
  rw [mapW_snoc]
  intro a ha
  unfold Mv.putC Mv.delC at ha
  rcases List.mem_append.1 ha with ha | ha
  · exact h a (List.mem_filter.1 ha).1
  · rw [List.mem_singleton] at ha
    rw [ha]
theorem mapW_len (ws : List Wr) : (mapW ws).length ≤ ws.length := by
  refine list_snoc (p := fun l => (mapW l).length ≤ l.length) (Nat.le_refl _) (fun l x h => ?_) ws
  rw [mapW_snoc, Mv.len_put (nd_mapW l), List.length_append, List.length_singleton]
  split <;> omega
/-- what comes out of the sort is the writes by their keys -/
theorem sorted_law {ws ts : List Wr} {dn : List (ByteArray × Wr)} (hp : dn.Perm (mapW ws)) (ht : ts.Perm (dn.map (·.2))) (hs : ts.Pairwise fun a b => ¬ kl b.f0 a.f0) : ts = sortedW ws := by
  have hd : (dn.map (·.2)).map (fun x : Wr => (x.f0, x)) = dn := by
    rw [List.map_map]
    conv => rhs; rw [← List.map_id dn]
    refine List.map_congr_left (fun a ha => ?_)
    have := key_mapW ws a (hp.mem_iff.1 ha)
    exact Prod.ext this rfl
  have hT : (ts.map fun x : Wr => (x.f0, x)).Perm (mapW ws) := by
    have := ht.map (fun x : Wr => (x.f0, x))
    rw [hd] at this
    exact this.trans hp
  have hnd : Mv.NdC (ts.map fun x : Wr => (x.f0, x)) := (hT.symm.pairwise_iff (R := fun a b : ByteArray × Wr => a.1 ≠ b.1) (fun q => q.symm)).1 (nd_mapW ws)
  have hST : SrtK (ts.map fun x : Wr => (x.f0, x)) := by
    unfold SrtK Mv.NdC at *
    rw [List.pairwise_map] at hnd ⊢
    refine (hs.and hnd).imp (fun {a b} h => ?_)
    rcases kl_tri a.f0 b.f0 with q | q | q
    · exact q
    · exact absurd q h.2
    · exact absurd q h.1
  have he : (ts.map fun x : Wr => (x.f0, x)) = insAll ws := by
    refine srtK_ext hST (srtK_insAll ws) (fun z => ?_)
    rw [← find_mapW]
    exact Mv.find_perm hT.symm (nd_mapW ws) z
  unfold sortedW
  rw [← he, List.map_map]
  conv => lhs; rw [← List.map_id ts]
  rfl
theorem sortedW_len (ws : List Wr) : (sortedW ws).length ≤ ws.length := by
  refine list_snoc (p := fun l => (sortedW l).length ≤ l.length) (Nat.le_refl _) (fun l x h => ?_) ws
  unfold sortedW at *
  rw [insAll_snoc, List.length_map, List.length_append, List.length_singleton]
  rw [List.length_map] at h
  have := insK_length (insAll l) x.f0 x
  omega
noncomputable abbrev TW : Mv.KT Try.prog 9 ByteArray := Mv.KT.str Try.underlying9
def eW (x : Wr) : Value := .agg #[.string x.f0, .string x.f1, .bool x.f2]
theorem mapW_take {ws : List Wr} {i : Nat} (hi : i < ws.length) : mapW (ws.take (i + 1)) = Mv.putC (mapW (ws.take i)) (wA ws i).f0 (wA ws i) := by
  rw [List.take_succ_eq_append_getElem hi, mapW_snoc, wA_eq hi]
set_option maxHeartbeats 16000000 in
theorem sorted_any (ws : List Wr) (A : Option Addr) (c : Nat) (w : World) (hr : Kd.C k31 w A ws.length ws) (hc : ws.length ≤ c) (hn : ws.length ≤ 900000) (hks : ∀ x ∈ ws, x.f0.size ≤ maxLen) :
    Calls Try.prog 42 #[.slice A ws.length c] w fun e w' => ∃ v, e = .returned v ∧ Kd.R k31 31 w' 0 (fun k => w.heap.size ≤ k) v (sortedW ws) ∧ Below w.heap.size w w' := by
  have HR := Aside0.mk hr
  have HKS := Aside0.mk hks
  have hmm := @run_makeMap Try.prog
  have HM0 : Aside0 (Mv.MapV TW eW (w.alloc (.map #[] 0)) w.heap.size 0 (mapW (ws.take 0))) := ⟨Mv.MapV.new _ _ _⟩
  have HB0 : Aside0 (Below w.heap.size w (w.alloc (.map #[] 0))) := ⟨below_alloc (Below.refl _ _) _⟩
  have HN := Aside0.mk hn
  clear hr hks hn
  go_enter Try.func42, Try.ntmps42
  go_wp2
  generalize w.alloc (.map #[] 0) = W1 at *
  go_loopg [12] (ws.length + 1) (fun kq v12 wq => ∃ (i : Nat), v12 = .int .i64 (i : Int) ∧ i ≤ ws.length ∧ ws.length - i < kq ∧ Aside0 (Mv.MapV TW eW wq w.heap.size i (mapW (ws.take i))) ∧ Aside0 (Below w.heap.size w wq))
  case atStart => exact ⟨0, rfl, Nat.zero_le _, by omega, HM0, HB0⟩
  case round =>
    clear HM0 HB0
    obtain ⟨i, rfl, hi, hk, HM, HB⟩ := hrel
    have z0 : (0 : Int) ≤ (i : Int) := by omega
    have hn := HN.out
    by_cases hlt : i < ws.length
    · have z1 : (i : Int) < (ws.length : Int) := by omega
      obtain ⟨ad5, eA, f0, f1, f2⟩ := at_T31 (Kd.C_below HR.out HB.out) (i : Int) z0 z1
      rw [rd_wA, Int.toNat_natCast] at f0 f1 f2
      subst eA
      have HTK := Aside0.mk (mapW_take hlt)
      have hsx : (wA ws i).f0.size ≤ maxLen := HKS.out _ (by rw [wA_eq hlt]; exact List.getElem_mem hlt)
      generalize wA ws i = x at *
      obtain ⟨d0, d1, d2⟩ := three_new wr 31 (.string x.f0) (.string x.f1) (.bool x.f2)
      have hb2 : Below wr.heap.size wr (wr.alloc (.cells #[.string x.f0, .string x.f1, .bool x.f2] 31)) := below_alloc (Below.refl _ _) _
      obtain ⟨w8, u1, u2, u3⟩ := (HM.out.below hb2).put Try.underlying69 (by unfold maxLen; omega) (x := x.f0) hsx x
      replace u1 : Sem.run Try.prog (Instr.mapUpdate 69 (.map (some w.heap.size)) (.string x.f0) (.agg #[.string x.f0, .string x.f1, .bool x.f2])) (wr.alloc (.cells #[.string x.f0, .string x.f1, .bool x.f2] 31)) = .ok () w8 := u1
      have HM8 := Aside0.mk u2
      have hg := u3.grown
      have HB8 : Aside0 (Below w.heap.size w w8) := ⟨(HB.out.trans (hb2.mono HB.out.size)).trans ⟨hg.os, hg.tape, hg.output, hg.size, fun k hk => hg.block k (Nat.lt_of_lt_of_le hk (Nat.le_trans HB.out.size hb2.size)) (fun e => by injection e with e; omega)⟩⟩
      clear u2 u3 hg hb2 hsx
      go_wp2
      go_roundg (gk - 1)
      case measure => omega
      case rel => exact ⟨i + 1, by go_num, by omega, by omega, ⟨by rw [HTK.out]; exact HM8.out⟩, HB8⟩
    · have hiz : i = ws.length := by omega
      subst hiz
      rw [List.take_length] at HM
      obtain ⟨w9, u1, u2, u3, u4⟩ := HM.out.range Try.underlying69
      obtain ⟨rb, hrb⟩ : ∃ rb, rb = wr.heap.size := ⟨_, rfl⟩
      rw [← hrb] at u1 u2
      replace u1 : Sem.run Try.prog (Instr.range 69 (.map (some w.heap.size))) wr = .ok (.pointer (some ⟨rb, 0, none⟩)) w9 := u1
      have HRG := Aside0.mk u2
      have hbl := HM.out.lt
      have HB9 : Aside0 (Below w.heap.size w w9 ∧ rb < w9.heap.size ∧ w.heap.size < w9.heap.size ∧ w.heap.size ≤ rb) := ⟨HB.out.trans (u3.mono HB.out.size), by omega, by omega, by omega⟩
      have HCS : Aside0 ((mapW ws).length ≤ 900000) := ⟨Nat.le_trans (mapW_len ws) hn⟩
      clear u2 u3 u4 hbl hrb hk hlt hi hn HM
      obtain ⟨g0, hg0⟩ : ∃ g0, g0 = gk := ⟨_, rfl⟩
      clear hg0
      obtain ⟨C, hC⟩ : ∃ C, C = mapW ws := ⟨_, rfl⟩
      rw [← hC] at HRG HCS
      have HCW := Aside0.mk hC
      clear hC
      go_wp2
      go_loopg [6] (C.length + 1) (fun kq v6 wq => ∃ dn : List (ByteArray × Wr), C.length - dn.length < kq ∧ dn.length ≤ C.length ∧ Aside0 (Mv.Rng TW eW wq w.heap.size rb ws.length C dn) ∧ Aside0 (Kd.R k31 31 wq 0 (fun k => w9.heap.size ≤ k) v6 (dn.map (·.2))) ∧ Aside0 (Below w.heap.size w wq ∧ w9.heap.size ≤ wq.heap.size))
      case atStart => exact ⟨[], by simp, Nat.zero_le _, HRG, ⟨Kd.R_nil _ _ _ _ _⟩, ⟨HB9.out.1, Nat.le_refl _⟩⟩
      case round =>
        obtain ⟨dn, hk, hdl, HRN, HRW, HBQ⟩ := hrel
        rcases HRN.out.next 0 with ⟨hp, hrun⟩ | ⟨⟨ak, x⟩, w3, ha, hna, hok, hrun, hr3, hg3, hs3, hen⟩
        · have hln : (dn.map (·.2)).length < 1000000 := by rw [List.length_map]; have := HCS.out; omega
          have HSO := Aside0.mk (sortW (dn.map (·.2)) u6 wr 0 _ HRW.out hln)
          rw [HCW.out] at hp
          have HP := Aside0.mk hp
          have HOW : Aside0 (∀ k, u6.ownBlock = some k → w9.heap.size ≤ k) := ⟨HRW.out.1⟩
          clear hp hln
          go_wp2_with (first
            | (go_at_call 76; refine HSO.out.mono ?_; rintro e w4 ⟨rfl, ts, h1, h2, h3, h4⟩; have H1 := Aside0.mk h1; have H2 := Aside0.mk h2; have H3 := Aside0.mk h3; have H4 := Aside0.mk h4; clear h1 h2 h3 h4))
          go_ret
          have hts := sorted_law HP.out H1.out H2.out
          refine ⟨_, rfl, ?_, HBQ.out.1.grown H4.out HBQ.out.1.size (fun k e => Nat.le_trans (Nat.le_of_lt HB9.out.2.2.1) (HOW.out k e))⟩
          rw [← hts]
          exact Kd.R_mono H3.out (fun k (hk : w9.heap.size ≤ k) => Nat.le_trans (Nat.le_of_lt HB9.out.2.2.1) hk)
        · change (Instr.next (.pointer (some ⟨rb, 0, none⟩)) false 0).run Try.prog wr = .ok (.tuple #[.bool true, .string ak, .agg #[.string x.f0, .string x.f1, .bool x.f2]]) w3 at hrun
          change (Instr.entry (.pointer (some ⟨rb, 0, none⟩))).run Try.prog w3 = .ok (.tuple #[.string ak, .agg #[.string x.f0, .string x.f1, .bool x.f2]]) w3 at hen
          have hl := hr3.len
          rw [List.length_append, List.length_singleton] at hl
          obtain ⟨d0, d1, d2⟩ := three_new w3 31 (.string x.f0) (.string x.f1) (.bool x.f2)
          have hb4 : Below w3.heap.size w3 (w3.alloc (.cells #[.string x.f0, .string x.f1, .bool x.f2] 31)) := below_alloc (Below.refl _ _) _
          have h9 := HB9.out
          have hq := HBQ.out
          have hR3 : Kd.R k31 31 (w3.alloc (.cells #[.string x.f0, .string x.f1, .bool x.f2] 31)) 0 (fun k => w9.heap.size ≤ k) u6 (dn.map (·.2)) := Kd.R_below (Kd.R_step HRW.out (fun k hk hl => hg3.block k hl (fun e => by injection e with e; have hk' : w9.heap.size ≤ k := hk; omega))) hb4
          have HRW4 := Aside0.mk hR3
          have HRN4 := Aside0.mk (hr3.below hb4)
          have HB4 : Aside0 (Below w.heap.size w (w3.alloc (.cells #[.string x.f0, .string x.f1, .bool x.f2] 31)) ∧ w9.heap.size ≤ (w3.alloc (.cells #[.string x.f0, .string x.f1, .bool x.f2] 31)).heap.size) := ⟨(hq.1.grown hg3 hq.1.size (fun k e => by injection e with e; omega)).trans (hb4.mono (Nat.le_trans hq.1.size hg3.size)), Nat.le_trans hq.2 (Nat.le_trans hg3.size hb4.size)⟩
          have HLN : Aside0 ((dn.map (·.2)).length + 1 ≤ 900001) := ⟨by rw [List.length_map]; have := HCS.out; omega⟩
          have HMP : Aside0 ((dn ++ [(ak, x)]).map (·.2) = dn.map (·.2) ++ [x]) := ⟨by simp⟩
          clear hg3 hr3 hR3 hb4 h9 hq ha hna hok hs3 HRN HRW
          go_wp2_with (first
            | ((with_reducible refine gate_builtin (b := .append) (xs := #[.tmp 27, .tmp 29]) rfl ?_); at_builtin
               refine Kd.R_append k31 (w0 := w3.alloc (.cells #[.string x.f0, .string x.f1, .bool x.f2] 31)) 0 rfl (.tmp 27) (.tmp 29) 22 31 (.agg #[.string ⟨#[]⟩, .string ⟨#[]⟩, .bool false]) 40 rfl Try.underlying22 info31 rfl (by decide) (by decide) u6 (dn.map (·.2)) x [.string x.f0, .string x.f1, .bool x.f2] (fun k => w9.heap.size ≤ k) (fun _ => False) rfl ?hx (k31_mkM _ _ _ x) (fun k h => h.elim) (fun k hk => Nat.le_trans HB4.out.2 hk) HRW4.out (Below.refl _ _) (Nat.zero_le _) (by have := HLN.out; omega) ?_
               case hx => show Value.slice _ 1 1 = Value.slice _ 1 1; first | rfl | (rw [World.size_alloc])
               intro v7 w7 h1 h2 h3 h4
               have H1 := Aside0.mk h1
               have H3 := Aside0.mk h3
               clear h1 h2 h3 h4))
          go_roundg (gk - 1)
          case measure => omega
          case rel =>
            refine ⟨dn ++ [(ak, x)], by rw [List.length_append, List.length_singleton]; omega, by rw [List.length_append, List.length_singleton]; exact hl, ⟨HRN4.out.same ?_ ?_⟩, ⟨by rw [HMP.out]; exact H1.out⟩, ⟨?_, ?_⟩⟩
            · exact H3.out.block _ HRN4.out.map.lt (fun e => by have := HRW4.out.1 _ e.symm; have := HB9.out; omega)
            · exact H3.out.block _ HRN4.out.lt (fun e => by have := HRW4.out.1 _ e.symm; have := HB9.out; omega)
            · exact HB4.out.1.grown H3.out HB4.out.1.size (fun k e => by have := HRW4.out.1 _ e; have := HB9.out; omega)
            · exact Nat.le_trans HB4.out.2 H3.out.size
end Go.Proofs.Ytmafibbnojdpjaa.St
end
section
set_option linter.unusedVariables false
set_option maxRecDepth 100000
set_option linter.unusedSimpArgs false
namespace Go.Proofs.Ytmafibbnojdpjaa.St
open Go.Proofs.Ytmafibbnojdpjaa.Tr Go.RowKit Go.Proofs.YtmafibbnojdpjaaW.PrintWords Go.Proofs.YtmafibbnojdpjaaW.PrintLast Go.Proofs.YtmafibbnojdpjaaW.PrintMore Go.Proofs.Ytmafibbnojdpjaa.P
theorem ins_facts (ws : List Wr) : ∀ a ∈ insAll ws, a.2.f0 = a.1 ∧ a.2 ∈ ws := by
  refine list_snoc (p := fun l => ∀ a ∈ insAll l, a.2.f0 = a.1 ∧ a.2 ∈ l) (fun a ha => by cases ha) (fun l x h => ?_) ws
  rw [insAll_snoc]
  intro a ha
  rcases mem_insK.1 ha with rfl | ⟨h1, _⟩
  · exact ⟨rfl, by simp⟩
  · exact ⟨(h a h1).1, List.mem_append_left _ (h a h1).2⟩
theorem sorted_mem {ws : List Wr} {x : Wr} (h : x ∈ sortedW ws) : x ∈ ws := by
  obtain ⟨a, ha, rfl⟩ := List.mem_map.1 h
  exact (ins_facts ws a ha).2
theorem sorted_pair (ws : List Wr) : (sortedW ws).Pairwise fun a b => kl a.f0 b.f0 := by
  unfold sortedW
  rw [List.pairwise_map]
  refine List.Pairwise.imp_of_mem (fun {a b} ha hb h => ?_) (srtK_insAll ws)
  rw [(ins_facts ws a ha).1, (ins_facts ws b hb).1]
  exact h
end Go.Proofs.Ytmafibbnojdpjaa.St
end
section
set_option linter.unusedVariables false
set_option maxRecDepth 100000
set_option linter.unusedSimpArgs false
namespace Go.Proofs.Ytmafibbnojdpjaa.St
open Go.Proofs.Ytmafibbnojdpjaa.Tr Go.RowKit Go.Proofs.YtmafibbnojdpjaaW.PrintWords Go.Proofs.YtmafibbnojdpjaaW.PrintLast Go.Proofs.YtmafibbnojdpjaaW.PrintMore Go.Proofs.Ytmafibbnojdpjaa.P
attribute [local go_sem] Oper.semAt_some
set_option maxHeartbeats 4000000 in
theorem sorts_big (ws : List Wr) (A : Option Addr) (c : Nat) (w : World) (hn : ¬ ws.length ≤ 60) :
    Calls Try.prog 10 #[.slice A ws.length c] w fun e w' => e = .returned (.bool true) ∧ Below w.heap.size w w' := by
  have n1 : (60 : Int) < (ws.length : Int) := by omega
  have HHD := Aside0.mk (head09_any w)
  go_enter Try.func10, Try.ntmps10
  go_wp2_with (first
    | (go_at_call 34; refine HHD.out.mono ?_; rintro e w1 ⟨rfl, hb⟩; have HB1 := Aside0.mk hb; clear hb))
  go_ret
  exact ⟨rfl, HB1.out⟩
theorem sorted_find {ws : List Wr} {i : Nat} (hi : i < (sortedW ws).length) : Mv.findC (mapW ws) (wA (sortedW ws) i).f0 = some (wA (sortedW ws) i) := by
  rw [find_mapW]
  have hm : wA (sortedW ws) i ∈ sortedW ws := by rw [wA_eq hi]; exact List.getElem_mem hi
  obtain ⟨a, ha, e⟩ := List.mem_map.1 hm
  have h1 := getK_some (srtK_insAll ws) ha
  rw [← (ins_facts ws a ha).1, e] at h1
  exact h1
theorem sorted_len (ws : List Wr) : (sortedW ws).length = (mapW ws).length := by
  have h : (sortedW ws).length = (insAll ws).length := by unfold sortedW; rw [List.length_map]
  rw [h]
  have hnd : Mv.NdC (insAll ws) := (srtK_insAll ws).imp (fun {a b} h e => by rw [e] at h; exact kl_irrefl _ h)
  refine (Mv.perm_of_sub (nd_mapW ws) hnd (fun a ha => ?_) (fun a ha => ?_)).length_eq
  · refine Mv.find_mem ?_
    rw [find_mapW]
    exact getK_some (srtK_insAll ws) ha
  · have h1 := Mv.find_of (nd_mapW ws) ha
    rw [find_mapW] at h1
    show (getK (insAll ws) a.1).isSome = true
    rw [h1]
    rfl
set_option maxHeartbeats 16000000 in
theorem sorts_in (ws : List Wr) (A : Option Addr) (c : Nat) (w : World) (hr : Kd.C k31 w A ws.length ws) (hc : ws.length ≤ c) (hn : ws.length ≤ 60) (hks : ∀ x ∈ ws, x.f0.size ≤ maxLen) :
    Calls Try.prog 10 #[.slice A ws.length c] w fun e w' => e = .returned (.bool true) ∧ Below w.heap.size w w' := by
  have n1 : ¬ (60 : Int) < (ws.length : Int) := by omega
  have HHD := Aside0.mk (head09_any w)
  have HR := Aside0.mk hr
  have HKS := Aside0.mk hks
  have hmm := @run_makeMap Try.prog
  have HSO : Aside0 (∀ W, Below w.heap.size w W → Calls Try.prog 42 #[.slice A ws.length c] W fun e w' => ∃ v, e = .returned v ∧ Kd.R k31 31 w' 0 (fun k => W.heap.size ≤ k) v (sortedW ws) ∧ Below W.heap.size W w') := ⟨fun W hW => sorted_any ws A c W (Kd.C_below hr hW) hc (by omega) hks⟩
  have HLS : Aside0 ((sortedW ws).length = (mapW ws).length) := ⟨sorted_len ws⟩
  have HFI : Aside0 (∀ i, i < (sortedW ws).length → Mv.findC (mapW ws) (wA (sortedW ws) i).f0 = some (wA (sortedW ws) i)) := ⟨fun i hi => sorted_find hi⟩
  have HKZ : Aside0 (∀ i, i < (sortedW ws).length → (wA (sortedW ws) i).f0.size ≤ maxLen) := ⟨fun i hi => hks _ (sorted_mem (by rw [wA_eq hi]; exact List.getElem_mem hi))⟩
  have HPR : Aside0 (∀ i, i + 1 < (sortedW ws).length → kl (wA (sortedW ws) i).f0 (wA (sortedW ws) (i + 1)).f0) := ⟨fun i hi => by
    rw [wA_eq hi, wA_eq (show i < (sortedW ws).length by omega)]
    exact List.pairwise_iff_getElem.1 (sorted_pair ws) i (i + 1) (by omega) hi (by omega)⟩
  have HSL : Aside0 ((sortedW ws).length ≤ 60) := ⟨Nat.le_trans (sortedW_len ws) hn⟩
  clear hr hks
  go_enter Try.func10, Try.ntmps10
  go_wp2_with (first
    | (go_at_call 34; refine HHD.out.mono ?_; rintro e w1 ⟨rfl, hb⟩; have HB1 := Aside0.mk hb; clear hb))
  have HM0 : Aside0 (Mv.MapV TW eW (w1.alloc (.map #[] 0)) w1.heap.size 0 (mapW (ws.take 0))) := ⟨Mv.MapV.new _ _ _⟩
  have HB0 : Aside0 (Below w.heap.size w (w1.alloc (.map #[] 0))) := ⟨below_step HB1.out (below_alloc (Below.refl _ _) _)⟩
  have HMB : Aside0 (w.heap.size ≤ w1.heap.size) := ⟨HB1.out.size⟩
  clear HHD HB1
  generalize w1.alloc (.map #[] 0) = W1 at *
  generalize w1.heap.size = mb at *
  go_loopg [18] (ws.length + 1) (fun kq v18 wq => ∃ (i : Nat), v18 = .int .i64 (i : Int) ∧ i ≤ ws.length ∧ ws.length - i < kq ∧ Aside0 (Mv.MapV TW eW wq mb i (mapW (ws.take i))) ∧ Aside0 (Below w.heap.size w wq))
  case atStart => exact ⟨0, rfl, Nat.zero_le _, by omega, HM0, HB0⟩
  case round =>
    clear HM0 HB0
    obtain ⟨i, rfl, hi, hk, HM, HB⟩ := hrel
    have z0 : (0 : Int) ≤ (i : Int) := by omega
    have hmb := HMB.out
    by_cases hlt : i < ws.length
    · have z1 : (i : Int) < (ws.length : Int) := by omega
      obtain ⟨ad5, eA, f0, f1, f2⟩ := at_T31 (Kd.C_below HR.out HB.out) (i : Int) z0 z1
      rw [rd_wA, Int.toNat_natCast] at f0 f1 f2
      subst eA
      have HTK := Aside0.mk (mapW_take hlt)
      have hsx : (wA ws i).f0.size ≤ maxLen := HKS.out _ (by rw [wA_eq hlt]; exact List.getElem_mem hlt)
      generalize wA ws i = x at *
      obtain ⟨d0, d1, d2⟩ := three_new wr 31 (.string x.f0) (.string x.f1) (.bool x.f2)
      have hb2 : Below wr.heap.size wr (wr.alloc (.cells #[.string x.f0, .string x.f1, .bool x.f2] 31)) := below_alloc (Below.refl _ _) _
      obtain ⟨w8, u1, u2, u3⟩ := (HM.out.below hb2).put Try.underlying69 (by unfold maxLen; omega) (x := x.f0) hsx x
      replace u1 : Sem.run Try.prog (Instr.mapUpdate 69 (.map (some mb)) (.string x.f0) (.agg #[.string x.f0, .string x.f1, .bool x.f2])) (wr.alloc (.cells #[.string x.f0, .string x.f1, .bool x.f2] 31)) = .ok () w8 := u1
      have HM8 := Aside0.mk u2
      have hg := u3.grown
      have HB8 : Aside0 (Below w.heap.size w w8) := ⟨(HB.out.trans (hb2.mono HB.out.size)).trans ⟨hg.os, hg.tape, hg.output, hg.size, fun k hk => hg.block k (Nat.lt_of_lt_of_le hk (Nat.le_trans HB.out.size hb2.size)) (fun e => by injection e with e; omega)⟩⟩
      clear u2 u3 hg hb2 hsx
      go_wp2
      go_roundg (gk - 1)
      case measure => omega
      case rel => exact ⟨i + 1, by go_num, by omega, by omega, ⟨by rw [HTK.out]; exact HM8.out⟩, HB8⟩
    · have hiz : i = ws.length := by omega
      subst hiz
      rw [List.take_length] at HM
      have HWB : Aside0 (mb < wr.heap.size) := ⟨HM.out.lt⟩
      obtain ⟨C, hC⟩ : ∃ C, C = mapW ws := ⟨_, rfl⟩
      obtain ⟨S, hS⟩ : ∃ S, S = sortedW ws := ⟨_, rfl⟩
      rw [← hC] at HM HLS HFI
      rw [← hS] at HSO HLS HFI HKZ HPR HSL
      clear hC hS hi hlt hk
      obtain ⟨g0, hg0⟩ : ∃ g0, g0 = gk := ⟨_, rfl⟩
      clear hg0
      go_wp2_with (first
        | (go_at_call 42; refine (HSO.out _ HB.out).mono ?_; rintro e w2 ⟨v2, rfl, hr2, hb2⟩; obtain ⟨A2, c2, ev2⟩ := Kd.R_slice hr2; subst ev2; have HR2 := Aside0.mk hr2; have HB2 := Aside0.mk (below_step HB.out hb2); have HM2 := Aside0.mk (HM.out.below hb2); clear hr2 hb2))
      have HLN : Aside0 (∀ W, W.heap[mb]? = w2.heap[mb]? → Sem.run Try.prog (Builtin.len_ #[69] 3 #[.map (some mb)]) W = .ok (.int .i64 (S.length : Int)) W) := ⟨fun W hW => by rw [HLS.out]; exact (HM2.out.same hW).len Try.underlying69 3⟩
      have HZ := Aside0.mk HM2.out.lt
      go_loopg [31] (S.length + 1) (fun kq v31 wq => ∃ (i : Nat), v31 = .int .i64 (i : Int) ∧ i ≤ S.length ∧ S.length - i < kq ∧ Aside0 (Below w2.heap.size w2 wq))
      case atStart => exact ⟨0, rfl, Nat.zero_le _, by omega, ⟨Below.refl _ _⟩⟩
      case round =>
        obtain ⟨i, rfl, hi, hk, HBQ⟩ := hrel
        have z0 : (0 : Int) ≤ (i : Int) := by omega
        have hsl := HSL.out
        by_cases hlt : i < S.length
        · have z1 : (i : Int) < (S.length : Int) := by omega
          obtain ⟨A9, c9, e9, hc9, hC9⟩ := Kd.R_reads (Kd.R_below HR2.out HBQ.out)
          injection e9 with e9 e9b e9c
          clear e9b
          subst e9 e9c
          obtain ⟨ad5, eA, f0, f1, f2⟩ := at_T31 hC9 (i : Int) z0 z1
          rw [rd_wA, Int.toNat_natCast] at f0 f1 f2
          subst eA
          have hfi := HFI.out i hlt
          have hkz := HKZ.out i hlt
          obtain ⟨pv, hpv⟩ : ∃ pv, pv = wA S (i - 1) := ⟨_, rfl⟩
          have HPV : Aside0 (0 < i → wr.cell? (ad5.add ((i - 1) * 3)) = some (.string pv.f0) ∧ kl pv.f0 (wA S i).f0) := ⟨fun h => by
            obtain ⟨ad6, eB, g0, _, _⟩ := at_T31 hC9 ((i - 1 : Nat) : Int) (by omega) (by omega)
            rw [rd_wA, Int.toNat_natCast] at g0
            cases eB
            refine ⟨by rw [hpv]; exact g0, ?_⟩
            have := HPR.out (i - 1) (by omega)
            rw [show i - 1 + 1 = i from by omega] at this
            rw [hpv]
            exact this⟩
          clear hpv hC9 hc9
          generalize wA S i = x at *
          obtain ⟨d0, d1, d2⟩ := three_new wr 31 (.string x.f0) (.string x.f1) (.bool x.f2)
          have hb3 : Below wr.heap.size wr (wr.alloc (.cells #[.string x.f0, .string x.f1, .bool x.f2] 31)) := below_alloc (Below.refl _ _) _
          have hlk : ∀ n, Sem.run Try.prog (Instr.lookup 69 (.map (some mb)) (.string x.f0) false) ((wr.alloc (.cells #[.string x.f0, .string x.f1, .bool x.f2] 31)).drewN n) = .ok (.agg #[.string x.f0, .string x.f1, .bool x.f2]) ((wr.alloc (.cells #[.string x.f0, .string x.f1, .bool x.f2] 31)).drewN n) := fun n => by
            have := ((HM2.out.below HBQ.out).below (below_step hb3 (pw_below_drewN (Below.refl _ _) n))).look (z := .agg #[.string ⟨#[]⟩, .string ⟨#[]⟩, .bool false]) Try.underlying69 (Try.zeroValue31 _) (x := x.f0) hkz
            rw [hfi] at this
            exact this
          have HB3 : Aside0 (Below w2.heap.size w2 (wr.alloc (.cells #[.string x.f0, .string x.f1, .bool x.f2] 31))) := ⟨below_step HBQ.out hb3⟩
          have hl0 := hlk 0
          have hl1 := hlk 1
          clear hfi hkz hb3
          by_cases hz : i = 0
          · have n0 : ¬ (0 : Int) < (i : Int) := by omega
            have m0 : ¬ 0 < i := by omega
            have m0' : decide (0 < i) = false := decide_eq_false m0
            have n0' : decide ((0 : Int) < (i : Int)) = false := decide_eq_false n0
            clear HPV hz
            go_wp2
            go_quiet (fail)
            go_wp2
            go_roundg (gk - 1)
            case measure => omega
            case rel => exact ⟨i + 1, by go_num, by omega, by omega, ⟨pw_below_drewN HB3.out _⟩⟩
          · have n0 : (0 : Int) < (i : Int) := by omega
            have m0 : 0 < i := by omega
            have m0' : decide (0 < i) = true := decide_eq_true m0
            have n0' : decide ((0 : Int) < (i : Int)) = true := decide_eq_true n0
            obtain ⟨g0, hkl⟩ := HPV.out (by omega)
            have g0 := up (below_alloc (Below.refl _ _) (.cells #[.string x.f0, .string x.f1, .bool x.f2] 31)) g0
            have e3 : IntKind.i64.wrap ((i : Int) - 1) = ((i - 1 : Nat) : Int) := by rw [IntKind.wrap_i64]; omega
            have e3' : wrap64 ((i : Int) - 1) = ((i - 1 : Nat) : Int) := by rw [w64 (by omega) (by omega)]; omega
            have e4 : (0 : Int) ≤ ((i - 1 : Nat) : Int) := by omega
            have e5 : ((i - 1 : Nat) : Int) < (S.length : Int) := by omega
            have e6 : Op.bytesLess pv.f0.toList x.f0.toList = true := by rw [less_kl]; exact decide_eq_true hkl
            clear HPV hz hkl
            go_wp2
            go_quiet (fail)
            go_wp2
            go_roundg (gk - 1)
            case measure => omega
            case rel => exact ⟨i + 1, by go_num, by omega, by omega, ⟨pw_below_drewN HB3.out _⟩⟩
        · have hiz : i = S.length := by omega
          subst hiz
          have hlen : ∀ W, W.heap[mb]? = w2.heap[mb]? → Sem.run Try.prog (Builtin.len_ #[69] 3 #[.map (some mb)]) W = .ok (.int .i64 (S.length : Int)) W := HLN.out
          have hl := hlen wr (HBQ.out.block mb HZ.out)
          clear hi hlt hk hlen
          go_wp2_with (first
            | (go_at_call 37; refine (last_nil _).mono ?_; rintro e w5 ⟨rfl, rfl⟩)
            | (go_at_call 43; refine (low_nil _).mono ?_; rintro e w5 ⟨rfl, rfl⟩)
            | (go_at_call 36; refine (com_nil _ _ _ _ _ _).mono ?_; rintro e w6 ⟨rfl, hb6⟩; have HB6 := Aside0.mk (below_step HBQ.out hb6); clear hb6)
            | (go_at_call 44; refine (vac_nil _ _).mono ?_; rintro e w7 ⟨rfl, hb7⟩; have HB7 := Aside0.mk (below_step HB6.out hb7); clear hb7)
            | (go_at_call 45; refine (vers_nil _).mono ?_; rintro e w8 ⟨rfl, hb8⟩; have HB8 := Aside0.mk (below_step HB7.out hb8); clear hb8))
          go_ret
          exact ⟨by simp, below_step HB2.out HB8.out⟩
theorem storeSorts_walk (l : List Wr) (A : Option Addr) (c : Nat) (w : World) (hr : Kd.C k31 w A l.length l) (hl : l.length ≤ c) (ho : l.length ≤ maxLen ∧ l.length * 40 ≤ 140737488351232 ∧ ∀ y ∈ l, (y.f0.size ≤ 140737488351232 ∧ y.f1.size ≤ 140737488351232 ∧ True)) :
    Calls Try.prog 10 #[.slice A l.length c] w fun e w' => e = .returned (.bool true) ∧ Below w.heap.size w w' := by
  by_cases h : l.length ≤ 60
  · exact sorts_in l A c w hr hl h (fun x hx => by have := (ho.2.2 x hx).1; unfold maxLen; omega)
  · exact sorts_big l A c w h
end Go.Proofs.Ytmafibbnojdpjaa.St
end
