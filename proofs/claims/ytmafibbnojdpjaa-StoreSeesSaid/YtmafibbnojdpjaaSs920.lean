/- Lemmas that the proof needs, part 20. -/
import Derived.Test.YtmafibbnojdpjaaWKept
import Derived.Deep.RegionHeld3
import Derived.Test.YtmafibbnojdpjaaWWords
import Derived.Deep.RegionLaw
import Derived.Test.YtmafibbnojdpjaaSs91
import Derived.Test.YtmafibbnojdpjaaSs92
import Derived.Test.YtmafibbnojdpjaaSs93
import Derived.Test.YtmafibbnojdpjaaSs94
import Derived.Test.YtmafibbnojdpjaaSs95
import Derived.Test.YtmafibbnojdpjaaSs96
import Derived.Test.YtmafibbnojdpjaaSs97
import Derived.Test.YtmafibbnojdpjaaSs98
import Derived.Test.YtmafibbnojdpjaaSs99
import Derived.Test.YtmafibbnojdpjaaSs910
import Derived.Test.YtmafibbnojdpjaaSs911
import Derived.Test.YtmafibbnojdpjaaSs912
import Derived.Test.YtmafibbnojdpjaaSs913
import Derived.Test.YtmafibbnojdpjaaSs914
import Derived.Test.YtmafibbnojdpjaaSs915
import Derived.Test.YtmafibbnojdpjaaSs916
import Derived.Test.YtmafibbnojdpjaaSs917
import Derived.Test.YtmafibbnojdpjaaSs918
import Derived.Test.YtmafibbnojdpjaaSs919
section
set_option linter.unusedVariables false
set_option maxRecDepth 100000
set_option linter.unusedSimpArgs false
namespace Go.Proofs.Ytmafibbnojdpjaa.St
open Go.Proofs.Ytmafibbnojdpjaa.Tr Go.RowKit Go.Proofs.YtmafibbnojdpjaaW.PrintWords Go.Proofs.YtmafibbnojdpjaaW.PrintLast Go.Proofs.YtmafibbnojdpjaaW.PrintMore Go.Proofs.Ytmafibbnojdpjaa.P
attribute [local go_sem] Oper.semAt_some
/-- writes by their keys, of one key the last one -/
def insAll (ws : List Wr) : List (ByteArray × Wr) := ws.foldl (fun K x => insK K x.f0 x) []
def sortedW (ws : List Wr) : List Wr := (insAll ws).map (·.2)
def mapW (ws : List Wr) : List (ByteArray × Wr) := ws.foldl (fun C x => Mv.putC C x.f0 x) []
theorem insAll_snoc (ws : List Wr) (x : Wr) : insAll (ws ++ [x]) = insK (insAll ws) x.f0 x := by simp [insAll]
theorem mapW_snoc (ws : List Wr) (x : Wr) : mapW (ws ++ [x]) = Mv.putC (mapW ws) x.f0 x := by simp [mapW]
theorem list_snoc {α : Type} {p : List α → Prop} (h0 : p []) (h1 : ∀ l x, p l → p (l ++ [x])) : ∀ l, p l := by
  intro l
  have : ∀ n (l : List α), l.length = n → p l := by
    intro n
    induction n with
    | zero => intro l h; rw [List.length_eq_zero_iff.1 h]; exact h0
    | succ n ih =>
      intro l h
      have hne : l ≠ [] := fun e => by rw [e] at h; cases h
      rw [← List.dropLast_concat_getLast hne]
      exact h1 _ _ (ih _ (by rw [List.length_dropLast]; omega))
  exact this _ l rfl
theorem srtK_insAll (ws : List Wr) : SrtK (insAll ws) := by
  refine list_snoc (p := fun l => SrtK (insAll l)) List.Pairwise.nil (fun l x h => ?_) ws
  rw [insAll_snoc]
  exact srtK_ins h _ _
theorem nd_mapW (ws : List Wr) : Mv.NdC (mapW ws) := by
  refine list_snoc (p := fun l => Mv.NdC (mapW l)) List.Pairwise.nil (fun l x h => ?_) ws
  rw [mapW_snoc]
  exact Mv.nd_put h _ _
theorem find_mapW (ws : List Wr) (z : ByteArray) : Mv.findC (mapW ws) z = getK (insAll ws) z := by
  refine list_snoc (p := fun l => Mv.findC (mapW l) z = getK (insAll l) z) rfl (fun l x h => ?_) ws
  rw [mapW_snoc, insAll_snoc, Mv.find_put, getK_ins (srtK_insAll l), h]
theorem key_mapW (ws : List Wr) : ∀ a ∈ mapW ws, a.2.f0 = a.1 := by
  refine list_snoc (p := fun l => ∀ a ∈ mapW l, a.2.f0 = a.1) (fun a ha => by cases ha) (fun l x h => ?_) ws
  rw [mapW_snoc]
  intro a ha
  unfold Mv.putC Mv.delC at ha
  rcases List.mem_append.1 ha with ha | ha
  · exact h a (List.mem_filter.1 ha).1
  · rw [List.mem_singleton] at ha
    rw [ha]
theorem mapW_len (ws : List Wr) : (mapW ws).length ≤ ws.length := by
  refine list_snoc (p := fun l => (mapW l).length ≤ l.length) (Nat.le_refl _) (fun l x h => ?_) ws
  rw [mapW_snoc, Mv.len_put (nd_mapW l), List.length_append, List.length_singleton]
  split <;> omega
/-- what comes out of the sort is the writes by their keys -/
theorem sorted_law {ws ts : List Wr} {dn : List (ByteArray × Wr)} (hp : dn.Perm (mapW ws)) (ht : ts.Perm (dn.map (·.2))) (hs : ts.Pairwise fun a b => ¬ kl b.f0 a.f0) : ts = sortedW ws := by
  have hd : (dn.map (·.2)).map (fun x : Wr => (x.f0, x)) = dn := by
    rw [List.map_map]
    conv => rhs; rw [← List.map_id dn]
    refine List.map_congr_left (fun a ha => ?_)
    have := key_mapW ws a (hp.mem_iff.1 ha)
    exact Prod.ext this rfl
  have hT : (ts.map fun x : Wr => (x.f0, x)).Perm (mapW ws) := by
    have := ht.map (fun x : Wr => (x.f0, x))
    rw [hd] at this
    exact this.trans hp
  have hnd : Mv.NdC (ts.map fun x : Wr => (x.f0, x)) := (hT.symm.pairwise_iff (R := fun a b : ByteArray × Wr => a.1 ≠ b.1) (fun q => q.symm)).1 (nd_mapW ws)
  have hST : SrtK (ts.map fun x : Wr => (x.f0, x)) := by
    unfold SrtK Mv.NdC at *
    rw [List.pairwise_map] at hnd ⊢
    refine (hs.and hnd).imp (fun {a b} h => ?_)
    rcases kl_tri a.f0 b.f0 with q | q | q
    · exact q
    · exact absurd q h.2
    · exact absurd q h.1
  have he : (ts.map fun x : Wr => (x.f0, x)) = insAll ws := by
    refine srtK_ext hST (srtK_insAll ws) (fun z => ?_)
    rw [← find_mapW]
    exact Mv.find_perm hT.symm (nd_mapW ws) z
  unfold sortedW
  rw [← he, List.map_map]
  conv => lhs; rw [← List.map_id ts]
  rfl
theorem sortedW_len (ws : List Wr) : (sortedW ws).length ≤ ws.length := by
  refine list_snoc (p := fun l => (sortedW l).length ≤ l.length) (Nat.le_refl _) (fun l x h => ?_) ws
  unfold sortedW at *
  rw [insAll_snoc, List.length_map, List.length_append, List.length_singleton]
  rw [List.length_map] at h
  have := insK_length (insAll l) x.f0 x
  omega
noncomputable abbrev TW : Mv.KT Try.prog 9 ByteArray := Mv.KT.str Try.underlying9
def eW (x : Wr) : Value := .agg #[.string x.f0, .string x.f1, .bool x.f2]
theorem mapW_take {ws : List Wr} {i : Nat} (hi : i < ws.length) : mapW (ws.take (i + 1)) = Mv.putC (mapW (ws.take i)) (wA ws i).f0 (wA ws i) := by
  rw [List.take_succ_eq_append_getElem hi, mapW_snoc, wA_eq hi]
set_option maxHeartbeats 16000000 in
theorem sorted_any (ws : List Wr) (A : Option Addr) (c : Nat) (w : World) (hr : Kd.C k31 w A ws.length ws) (hc : ws.length ≤ c) (hn : ws.length ≤ 900000) (hks : ∀ x ∈ ws, x.f0.size ≤ maxLen) :
    Calls Try.prog 42 #[.slice A ws.length c] w fun e w' => ∃ v, e = .returned v ∧ Kd.R k31 31 w' 0 (fun k => w.heap.size ≤ k) v (sortedW ws) ∧ Below w.heap.size w w' := by
  have HR := Aside0.mk hr
  have HKS := Aside0.mk hks
  have hmm := @run_makeMap Try.prog
  have HM0 : Aside0 (Mv.MapV TW eW (w.alloc (.map #[] 0)) w.heap.size 0 (mapW (ws.take 0))) := ⟨Mv.MapV.new _ _ _⟩
  have HB0 : Aside0 (Below w.heap.size w (w.alloc (.map #[] 0))) := ⟨below_alloc (Below.refl _ _) _⟩
  have HN := Aside0.mk hn
  clear hr hks hn
  go_enter Try.func42, Try.ntmps42
  go_wp2
  generalize w.alloc (.map #[] 0) = W1 at *
  go_loopg [12] (ws.length + 1) (fun kq v12 wq => ∃ (i : Nat), v12 = .int .i64 (i : Int) ∧ i ≤ ws.length ∧ ws.length - i < kq ∧ Aside0 (Mv.MapV TW eW wq w.heap.size i (mapW (ws.take i))) ∧ Aside0 (Below w.heap.size w wq))
  case atStart => exact ⟨0, rfl, Nat.zero_le _, by omega, HM0, HB0⟩
  case round =>
    clear HM0 HB0
    obtain ⟨i, rfl, hi, hk, HM, HB⟩ := hrel
    have z0 : (0 : Int) ≤ (i : Int) := by omega
    have hn := HN.out
    by_cases hlt : i < ws.length
    · have z1 : (i : Int) < (ws.length : Int) := by omega
      obtain ⟨ad5, eA, f0, f1, f2⟩ := at_T31 (Kd.C_below HR.out HB.out) (i : Int) z0 z1
      rw [rd_wA, Int.toNat_natCast] at f0 f1 f2
      subst eA
      have HTK := Aside0.mk (mapW_take hlt)
      have hsx : (wA ws i).f0.size ≤ maxLen := HKS.out _ (by rw [wA_eq hlt]; exact List.getElem_mem hlt)
      generalize wA ws i = x at *
      obtain ⟨d0, d1, d2⟩ := three_new wr 31 (.string x.f0) (.string x.f1) (.bool x.f2)
      have hb2 : Below wr.heap.size wr (wr.alloc (.cells #[.string x.f0, .string x.f1, .bool x.f2] 31)) := below_alloc (Below.refl _ _) _
      obtain ⟨w8, u1, u2, u3⟩ := (HM.out.below hb2).put Try.underlying69 (by unfold maxLen; omega) (x := x.f0) hsx x
      replace u1 : Sem.run Try.prog (Instr.mapUpdate 69 (.map (some w.heap.size)) (.string x.f0) (.agg #[.string x.f0, .string x.f1, .bool x.f2])) (wr.alloc (.cells #[.string x.f0, .string x.f1, .bool x.f2] 31)) = .ok () w8 := u1
      have HM8 := Aside0.mk u2
      have hg := u3.grown
      have HB8 : Aside0 (Below w.heap.size w w8) := ⟨(HB.out.trans (hb2.mono HB.out.size)).trans ⟨hg.os, hg.tape, hg.output, hg.size, fun k hk => hg.block k (Nat.lt_of_lt_of_le hk (Nat.le_trans HB.out.size hb2.size)) (fun e => by injection e with e; omega)⟩⟩
      clear u2 u3 hg hb2 hsx
      go_wp2
      go_roundg (gk - 1)
      case measure => omega
      case rel => exact ⟨i + 1, by go_num, by omega, by omega, ⟨by rw [HTK.out]; exact HM8.out⟩, HB8⟩
    · have hiz : i = ws.length := by omega
      subst hiz
      rw [List.take_length] at HM
      obtain ⟨w9, u1, u2, u3, u4⟩ := HM.out.range Try.underlying69
      obtain ⟨rb, hrb⟩ : ∃ rb, rb = wr.heap.size := ⟨_, rfl⟩
      rw [← hrb] at u1 u2
      replace u1 : Sem.run Try.prog (Instr.range 69 (.map (some w.heap.size))) wr = .ok (.pointer (some ⟨rb, 0, none⟩)) w9 := u1
      have HRG := Aside0.mk u2
      have hbl := HM.out.lt
      have HB9 : Aside0 (Below w.heap.size w w9 ∧ rb < w9.heap.size ∧ w.heap.size < w9.heap.size ∧ w.heap.size ≤ rb) := ⟨HB.out.trans (u3.mono HB.out.size), by omega, by omega, by omega⟩
      have HCS : Aside0 ((mapW ws).length ≤ 900000) := ⟨Nat.le_trans (mapW_len ws) hn⟩
      clear u2 u3 u4 hbl hrb hk hlt hi hn HM
      obtain ⟨g0, hg0⟩ : ∃ g0, g0 = gk := ⟨_, rfl⟩
      clear hg0
      obtain ⟨C, hC⟩ : ∃ C, C = mapW ws := ⟨_, rfl⟩
      rw [← hC] at HRG HCS
      have HCW := Aside0.mk hC
      clear hC
      go_wp2
      go_loopg [6] (C.length + 1) (fun kq v6 wq => ∃ dn : List (ByteArray × Wr), C.length - dn.length < kq ∧ dn.length ≤ C.length ∧ Aside0 (Mv.Rng TW eW wq w.heap.size rb ws.length C dn) ∧ Aside0 (Kd.R k31 31 wq 0 (fun k => w9.heap.size ≤ k) v6 (dn.map (·.2))) ∧ Aside0 (Below w.heap.size w wq ∧ w9.heap.size ≤ wq.heap.size))
      case atStart => exact ⟨[], by simp, Nat.zero_le _, HRG, ⟨Kd.R_nil _ _ _ _ _⟩, ⟨HB9.out.1, Nat.le_refl _⟩⟩
      case round =>
        obtain ⟨dn, hk, hdl, HRN, HRW, HBQ⟩ := hrel
        rcases HRN.out.next 0 with ⟨hp, hrun⟩ | ⟨⟨ak, x⟩, w3, ha, hna, hok, hrun, hr3, hg3, hs3, hen⟩
        · have hln : (dn.map (·.2)).length < 1000000 := by rw [List.length_map]; have := HCS.out; omega
          have HSO := Aside0.mk (sortW (dn.map (·.2)) u6 wr 0 _ HRW.out hln)
          rw [HCW.out] at hp
          have HP := Aside0.mk hp
          have HOW : Aside0 (∀ k, u6.ownBlock = some k → w9.heap.size ≤ k) := ⟨HRW.out.1⟩
          clear hp hln
          go_wp2_with (first
            | (go_at_call 76; refine HSO.out.mono ?_; rintro e w4 ⟨rfl, ts, h1, h2, h3, h4⟩; have H1 := Aside0.mk h1; have H2 := Aside0.mk h2; have H3 := Aside0.mk h3; have H4 := Aside0.mk h4; clear h1 h2 h3 h4))
          go_ret
          have hts := sorted_law HP.out H1.out H2.out
          refine ⟨_, rfl, ?_, HBQ.out.1.grown H4.out HBQ.out.1.size (fun k e => Nat.le_trans (Nat.le_of_lt HB9.out.2.2.1) (HOW.out k e))⟩
          rw [← hts]
          exact Kd.R_mono H3.out (fun k (hk : w9.heap.size ≤ k) => Nat.le_trans (Nat.le_of_lt HB9.out.2.2.1) hk)
        · change (Instr.next (.pointer (some ⟨rb, 0, none⟩)) false 0).run Try.prog wr = .ok (.tuple #[.bool true, .string ak, .agg #[.string x.f0, .string x.f1, .bool x.f2]]) w3 at hrun
          change (Instr.entry (.pointer (some ⟨rb, 0, none⟩))).run Try.prog w3 = .ok (.tuple #[.string ak, .agg #[.string x.f0, .string x.f1, .bool x.f2]]) w3 at hen
          have hl := hr3.len
          rw [List.length_append, List.length_singleton] at hl
          obtain ⟨d0, d1, d2⟩ := three_new w3 31 (.string x.f0) (.string x.f1) (.bool x.f2)
          have hb4 : Below w3.heap.size w3 (w3.alloc (.cells #[.string x.f0, .string x.f1, .bool x.f2] 31)) := below_alloc (Below.refl _ _) _
          have h9 := HB9.out
          have hq := HBQ.out
          have hR3 : Kd.R k31 31 (w3.alloc (.cells #[.string x.f0, .string x.f1, .bool x.f2] 31)) 0 (fun k => w9.heap.size ≤ k) u6 (dn.map (·.2)) := Kd.R_below (Kd.R_step HRW.out (fun k hk hl => hg3.block k hl (fun e => by injection e with e; have hk' : w9.heap.size ≤ k := hk; omega))) hb4
          have HRW4 := Aside0.mk hR3
          have HRN4 := Aside0.mk (hr3.below hb4)
          have HB4 : Aside0 (Below w.heap.size w (w3.alloc (.cells #[.string x.f0, .string x.f1, .bool x.f2] 31)) ∧ w9.heap.size ≤ (w3.alloc (.cells #[.string x.f0, .string x.f1, .bool x.f2] 31)).heap.size) := ⟨(hq.1.grown hg3 hq.1.size (fun k e => by injection e with e; omega)).trans (hb4.mono (Nat.le_trans hq.1.size hg3.size)), Nat.le_trans hq.2 (Nat.le_trans hg3.size hb4.size)⟩
          have HLN : Aside0 ((dn.map (·.2)).length + 1 ≤ 900001) := ⟨by rw [List.length_map]; have := HCS.out; omega⟩
          have HMP : Aside0 ((dn ++ [(ak, x)]).map (·.2) = dn.map (·.2) ++ [x]) := ⟨by simp⟩
          clear hg3 hr3 hR3 hb4 h9 hq ha hna hok hs3 HRN HRW
          go_wp2_with (first
            | ((with_reducible refine gate_builtin (b := .append) (xs := #[.tmp 27, .tmp 29]) rfl ?_); at_builtin
               refine Kd.R_append k31 (w0 := w3.alloc (.cells #[.string x.f0, .string x.f1, .bool x.f2] 31)) 0 rfl (.tmp 27) (.tmp 29) 22 31 (.agg #[.string ⟨#[]⟩, .string ⟨#[]⟩, .bool false]) 40 rfl Try.underlying22 info31 rfl (by decide) (by decide) u6 (dn.map (·.2)) x [.string x.f0, .string x.f1, .bool x.f2] (fun k => w9.heap.size ≤ k) (fun _ => False) rfl ?hx (k31_mkM _ _ _ x) (fun k h => h.elim) (fun k hk => Nat.le_trans HB4.out.2 hk) HRW4.out (Below.refl _ _) (Nat.zero_le _) (by have := HLN.out; omega) ?_
               case hx => show Value.slice _ 1 1 = Value.slice _ 1 1; first | rfl | (rw [World.size_alloc])
               intro v7 w7 h1 h2 h3 h4
               have H1 := Aside0.mk h1
               have H3 := Aside0.mk h3
               clear h1 h2 h3 h4))
          go_roundg (gk - 1)
          case measure => omega
          case rel =>
            refine ⟨dn ++ [(ak, x)], by rw [List.length_append, List.length_singleton]; omega, by rw [List.length_append, List.length_singleton]; exact hl, ⟨HRN4.out.same ?_ ?_⟩, ⟨by rw [HMP.out]; exact H1.out⟩, ⟨?_, ?_⟩⟩
            · exact H3.out.block _ HRN4.out.map.lt (fun e => by have := HRW4.out.1 _ e.symm; have := HB9.out; omega)
            · exact H3.out.block _ HRN4.out.lt (fun e => by have := HRW4.out.1 _ e.symm; have := HB9.out; omega)
            · exact HB4.out.1.grown H3.out HB4.out.1.size (fun k e => by have := HRW4.out.1 _ e; have := HB9.out; omega)
            · exact Nat.le_trans HB4.out.2 H3.out.size
end Go.Proofs.Ytmafibbnojdpjaa.St
end
section
set_option linter.unusedVariables false
set_option maxRecDepth 100000
set_option linter.unusedSimpArgs false
namespace Go.Proofs.Ytmafibbnojdpjaa.St
open Go.Proofs.Ytmafibbnojdpjaa.Tr Go.RowKit Go.Proofs.YtmafibbnojdpjaaW.PrintWords Go.Proofs.YtmafibbnojdpjaaW.PrintLast Go.Proofs.YtmafibbnojdpjaaW.PrintMore Go.Proofs.Ytmafibbnojdpjaa.P
attribute [local go_sem] Oper.semAt_some
def cutS (n : Nat) (s : ByteArray) : ByteArray := if n < s.size then s.extract 0 n else s
def keyX (s : ByteArray) : ByteArray := cutS 20 (⟨#[107]⟩ ++ s)
def valX (x : Wr) : ByteArray := if x.f2 then ⟨#[]⟩ else cutS 40 x.f1
def someX (x : Wr) : Wr := ⟨keyX x.f0, valX x, x.f2⟩
def someL (ws : List Wr) : List Wr := (ws.take 12).map someX
def someW (ws : List Wr) : List Wr := sortedW (someL ws)
theorem cutS_size (n : Nat) (s : ByteArray) : (cutS n s).size ≤ n := by
  unfold cutS
  split
  · rw [ByteArray.size_extract]; omega
  · omega
theorem someX_eq (k v : ByteArray) (g : Bool) (kx : ByteArray) (h : kx = ⟨#[107]⟩ ++ k) : someX ⟨k, v, g⟩ = ⟨if 20 < kx.size then kx.extract 0 20 else kx, if g = true then ⟨#[]⟩ else if 40 < v.size then v.extract 0 40 else v, g⟩ := by
  unfold someX keyX valX cutS
  rw [h]
theorem someL_len (ws : List Wr) : (someL ws).length ≤ 12 := by
  unfold someL
  rw [List.length_map, List.length_take]
  omega
theorem someL_keys (ws : List Wr) : ∀ x ∈ someL ws, x.f0.size ≤ 20 := fun x hx => by
  obtain ⟨y, _, rfl⟩ := List.mem_map.1 hx
  exact cutS_size _ _
set_option maxHeartbeats 32000000 in
theorem some_any (ws : List Wr) (A : Option Addr) (c : Nat) (w : World) (hr : Kd.C k31 w A ws.length ws) (hc : ws.length ≤ c) (hn : ws.length < 4611686018427387904) (hsz : ∀ x ∈ ws, x.f0.size ≤ 140737488351232) :
    Calls Try.prog 54 #[.slice A ws.length c] w fun e w' => ∃ v, e = .returned v ∧ Kd.R k31 31 w' 0 (fun k => w.heap.size ≤ k) v (someW ws) ∧ Below w.heap.size w w' := by
  have HR := Aside0.mk hr
  have HN := Aside0.mk hn
  have HSZ := Aside0.mk hsz
  have HB0 : Aside0 (Below w.heap.size w (w.alloc (.cells #[] 31))) := ⟨below_alloc (Below.refl _ _) _⟩
  have HE0 : Aside0 (Kd.R k31 31 (w.alloc (.cells #[] 31)) 0 (fun k => w.heap.size ≤ k) (.slice (some ⟨w.heap.size, 0, none⟩) 0 0) ((ws.take 0).map someX)) := ⟨R_empty k31 _ 31 _ _ _ (Nat.zero_le _) (Nat.le_refl _) (heap_alloc_new _ _)⟩
  have HSO : Aside0 (∀ (W : World) (l : List Wr) (v : Value), l = someL ws → w.heap.size ≤ W.heap.size → Kd.R k31 31 W 0 (fun k => w.heap.size ≤ k) v l → Calls Try.prog 42 #[v] W fun e w' => ∃ v, e = .returned v ∧ Kd.R k31 31 w' 0 (fun k => w.heap.size ≤ k) v (someW ws) ∧ Below W.heap.size W w') := ⟨fun W l v hl hs hR => by
    subst hl
    obtain ⟨A1, c1, rfl, h1, h2⟩ := Kd.R_reads hR
    have h3 := someL_len ws
    refine (sorted_any (someL ws) A1 c1 W h2 h1 (by omega) (fun x hx => by have := someL_keys ws x hx; unfold maxLen; omega)).mono ?_
    rintro e w' ⟨v, rfl, q1, q2⟩
    exact ⟨v, rfl, Kd.R_mono q1 (fun k (hk : W.heap.size ≤ k) => Nat.le_trans hs hk), q2⟩⟩
  clear hr hn hsz
  go_enter Try.func54, Try.ntmps54
  go_wp2
  generalize w.alloc (.cells #[] 31) = W1 at *
  go_loopg [10, 3] (ws.length + 1) (fun kq v10 v3 wq => ∃ (i : Nat), v10 = .int .i64 (i : Int) ∧ i ≤ ws.length ∧ i ≤ 12 ∧ ws.length - i < kq ∧ Aside0 (Kd.R k31 31 wq 0 (fun k => w.heap.size ≤ k) v3 ((ws.take i).map someX)) ∧ Aside0 (Below w.heap.size w wq))
  case atStart => exact ⟨0, rfl, Nat.zero_le _, by omega, by omega, HE0, HB0⟩
  case round =>
    clear HE0 HB0
    obtain ⟨i, rfl, hi, h12, hk, HRW, HB⟩ := hrel
    have z0 : (0 : Int) ≤ (i : Int) := by omega
    have hn := HN.out
    by_cases hlt : i < ws.length
    · have z1 : (i : Int) < (ws.length : Int) := by omega
      obtain ⟨ad5, eA, f0, f1, f2⟩ := at_T31 (Kd.C_below HR.out HB.out) (i : Int) z0 z1
      rw [rd_wA, Int.toNat_natCast] at f0 f1 f2
      subst eA
      have hli : ((ws.take i).map someX).length = i := by rw [List.length_map, List.length_take]; omega
      obtain ⟨A3, c3, ev⟩ := Kd.R_slice HRW.out
      rw [hli] at ev
      subst ev
      have hx0 : (wA ws i).f0.size ≤ 140737488351232 := HSZ.out _ (by rw [wA_eq hlt]; exact List.getElem_mem hlt)
      have HTK : Aside0 ((ws.take (i + 1)).map someX = (ws.take i).map someX ++ [someX (wA ws i)]) := ⟨by rw [List.take_succ_eq_append_getElem hlt, List.map_append, wA_eq hlt]; rfl⟩
      have HLI := Aside0.mk hli
      have HT12 : Aside0 (i = 12 → (ws.take i).map someX = someL ws) := ⟨fun e => by subst e; rfl⟩
      generalize (ws.take i).map someX = L3 at *
      clear hli
      generalize wA ws i = x at *
      obtain ⟨xk, xv, xg⟩ := x
      replace f0 : wr.cell? (ad5.add (i * 3)) = some (.string xk) := f0
      replace f1 : wr.cell? ⟨(ad5.add (i * 3)).block, (ad5.add (i * 3)).off + 1, none⟩ = some (.string xv) := f1
      replace f2 : wr.cell? ⟨(ad5.add (i * 3)).block, (ad5.add (i * 3)).off + 2, none⟩ = some (.bool xg) := f2
      replace hx0 : xk.size ≤ 140737488351232 := hx0
      obtain ⟨d0, d1, d2⟩ := three_new wr 31 (.string xk) (.string xv) (.bool xg)
      have hb2 : Below wr.heap.size wr (wr.alloc (.cells #[.string xk, .string xv, .bool xg] 31)) := below_alloc (Below.refl _ _) _
      by_cases h2 : i < 12
      · have q1 : ¬ (12 : Int) ≤ (i : Int) := by omega
        have hcat : (⟨#[107]⟩ ++ xk : ByteArray).size = 1 + xk.size := by rw [ByteArray.size_append]; rfl
        have q2 : ¬ 9223372036854775807 < (⟨#[107]⟩ : ByteArray).size + xk.size := by
          rw [show (⟨#[107]⟩ : ByteArray).size = 1 from rfl]; omega
        have q3 : ¬ 9223372036854775807 < 1 + xk.size := by omega
        obtain ⟨kx, hkx⟩ : ∃ kx : ByteArray, kx = ⟨#[107]⟩ ++ xk := ⟨_, rfl⟩
        obtain ⟨bx, hbx⟩ : ∃ bx, bx = wr.heap.size + 1 := ⟨_, rfl⟩
        have hnew := heap_alloc_new (wr.alloc (.cells #[.string xk, .string xv, .bool xg] 31)) (.cells #[.string (⟨#[107]⟩ ++ xk), .string xv, .bool xg] 31)
        rw [World.size_alloc, ← hkx, ← hbx] at hnew
        have HNW := Aside0.mk hnew
        have HBX : Aside0 (wr.heap.size ≤ bx) := ⟨by omega⟩
        have HB3 : Aside0 (Below wr.heap.size wr ((wr.alloc (.cells #[.string xk, .string xv, .bool xg] 31)).alloc (.cells #[.string kx, .string xv, .bool xg] 31))) := ⟨below_alloc hb2 _⟩
        have HKX := Aside0.mk hkx
        have hky : (⟨#[107]⟩ ++ xk : ByteArray) = kx := hkx.symm
        clear hkx
        have HCT : Aside0 (kx.size = 1 + xk.size) := ⟨by rw [HKX.out]; exact hcat⟩
        have g0 := (cell_of_row _ _ 0 _ _ _ hnew).trans rfl
        have g1 := (cell_of_row _ _ 1 _ _ _ hnew).trans rfl
        have g2 := (cell_of_row _ _ 2 _ _ _ hnew).trans rfl
        clear hcat hnew hb2 h2 h12 hx0
        have HSX := Aside0.mk (someX_eq xk xv xg kx HKX.out)
        have HBW : Aside0 (∀ o1 o2 : Obj, Below wr.heap.size wr ((wr.alloc o1).alloc o2)) := ⟨fun _ _ => below_alloc (below_alloc (Below.refl _ _) _) _⟩
        clear HKX
        by_cases ha : 20 < kx.size
        all_goals cases xg
        all_goals by_cases hv : 40 < xv.size
        all_goals
          first | (have n0 : (20 : Int) < (kx.size : Int) := by omega) | (have n0 : ¬ (20 : Int) < (kx.size : Int) := by omega)
          first | (have n1 : (40 : Int) < (xv.size : Int) := by omega) | (have n1 : ¬ (40 : Int) < (xv.size : Int) := by omega)
          have HA := Aside0.mk ha
          have HV := Aside0.mk hv
          clear ha hv
          go_wp2_with (first
            | ((with_reducible refine gate_builtin (b := .append) (xs := #[.tmp 44, .tmp 46]) rfl ?_); at_builtin
               refine Kd.R_append k31 (w0 := wr) 0 rfl (.tmp 44) (.tmp 46) 22 31 (.agg #[.string ⟨#[]⟩, .string ⟨#[]⟩, .bool false]) 40 rfl Try.underlying22 info31 rfl (by decide) (by decide) (.slice A3 i c3) L3 (⟨_, _, _⟩ : Wr) [.string _, .string _, .bool _] (fun k => w.heap.size ≤ k) (fun _ => False) rfl ?hx (k31_mkM _ _ _ _) (fun k h => h.elim) (fun k hk => Nat.le_trans (Nat.le_trans HB.out.size (HBW.out _ _).size) hk) (Kd.R_below HRW.out (HBW.out _ _)) ((HBW.out _ _).mono (Nat.zero_le _)) (Nat.zero_le _) (by have := HLI.out; omega) ?_
               case hx => show Value.slice _ 1 1 = Value.slice _ 1 1; simp only [World.size_setCell, World.size_alloc]
               intro v7 w7 h1 h2 h3 h4
               have H1 := Aside0.mk h1
               have H3 := Aside0.mk h3
               clear h1 h2 h3 h4))
          go_roundg (gk - 1)
          case measure => omega
          case rel =>
            refine ⟨i + 1, by go_num, by omega, by omega, by omega, ⟨?_⟩, ⟨(below_step HB.out (HBW.out _ _)).grown H3.out (below_step HB.out (HBW.out _ _)).size (fun k e => HRW.out.1 k e)⟩⟩
            rw [HTK.out, HSX.out]
            have ha := HA.out
            have hv := HV.out
            simp only [ha, hv, if_true, if_false, Bool.false_eq_true]
            exact H1.out
      · have q1 : (12 : Int) ≤ (i : Int) := by omega
        have HL12 := Aside0.mk (HT12.out (by omega))
        have HB2 := Aside0.mk (HB.out.trans (hb2.mono HB.out.size))
        have HRW2 := Aside0.mk (Kd.R_below HRW.out hb2)
        clear hb2 HT12 HTK h2 h12 hx0
        go_wp2_with (first | (go_at_call 42; refine (HSO.out _ _ _ HL12.out HB2.out.size HRW2.out).mono ?_; rintro e w5 ⟨v5, rfl, h1, h2⟩; have H1 := Aside0.mk h1; have H2 := Aside0.mk h2; clear h1 h2))
        go_ret
        exact ⟨_, rfl, H1.out, below_step HB2.out H2.out⟩
    · have hiz : i = ws.length := by omega
      subst hiz
      have HL12 : Aside0 ((ws.take ws.length).map someX = someL ws) := ⟨by unfold someL; rw [List.take_length, List.take_of_length_le h12]⟩
      clear hi hlt hn h12
      go_wp2_with (first | (go_at_call 42; refine (HSO.out _ _ _ HL12.out HB.out.size HRW.out).mono ?_; rintro e w5 ⟨v5, rfl, h1, h2⟩; have H1 := Aside0.mk h1; have H2 := Aside0.mk h2; clear h1 h2))
      go_ret
      exact ⟨_, rfl, H1.out, below_step HB.out H2.out⟩
end Go.Proofs.Ytmafibbnojdpjaa.St
end
section
set_option linter.unusedVariables false
set_option maxRecDepth 100000
set_option linter.unusedSimpArgs false
namespace Go.Proofs.Ytmafibbnojdpjaa.St
open Go.Proofs.Ytmafibbnojdpjaa.Tr Go.RowKit Go.Proofs.YtmafibbnojdpjaaW.PrintWords Go.Proofs.YtmafibbnojdpjaaW.PrintLast Go.Proofs.YtmafibbnojdpjaaW.PrintMore Go.Proofs.Ytmafibbnojdpjaa.P
attribute [local go_sem] Oper.semAt_some
def wsA (wss : List (List Wr)) (i : Nat) : List Wr := wss.getD i []
theorem wsA_eq {wss : List (List Wr)} {i : Nat} (h : i < wss.length) : wsA wss i = wss[i] := by simp [wsA, List.getD, h]
theorem rd_wsA (wss : List (List Wr)) (i : Nat) : rd_L9 wss (i : Int) = wsA wss i := by simp [rd_L9, wsA]
def cmI (first : Int) (wss : List (List Wr)) (i : Nat) : Cm := ⟨first + (i : Int), 10 * (i : Int), someW (wsA wss i)⟩
def listTo (first : Int) (wss : List (List Wr)) (n : Nat) : List Cm := (List.range n).map (cmI first wss)
def listC (first : Int) (wss : List (List Wr)) : List Cm := listTo first wss wss.length
theorem listTo_succ (first : Int) (wss : List (List Wr)) (n : Nat) : listTo first wss (n + 1) = listTo first wss n ++ [cmI first wss n] := by
  unfold listTo
  rw [List.range_succ, List.map_append]
  rfl
theorem listTo_len (first : Int) (wss : List (List Wr)) (n : Nat) : (listTo first wss n).length = n := by simp [listTo]
/-- what the rows ask of their writes -/
def okWs (ws : List Wr) : Prop := ws.length < 4611686018427387904 ∧ ∀ x ∈ ws, x.f0.size ≤ 140737488351232
set_option maxHeartbeats 16000000 in
theorem list_any (first : Int) (wss : List (List Wr)) (A : Option Addr) (c : Nat) (w : World) (hr : Kd.C (Kd.slice 31 k31) w A wss.length wss) (hn : wss.length ≤ 1000) (hok : ∀ ws ∈ wss, okWs ws) (h0 : 0 ≤ first) (h1 : first ≤ 1000000) :
    Calls Try.prog 47 #[.int .i64 first, .slice A wss.length c] w fun e w' => ∃ v, e = .returned v ∧ Kd.R k28 28 w' 0 (fun k => w.heap.size ≤ k) v (listC first wss) ∧ Below w.heap.size w w' := by
  have HR := Aside0.mk hr
  have HOK := Aside0.mk hok
  have HB0 : Aside0 (Below w.heap.size w (w.alloc (.cells #[] 28))) := ⟨below_alloc (Below.refl _ _) _⟩
  have HE0 : Aside0 (Kd.R k28 28 (w.alloc (.cells #[] 28)) 0 (fun k => w.heap.size ≤ k) (.slice (some ⟨w.heap.size, 0, none⟩) 0 0) (listTo first wss 0)) := ⟨R_empty k28 _ 28 _ _ _ (Nat.zero_le _) (Nat.le_refl _) (heap_alloc_new _ _)⟩
  clear hr hok
  go_enter Try.func47, Try.ntmps47
  go_wp2
  generalize w.alloc (.cells #[] 28) = W1 at *
  go_loopg [11, 5] (wss.length + 1) (fun kq v11 v5 wq => ∃ (i : Nat), v11 = .int .i64 (i : Int) ∧ i ≤ wss.length ∧ wss.length - i < kq ∧ Aside0 (Kd.R k28 28 wq 0 (fun k => w.heap.size ≤ k) v5 (listTo first wss i)) ∧ Aside0 (Below w.heap.size w wq))
  case atStart => exact ⟨0, rfl, Nat.zero_le _, by omega, HE0, HB0⟩
  case round =>
    clear HE0 HB0
    obtain ⟨i, rfl, hi, hk, HRW, HB⟩ := hrel
    have z0 : (0 : Int) ≤ (i : Int) := by omega
    by_cases hlt : i < wss.length
    · have z1 : (i : Int) < (wss.length : Int) := by omega
      obtain ⟨ad5, A5, c5, eA, f0, f1, f2⟩ := at_L9 (Kd.C_below HR.out HB.out) (i : Int) z0 z1
      rw [rd_wsA, Int.toNat_natCast] at f0
      rw [rd_wsA] at f1 f2
      subst eA
      have hli := listTo_len first wss i
      obtain ⟨A3, c3, ev⟩ := Kd.R_slice HRW.out
      rw [hli] at ev
      subst ev
      have hw := HOK.out _ (by rw [wsA_eq hlt]; exact List.getElem_mem hlt : wsA wss i ∈ wss)
      have HSM := Aside0.mk (some_any (wsA wss i) A5 c5 wr f2 f1 hw.1 hw.2)
      have HTK : Aside0 (listTo first wss (i + 1) = listTo first wss i ++ [(⟨first + (i : Int), 10 * (i : Int), someW (wsA wss i)⟩ : Cm)]) := ⟨listTo_succ _ _ _⟩
      have HLI := Aside0.mk hli
      have hw1 : IntKind.i64.wrap (first + (i : Int)) = first + (i : Int) := by rw [IntKind.wrap_i64]; omega
      have hw2 : wrap64 (first + (i : Int)) = first + (i : Int) := w64 (by omega) (by omega)
      have hw3 : IntKind.i64.wrap (10 * (i : Int)) = 10 * (i : Int) := by rw [IntKind.wrap_i64]; omega
      have hw4 : wrap64 (10 * (i : Int)) = 10 * (i : Int) := w64 (by omega) (by omega)
      generalize listTo first wss i = L3 at *
      generalize wsA wss i = ws at *
      clear hli f1 f2 hw
      go_wp2_with (first
        | (go_at_call 54; refine HSM.out.mono ?_; rintro e w5 ⟨v5, rfl, h5, hb5⟩; obtain ⟨A7, n7, ev7⟩ := Kd.R_slice h5; subst ev7; have H5 := Aside0.mk h5; have HB5 := Aside0.mk hb5; clear h5 hb5)
        | ((with_reducible refine gate_builtin (b := .append) (xs := #[.tmp 16, .tmp 25]) rfl ?_); at_builtin
           refine Kd.R_append k28 (w0 := w5) 0 rfl (.tmp 16) (.tmp 25) 23 28 (.agg #[.int .i64 0, .int .i64 0, .slice none 0 0]) 40 rfl Try.underlying23 info28 rfl (by decide) (by decide) (.slice A3 i c3) L3 (⟨first + (i : Int), 10 * (i : Int), someW ws⟩ : Cm) [.int .i64 (first + (i : Int)), .int .i64 (10 * (i : Int)), .slice A7 (someW ws).length n7] (fun k => w.heap.size ≤ k) (fun k => wr.heap.size ≤ k) rfl ?hx (k28_mkM _ _ _ _ H5.out) (fun k (hk : wr.heap.size ≤ k) => ⟨Nat.le_trans HB.out.size hk, fun e => by have := Kd.R_lt HRW.out k e.symm; omega⟩) (fun k hk => Nat.le_trans (Nat.le_trans HB.out.size HB5.out.size) hk) (Kd.R_below HRW.out HB5.out) (Below.refl _ _) (Nat.zero_le _) (by have := HLI.out; omega) ?_
           case hx => show Value.slice _ 1 1 = Value.slice _ 1 1; first | rfl | (rw [World.size_alloc])
           intro v7 w7 h1 h2 h3 h4
           have H1 := Aside0.mk h1
           have H3 := Aside0.mk h3
           clear h1 h2 h3 h4))
      go_roundg (gk - 1)
      case measure => omega
      case rel => exact ⟨i + 1, by go_num, by omega, by omega, ⟨by rw [HTK.out]; exact H1.out⟩, ⟨(below_step HB.out HB5.out).grown H3.out (below_step HB.out HB5.out).size (fun k e => HRW.out.1 k e)⟩⟩
    · have hiz : i = wss.length := by omega
      subst hiz
      clear hi hlt
      go_wp2
      go_ret
      exact ⟨_, rfl, HRW.out, HB.out⟩
def thereW (ws : List Wr) : List Wr := ws.filter fun x => !x.f2
set_option maxHeartbeats 16000000 in
theorem there_any (ws : List Wr) (A : Option Addr) (c : Nat) (w : World) (hr : Kd.C k31 w A ws.length ws) (hn : ws.length ≤ 1000000) :
    Calls Try.prog 53 #[.slice A ws.length c] w fun e w' => ∃ v, e = .returned v ∧ Kd.R k31 31 w' 0 (fun k => w.heap.size ≤ k) v (thereW ws) ∧ Below w.heap.size w w' := by
  have HR := Aside0.mk hr
  have HB0 : Aside0 (Below w.heap.size w (w.alloc (.cells #[] 31))) := ⟨below_alloc (Below.refl _ _) _⟩
  have HE0 : Aside0 (Kd.R k31 31 (w.alloc (.cells #[] 31)) 0 (fun k => w.heap.size ≤ k) (.slice (some ⟨w.heap.size, 0, none⟩) 0 0) (thereW (ws.take 0))) := ⟨R_empty k31 _ 31 _ _ _ (Nat.zero_le _) (Nat.le_refl _) (heap_alloc_new _ _)⟩
  clear hr
  go_enter Try.func53, Try.ntmps53
  go_wp2
  generalize w.alloc (.cells #[] 31) = W1 at *
  go_loopg [9, 3] (ws.length + 1) (fun kq v9 v3 wq => ∃ (i : Nat), v9 = .int .i64 (i : Int) ∧ i ≤ ws.length ∧ ws.length - i < kq ∧ Aside0 (Kd.R k31 31 wq 0 (fun k => w.heap.size ≤ k) v3 (thereW (ws.take i))) ∧ Aside0 (Below w.heap.size w wq))
  case atStart => exact ⟨0, rfl, Nat.zero_le _, by omega, HE0, HB0⟩
  case round =>
    clear HE0 HB0
    obtain ⟨i, rfl, hi, hk, HRW, HB⟩ := hrel
    have z0 : (0 : Int) ≤ (i : Int) := by omega
    by_cases hlt : i < ws.length
    · have z1 : (i : Int) < (ws.length : Int) := by omega
      obtain ⟨ad5, eA, f0, f1, f2⟩ := at_T31 (Kd.C_below HR.out HB.out) (i : Int) z0 z1
      rw [rd_wA, Int.toNat_natCast] at f0 f1 f2
      subst eA
      obtain ⟨A3, c3, ev⟩ := Kd.R_slice HRW.out
      subst ev
      have HTK : Aside0 (thereW (ws.take (i + 1)) = thereW (ws.take i) ++ if (wA ws i).f2 = true then [] else [wA ws i]) := ⟨by
        unfold thereW
        rw [List.take_succ_eq_append_getElem hlt, List.filter_append, ← wA_eq hlt, List.filter_cons, List.filter_nil]
        cases (wA ws i).f2 <;> rfl⟩
      have HLI : Aside0 ((thereW (ws.take i)).length ≤ i) := ⟨by
        refine Nat.le_trans (List.length_filter_le _ _) ?_
        rw [List.length_take]; omega⟩
      generalize thereW (ws.take i) = L3 at *
      generalize wA ws i = x at *
      obtain ⟨d0, d1, d2⟩ := three_new wr 31 (.string x.f0) (.string x.f1) (.bool x.f2)
      have HB2 : Aside0 (Below wr.heap.size wr (wr.alloc (.cells #[.string x.f0, .string x.f1, .bool x.f2] 31))) := ⟨below_alloc (Below.refl _ _) _⟩
      cases hg : x.f2 with
      | true =>
        rw [hg] at d2 f2 HB2 HTK d0 d1
        rw [if_pos rfl, List.append_nil] at HTK
        clear hg
        go_wp2
        go_roundg (gk - 1)
        case measure => omega
        case rel => exact ⟨i + 1, by go_num, by omega, by omega, ⟨by rw [HTK.out]; exact Kd.R_below HRW.out HB2.out⟩, ⟨below_step HB.out HB2.out⟩⟩
      | false =>
        rw [hg] at d2 f2 HB2 HTK d0 d1
        rw [if_neg (by decide)] at HTK
        have HXE : Aside0 (x = ⟨x.f0, x.f1, false⟩) := ⟨by rw [← hg]⟩
        clear hg
        go_wp2_with (first
          | ((with_reducible refine gate_builtin (b := .append) (xs := #[.tmp 16, .tmp 18]) rfl ?_); at_builtin
             refine Kd.R_append k31 (w0 := wr) 0 rfl (.tmp 16) (.tmp 18) 22 31 (.agg #[.string ⟨#[]⟩, .string ⟨#[]⟩, .bool false]) 40 rfl Try.underlying22 info31 rfl (by decide) (by decide) (.slice A3 L3.length c3) L3 (⟨x.f0, x.f1, false⟩ : Wr) [.string x.f0, .string x.f1, .bool false] (fun k => w.heap.size ≤ k) (fun _ => False) rfl ?hx (k31_mkM _ _ _ _) (fun k h => h.elim) (fun k hk => Nat.le_trans (Nat.le_trans HB.out.size HB2.out.size) hk) (Kd.R_below HRW.out HB2.out) (HB2.out.mono (Nat.zero_le _)) (Nat.zero_le _) (by have := HLI.out; omega) ?_
             case hx => show Value.slice _ 1 1 = Value.slice _ 1 1; first | rfl | (rw [World.size_alloc])
             intro v7 w7 h1 h2 h3 h4
             have H1 := Aside0.mk h1
             have H3 := Aside0.mk h3
             clear h1 h2 h3 h4))
        go_roundg (gk - 1)
        case measure => omega
        case rel => exact ⟨i + 1, by go_num, by omega, by omega, ⟨by rw [HTK.out]; rw [HXE.out]; exact H1.out⟩, ⟨(below_step HB.out HB2.out).grown H3.out (below_step HB.out HB2.out).size (fun k e => HRW.out.1 k e)⟩⟩
    · have hiz : i = ws.length := by omega
      subst hiz
      rw [List.take_length] at HRW
      clear hi hlt
      go_wp2
      go_ret
      exact ⟨_, rfl, HRW.out, HB.out⟩
end Go.Proofs.Ytmafibbnojdpjaa.St
end
section
set_option linter.unusedVariables false
set_option maxRecDepth 100000
set_option linter.unusedSimpArgs false
namespace Go.Proofs.Ytmafibbnojdpjaa.St
open Go.Proofs.Ytmafibbnojdpjaa.Tr Go.RowKit Go.Proofs.YtmafibbnojdpjaaW.PrintWords Go.Proofs.YtmafibbnojdpjaaW.PrintLast Go.Proofs.YtmafibbnojdpjaaW.PrintMore Go.Proofs.Ytmafibbnojdpjaa.P
theorem ins_facts (ws : List Wr) : ∀ a ∈ insAll ws, a.2.f0 = a.1 ∧ a.2 ∈ ws := by
  refine list_snoc (p := fun l => ∀ a ∈ insAll l, a.2.f0 = a.1 ∧ a.2 ∈ l) (fun a ha => by cases ha) (fun l x h => ?_) ws
  rw [insAll_snoc]
  intro a ha
  rcases mem_insK.1 ha with rfl | ⟨h1, _⟩
  · exact ⟨rfl, by simp⟩
  · exact ⟨(h a h1).1, List.mem_append_left _ (h a h1).2⟩
theorem sorted_mem {ws : List Wr} {x : Wr} (h : x ∈ sortedW ws) : x ∈ ws := by
  obtain ⟨a, ha, rfl⟩ := List.mem_map.1 h
  exact (ins_facts ws a ha).2
theorem sorted_pair (ws : List Wr) : (sortedW ws).Pairwise fun a b => kl a.f0 b.f0 := by
  unfold sortedW
  rw [List.pairwise_map]
  refine List.Pairwise.imp_of_mem (fun {a b} ha hb h => ?_) (srtK_insAll ws)
  rw [(ins_facts ws a ha).1, (ins_facts ws b hb).1]
  exact h
theorem rises_of {l : List Wr} (h1 : l.Pairwise fun a b => kl a.f0 b.f0) (h2 : ∀ x ∈ l, okW x = true) : rises l = true := by
  unfold rises
  rw [rises_iff]
  intro i hi
  unfold okAt
  rw [Bool.and_eq_true, Bool.or_eq_true, decide_eq_true_eq, decide_eq_true_eq]
  refine ⟨by rw [wA_eq hi]; exact h2 _ (List.getElem_mem hi), ?_⟩
  rcases Nat.eq_zero_or_pos i with h | h
  · exact .inl h
  · refine .inr ?_
    rw [wA_eq hi, wA_eq (show i - 1 < l.length by omega)]
    exact List.pairwise_iff_getElem.1 h1 (i - 1) i (by omega) hi (by omega)
theorem keyX_size (s : ByteArray) : 0 < (keyX s).size := by
  unfold keyX cutS
  have h : (⟨#[107]⟩ ++ s : ByteArray).size = 1 + s.size := by rw [ByteArray.size_append]; rfl
  split
  · rw [ByteArray.size_extract]; omega
  · omega
theorem someX_ok (x : Wr) : okW (someX x) = true := by
  unfold okW someX
  have h1 := keyX_size x.f0
  have h2 : (keyX x.f0).size ≤ 20 := cutS_size _ _
  have h3 : (valX x).size ≤ 40 := by
    unfold valX
    split
    · exact Nat.zero_le _
    · exact cutS_size _ _
  have h4 : (x.f2 && decide ((valX x).size ≠ 0)) = false := by
    cases hg : x.f2 with
    | false => rfl
    | true =>
      unfold valX
      rw [hg, if_pos rfl]
      rfl
  simp only [h4, Bool.not_false, Bool.and_true, Bool.and_eq_true, decide_eq_true_eq]
  omega
theorem some_len (ws : List Wr) : (someW ws).length ≤ 12 := Nat.le_trans (sortedW_len _) (someL_len ws)
theorem some_ok (ws : List Wr) : ∀ x ∈ someW ws, okW x = true := fun x hx => by
  obtain ⟨y, _, rfl⟩ := List.mem_map.1 (sorted_mem hx)
  exact someX_ok y
theorem some_right (ws : List Wr) : rightW (someW ws) = true := by
  unfold rightW
  rw [Bool.and_eq_true, decide_eq_true_eq]
  have := some_len ws
  exact ⟨by omega, rises_of (sorted_pair _) (some_ok ws)⟩
theorem there_pair (ws : List Wr) : (thereW (someW ws)).Pairwise fun a b => kl a.f0 b.f0 := List.Pairwise.filter _ (sorted_pair _)
theorem there_new {q : Int} (h0 : 0 ≤ q) (h1 : q ≤ maxSeq) (ws : List Wr) : newOk q (thereW (someW ws)) = true := by
  unfold newOk
  rw [decide_eq_true h0, decide_eq_true h1, rises_of (there_pair ws) (fun x hx => some_ok ws x (List.mem_filter.1 hx).1)]
  simp only [Bool.true_and, List.all_eq_true]
  exact fun x hx => (List.mem_filter.1 hx).2
/-- commits one behind the other are taken -/
theorem list_last (first : Int) (wss : List (List Wr)) (n : Nat) : lastAt (listTo first wss n) = if n = 0 then 0 else 10 * ((n - 1 : Nat) : Int) := by
  unfold lastAt
  rcases Nat.eq_zero_or_pos n with h | h
  · subst h
    rfl
  · have hl := listTo_len first wss n
    rw [dif_neg (by omega), if_neg (by omega)]
    simp only [listTo, List.length_map, List.length_range, List.getElem_map, List.getElem_range]
    rfl
theorem list_good {M : StM} {first : Int} {wss : List (List Wr)} {n : Nat} (hq : lastM M = first - 1 + (n : Int)) (hm : first + (n : Int) ≤ maxSeq) (hn : n ≤ 1000) (hh : M.hist = listTo first wss n) : goodC M (cmI first wss n) = true := by
  rw [goodC_iff]
  refine ⟨?_, hm, ?_, ?_, some_right _, ?_⟩
  · show first + (n : Int) = _
    omega
  · show (0 : Int) ≤ 10 * (n : Int)
    omega
  · show 10 * (n : Int) ≤ maxSeq
    unfold maxSeq
    omega
  · rw [hh, listTo_len, list_last]
    rcases Nat.eq_zero_or_pos n with h | h
    · exact .inl h
    · refine .inr ?_
      rw [if_neg (by omega)]
      show 10 * ((n - 1 : Nat) : Int) ≤ 10 * (n : Int)
      omega
theorem list_run {M : StM} (hi : Inv M) {first : Int} {wss : List (List Wr)} (hq : lastM M + 1 = first) (hm : first + 1000 ≤ maxSeq) (hh : M.hist = []) (n : Nat) (hn : n ≤ 1000) :
    ∃ M', runM M (listTo first wss n) = some M' ∧ Inv M' ∧ M'.hist = listTo first wss n ∧ M'.low = M.low ∧ lastM M' = first - 1 + (n : Int) := by
  induction n with
  | zero => exact ⟨M, rfl, hi, hh, rfl, by omega⟩
  | succ n ih =>
    obtain ⟨M', h1, h2, h3, h4, h5⟩ := ih (by omega)
    have hg := list_good (M := M') (first := first) (wss := wss) (n := n) h5 (by omega) (by omega) h3
    refine ⟨comM M' (cmI first wss n), ?_, inv_com h2 hg, ?_, h4, ?_⟩
    · rw [listTo_succ, run_append, h1]
      show (if goodC M' (cmI first wss n) = true then some _ else none) = _
      rw [if_pos hg]
    · show M'.hist ++ [cmI first wss n] = _
      rw [h3, listTo_succ]
    · rw [last_com, h5]
      omega
set_option maxHeartbeats 1000000 in
theorem few_any (A : Option Addr) (n c : Nat) (w : World) : Calls Try.prog 46 #[.slice A n c] w fun e w' => e = .returned (.bool (decide ((n : Int) ≤ 30))) ∧ w' = w := by
  go_enter Try.func46, Try.ntmps46
  go_wp2
  go_ret
  exact ⟨rfl, rfl⟩
end Go.Proofs.Ytmafibbnojdpjaa.St
end
section
set_option linter.unusedVariables false
set_option maxRecDepth 100000
set_option linter.unusedSimpArgs false
namespace Go.Proofs.Ytmafibbnojdpjaa.St
open Go.Proofs.Ytmafibbnojdpjaa.Tr Go.RowKit Go.Proofs.YtmafibbnojdpjaaW.PrintWords Go.Proofs.YtmafibbnojdpjaaW.PrintLast Go.Proofs.YtmafibbnojdpjaaW.PrintMore Go.Proofs.Ytmafibbnojdpjaa.P
set_option maxHeartbeats 8000000 in
theorem made_any (q : Int) (ws : List Wr) (cs : List Cm) (A1 A2 : Option Addr) (c1 c2 : Nat) (w : World) (hr1 : Kd.C k31 w A1 ws.length ws) (hc1 : ws.length ≤ c1) (hn1 : ws.length ≤ 1000)
    (hr2 : Kd.C k28 w A2 cs.length cs) (hc2 : cs.length ≤ c2) (hn2 : cs.length ≤ 1000) (hwl : ∀ i, i < cs.length → (cA cs i).f2.length < 4611686018427387904) (MM : StM) (hst : stateM q ws cs = some MM) :
    Calls Try.prog 48 #[.int .i64 q, .slice A1 ws.length c1, .slice A2 cs.length c2] w fun e w' => ∃ s, e = .returned (.tuple #[.pointer (some ⟨s, 0, none⟩), .bool true]) ∧ StoreAt (fun k => w.heap.size ≤ k) w' s MM ∧ Inv MM ∧ Below w.heap.size w w' := by
  have HNW := Aside0.mk (new_any q ws A1 c1 w hr1 hc1 (by omega))
  have HR2 := Aside0.mk hr2
  have HWL := Aside0.mk hwl
  have hnew : newOk q ws = true := by
    unfold stateM at hst
    cases h : newOk q ws with
    | true => rfl
    | false => rw [h, if_neg (by decide)] at hst; cases hst
  have HRM : Aside0 (runM (newM q ws) cs = some MM) := ⟨by unfold stateM at hst; rw [hnew, if_pos rfl] at hst; exact hst⟩
  clear hr1 hr2 hwl hst
  go_enter Try.func48, Try.ntmps48
  go_wp2_with (first | (go_at_call 35; refine HNW.out.mono ?_; rintro e w1 ⟨hb, _, h1⟩; obtain ⟨s, rfl, hs⟩ := h1 hnew; have HB1 := Aside0.mk hb; have HS1 : Aside0 (StoreAt (fun k => w.heap.size ≤ k) w1 s (newM q ws)) := ⟨hs⟩; clear hb h1 hs))
  have HI0 := Aside0.mk (inv_new hnew)
  have HKL : Aside0 ((newM q ws).K.length ≤ 1000 + 200 * 0) := ⟨by have := newAll_length q ws; show (newAll q ws).length ≤ _; omega⟩
  clear HNW hnew
  go_loopg [22] (cs.length + 1) (fun kq v22 wq => ∃ (i : Nat) (M : StM), v22 = .int .i64 (i : Int) ∧ i ≤ cs.length ∧ cs.length - i < kq ∧ Aside0 (runM (newM q ws) (cs.take i) = some M) ∧ Aside0 (StoreAt (fun k => w.heap.size ≤ k) wq s M) ∧ Aside0 (Inv M) ∧ Aside0 (M.hist.length = i ∧ M.K.length ≤ 1000 + 200 * i) ∧ Aside0 (Below w.heap.size w wq))
  case atStart => exact ⟨0, newM q ws, rfl, Nat.zero_le _, by omega, ⟨rfl⟩, HS1, HI0, ⟨rfl, HKL.out⟩, HB1⟩
  case round =>
    clear HS1 HI0 HKL HB1
    obtain ⟨i, M, rfl, hi, hk, HRN, HS, HI, HSZ, HB⟩ := hrel
    have z0 : (0 : Int) ≤ (i : Int) := by omega
    by_cases hlt : i < cs.length
    · have z1 : (i : Int) < (cs.length : Int) := by omega
      obtain ⟨ad5, A5, c5, eA, f0, f1, f2, f3, f4⟩ := at_T28 (Kd.C_below HR2.out HB.out) (i : Int) z0 z1
      rw [rd_cA, Int.toNat_natCast] at f0 f1 f2
      rw [rd_cA] at f3 f4
      subst eA
      have hb2 : Below wr.heap.size wr (wr.alloc (.cells #[.int .i64 (cA cs i).f0, .int .i64 (cA cs i).f1, .slice A5 (cA cs i).f2.length c5] 28)) := below_alloc (Below.refl _ _) _
      have HCM := Aside0.mk (com_any (HS.out.below hb2) HI.out (fun k hk => Nat.le_trans HB.out.size (Nat.le_trans hb2.size hk)) ⟨by have := HSZ.out.1; omega, by have := HSZ.out.2; omega⟩ (cA cs i) A5 c5 (Kd.C_below f4 hb2) f3 (HWL.out i hlt))
      have HRT := Aside0.mk (run_take hlt HRN.out)
      rw [← cA_eq hlt] at HRT
      have HGW : Aside0 (goodC M (cA cs i) = true → (cA cs i).f2.length ≤ 200) := ⟨fun h => by
        have := (goodC_iff.1 h).2.2.2.2.1
        unfold rightW at this
        rw [Bool.and_eq_true, decide_eq_true_eq] at this
        exact this.1⟩
      have HB2 := Aside0.mk (HB.out.trans (hb2.mono HB.out.size))
      clear f3 f4 hb2
      obtain ⟨d0, d1, d2⟩ := three_new wr 28 (.int .i64 (cA cs i).f0) (.int .i64 (cA cs i).f1) (.slice A5 (cA cs i).f2.length c5)
      have hg : goodC M (cA cs i) = true := by
        cases h : goodC M (cA cs i) with
        | true => rfl
        | false =>
          have h1 := HRT.out
          rw [h, if_neg (by decide)] at h1
          have h2 := HRM.out
          rw [run_none h1] at h2
          cases h2
      have HI2 := Aside0.mk (inv_com HI.out hg)
      rw [hg, if_pos rfl] at HRT
      have hW := HGW.out hg
      have HK2 : Aside0 ((comM M (cA cs i)).hist.length = i + 1 ∧ (comM M (cA cs i)).K.length ≤ 1000 + 200 * (i + 1)) := ⟨by
        have h1 := putAll_length (s := (cA cs i).f0) (cA cs i).f2 M.K
        refine ⟨by simp [comM, HSZ.out.1], ?_⟩
        show (putAll (cA cs i).f0 M.K (cA cs i).f2).length ≤ _
        have := HSZ.out.2
        omega⟩
      unfold errC stepM at HCM
      rw [hg, if_pos rfl, if_pos rfl] at HCM
      generalize comM M (cA cs i) = M2 at *
      clear hg hW
      generalize cA cs i = x at *
      go_wp2_with (first | (go_at_call 36; refine HCM.out.mono ?_; rintro e w5 ⟨rfl, hs5, hf5⟩; have HS5 := Aside0.mk hs5; have HB5 := Aside0.mk (fr_below (fun k hk => hk) HB2.out hf5); clear hs5 hf5))
      go_roundg (gk - 1)
      case measure => omega
      case rel => exact ⟨i + 1, M2, by go_num, by omega, by omega, HRT, HS5, HI2, HK2, HB5⟩
    · have hiz : i = cs.length := by omega
      subst hiz
      clear hi hlt hk
      have h1 := HRN.out
      rw [List.take_length] at h1
      have HE : Aside0 (M = MM) := ⟨by have h2 := HRM.out; rw [h1] at h2; injection h2⟩
      clear h1
      go_wp2
      go_ret2
      rw [← HE.out]
      exact ⟨s, rfl, HS.out, HI.out, HB.out⟩
end Go.Proofs.Ytmafibbnojdpjaa.St
end
section
set_option linter.unusedVariables false
set_option maxRecDepth 100000
set_option linter.unusedSimpArgs false
namespace Go.Proofs.Ytmafibbnojdpjaa.St
open Go.Proofs.Ytmafibbnojdpjaa.Tr Go.RowKit Go.Proofs.YtmafibbnojdpjaaW.PrintWords Go.Proofs.YtmafibbnojdpjaaW.PrintLast Go.Proofs.YtmafibbnojdpjaaW.PrintMore Go.Proofs.Ytmafibbnojdpjaa.P
theorem run_lens : ∀ (cs : List Cm) (M M' : StM), runM M cs = some M' → M'.K.length ≤ M.K.length + 200 * cs.length ∧ M'.hist.length = M.hist.length + cs.length ∧ (KeyOk M.K → KeyOk M'.K)
  | [], M, M', h => by cases h; exact ⟨by simp, by simp, fun h => h⟩
  | c :: cs, M, M', h => by
    have h0 : (if goodC M c = true then runM (comM M c) cs else none) = some M' := h
    by_cases hg : goodC M c = true
    · rw [if_pos hg] at h0
      obtain ⟨h1, h2, h3⟩ := run_lens cs _ _ h0
      have h4 : (comM M c).K.length ≤ M.K.length + c.f2.length := putAll_length _ _
      have h5 : c.f2.length ≤ 200 := by
        have := (goodC_iff.1 hg).2.2.2.2.1
        unfold rightW at this
        rw [Bool.and_eq_true, decide_eq_true_eq] at this
        exact this.1
      refine ⟨?_, ?_, fun hk => h3 (keyOk_com hk hg)⟩
      · rw [List.length_cons]; omega
      · rw [h2]; simp [comM]; omega
    · rw [if_neg hg] at h0
      cases h0
end Go.Proofs.Ytmafibbnojdpjaa.St
end
section
set_option linter.unusedVariables false
set_option maxRecDepth 100000
set_option linter.unusedSimpArgs false
namespace Go.Proofs.Ytmafibbnojdpjaa.St
open Go.Proofs.Ytmafibbnojdpjaa.Tr Go.RowKit Go.Proofs.YtmafibbnojdpjaaW.PrintWords Go.Proofs.YtmafibbnojdpjaaW.PrintLast Go.Proofs.YtmafibbnojdpjaaW.PrintMore Go.Proofs.Ytmafibbnojdpjaa.P
theorem listC_len (first : Int) (wss : List (List Wr)) : (listC first wss).length = wss.length := listTo_len _ _ _
theorem list_ws (first : Int) (wss : List (List Wr)) : ∀ c ∈ listC first wss, c.f2.length ≤ 12 := fun c hc => by
  obtain ⟨j, _, e⟩ := List.mem_map.1 (show c ∈ (List.range wss.length).map (cmI first wss) from hc)
  rw [← e]
  exact some_len _
def lenL (l : List Cm) : Nat := (l.map (·.f2.length)).sum
theorem lenL_le (l : List Cm) (n : Nat) (h : ∀ c ∈ l, c.f2.length ≤ n) : lenL l ≤ l.length * n := by
  induction l with
  | nil => simp [lenL]
  | cons c l ih =>
    have h1 := h c (List.mem_cons_self ..)
    have h2 := ih (fun x hx => h x (List.mem_cons_of_mem _ hx))
    unfold lenL at *
    rw [List.map_cons, List.sum_cons, List.length_cons, Nat.add_mul]
    omega
end Go.Proofs.Ytmafibbnojdpjaa.St
end
section
set_option linter.unusedVariables false
set_option maxRecDepth 100000
set_option linter.unusedSimpArgs false
namespace Go.Proofs.Ytmafibbnojdpjaa.St
open Go.Proofs.Ytmafibbnojdpjaa.Tr Go.RowKit Go.Proofs.YtmafibbnojdpjaaW.PrintWords Go.Proofs.YtmafibbnojdpjaaW.PrintLast Go.Proofs.YtmafibbnojdpjaaW.PrintMore Go.Proofs.Ytmafibbnojdpjaa.P
theorem run_lenL : ∀ (cs : List Cm) {M M' : StM}, runM M cs = some M' → M'.K.length ≤ M.K.length + lenL cs
  | [], M, M', h => by cases h; exact Nat.le_add_right _ _
  | c :: cs, M, M', h => by
    have h0 : (if goodC M c = true then runM (comM M c) cs else none) = some M' := h
    by_cases hg : goodC M c = true
    · rw [if_pos hg] at h0
      have h1 := run_lenL cs h0
      have h2 : (comM M c).K.length ≤ M.K.length + c.f2.length := putAll_length _ _
      have h3 : lenL (c :: cs) = c.f2.length + lenL cs := by simp [lenL]
      omega
    · rw [if_neg hg] at h0
      cases h0
/-- the store of a beginning and lists -/
structure Made (q0 : Int) (ws : List Wr) (wss : List (List Wr)) (MM : StM) : Prop where
  st : stateM q0 (thereW (someW ws)) (listC (q0 + 1) wss) = some MM
  inv : Inv MM
  low : MM.low = q0
  hist : MM.hist = listC (q0 + 1) wss
  len : lastM MM = q0 + (wss.length : Int)
  ksz : MM.K.length ≤ 12 + wss.length * 12
  key : KeyOk MM.K
theorem made_law {q0 : Int} (h0 : 0 ≤ q0) (h1 : q0 ≤ 1000000) (ws : List Wr) (wss : List (List Wr)) (hn : wss.length ≤ 1000) : ∃ MM, Made q0 ws wss MM := by
  have hnew : newOk q0 (thereW (someW ws)) = true := there_new h0 (by unfold maxSeq; omega) ws
  have hi := inv_new hnew
  have hl : lastM (newM q0 (thereW (someW ws))) = q0 := by simp [lastM, newM]
  obtain ⟨MM, r1, r2, r3, r4, r5⟩ := list_run hi (first := q0 + 1) (wss := wss) (by rw [hl]) (by unfold maxSeq; omega) rfl wss.length hn
  have hst : stateM q0 (thereW (someW ws)) (listC (q0 + 1) wss) = some MM := by unfold stateM; rw [if_pos hnew]; exact r1
  obtain ⟨_, _, l3⟩ := run_lens _ _ _ r1
  have l1 := run_lenL _ r1
  have l2 := lenL_le (listTo (q0 + 1) wss wss.length) 12 (list_ws (q0 + 1) wss)
  have hb : (thereW (someW ws)).length ≤ 12 := Nat.le_trans (List.length_filter_le _ _) (some_len ws)
  have hk := newAll_length q0 (thereW (someW ws))
  have hk2 : (newM q0 (thereW (someW ws))).K.length = (newAll q0 (thereW (someW ws))).length := rfl
  have hll : (listTo (q0 + 1) wss wss.length).length = wss.length := listTo_len _ _ _
  exact ⟨MM, hst, r2, r4, r3, by rw [r5]; omega, by rw [hll] at l2; omega, l3 (keyOk_new hnew)⟩
end Go.Proofs.Ytmafibbnojdpjaa.St
end
section
set_option linter.unusedVariables false
set_option maxRecDepth 100000
set_option linter.unusedSimpArgs false
namespace Go.Proofs.Ytmafibbnojdpjaa.St
open Go.Proofs.Ytmafibbnojdpjaa.Tr Go.RowKit Go.Proofs.YtmafibbnojdpjaaW.PrintWords Go.Proofs.YtmafibbnojdpjaaW.PrintLast Go.Proofs.YtmafibbnojdpjaaW.PrintMore Go.Proofs.Ytmafibbnojdpjaa.P
attribute [local go_sem] Oper.semAt_some
/-- the row of a list's commits, for At -/
theorem list_at (first : Int) (wss : List (List Wr)) : ∀ c ∈ listC first wss, c.f2.length ≤ 1000 ∧ ∀ x ∈ c.f2, x.f0.size ≤ maxLen := fun c hc => by
  refine ⟨by have := list_ws first wss c hc; omega, fun x hx => ?_⟩
  obtain ⟨j, _, e⟩ := List.mem_map.1 (show c ∈ (List.range wss.length).map (cmI first wss) from hc)
  rw [← e] at hx
  have := okW_key (some_ok _ x hx)
  unfold maxLen
  omega
theorem there_at (ws : List Wr) : ∀ x ∈ thereW (someW ws), x.f0.size ≤ maxLen := fun x hx => by
  have := okW_key (some_ok _ x (List.mem_filter.1 hx).1)
  unfold maxLen
  omega
end Go.Proofs.Ytmafibbnojdpjaa.St
end
section
set_option linter.unusedVariables false
set_option maxRecDepth 100000
set_option linter.unusedSimpArgs false
namespace Go.Proofs.Ytmafibbnojdpjaa.St
open Go.Proofs.Ytmafibbnojdpjaa.Tr Go.RowKit Go.Proofs.YtmafibbnojdpjaaW.PrintWords Go.Proofs.YtmafibbnojdpjaaW.PrintLast Go.Proofs.YtmafibbnojdpjaaW.PrintMore Go.Proofs.Ytmafibbnojdpjaa.P
attribute [local go_sem] Oper.semAt_some
/-- the deferred marks of ranges that are through -/
def mkD (D : Nat) : Deferred := { target := .collected D, args := #[] }
theorem leaves_all {F : Fence} {n : Nat} {P : Program} {fn : Func} {tmps : Array Value} {R : Ending → World → Prop} : ∀ (Ds : List Nat) (W : World), Ds.Nodup → (∀ D ∈ Ds, W.heap[D]? = some (.deferred (some []))) →
    (∀ W', (∀ k, k ∉ Ds → W'.heap[k]? = W.heap[k]?) → W'.heap.size = W.heap.size → W'.os = W.os → W'.tape = W.tape → W'.output = W.output → LeavesInM F n P fn tmps R [] .returning W') → LeavesInM F n P fn tmps R (Ds.map mkD) .returning W
  | [], W, _, _, h => h W (fun _ _ => rfl) rfl rfl rfl rfl
  | D :: Ds, W, hn, hD, h => by
    obtain ⟨n1, n2⟩ := List.nodup_cons.1 hn
    refine ⟨by simp, .inl ⟨_, _, rfl, run_takeDeferred (hD D (List.mem_cons_self ..)), ?_⟩⟩
    refine leaves_all Ds _ n2 (fun E hE => ?_) (fun W' h1 h2 h3 h4 h5 => h W' (fun k hk => ?_) ?_ ?_ ?_ ?_)
    · rw [World.putObj_heap_other (fun e => n1 (by rw [← e]; exact hE))]
      exact hD E (List.mem_cons_of_mem _ hE)
    · rw [h1 k (fun hk2 => hk (List.mem_cons_of_mem _ hk2)), World.putObj_heap_other (fun e => hk (by rw [e]; exact List.mem_cons_self ..))]
    · rw [h2]; simp
    · rw [h3]; rfl
    · rw [h4]; rfl
    · rw [h5]; rfl
set_option maxHeartbeats 8000000 in
theorem sees_big (first : Int) (ws : List Wr) (A0 : Option Addr) (c0 : Nat) (wss : List (List Wr)) (A : Option Addr) (c : Nat) (key fr tt : ByteArray) (w : World) (h1 : ¬ wss.length ≤ 30) :
    Calls Try.prog 13 #[.int .i64 first, .slice A0 ws.length c0, .slice A wss.length c, .string key, .string fr, .string tt] w fun e w' => e = .returned (.bool true) ∧ Below w.heap.size w w' := by
  have n1 : decide ((wss.length : Int) ≤ 30) = false := decide_eq_false (by omega)
  have n1' : ¬ (wss.length : Int) ≤ 30 := by omega
  refine (callsIn_wide (n := 6)).1 (callsIn_of_wp_marks Try.func13 rfl trivial ?_ rfl)
  simp only [Try.ntmps13, List.size_toArray, List.length_cons, List.length_nil, Nat.reduceAdd, Nat.reduceSub, Array.replicate_succ, Array.replicate_zero, List.push_toArray, List.append_toArray, List.nil_append, List.cons_append]
  refine wpIn_wide.2 ?_
  have hb0 : Below w.heap.size w (((w.alloc (.cells #[.string fr] 9)).alloc (.cells #[.string tt] 9)).alloc (.cells #[.bool false] 4)) := below_alloc (below_alloc (below_alloc (Below.refl _ _) _) _) _
  have HB0 := Aside0.mk hb0
  have HHX := Aside0.mk (head09_any (((w.alloc (.cells #[.string fr] 9)).alloc (.cells #[.string tt] 9)).alloc (.cells #[.bool false] 4)))
  have x2 : Boxed (((w.alloc (.cells #[.string fr] 9)).alloc (.cells #[.string tt] 9)).alloc (.cells #[.bool false] 4)) (w.heap.size + 1 + 1) 4 (.bool false) := by
    have := Boxed.new ((w.alloc (.cells #[.string fr] 9)).alloc (.cells #[.string tt] 9)) 4 (.bool false)
    rwa [World.size_alloc, World.size_alloc] at this
  have HX := Aside0.mk x2
  clear x2 hb0
  go_wp2_with (first
    | (go_at_call 34; refine HHX.out.mono ?_; rintro e w1 ⟨rfl, hb⟩; have k1 := Boxed.upB HX.out hb; have c1 := k1.cell; have z1 := k1.frozen; have HK1 := Aside0.mk k1; have HB1 := Aside0.mk (below_step HB0.out hb); clear hb k1)
    | (go_at_call 46; refine (few_any _ _ _ _).mono ?_; rintro e w2 ⟨rfl, rfl⟩))
  refine ⟨.bool true, results_bool rfl _ _ ⟨w.heap.size + 1 + 1, 0, none⟩ true rfl (HK1.out.set (.bool true)).cell Try.underlying4, rfl, ?_⟩
  exact HB1.out.setCell (p := ⟨w.heap.size + 1 + 1, 0, none⟩) (show w.heap.size ≤ w.heap.size + 1 + 1 by omega) _
set_option maxHeartbeats 64000000 in
theorem sees_in (first : Int) (ws : List Wr) (A0 : Option Addr) (c0 : Nat) (wss : List (List Wr)) (A : Option Addr) (c : Nat) (key fr tt : ByteArray) (w : World) (hr0 : Kd.C k31 w A0 ws.length ws) (hc0 : ws.length ≤ c0) (hok0 : okWs ws) (hr : Kd.C (Kd.slice 31 k31) w A wss.length wss) (hn : wss.length ≤ 30) (hok : ∀ ws ∈ wss, okWs ws) (hkey : key.size ≤ maxLen) (f : Nat) (hf : bits .and .i64 first 65535 = (f : Int)) (hf2 : f ≤ 65535) :
    Calls Try.prog 13 #[.int .i64 first, .slice A0 ws.length c0, .slice A wss.length c, .string key, .string fr, .string tt] w fun e w' => e = .returned (.bool true) ∧ Below w.heap.size w w' := by
  have n1 : decide ((wss.length : Int) ≤ 30) = true := decide_eq_true (by omega)
  have n1' : (wss.length : Int) ≤ 30 := by omega
  have HHD : Aside0 (∀ W, Calls Try.prog 34 #[] W fun e w' => e = .returned (.bool true) ∧ Below W.heap.size W w') := ⟨head09_any⟩
  obtain ⟨MM, hM⟩ := made_law (q0 := (f : Int)) (by omega) (by omega) ws wss (by omega)
  have hll := listC_len ((f : Int) + 1) wss
  have o1 : (0 : Int) ≤ (f : Int) + 1 := by omega
  have o2 : (f : Int) + 1 ≤ 1000000 := by omega
  have o3 : wss.length ≤ 1000 := by omega
  have HSO : Aside0 (∀ W, Below w.heap.size w W → Calls Try.prog 54 #[.slice A0 ws.length c0] W fun e w' => ∃ v, e = .returned v ∧ Kd.R k31 31 w' 0 (fun k => W.heap.size ≤ k) v (someW ws) ∧ Below W.heap.size W w') := ⟨fun W hW => some_any ws A0 c0 W (Kd.C_below hr0 hW) hc0 hok0.1 hok0.2⟩
  have HLS : Aside0 (∀ W, Below w.heap.size w W → Calls Try.prog 47 #[.int .i64 ((f : Int) + 1), .slice A wss.length c] W fun e w' => ∃ v, e = .returned v ∧ Kd.R k28 28 w' 0 (fun k => W.heap.size ≤ k) v (listC ((f : Int) + 1) wss) ∧ Below W.heap.size W w') := ⟨fun W hW => list_any ((f : Int) + 1) wss A c W (Kd.C_below hr hW) o3 hok o1 o2⟩
  have HLL : Aside0 ((listC ((f : Int) + 1) wss).length = wss.length) := ⟨hll⟩
  have HWS : Aside0 (∀ i, i < (listC ((f : Int) + 1) wss).length → (cA (listC ((f : Int) + 1) wss) i).f2.length ≤ 12) := ⟨fun i hi => by rw [cA_eq hi]; exact list_ws _ wss _ (List.getElem_mem hi)⟩
  have HAT := Aside0.mk (And.intro (list_at ((f : Int) + 1) wss) (there_at ws))
  have HSL := Aside0.mk (some_len ws)
  have HTL : Aside0 ((thereW (someW ws)).length ≤ 12) := ⟨Nat.le_trans (List.length_filter_le _ _) (some_len ws)⟩
  have HA1 : Aside0 ((someW ws).length ≤ 1000000) := ⟨by have := some_len ws; omega⟩
  have HA2 : Aside0 ((thereW (someW ws)).length ≤ 1000) := ⟨by have := HTL.out; omega⟩
  have HA3 : Aside0 ((listC ((f : Int) + 1) wss).length ≤ 1000) := ⟨by rw [hll]; exact o3⟩
  have HA4 : Aside0 (∀ i, i < (listC ((f : Int) + 1) wss).length → (cA (listC ((f : Int) + 1) wss) i).f2.length < 4611686018427387904) := ⟨fun i hi => by have := HWS.out i hi; omega⟩
  have HM := Aside0.mk hM
  have HSH : Aside0 (∀ q : Int, (f : Int) ≤ q → Shows (atM (thereW (someW ws)) (listC ((f : Int) + 1) wss) q) MM q) := ⟨fun q hq => shows_at hM.st hq⟩
  have HKY := Aside0.mk hkey
  have HHF := Aside0.mk hf2
  clear hr0 hok0 hr hok hM hll hkey
  have wr1 : IntKind.i64.wrap ((f : Int) + 1) = (f : Int) + 1 := by rw [IntKind.wrap_i64]; omega
  have wr2 : wrap64 ((f : Int) + 1) = (f : Int) + 1 := w64 (by omega) (by omega)
  have wr3 : IntKind.i64.wrap ((f : Int) + (wss.length : Int)) = (f : Int) + (wss.length : Int) := by rw [IntKind.wrap_i64]; omega
  have wr4 : wrap64 ((f : Int) + (wss.length : Int)) = (f : Int) + (wss.length : Int) := w64 (by omega) (by omega)
  clear hf2 o1 o2 o3
  refine (callsIn_wide (n := 6)).1 (callsIn_of_wp_marks Try.func13 rfl trivial ?_ rfl)
  simp only [Try.ntmps13, List.size_toArray, List.length_cons, List.length_nil, Nat.reduceAdd, Nat.reduceSub, Array.replicate_succ, Array.replicate_zero, List.push_toArray, List.append_toArray, List.nil_append, List.cons_append]
  refine wpIn_wide.2 ?_
  have hb0 : Below w.heap.size w (((w.alloc (.cells #[.string fr] 9)).alloc (.cells #[.string tt] 9)).alloc (.cells #[.bool false] 4)) := below_alloc (below_alloc (below_alloc (Below.refl _ _) _) _) _
  have HB0 := Aside0.mk hb0
  have HHX := Aside0.mk (HHD.out (((w.alloc (.cells #[.string fr] 9)).alloc (.cells #[.string tt] 9)).alloc (.cells #[.bool false] 4)))
  have x0 : Boxed (((w.alloc (.cells #[.string fr] 9)).alloc (.cells #[.string tt] 9)).alloc (.cells #[.bool false] 4)) w.heap.size 9 (.string fr) := ((Boxed.new w 9 (.string fr)).alloc _).alloc _
  have x1 : Boxed (((w.alloc (.cells #[.string fr] 9)).alloc (.cells #[.string tt] 9)).alloc (.cells #[.bool false] 4)) (w.heap.size + 1) 9 (.string tt) := by
    have := (Boxed.new (w.alloc (.cells #[.string fr] 9)) 9 (.string tt)).alloc (.cells #[.bool false] 4)
    rwa [World.size_alloc] at this
  have x2 : Boxed (((w.alloc (.cells #[.string fr] 9)).alloc (.cells #[.string tt] 9)).alloc (.cells #[.bool false] 4)) (w.heap.size + 1 + 1) 4 (.bool false) := by
    have := Boxed.new ((w.alloc (.cells #[.string fr] 9)).alloc (.cells #[.string tt] 9)) 4 (.bool false)
    rwa [World.size_alloc, World.size_alloc] at this
  have HX := Aside0.mk (And.intro x0 (And.intro x1 x2))
  clear x0 x1 x2 hb0 HHD
  go_wp2_with (first
    | (go_at_call 34; refine HHX.out.mono ?_; rintro e w1 ⟨rfl, hb⟩; have HB01 := Aside0.mk hb; have HB1 := Aside0.mk (below_step HB0.out hb); clear hb)
    | (go_at_call 46; refine (few_any _ _ _ _).mono ?_; rintro e w1b ⟨rfl, rfl⟩)
    | (go_at_call 54; refine (HSO.out _ HB1.out).mono ?_; rintro e w2 ⟨v2, rfl, hr2, hb2⟩
       obtain ⟨A2, c2, e2, hc2, hC2⟩ := Kd.R_reads hr2
       subst e2
       have HT2 := Aside0.mk (there_any (someW ws) A2 c2 w2 hC2 HA1.out)
       have HB2 := Aside0.mk (below_step HB1.out hb2)
       have HB02 := Aside0.mk (below_step HB01.out hb2)
       clear hr2 hb2 hC2 hc2)
    | (go_at_call 53; refine HT2.out.mono ?_; rintro e w3 ⟨v3, rfl, hr3, hb3⟩
       obtain ⟨A3, c3, e3, hc3, hC3⟩ := Kd.R_reads hr3
       subst e3
       have HC3 := Aside0.mk hC3
       have HCC3 := Aside0.mk hc3
       have HB3 := Aside0.mk (below_step HB2.out hb3)
       have HB03 := Aside0.mk (below_step HB02.out hb3)
       clear hr3 hb3 hC3 hc3)
    | (go_at_call 47; refine (HLS.out _ HB3.out).mono ?_; rintro e w4 ⟨v4, rfl, hr4, hb4⟩
       obtain ⟨A4, c4, e4', hc4, hC4⟩ := Kd.R_reads hr4
       subst e4'
       have HC3 := Aside0.mk (Kd.C_below HC3.out hb4)
       have HMA := Aside0.mk (made_any (f : Int) (thereW (someW ws)) (listC ((f : Int) + 1) wss) A3 A4 c3 c4 w4 HC3.out HCC3.out HA2.out hC4 hc4 HA3.out HA4.out MM HM.out.st)
       have HC4 := Aside0.mk hC4
       rw [HLL.out] at HMA ⊢
       have HB4 := Aside0.mk (below_step HB3.out hb4)
       have HB04 := Aside0.mk (below_step HB03.out hb4)
       clear hr4 hb4 hC4 hc4)
    | (go_at_call 48; refine HMA.out.mono ?_; rintro e w5 ⟨s, rfl, h1, h2, h3⟩
       have HS5 := Aside0.mk h1
       have HB5 := Aside0.mk (below_step HB4.out h3)
       have HB05 := Aside0.mk (below_step HB04.out h3)
       have H45 := Aside0.mk h3
       have HLO : Aside0 (∀ W, Below w5.heap.size w5 W → Calls Try.prog 43 #[.pointer (some ⟨s, 0, none⟩)] W fun e w' => e = .returned (.int .i64 (f : Int)) ∧ Below W.heap.size W w') := ⟨fun W hW => by
         obtain ⟨col, H, L, hs⟩ := HS5.out.below hW
         refine (low_any hs).mono ?_
         rintro e w' ⟨rfl, rfl⟩
         exact ⟨by rw [HM.out.low], Below.refl _ _⟩⟩
       have HLA : Aside0 (∀ W, Below w5.heap.size w5 W → Calls Try.prog 37 #[.pointer (some ⟨s, 0, none⟩)] W fun e w' => e = .returned (.int .i64 ((f : Int) + (wss.length : Int))) ∧ Below W.heap.size W w') := ⟨fun W hW => by
         obtain ⟨col, H, L, hs⟩ := HS5.out.below hW
         refine (last_any hs HM.out.inv.low HM.out.inv.last).mono ?_
         rintro e w' ⟨rfl, n, rfl⟩
         exact ⟨by rw [HM.out.len], pw_below_drewN (Below.refl _ _) _⟩⟩
       clear h1 h2 h3)
    | (go_at_call 43; refine (HLO.out _ (Below.refl _ _)).mono ?_; rintro e w6 ⟨rfl, hb⟩; have HB6 := Aside0.mk hb; clear hb)
    | (go_at_call 37; refine (HLA.out _ HB6.out).mono ?_; rintro e w7 ⟨rfl, hb⟩; have HB7 := Aside0.mk (below_step HB6.out hb); clear hb))
  have HWR := Aside0.mk (And.intro wr1 (And.intro wr2 (And.intro wr3 wr4)))
  clear wr1 wr2 wr3 wr4
  have hz := HX.out
  have x0 := Boxed.upB hz.1 HB05.out
  have x1 := Boxed.upB hz.2.1 HB05.out
  have x2 := Boxed.upB hz.2.2 HB05.out
  generalize g1 : w.heap.size + 1 = b1 at *
  generalize g2 : b1 + 1 = b2 at *
  have HGG : Aside0 (b1 = w.heap.size + 1 ∧ b2 = w.heap.size + 2 ∧ b2 < w5.heap.size) := ⟨by omega, by omega, x2.lt⟩
  have HX5 := Aside0.mk (And.intro x0 (And.intro x1 x2))
  clear g1 g2 hz x0 x1 x2 HX HB05 HB04 HB03 HB02 HB01 HB0 HHX HB1 HB2 HB3 HT2 HMA HSO HLS HLO HLA
  obtain ⟨cs, hcs⟩ : ∃ cs, cs = listC ((f : Int) + 1) wss := ⟨_, rfl⟩
  rw [← hcs] at HLL HAT HSH HC4
  clear hcs HWS HA3 HA4
  obtain ⟨bs, hbs⟩ : ∃ bs, bs = thereW (someW ws) := ⟨_, rfl⟩
  rw [← hbs] at HAT HTL HSH HC3 ⊢
  clear hbs HA1 HA2 HCC3
  have HAC : Aside0 (∀ (W : World) (q : Int), Below w5.heap.size w5 W → Calls Try.prog 50 #[.slice A3 bs.length c3, .slice A4 wss.length c4, .int .i64 q] W fun e w' => ∃ m n, e = .returned (.map (some m)) ∧ Mv.MapV TS eS w' m n (atM bs cs q) ∧ Below W.heap.size W w') := ⟨fun W q hW => by
    have hb := below_step H45.out hW
    have hl := HLL.out
    have := at9_any bs cs q A3 A4 c3 c4 W (Kd.C_below HC3.out hb) (Kd.C_below HC4.out hb) (by have := HTL.out; omega) (by rw [hl]; omega) HAT.out.2 HAT.out.1
    rw [hl] at this
    refine this.mono ?_
    rintro e w' ⟨m, n, rfl, _, h1, h2⟩
    exact ⟨m, n, rfl, h1, h2⟩⟩
  have HKZ : Aside0 (MM.K.length ≤ 2000000) := ⟨by have := HM.out.ksz; omega⟩
  have HS7 : Aside0 (∀ W, Below w5.heap.size w5 W → StoreAt (fun k => k < w5.heap.size) W s MM) := ⟨fun W hW => (HS5.out.turn (fun k hk _ => hk)).below hW⟩
  refine wp_loop_ghost_k (fun (k' : Nat) (a' : Act) (w' : World) => ∃ (u17 : Value) (u18 : Value) (u19 : Value) (u20 : Value) (u21 : Value) (u22 : Value) (u23 : Value) (u24 : Value) (u25 : Value) (u26 : Value) (u27 : Value) (u67 : Value) (u68 : Value) (u69 : Value) (u70 : Value) (u71 : Value) (u72 : Value) (u73 : Value) (u74 : Value) (u75 : Value) (u76 : Value) (u77 : Value) (u78 : Value) (u79 : Value) (u80 : Value) (u81 : Value) (u82 : Value) (u83 : Value) (u84 : Value) (u85 : Value) (u86 : Value) (u87 : Value) (u88 : Value) (u89 : Value) (u90 : Value) (u91 : Value) (u92 : Value) (u93 : Value) (u94 : Value) (u95 : Value) (u96 : Value) (u97 : Value) (u98 : Value) (u99 : Value) (u100 : Value) (u101 : Value) (u102 : Value) (u103 : Value) (u104 : Value) (u105 : Value) (u106 : Value) (u107 : Value) (u108 : Value) (u109 : Value) (u110 : Value) (u111 : Value) (u112 : Value) (u113 : Value) (u114 : Value) (u115 : Value) (u116 : Value) (u117 : Value) (u118 : Value) (u119 : Value) (u120 : Value) (u121 : Value) (u122 : Value) (u123 : Value) (u124 : Value) (u125 : Value) (u126 : Value) (u127 : Value) (u128 : Value) (u129 : Value) (u130 : Value) (u131 : Value) (u132 : Value) (u133 : Value) (u134 : Value) (u135 : Value) (u136 : Value) (u137 : Value) (u138 : Value) (u139 : Value) (u140 : Value) (u141 : Value) (u142 : Value) (u143 : Value) (u144 : Value) (u145 : Value) (u146 : Value) (u147 : Value) (u148 : Value) (u149 : Value) (u150 : Value) (u151 : Value) (u152 : Value) (u153 : Value) (u154 : Value) (u155 : Value) (u156 : Value) (u157 : Value), ∃ ds : List Deferred, (∃ (q : Nat) (Ds : List Nat), u17 = .int .i64 (q : Int) ∧ ds = Ds.map mkD ∧ f ≤ q ∧ q ≤ f + wss.length + 1 ∧ f + wss.length + 1 - q < k' ∧ Aside0 (Below w5.heap.size w5 w') ∧ Aside0 (Ds.Nodup ∧ ∀ D ∈ Ds, w5.heap.size ≤ D ∧ w'.heap[D]? = some (.deferred (some [])))) ∧ a' = ({ tmps := [.int .i64 (f : Int), Value.slice A0 ws.length c0, Value.slice A wss.length c, .string key, Value.string fr, Value.string tt, undef, undef, undef, undef, .pointer (some ⟨w.heap.size, 0, none⟩), .pointer (some ⟨b1, 0, none⟩), .pointer (some ⟨b2, 0, none⟩), .slice A3 bs.length c3, .slice A4 wss.length c4, .pointer (some ⟨s, 0, none⟩), Value.bool true, u17, u18, u19, u20, u21, u22, u23, u24, u25, u26, u27, Value.bool true, Value.bool false, Value.slice A wss.length c, Value.bool true, Value.bool false, Value.int IntKind.i64 first, Value.int IntKind.i64 (f : Int), Value.slice A0 ws.length c0, Value.slice A2 (someW ws).length c2, Value.slice A3 bs.length c3, Value.int IntKind.i64 (f : Int), Value.int IntKind.i64 ((f : Int) + 1), Value.slice A wss.length c, Value.slice A4 wss.length c4, Value.tuple #[Value.pointer (some { block := s, off := 0 }), Value.bool true], Value.int IntKind.i64 (f : Int), Value.slice A3 bs.length c3, Value.slice A4 wss.length c4, Value.tuple #[Value.pointer (some { block := s, off := 0 }), Value.bool true], Value.pointer (some { block := s, off := 0 }), Value.bool true, Value.bool true, Value.bool false, Value.bool false, Value.pointer (some { block := s, off := 0 }), Value.int IntKind.i64 (f : Int), Value.int IntKind.i64 (f : Int), Value.bool false, Value.bool false, Value.bool false, Value.pointer (some { block := s, off := 0 }), Value.int IntKind.i64 ((f : Int) + (wss.length : Int)), Value.int IntKind.i64 (f : Int), Value.slice A4 wss.length c4, Value.int IntKind.i64 (wss.length : Int), Value.int IntKind.i64 ((f : Int) + (wss.length : Int)), Value.bool false, Value.bool false, Value.int IntKind.i64 (f : Int), u67, u68, u69, u70, u71, u72, u73, u74, u75, u76, u77, u78, u79, u80, u81, u82, u83, u84, u85, u86, u87, u88, u89, u90, u91, u92, u93, u94, u95, u96, u97, u98, u99, u100, u101, u102, u103, u104, u105, u106, u107, u108, u109, u110, u111, u112, u113, u114, u115, u116, u117, u118, u119, u120, u121, u122, u123, u124, u125, u126, u127, u128, u129, u130, u131, u132, u133, u134, u135, u136, u137, u138, u139, u140, u141, u142, u143, u144, u145, u146, u147, u148, u149, u150, u151, u152, u153, u154, u155, u156, u157].toArray, defers := ds } : Act)) (wss.length + 2) ?_ ?_
  · (repeat apply Exists.intro)
    refine ⟨⟨f, [], rfl, rfl, Nat.le_refl _, ?_, ?_, HB7, ⟨List.nodup_nil, fun D hD => by cases hD⟩⟩, rfl⟩
    · omega
    · omega
  · intro gk a' wr hinv
    obtain ⟨u17, hinv⟩ := hinv
    obtain ⟨u18, hinv⟩ := hinv
    obtain ⟨u19, hinv⟩ := hinv
    obtain ⟨u20, hinv⟩ := hinv
    obtain ⟨u21, hinv⟩ := hinv
    obtain ⟨u22, hinv⟩ := hinv
    obtain ⟨u23, hinv⟩ := hinv
    obtain ⟨u24, hinv⟩ := hinv
    obtain ⟨u25, hinv⟩ := hinv
    obtain ⟨u26, hinv⟩ := hinv
    obtain ⟨u27, hinv⟩ := hinv
    obtain ⟨u67, hinv⟩ := hinv
    obtain ⟨u68, hinv⟩ := hinv
    obtain ⟨u69, hinv⟩ := hinv
    obtain ⟨u70, hinv⟩ := hinv
    obtain ⟨u71, hinv⟩ := hinv
    obtain ⟨u72, hinv⟩ := hinv
    obtain ⟨u73, hinv⟩ := hinv
    obtain ⟨u74, hinv⟩ := hinv
    obtain ⟨u75, hinv⟩ := hinv
    obtain ⟨u76, hinv⟩ := hinv
    obtain ⟨u77, hinv⟩ := hinv
    obtain ⟨u78, hinv⟩ := hinv
    obtain ⟨u79, hinv⟩ := hinv
    obtain ⟨u80, hinv⟩ := hinv
    obtain ⟨u81, hinv⟩ := hinv
    obtain ⟨u82, hinv⟩ := hinv
    obtain ⟨u83, hinv⟩ := hinv
    obtain ⟨u84, hinv⟩ := hinv
    obtain ⟨u85, hinv⟩ := hinv
    obtain ⟨u86, hinv⟩ := hinv
    obtain ⟨u87, hinv⟩ := hinv
    obtain ⟨u88, hinv⟩ := hinv
    obtain ⟨u89, hinv⟩ := hinv
    obtain ⟨u90, hinv⟩ := hinv
    obtain ⟨u91, hinv⟩ := hinv
    obtain ⟨u92, hinv⟩ := hinv
    obtain ⟨u93, hinv⟩ := hinv
    obtain ⟨u94, hinv⟩ := hinv
    obtain ⟨u95, hinv⟩ := hinv
    obtain ⟨u96, hinv⟩ := hinv
    obtain ⟨u97, hinv⟩ := hinv
    obtain ⟨u98, hinv⟩ := hinv
    obtain ⟨u99, hinv⟩ := hinv
    obtain ⟨u100, hinv⟩ := hinv
    obtain ⟨u101, hinv⟩ := hinv
    obtain ⟨u102, hinv⟩ := hinv
    obtain ⟨u103, hinv⟩ := hinv
    obtain ⟨u104, hinv⟩ := hinv
    obtain ⟨u105, hinv⟩ := hinv
    obtain ⟨u106, hinv⟩ := hinv
    obtain ⟨u107, hinv⟩ := hinv
    obtain ⟨u108, hinv⟩ := hinv
    obtain ⟨u109, hinv⟩ := hinv
    obtain ⟨u110, hinv⟩ := hinv
    obtain ⟨u111, hinv⟩ := hinv
    obtain ⟨u112, hinv⟩ := hinv
    obtain ⟨u113, hinv⟩ := hinv
    obtain ⟨u114, hinv⟩ := hinv
    obtain ⟨u115, hinv⟩ := hinv
    obtain ⟨u116, hinv⟩ := hinv
    obtain ⟨u117, hinv⟩ := hinv
    obtain ⟨u118, hinv⟩ := hinv
    obtain ⟨u119, hinv⟩ := hinv
    obtain ⟨u120, hinv⟩ := hinv
    obtain ⟨u121, hinv⟩ := hinv
    obtain ⟨u122, hinv⟩ := hinv
    obtain ⟨u123, hinv⟩ := hinv
    obtain ⟨u124, hinv⟩ := hinv
    obtain ⟨u125, hinv⟩ := hinv
    obtain ⟨u126, hinv⟩ := hinv
    obtain ⟨u127, hinv⟩ := hinv
    obtain ⟨u128, hinv⟩ := hinv
    obtain ⟨u129, hinv⟩ := hinv
    obtain ⟨u130, hinv⟩ := hinv
    obtain ⟨u131, hinv⟩ := hinv
    obtain ⟨u132, hinv⟩ := hinv
    obtain ⟨u133, hinv⟩ := hinv
    obtain ⟨u134, hinv⟩ := hinv
    obtain ⟨u135, hinv⟩ := hinv
    obtain ⟨u136, hinv⟩ := hinv
    obtain ⟨u137, hinv⟩ := hinv
    obtain ⟨u138, hinv⟩ := hinv
    obtain ⟨u139, hinv⟩ := hinv
    obtain ⟨u140, hinv⟩ := hinv
    obtain ⟨u141, hinv⟩ := hinv
    obtain ⟨u142, hinv⟩ := hinv
    obtain ⟨u143, hinv⟩ := hinv
    obtain ⟨u144, hinv⟩ := hinv
    obtain ⟨u145, hinv⟩ := hinv
    obtain ⟨u146, hinv⟩ := hinv
    obtain ⟨u147, hinv⟩ := hinv
    obtain ⟨u148, hinv⟩ := hinv
    obtain ⟨u149, hinv⟩ := hinv
    obtain ⟨u150, hinv⟩ := hinv
    obtain ⟨u151, hinv⟩ := hinv
    obtain ⟨u152, hinv⟩ := hinv
    obtain ⟨u153, hinv⟩ := hinv
    obtain ⟨u154, hinv⟩ := hinv
    obtain ⟨u155, hinv⟩ := hinv
    obtain ⟨u156, hinv⟩ := hinv
    obtain ⟨u157, hinv⟩ := hinv
    obtain ⟨ds, ⟨q, Ds, rfl, rfl, hq1, hq2, hk, HB, HDS⟩, ha⟩ := hinv
    subst ha
    intro J K hJ hK
    by_cases hlt : q ≤ f + wss.length
    · have z1 : (q : Int) ≤ (f : Int) + (wss.length : Int) := by omega
      have hfq : (f : Int) ≤ (q : Int) := by omega
      have HA := Aside0.mk (HAC.out wr (q : Int) HB.out)
      have HSQ := Aside0.mk (HSH.out (q : Int) hfq)
      generalize hC : atM bs cs (q : Int) = C at *
      clear hC
      have HGT : Aside0 (∀ W, Below w5.heap.size w5 W → Calls Try.prog 51 #[.pointer (some ⟨s, 0, none⟩), .string key, .int .i64 (q : Int)] W fun e w' => e = .returned (.tuple #[.string ((getO MM key q).getD ⟨#[]⟩), .bool (getO MM key q).isSome]) ∧ Below W.heap.size W w') := ⟨fun W hW => by
        obtain ⟨col, H, L, hs⟩ := HS7.out W hW
        exact get_any hs HM.out.inv HKZ.out key q⟩
      have HS9 : Aside0 (∀ (W : World) (m n : Nat), Below w5.heap.size w5 W → Mv.MapV TS eS W m n C → Calls Try.prog 49 #[.pointer (some ⟨s, 0, none⟩), .map (some m), .int .i64 (q : Int)] W fun e w' => e = .returned (.bool true) ∧ Below W.heap.size W w') := ⟨fun W m n hW hm => by
        obtain ⟨col, H, L, hs⟩ := HS7.out W hW
        exact shows_any hs HM.out.inv HKZ.out HM.out.key m n C hm (q : Int) HSQ.out⟩
      obtain ⟨gO, hgO⟩ : ∃ gO, gO = gk := ⟨_, rfl⟩
      have HGO := Aside0.mk (And.intro hgO (And.intro hq1 (And.intro hq2 (And.intro hk hlt))))
      clear hgO hq1 hq2 hk hlt hfq
      obtain ⟨gv, hgv⟩ : ∃ gv, gv = (getO MM key (q : Int)).getD ⟨#[]⟩ := ⟨_, rfl⟩
      obtain ⟨gb, hgb⟩ : ∃ gb, gb = (getO MM key (q : Int)).isSome := ⟨_, rfl⟩
      rw [← hgv, ← hgb] at HGT
      have HLK : Aside0 (∀ (W : World) (m n : Nat), Mv.MapV TS eS W m n C → Sem.run Try.prog (Instr.lookup 77 (.map (some m)) (.string key) true) W = .ok (.tuple #[.string gv, .bool gb]) W) := ⟨fun W m n hm => by
        have h1 := hm.look2 (z := .string ⟨#[]⟩) Try.underlying77 (Try.zeroValue9 _) (x := key) HKY.out
        rw [HSQ.out.2 key] at h1
        rw [hgv, hgb]
        cases hg : getO MM key (q : Int) with
        | none => rw [hg] at h1; exact h1
        | some v => rw [hg] at h1; exact h1⟩
      clear hgv hgb
      obtain ⟨wr1, wr2, wr3, wr4⟩ := HWR.out
      go_wp2_with (first
        | (go_at_call 50; refine HA.out.mono ?_; rintro e w8 ⟨m, n, rfl, h1, h2⟩
           have hb8 := below_step HB.out h2
           have c9 := (Boxed.new w8 77 (.map (some m))).cell
           have hq8 : Below w8.heap.size w8 (w8.alloc (.cells #[.map (some m)] 77)) := below_alloc (Below.refl _ _) _
           have HB8 := Aside0.mk hb8
           have HB9 := Aside0.mk (below_step hb8 hq8)
           have HM9 := Aside0.mk (h1.below hq8)
           have HW9 := Aside0.mk (Boxed.new w8 77 (.map (some m)))
           have HSX := Aside0.mk (HS9.out _ m n (below_step hb8 hq8) (h1.below hq8))
           have HD9 := Aside0.mk (below_step h2 hq8)
           clear h1 h2 hb8 hq8)
        | (go_at_call 49; refine HSX.out.mono ?_; rintro e w10 ⟨rfl, hb⟩
           have k10 := Boxed.upB HW9.out hb
           have c10 := k10.cell
           have HW10 := Aside0.mk k10
           have HM10 := Aside0.mk (HM9.out.below hb)
           have HB10 := Aside0.mk (below_step HB9.out hb)
           have HGX := Aside0.mk (HGT.out _ HB10.out)
           have HD10 := Aside0.mk (below_step HD9.out hb)
           clear hb k10)
        | (go_at_call 51; refine HGX.out.mono ?_; rintro e w11 ⟨rfl, hb⟩
           have k11 := Boxed.upB HW10.out hb
           have c11 := k11.cell
           have HW11 := Aside0.mk k11
           have HM11 := Aside0.mk (HM10.out.below hb)
           have hl11 := HLK.out w11 m n HM11.out
           have hB11 := below_step HB10.out hb
           have hx5 := HX5.out
           have hq12 : Below w11.heap.size w11 (w11.alloc (.cells #[.int .i64 0] 3)) := below_alloc (Below.refl _ _) _
           have x12a := (Boxed.upB (Boxed.upB hx5.1 hB11) hq12).cell
           have x12b := (Boxed.upB (Boxed.upB hx5.2.1 hB11) hq12).cell
           have HB11 := Aside0.mk hB11
           have HD11 := Aside0.mk (below_step HD10.out hb)
           clear hb k11 hB11 hx5 hq12)
        | (go_at_call 55; refine (srange_any _ _ _ _ _).mono ?_; rintro e w13 ⟨rfl, hw13⟩; have HW13 := Aside0.mk hw13; clear hw13))
      have hw13 : w13 = allocs (w11.alloc (.cells #[.int .i64 0] 3)) [(.pointer (some ⟨s, 0, none⟩), 32), (.string fr, 9), (.string tt, 9), (.int .i64 (q : Int), 3)] := HW13.out
      have hz13 : w13.heap.size = w11.heap.size + 5 := by rw [hw13, allocs_size, World.size_alloc]; rfl
      have hb13 : Below (w11.alloc (.cells #[.int .i64 0] 3)).heap.size (w11.alloc (.cells #[.int .i64 0] 3)) w13 := by rw [hw13]; exact allocs_below _ _
      have hbx := fun i hi => allocs_box [((.pointer (some ⟨s, 0, none⟩) : Value), (32 : TypeId)), (.string fr, 9), (.string tt, 9), (.int .i64 (q : Int), 3)] (w11.alloc (.cells #[.int .i64 0] 3)) i hi
      rw [← hw13, World.size_alloc] at hbx
      have y0 : Boxed w13 (w11.heap.size + 1) 32 (.pointer (some ⟨s, 0, none⟩)) := hbx 0 (by simp)
      have y1 : Boxed w13 (w11.heap.size + 1 + 1) 9 (.string fr) := hbx 1 (by simp)
      have y2 : Boxed w13 (w11.heap.size + 1 + 2) 9 (.string tt) := hbx 2 (by simp)
      have y3 : Boxed w13 (w11.heap.size + 1 + 3) 3 (.int .i64 (q : Int)) := hbx 3 (by simp)
      have hq12 : Below w11.heap.size w11 (w11.alloc (.cells #[.int .i64 0] 3)) := below_alloc (Below.refl _ _) _
      have kn : Boxed w13 w11.heap.size 3 (.int .i64 0) := Boxed.upB (Boxed.new w11 3 (.int .i64 0)) hb13
      have kw : Boxed w13 w8.heap.size 77 (.map (some m)) := Boxed.upB (Boxed.upB HW11.out hq12) hb13
      have hB13 := below_step HB11.out (below_step hq12 hb13)
      have hM13 := (HM11.out.below hq12).below hb13
      have hD13 := below_step HD11.out (below_step hq12 hb13)
      have hx5 := HX5.out
      have k0 := Boxed.upB hx5.1 hB13
      have k1 := Boxed.upB hx5.2.1 hB13
      have k2 := Boxed.upB hx5.2.2 hB13
      have hbwn : w8.heap.size < w11.heap.size := HW11.out.lt
      have hmn : m < w11.heap.size := HM11.out.lt
      have h511 : w5.heap.size ≤ w11.heap.size := HB11.out.size
      have h58 : w5.heap.size ≤ w8.heap.size := HB8.out.size
      clear hbx hw13 HW13 hq12 hb13 hx5 HM9 HM10 HM11 HW9 HW10 HW11 HB9 HB10 HB11 HD9 HD10 HD11 HSX HGX HA HS9 HGT HLK c9 c10 c11 hl11 x12a x12b wr1 wr2 wr3 wr4
      generalize g1 : w11.heap.size = bn at *
      generalize g2 : w8.heap.size = bw at *
      generalize g3 : bn + 1 = bp at *
      have HG2 : Aside0 (bp = bn + 1 ∧ bw < bn ∧ m < bn ∧ w5.heap.size ≤ bn ∧ w5.heap.size ≤ bw ∧ w13.heap.size = bn + 5 ∧ w.heap.size ≤ w5.heap.size) := ⟨by omega, hbwn, hmn, h511, h58, hz13, HB5.out.size⟩
      clear g1 g2 g3 hz13 hbwn hmn h511 h58
      have HK13 := Aside0.mk (And.intro kw (And.intro k0 (And.intro k1 k2)))
      have HM13 := Aside0.mk hM13
      have HB13 := Aside0.mk hB13
      have HD13 : Aside0 (∀ D ∈ Ds, w13.heap[D]? = some (.deferred (some []))) := ⟨fun D hD => by
        have h := (HDS.out.2 D hD).2
        exact (hD13.block D (Array.getElem?_eq_some_iff.1 h).1).trans h⟩
      have HDL : Aside0 (∀ D ∈ Ds, w5.heap.size ≤ D ∧ D < w13.heap.size) := ⟨fun D hD => ⟨(HDS.out.2 D hD).1, (Array.getElem?_eq_some_iff.1 (HD13.out D hD)).1⟩⟩
      have HSN : Aside0 ((showM MM fr tt (q : Int)).length ≤ 2000000) := ⟨Nat.le_trans (showM_len _ _ _ _) HKZ.out⟩
      refine (wpIn_wide (n := 6)).1 ?_
      obtain ⟨col, H, L, hsc⟩ := HS7.out w13 hB13
      have hgg := HGG.out
      have hg2 := HG2.out
      have hseq := srange_el 5 (by omega) bp (bp + 1) (bp + 2) (bp + 3) s (fun k => k < w13.heap.size ∧ k ≠ bn) fr tt (q : Int) w13 ⟨by omega, by omega⟩ ⟨by omega, by omega⟩ ⟨by omega, by omega⟩ ⟨by omega, by omega⟩ hsc HM.out.inv HKZ.out (fun k hk h => ⟨hk, by have h' : k < w5.heap.size := h; omega⟩) y0 y1 y2 y3 (fun k h => h.1)
      clear y0 y1 y2 y3 hgg hg2 kw k0 k1 k2 hM13 hB13 hD13
      refine' rangeO rfl (enters_of Try.func84 (by kernel_rfl) rfl) (by omega) hseq (Below.refl _ _) (fun k hk => hk.1) (fun _ => rfl)
        (fun pre X => Boxed X bn 3 (.int .i64 (pre.length : Int)) ∧ Fr (fun k => k = bn) w13 X)
        (fun c pre X => ¬ valE pre <+: showM MM fr tt (q : Int)) ?hI (fun c s A B row hs hg hr => hs) ⟨kn, Fr.refl _ _⟩ _ ?assign ?body ?done ?stop
      case hI =>
        rintro pre A2 C2 row ⟨h4, hF⟩ hg hr
        have hne : ∀ k cs t fr, A2.heap[k]? = some (.cells cs t fr) → row ≠ some k := fun k cs t fr hk e => by
          obtain ⟨_, o, q1, q2⟩ := hr k e
          rw [hk] at q1
          injection q1 with q1
          rw [← q1] at q2
          cases q2
        exact ⟨(hg.block _ h4.lt (fun e => hne _ _ _ _ h4 e.symm)).trans h4, hg.os.trans hF.os, hg.tape.trans hF.tape, hg.output.trans hF.output, Nat.le_trans hF.size hg.size, fun k hk hk2 => (hg.block k (Nat.lt_of_lt_of_le hk hF.size) (fun e => by have := (hr k e.symm).1; omega)).trans (hF.block k hk hk2)⟩
      case assign =>
        intro l2 x W K2 hK2
        dsimp only [kvV]
        gi_wp2
        exact hK2
      case body =>
        rintro l2 pre e X ⟨h4, hF⟩ hl
        obtain ⟨⟨ek, ev⟩, he⟩ := e
        have he' : getO MM ek (q : Int) = some ev := he
        have hek : ek.size ≤ maxLen := by
          obtain ⟨b, hb, e⟩ := List.mem_map.1 (key_in he')
          have := HM.out.key b hb
          rw [e] at this
          unfold maxLen
          omega
        have hg2 := HG2.out
        have hgg := HGG.out
        have hlk := (HM13.out.same (hF.block m (by omega) (show ¬ m = bn by omega))).look2 (z := .string ⟨#[]⟩) Try.underlying77 (Try.zeroValue9 _) (x := ek) hek
        rw [HSQ.out.2 ek, he'] at hlk
        replace hlk : Sem.run Try.prog (Instr.lookup 77 (.map (some m)) (.string ek) true) X = .ok (.tuple #[.string ev, .bool true]) X := hlk
        have hu : ∀ {b : Nat} {t : TypeId} {v : Value}, b < w13.heap.size → b ≠ bn → Boxed w13 b t v → Boxed X b t v := fun h1 h2 h => (hF.block _ h1 h2).trans h
        have kw := hu (by omega) (by omega) HK13.out.1
        have k0 := hu (by omega) (by omega) HK13.out.2.1
        have k1 := hu (by omega) (by omega) HK13.out.2.2.1
        have k2 := hu (by omega) (by omega) HK13.out.2.2.2
        have cw := kw.cell
        have c0' := k0.cell
        have c1' := k1.cell
        have c2' := k2.cell
        have z2' := k2.frozen
        have cn := h4.cell
        have zn := h4.frozen
        have HFX := Aside0.mk hF
        have HNX := Aside0.mk h4
        have HVS : Aside0 (valE (pre ++ [(⟨(ek, ev), he⟩ : ShE MM (q : Int))]) = valE pre ++ [(ek, ev)]) := ⟨valE_snoc _ _⟩
        have HVL : Aside0 ((pre ++ [(⟨(ek, ev), he⟩ : ShE MM (q : Int))]).length = pre.length + 1) := ⟨by simp⟩
        have hpl : pre.length < 2000001 := by have := HKZ.out; omega
        have hno : ¬ inB fr tt ek = true → ¬ valE pre ++ [(ek, ev)] <+: showM MM fr tt (q : Int) := fun hi hp => hi (HSQ.out.met (a := (ek, ev)) (hp.subset (by simp))).2.2
        have hcase : kl ek fr ∨ (¬ kl ek fr ∧ tt = ⟨#[]⟩) ∨ (¬ kl ek fr ∧ tt ≠ ⟨#[]⟩ ∧ kl ek tt) ∨ (¬ kl ek fr ∧ tt ≠ ⟨#[]⟩ ∧ kl tt ek) ∨ (¬ kl ek fr ∧ tt ≠ ⟨#[]⟩ ∧ ek = tt) := by
          by_cases h1 : kl ek fr
          · exact .inl h1
          · by_cases h2 : tt = ⟨#[]⟩
            · exact .inr (.inl ⟨h1, h2⟩)
            · rcases kl_tri ek tt with h3 | h3 | h3
              · exact .inr (.inr (.inl ⟨h1, h2, h3⟩))
              · exact .inr (.inr (.inr (.inr ⟨h1, h2, h3⟩)))
              · exact .inr (.inr (.inr (.inl ⟨h1, h2, h3⟩)))
        clear kw k0 k1 k2 hu hF h4 he' hek hl hg2 hgg
        generalize hpn : pre.length = i at *
        have HPN := Aside0.mk hpn
        have hw1 : IntKind.i64.wrap ((i : Int) + 1) = ((i + 1 : Nat) : Int) := by rw [IntKind.wrap_i64]; omega
        have hw2 : wrap64 ((i : Int) + 1) = ((i + 1 : Nat) : Int) := by rw [w64 (by omega) (by omega)]; omega
        clear hpn hpl
        dsimp only [kvV]
        rcases hcase with g1 | ⟨g1, g2⟩ | ⟨g1, g2, g3⟩ | ⟨g1, g2, g3⟩ | ⟨g1, g2, g3⟩
        case' inl =>
          have d1 : Op.bytesLess ek.toList fr.toList = true := by rw [less_kl]; exact decide_eq_true g1
          have HNP := Aside0.mk (hno (by unfold inB; rw [decide_eq_true g1]; simp))
          clear g1
        case' inr.inl =>
          have d1 : Op.bytesLess ek.toList fr.toList = false := by rw [less_kl]; exact decide_eq_false g1
          have t1 : tt.toList = [] := by rw [g2]; exact toList_nil.2 rfl
          have t2 : (tt.toList == ([] : List UInt8)) = true := by rw [t1]; rfl
          clear g1 g2
        case' inr.inr.inl =>
          have d1 : Op.bytesLess ek.toList fr.toList = false := by rw [less_kl]; exact decide_eq_false g1
          have t1 : ¬ tt.toList = [] := fun e => g2 (by have := toList_nil.1 e; exact ByteArray.size_eq_zero_iff.1 this)
          have t2 : (tt.toList == ([] : List UInt8)) = false := beq_eq_false_iff_ne.2 t1
          have d2 : Op.bytesLess ek.toList tt.toList = true := by rw [less_kl]; exact decide_eq_true g3
          clear g1 g2 g3
        case' inr.inr.inr.inl =>
          have d1 : Op.bytesLess ek.toList fr.toList = false := by rw [less_kl]; exact decide_eq_false g1
          have t1 : ¬ tt.toList = [] := fun e => g2 (by have := toList_nil.1 e; exact ByteArray.size_eq_zero_iff.1 this)
          have t2 : (tt.toList == ([] : List UInt8)) = false := beq_eq_false_iff_ne.2 t1
          have d2 : Op.bytesLess ek.toList tt.toList = false := by rw [less_kl]; exact decide_eq_false (kl_anti g3)
          have HNP := Aside0.mk (hno (by unfold inB; rw [decide_eq_false g1, decide_eq_false g2, decide_eq_false (kl_anti g3)]; simp))
          clear g1 g2 g3
        case' inr.inr.inr.inr =>
          have d1 : Op.bytesLess ek.toList fr.toList = false := by rw [less_kl]; exact decide_eq_false g1
          have t1 : ¬ tt.toList = [] := fun e => g2 (by have := toList_nil.1 e; exact ByteArray.size_eq_zero_iff.1 this)
          have t2 : (tt.toList == ([] : List UInt8)) = false := beq_eq_false_iff_ne.2 t1
          have d2 : Op.bytesLess ek.toList tt.toList = false := by rw [less_kl, ← g3]; exact decide_eq_false (kl_irrefl ek)
          have HNP := Aside0.mk (hno (by unfold inB; rw [decide_eq_false g1, decide_eq_false g2, g3, decide_eq_false (kl_irrefl tt)]; simp))
          clear g1 g2 g3
        case inl => 
          gi_wp2
          have hgg := HGG.out
          have hg2 := HG2.out
          exact ⟨⟨by rw [World.size_setCell]; exact Nat.le_refl _, fun k o hk ho hc => (Below.heap_setCell _ _ _ k (show k ≠ b2 by omega)).trans ho⟩, by
            show ¬ valE (pre ++ [(⟨(ek, ev), he⟩ : ShE MM (q : Int))]) <+: _
            rw [HVS.out]
            exact HNP.out⟩
        case inr.inr.inr.inl => 
          gi_wp2
          have hgg := HGG.out
          have hg2 := HG2.out
          exact ⟨⟨by rw [World.size_setCell]; exact Nat.le_refl _, fun k o hk ho hc => (Below.heap_setCell _ _ _ k (show k ≠ b2 by omega)).trans ho⟩, by
            show ¬ valE (pre ++ [(⟨(ek, ev), he⟩ : ShE MM (q : Int))]) <+: _
            rw [HVS.out]
            exact HNP.out⟩
        case inr.inr.inr.inr => 
          gi_wp2
          have hgg := HGG.out
          have hg2 := HG2.out
          exact ⟨⟨by rw [World.size_setCell]; exact Nat.le_refl _, fun k o hk ho hc => (Below.heap_setCell _ _ _ k (show k ≠ b2 by omega)).trans ho⟩, by
            show ¬ valE (pre ++ [(⟨(ek, ev), he⟩ : ShE MM (q : Int))]) <+: _
            rw [HVS.out]
            exact HNP.out⟩
        all_goals
          clear hno
          gi_wp2
          have hg2 := HG2.out
          have hF := HFX.out
          have far : ∀ k, k ≠ bn → (X.setCell ⟨bn, 0, none⟩ (.int .i64 ((i : Int) + 1))).heap[k]? = X.heap[k]? := fun k hk => Below.heap_setCell _ _ _ k hk
          have hsz : (X.setCell ⟨bn, 0, none⟩ (.int .i64 ((i : Int) + 1))).heap.size = X.heap.size := World.size_setCell _ _ _
          refine ⟨⟨by rw [hsz]; exact Nat.le_refl _, fun k o hk ho hc => (far k (by omega)).trans ho⟩, ⟨by rw [hsz]; exact Nat.le_refl _, fun k hk hl => far k hk.2, fun k o hk ho hf => (far k (by omega)).trans ho⟩, ?_⟩
          show Boxed _ bn 3 (.int .i64 ((pre ++ [(⟨(ek, ev), he⟩ : ShE MM (q : Int))]).length : Int)) ∧ _
          rw [HVL.out, Int.natCast_add]
          exact ⟨HNX.out.set _, hF.os, hF.tape, hF.output, by rw [hsz]; exact hF.size, fun k hk hk2 => (far k hk2).trans (hF.block k hk hk2)⟩
      case done =>
        rintro D xs X hD hxs ⟨h4, hF⟩ hK2
        replace hxs : valE xs = showM MM fr tt (q : Int) := hxs
        have hg2 := HG2.out
        have hgg := HGG.out
        obtain ⟨nn, hnn⟩ : ∃ nn, nn = (showM MM fr tt (q : Int)).length := ⟨_, rfl⟩
        have hxl : xs.length = nn := by rw [hnn, ← hxs, valE_len]
        rw [hxl] at h4
        have hPT := HSQ.out.part HM.out.inv fr tt
        rw [← hnn] at hPT
        have hnn2 := HSN.out
        rw [← hnn] at hnn2
        have HNN := Aside0.mk (And.intro hPT hnn2)
        have hu : ∀ {b : Nat} {t : TypeId} {v : Value}, b < w13.heap.size → b ≠ bn → Boxed w13 b t v → Boxed X b t v := fun h1 h2 h => (hF.block _ h1 h2).trans h
        have kw := hu (by omega) (by omega) HK13.out.1
        have HKX := Aside0.mk (And.intro (hu (by omega) (by omega) HK13.out.2.1) (And.intro (hu (by omega) (by omega) HK13.out.2.2.1) (hu (by omega) (by omega) HK13.out.2.2.2)))
        have hMX := HM13.out.same (hF.block m (by omega) (show ¬ m = bn by omega))
        obtain ⟨w14, r1, r2, r3, r4⟩ := hMX.range Try.underlying77
        obtain ⟨rb, hrb⟩ : ∃ rb, rb = X.heap.size := ⟨_, rfl⟩
        rw [← hrb] at r1 r2
        replace r1 : Sem.run Try.prog (Instr.range 77 (.map (some m))) X = .ok (.pointer (some ⟨rb, 0, none⟩)) w14 := r1
        have cw := kw.cell
        have hcn : C.length ≤ 2000000 := by have h1 := HSQ.out.len HM.out.inv; have h2 := showM_len MM ⟨#[]⟩ ⟨#[]⟩ (q : Int); have := HKZ.out; omega
        have HRG := Aside0.mk r2
        have HN14 := Aside0.mk (Boxed.upB h4 r3)
        have HF14 : Aside0 (Fr (fun k => k = bn) X w14) := ⟨Fr.below r3⟩
        have HRB := Aside0.mk (And.intro hrb (And.intro (show w13.heap.size ≤ X.heap.size from hF.size) (And.intro hD (Array.getElem?_eq_some_iff.1 hK2).1)))
        have HFX := Aside0.mk hF
        have HKD := Aside0.mk hK2
        clear h4 hF hK2 hxs hxl hPT hnn2 hu kw hMX r2 r3 r4 hg2 hgg hnn hrb
        gi_wp2
        go_wp2
        obtain ⟨gP, hgP⟩ : ∃ gP, gP = gk := ⟨_, rfl⟩
        clear hgP
        go_loopg [27] (C.length + 1) (fun kq v27 wq => ∃ dn : KVs, C.length - dn.length < kq ∧ dn.length ≤ C.length ∧ Aside0 (Mv.Rng TS eS wq m rb n C dn) ∧ Aside0 (Boxed wq bn 3 (.int .i64 ((nn : Int) - ((dn.filter fun a => inB fr tt a.1).length : Int)))) ∧ Aside0 (Fr (fun k => k = bn) X wq))
        case atStart => exact ⟨[], by simp, Nat.zero_le _, HRG, by simpa using HN14, HF14⟩
        case round =>
          obtain ⟨dn, hkd, hdl, HRN, HNQ, HFQ⟩ := hrel
          have hrb := HRB.out
          have hg2 := HG2.out
          have hgg := HGG.out
          have hF := HFQ.out
          have hnn := HNN.out
          have cn := HNQ.out.cell
          have zn := HNQ.out.frozen
          rcases HRN.out.next 0 with ⟨hp, hrun⟩ | ⟨⟨ak, av⟩, w15, ha, hna, hok, hrun, hr3, hg3, hs3, hen⟩
          · have hz : (nn : Int) - ((dn.filter fun a => inB fr tt a.1).length : Int) = 0 := by
              rw [(hp.filter _).length_eq, hnn.1]
              omega
            rw [hz] at cn
            have HKD2 : Aside0 (wr.heap[D]? = some (.deferred (some []))) := ⟨(hF.block D hrb.2.2.2 (show ¬ D = bn by have := hrb.2.2.1; omega)).trans HKD.out⟩
            have HBN : Aside0 (Below w5.heap.size w5 wr) := ⟨by
              have h1 := HB13.out
              have h2 := HFX.out
              exact h1.trans ⟨hF.os.trans h2.os, hF.tape.trans h2.tape, hF.output.trans h2.output, Nat.le_trans h2.size hF.size, fun k hk => (hF.block k (by omega) (show ¬ k = bn by omega)).trans (h2.block k (by omega) (show ¬ k = bn by omega))⟩⟩
            have HDN : Aside0 ((D :: Ds).Nodup ∧ ∀ E ∈ D :: Ds, w5.heap.size ≤ E ∧ wr.heap[E]? = some (.deferred (some []))) := ⟨List.nodup_cons.2 ⟨fun h => by have := (HDL.out D h).2; have := hrb.2.2.1; omega, HDS.out.1⟩, fun E hE => by
              rcases List.mem_cons.1 hE with rfl | hE
              · exact ⟨by have := hrb.2.2.1; omega, HKD2.out⟩
              · have h1 := HDL.out E hE
                have h2 := HD13.out E hE
                have hne : ¬ E = bn := fun e => by
                  rw [e] at h2
                  have h3 : w13.heap[bn]? = _ := kn
                  rw [h3] at h2
                  cases h2
                exact ⟨h1.1, (hF.block E (by omega) hne).trans ((HFX.out.block E h1.2 hne).trans h2)⟩⟩
            clear hz hp hrb hg2 hgg hF hnn zn
            obtain ⟨wr1, wr2, wr3, wr4⟩ := HWR.out
            have hq3 := HGO.out
            have hq4 := HHF.out
            clear wr1 wr2 wr3 wr4
            have HOM : Aside0 (gO - 1 < gO ∧ f ≤ q + 1 ∧ q + 1 ≤ f + wss.length + 1 ∧ f + wss.length + 1 - (q + 1) < gO - 1) := ⟨by omega, by omega, by omega, by omega⟩
            have hw1 : IntKind.i64.wrap ((q : Int) + 1) = ((q + 1 : Nat) : Int) := by rw [IntKind.wrap_i64]; omega
            have hw2 : wrap64 ((q : Int) + 1) = ((q + 1 : Nat) : Int) := by rw [w64 (by omega) (by omega)]; omega
            have HW2 : Aside0 (Value.int .i64 (wrap64 ((q : Int) + 1)) = Value.int .i64 ((q + 1 : Nat) : Int)) := ⟨by rw [hw2]⟩
            clear hq3 hq4
            change (Instr.next (.pointer (some ⟨rb, 0, none⟩)) false 0).run Try.prog wr = .ok (.tuple #[.bool false]) wr at hrun
            go_wp2
            clear hw1 hw2
            go_roundg (gO - 1)
            case measure => rw [← HGO.out.1]; exact HOM.out.1
            case rel => exact ⟨q + 1, D :: Ds, by first | (with_reducible exact HW2.out) | go_num, rfl, HOM.out.2.1, HOM.out.2.2.1, HOM.out.2.2.2, HBN, HDN⟩
          · change (Instr.next (.pointer (some ⟨rb, 0, none⟩)) false 0).run Try.prog wr = .ok (.tuple #[.bool true, .string ak, .string av]) w15 at hrun
            change (Instr.entry (.pointer (some ⟨rb, 0, none⟩))).run Try.prog w15 = .ok (.tuple #[.string ak, .string av]) w15 at hen
            have hdl2 := hr3.len
            rw [List.length_append, List.length_singleton] at hdl2
            have hF15 : Fr (fun k => k = bn) X w15 := ⟨hg3.os.trans hF.os, hg3.tape.trans hF.tape, hg3.output.trans hF.output, Nat.le_trans hF.size hg3.size, fun k hk hk2 => (hg3.block k (Nat.lt_of_lt_of_le hk hF.size) (fun e => by injection e with e; omega)).trans (hF.block k hk hk2)⟩
            have hu : ∀ {b : Nat} {t : TypeId} {v : Value}, b < X.heap.size → b ≠ bn → Boxed X b t v → Boxed w15 b t v := fun h1 h2 h => (hF15.block _ h1 h2).trans h
            have hn15 : Boxed w15 bn 3 (.int .i64 ((nn : Int) - ((dn.filter fun a => inB fr tt a.1).length : Int))) := (hg3.block bn HNQ.out.lt (fun e => by injection e with e; omega)).trans HNQ.out
            have k0 := hu (by omega) (by omega) HKX.out.1
            have k1 := hu (by omega) (by omega) HKX.out.2.1
            have c0' := k0.cell
            have c1' := k1.cell
            have cn := hn15.cell
            have zn := hn15.frozen
            have HN15 := Aside0.mk hn15
            have HF15 := Aside0.mk hF15
            have HR15 := Aside0.mk hr3
            have hfl : (dn.filter fun a => inB fr tt a.1).length ≤ dn.length := List.length_filter_le _ _
            have hbd : (dn.filter fun a => inB fr tt a.1).length ≤ 2000000 ∧ nn ≤ 2000000 := by
              have h1 := HSQ.out.len HM.out.inv
              have h2 := showM_len MM ⟨#[]⟩ ⟨#[]⟩ (q : Int)
              have := HKZ.out
              exact ⟨by omega, hnn.2⟩
            have HFS : Aside0 (((dn ++ [(ak, av)]).filter fun a => inB fr tt a.1).length = (dn.filter fun a => inB fr tt a.1).length + if inB fr tt ak = true then 1 else 0) := ⟨by
              rw [List.filter_append, List.length_append, List.filter_cons]
              by_cases h : inB fr tt ak = true
              · rw [if_pos h, if_pos h]; rfl
              · rw [if_neg h, if_neg h]; rfl⟩
            generalize (dn.filter fun a => inB fr tt a.1).length = cnt at *
            have hw1 : IntKind.i64.wrap ((nn : Int) - (cnt : Int) - 1) = (nn : Int) - (cnt : Int) - 1 := by rw [IntKind.wrap_i64]; omega
            have hw2 : wrap64 ((nn : Int) - (cnt : Int) - 1) = (nn : Int) - (cnt : Int) - 1 := w64 (by omega) (by omega)
            have HRL : Aside0 (rb ≠ bn ∧ m ≠ bn) := ⟨by have := HG2.out; omega, by have := HG2.out; omega⟩
            have hcase : kl ak fr ∨ (¬ kl ak fr ∧ tt = ⟨#[]⟩) ∨ (¬ kl ak fr ∧ tt ≠ ⟨#[]⟩ ∧ kl ak tt) ∨ (¬ kl ak fr ∧ tt ≠ ⟨#[]⟩ ∧ ¬ kl ak tt) := by
              by_cases h1 : kl ak fr
              · exact .inl h1
              · by_cases h2 : tt = ⟨#[]⟩
                · exact .inr (.inl ⟨h1, h2⟩)
                · by_cases h3 : kl ak tt
                  · exact .inr (.inr (.inl ⟨h1, h2, h3⟩))
                  · exact .inr (.inr (.inr ⟨h1, h2, h3⟩))
            clear hrb hg2 hgg hF hnn hF15 hu hn15 k0 k1 hfl hbd hr3 hg3 ha hna hok hs3
            rcases hcase with g1 | ⟨g1, g2⟩ | ⟨g1, g2, g3⟩ | ⟨g1, g2, g3⟩
            case' inr.inl =>
              have d1 : Op.bytesLess ak.toList fr.toList = true := by rw [less_kl]; exact decide_eq_true g1
              have HIN : Aside0 (¬ inB fr tt ak = true) := ⟨by unfold inB; rw [decide_eq_true g1]; simp⟩
              clear g1
            case' inr.inr.inl =>
              have d1 : Op.bytesLess ak.toList fr.toList = false := by rw [less_kl]; exact decide_eq_false g1
              have t1 : tt.toList = [] := by rw [g2]; exact toList_nil.2 rfl
              have t2 : (tt.toList == ([] : List UInt8)) = true := by rw [t1]; rfl
              have HIN : Aside0 (inB fr tt ak = true) := ⟨by unfold inB; rw [decide_eq_false g1, decide_eq_true g2]; simp⟩
              clear g1 g2
            case' inr.inr.inr.inl =>
              have d1 : Op.bytesLess ak.toList fr.toList = false := by rw [less_kl]; exact decide_eq_false g1
              have t1 : ¬ tt.toList = [] := fun e => g2 (by have := toList_nil.1 e; exact ByteArray.size_eq_zero_iff.1 this)
              have t2 : (tt.toList == ([] : List UInt8)) = false := beq_eq_false_iff_ne.2 t1
              have d2 : Op.bytesLess ak.toList tt.toList = true := by rw [less_kl]; exact decide_eq_true g3
              have HIN : Aside0 (inB fr tt ak = true) := ⟨by unfold inB; rw [decide_eq_false g1, decide_eq_true g3]; simp⟩
              clear g1 g2 g3
            case' inr.inr.inr.inr =>
              have d1 : Op.bytesLess ak.toList fr.toList = false := by rw [less_kl]; exact decide_eq_false g1
              have t1 : ¬ tt.toList = [] := fun e => g2 (by have := toList_nil.1 e; exact ByteArray.size_eq_zero_iff.1 this)
              have t2 : (tt.toList == ([] : List UInt8)) = false := beq_eq_false_iff_ne.2 t1
              have d2 : Op.bytesLess ak.toList tt.toList = false := by rw [less_kl]; exact decide_eq_false g3
              have HIN : Aside0 (¬ inB fr tt ak = true) := ⟨by unfold inB; rw [decide_eq_false g1, decide_eq_false g2, decide_eq_false g3]; simp⟩
              clear g1 g2 g3
            case inr.inl => 
              go_wp2
              go_roundg (gk - 1)
              case measure => omega
              case rel => exact ⟨dn ++ [(ak, av)], by rw [List.length_append, List.length_singleton]; omega, by rw [List.length_append, List.length_singleton]; exact hdl2, HR15, ⟨by rw [HFS.out, if_neg HIN.out]; exact HN15.out⟩, HF15⟩
            case inr.inr.inr.inr => 
              go_wp2
              go_roundg (gk - 1)
              case measure => omega
              case rel => exact ⟨dn ++ [(ak, av)], by rw [List.length_append, List.length_singleton]; omega, by rw [List.length_append, List.length_singleton]; exact hdl2, HR15, ⟨by rw [HFS.out, if_neg HIN.out]; exact HN15.out⟩, HF15⟩
            all_goals
              go_wp2
              go_roundg (gk - 1)
              case measure => omega
              case rel =>
                have hne := HRL.out
                refine ⟨dn ++ [(ak, av)], by rw [List.length_append, List.length_singleton]; omega, by rw [List.length_append, List.length_singleton]; exact hdl2, ⟨HR15.out.same (Below.heap_setCell _ ⟨bn, 0, none⟩ _ m hne.2) (Below.heap_setCell _ ⟨bn, 0, none⟩ _ rb hne.1)⟩, ⟨?_⟩, ⟨?_⟩⟩
                · rw [HFS.out, if_pos HIN.out, show ((nn : Int) - ((cnt + 1 : Nat) : Int)) = (nn : Int) - (cnt : Int) - 1 from by omega]
                  exact HN15.out.set _
                · have h2 := HF15.out
                  exact ⟨h2.os, h2.tape, h2.output, by rw [World.size_setCell]; exact h2.size, fun k hk hk2 => (Below.heap_setCell w15 ⟨bn, 0, none⟩ _ k hk2).trans (h2.block k hk hk2)⟩
      case stop =>
        rintro D c2' pre X hD hsp h hK2
        exact absurd hsp h
    · have z1 : ¬ (q : Int) ≤ (f : Int) + (wss.length : Int) := by omega
      have hx2 := Boxed.upB HX5.out.2.2 HB.out
      have c2' := hx2.cell
      have z2' := hx2.frozen
      have HX2 := Aside0.mk hx2
      clear hx2 hlt hk hq1 hq2
      obtain ⟨wr1, wr2, wr3, wr4⟩ := HWR.out
      go_wp2
      refine leaves_all Ds _ HDS.out.1 (fun D hD => ?_) (fun W' h1 h2 h3 h4 h5 => ?_)
      · have hgg := HGG.out
        have hd := HDS.out.2 D hD
        exact (Below.heap_setCell wr ⟨b2, 0, none⟩ (.bool true) D (show D ≠ b2 by omega)).trans hd.2
      · have hgg := HGG.out
        have hno : ∀ k, k < w5.heap.size → k ∉ Ds := fun k hk hD => by have := (HDS.out.2 k hD).1; omega
        refine ⟨.bool true, results_bool rfl _ _ ⟨b2, 0, none⟩ true rfl ?_ Try.underlying4, rfl, ?_⟩
        · exact (World.cell?_of_block (h1 b2 (hno b2 hgg.2.2))).trans (HX2.out.set (.bool true)).cell
        · have hwz := HB5.out.size
          have hbz := below_step HB5.out HB.out
          refine ⟨?_, ?_, ?_, ?_, fun k hk => ?_⟩
          · rw [h3]; exact hbz.os
          · rw [h4]; exact hbz.tape
          · rw [h5]; exact hbz.output
          · rw [h2, World.size_setCell]; exact hbz.size
          · exact (h1 k (hno k (by omega))).trans ((Below.heap_setCell wr ⟨b2, 0, none⟩ (.bool true) k (show k ≠ b2 by omega)).trans (hbz.block k hk))
theorem storeSees_walk (first : Int) (l0 : List Wr) (A0 : Option Addr) (c0 : Nat) (l1 : List (List Wr)) (A : Option Addr) (c : Nat) (key fr tt : ByteArray) (w : World) (_ : (Lit.int .i64 first).wf = true) (hr0 : Kd.C k31 w A0 l0.length l0) (hl0 : l0.length ≤ c0) (ho0 : l0.length ≤ maxLen ∧ l0.length * 40 ≤ 140737488351232 ∧ ∀ y ∈ l0, (y.f0.size ≤ 140737488351232 ∧ y.f1.size ≤ 140737488351232 ∧ True))
    (hr : Kd.C (Kd.slice 31 k31) w A l1.length l1) (_ : l1.length ≤ c) (ho : l1.length ≤ maxLen ∧ l1.length * 24 ≤ 140737488351232 ∧ ∀ y ∈ l1, (y.length ≤ maxLen ∧ y.length * 40 ≤ 140737488351232 ∧ ∀ z ∈ y, (z.f0.size ≤ 140737488351232 ∧ z.f1.size ≤ 140737488351232 ∧ True)))
    (hk : key.size ≤ 140737488351232) (_ : fr.size ≤ 140737488351232) (_ : tt.size ≤ 140737488351232) :
    Calls Try.prog 13 #[.int .i64 first, .slice A0 l0.length c0, .slice A l1.length c, .string key, .string fr, .string tt] w fun e w' => e = .returned (.bool true) ∧ Below w.heap.size w w' := by
  by_cases h1 : l1.length ≤ 30
  · have hok : ∀ ws ∈ l1, okWs ws := fun ws hw => ⟨by have := (ho.2.2 ws hw).2.1; omega, fun x hx => ((ho.2.2 ws hw).2.2 x hx).1⟩
    have e0 : first % 65536 = ((first % 65536).toNat : Int) := (Int.toNat_of_nonneg (Int.emod_nonneg _ (by decide))).symm
    have hf : bits .and .i64 first 65535 = ((first % 65536).toNat : Int) := by rw [Tr.low_bits first 65535 16 (by decide), IntKind.wrap_i64]; omega
    exact sees_in first l0 A0 c0 l1 A c key fr tt w hr0 hl0 ⟨by omega, fun x hx => (ho0.2.2 x hx).1⟩ hr h1 hok (by unfold maxLen; omega) (first % 65536).toNat hf (by omega)
  · exact sees_big first l0 A0 c0 l1 A c key fr tt w h1
end Go.Proofs.Ytmafibbnojdpjaa.St
end
