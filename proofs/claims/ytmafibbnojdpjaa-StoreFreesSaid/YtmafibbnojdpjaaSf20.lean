/- Lemmas that the proof needs, part 20. -/
import Derived.Test.YtmafibbnojdpjaaWKept
import Derived.Deep.RegionHeld3
import Derived.Test.YtmafibbnojdpjaaWWords
import Derived.Deep.RegionLaw
import Derived.Test.YtmafibbnojdpjaaSf1
import Derived.Test.YtmafibbnojdpjaaSf2
import Derived.Test.YtmafibbnojdpjaaSf3
import Derived.Test.YtmafibbnojdpjaaSf4
import Derived.Test.YtmafibbnojdpjaaSf5
import Derived.Test.YtmafibbnojdpjaaSf6
import Derived.Test.YtmafibbnojdpjaaSf7
import Derived.Test.YtmafibbnojdpjaaSf8
import Derived.Test.YtmafibbnojdpjaaSf9
import Derived.Test.YtmafibbnojdpjaaSf10
import Derived.Test.YtmafibbnojdpjaaSf11
import Derived.Test.YtmafibbnojdpjaaSf12
import Derived.Test.YtmafibbnojdpjaaSf13
import Derived.Test.YtmafibbnojdpjaaSf14
import Derived.Test.YtmafibbnojdpjaaSf15
import Derived.Test.YtmafibbnojdpjaaSf16
import Derived.Test.YtmafibbnojdpjaaSf17
import Derived.Test.YtmafibbnojdpjaaSf18
import Derived.Test.YtmafibbnojdpjaaSf19
section
set_option linter.unusedVariables false
set_option maxRecDepth 100000
set_option linter.unusedSimpArgs false
namespace Go.Proofs.Ytmafibbnojdpjaa.St
open Go.Proofs.Ytmafibbnojdpjaa.Tr Go.RowKit Go.Proofs.YtmafibbnojdpjaaW.PrintWords Go.Proofs.YtmafibbnojdpjaaW.PrintLast Go.Proofs.YtmafibbnojdpjaaW.PrintMore Go.Proofs.Ytmafibbnojdpjaa.P
attribute [local go_sem] Oper.semAt_some
/-- writes by their keys, of one key the last one -/
def insAll (ws : List Wr) : List (ByteArray × Wr) := ws.foldl (fun K x => insK K x.f0 x) []
def sortedW (ws : List Wr) : List Wr := (insAll ws).map (·.2)
def mapW (ws : List Wr) : List (ByteArray × Wr) := ws.foldl (fun C x => Mv.putC C x.f0 x) []
theorem insAll_snoc (ws : List Wr) (x : Wr) : insAll (ws ++ [x]) = insK (insAll ws) x.f0 x := by simp [insAll]
theorem mapW_snoc (ws : List Wr) (x : Wr) : mapW (ws ++ [x]) = Mv.putC (mapW ws) x.f0 x := by simp [mapW]
theorem list_snoc {α : Type} {p : List α → Prop} (h0 : p []) (h1 : ∀ l x, p l → p (l ++ [x])) : ∀ l, p l := by
  intro l
  have : ∀ n (l : List α), l.length = n → p l := by
    intro n
    induction n with
    | zero => intro l h; rw [List.length_eq_zero_iff.1 h]; exact h0
    | succ n ih =>
      intro l h
      have hne : l ≠ [] := fun e => by rw [e] at h; cases h
      rw [← List.dropLast_concat_getLast hne]
      exact h1 _ _ (ih _ (by rw [List.length_dropLast]; omega))
  exact this _ l rfl
theorem srtK_insAll (ws : List Wr) : SrtK (insAll ws) := by
  refine list_snoc (p := fun l => SrtK (insAll l)) List.Pairwise.nil (fun l x h => ?_) ws
  rw [insAll_snoc]
  exact srtK_ins h _ _
theorem nd_mapW (ws : List Wr) : Mv.NdC (mapW ws) := by
  refine list_snoc (p := fun l => Mv.NdC (mapW l)) List.Pairwise.nil (fun l x h => ?_) ws
  rw [mapW_snoc]
  exact Mv.nd_put h _ _
theorem find_mapW (ws : List Wr) (z : ByteArray) : Mv.findC (mapW ws) z = getK (insAll ws) z := by
  refine list_snoc (p := fun l => Mv.findC (mapW l) z = getK (insAll l) z) rfl (fun l x h => ?_) ws
  rw [mapW_snoc, insAll_snoc, Mv.find_put, getK_ins (srtK_insAll l), h]
theorem key_mapW (ws : List Wr) : ∀ a ∈ mapW ws, a.2.f0 = a.1 := by
  refine list_snoc (p := fun l => ∀ a ∈ mapW l, a.2.f0 = a.1) (fun a ha => by cases ha) (fun l x h => ?_) ws
  rw [mapW_snoc]
  intro a ha
  unfold Mv.putC Mv.delC at ha
  rcases List.mem_append.1 ha with ha | ha
  · exact h a (List.mem_filter.1 ha).1
  · rw [List.mem_singleton] at ha
    rw [ha]
theorem mapW_len (ws : List Wr) : (mapW ws).length ≤ ws.length := by
  refine list_snoc (p := fun l => (mapW l).length ≤ l.length) (Nat.le_refl _) (fun l x h => ?_) ws
  rw [mapW_snoc, Mv.len_put (nd_mapW l), List.length_append, List.length_singleton]
  split <;> omega
/-- what comes out of the sort is the writes by their keys -/
theorem sorted_law {ws ts : List Wr} {dn : List (ByteArray × Wr)} (hp : dn.Perm (mapW ws)) (ht : ts.Perm (dn.map (·.2))) (hs : ts.Pairwise fun a b => ¬ kl b.f0 a.f0) : ts = sortedW ws := by
  have hd : (dn.map (·.2)).map (fun x : Wr => (x.f0, x)) = dn := by
    rw [List.map_map]
    conv => rhs; rw [← List.map_id dn]
    refine List.map_congr_left (fun a ha => ?_)
    have := key_mapW ws a (hp.mem_iff.1 ha)
    exact Prod.ext this rfl
  have hT : (ts.map fun x : Wr => (x.f0, x)).Perm (mapW ws) := by
    have := ht.map (fun x : Wr => (x.f0, x))
    rw [hd] at this
    exact this.trans hp
  have hnd : Mv.NdC (ts.map fun x : Wr => (x.f0, x)) := (hT.symm.pairwise_iff (R := fun a b : ByteArray × Wr => a.1 ≠ b.1) (fun q => q.symm)).1 (nd_mapW ws)
  have hST : SrtK (ts.map fun x : Wr => (x.f0, x)) := by
    unfold SrtK Mv.NdC at *
    rw [List.pairwise_map] at hnd ⊢
    refine (hs.and hnd).imp (fun {a b} h => ?_)
    rcases kl_tri a.f0 b.f0 with q | q | q
    · exact q
    · exact absurd q h.2
    · exact absurd q h.1
  have he : (ts.map fun x : Wr => (x.f0, x)) = insAll ws := by
    refine srtK_ext hST (srtK_insAll ws) (fun z => ?_)
    rw [← find_mapW]
    exact Mv.find_perm hT.symm (nd_mapW ws) z
  unfold sortedW
  rw [← he, List.map_map]
  conv => lhs; rw [← List.map_id ts]
  rfl
theorem sortedW_len (ws : List Wr) : (sortedW ws).length ≤ ws.length := by
  refine list_snoc (p := fun l => (sortedW l).length ≤ l.length) (Nat.le_refl _) (fun l x h => ?_) ws
  unfold sortedW at *
  rw [insAll_snoc, List.length_map, List.length_append, List.length_singleton]
  rw [List.length_map] at h
  have := insK_length (insAll l) x.f0 x
  omega
noncomputable abbrev TW : Mv.KT Try.prog 9 ByteArray := Mv.KT.str Try.underlying9
def eW (x : Wr) : Value := .agg #[.string x.f0, .string x.f1, .bool x.f2]
theorem mapW_take {ws : List Wr} {i : Nat} (hi : i < ws.length) : mapW (ws.take (i + 1)) = Mv.putC (mapW (ws.take i)) (wA ws i).f0 (wA ws i) := by
  rw [List.take_succ_eq_append_getElem hi, mapW_snoc, wA_eq hi]
set_option maxHeartbeats 16000000 in
theorem sorted_any (ws : List Wr) (A : Option Addr) (c : Nat) (w : World) (hr : Kd.C k31 w A ws.length ws) (hc : ws.length ≤ c) (hn : ws.length ≤ 900000) (hks : ∀ x ∈ ws, x.f0.size ≤ maxLen) :
    Calls Try.prog 42 #[.slice A ws.length c] w fun e w' => ∃ v, e = .returned v ∧ Kd.R k31 31 w' 0 (fun k => w.heap.size ≤ k) v (sortedW ws) ∧ Below w.heap.size w w' := by
  have HR := Aside0.mk hr
  have HKS := Aside0.mk hks
  have hmm := @run_makeMap Try.prog
  have HM0 : Aside0 (Mv.MapV TW eW (w.alloc (.map #[] 0)) w.heap.size 0 (mapW (ws.take 0))) := ⟨Mv.MapV.new _ _ _⟩
  have HB0 : Aside0 (Below w.heap.size w (w.alloc (.map #[] 0))) := ⟨below_alloc (Below.refl _ _) _⟩
  have HN := Aside0.mk hn
  clear hr hks hn
  go_enter Try.func42, Try.ntmps42
  go_wp2
  generalize w.alloc (.map #[] 0) = W1 at *
  go_loopg [12] (ws.length + 1) (fun kq v12 wq => ∃ (i : Nat), v12 = .int .i64 (i : Int) ∧ i ≤ ws.length ∧ ws.length - i < kq ∧ Aside0 (Mv.MapV TW eW wq w.heap.size i (mapW (ws.take i))) ∧ Aside0 (Below w.heap.size w wq))
  case atStart => exact ⟨0, rfl, Nat.zero_le _, by omega, HM0, HB0⟩
  case round =>
    clear HM0 HB0
    obtain ⟨i, rfl, hi, hk, HM, HB⟩ := hrel
    have z0 : (0 : Int) ≤ (i : Int) := by omega
    have hn := HN.out
    by_cases hlt : i < ws.length
    · have z1 : (i : Int) < (ws.length : Int) := by omega
      obtain ⟨ad5, eA, f0, f1, f2⟩ := at_T31 (Kd.C_below HR.out HB.out) (i : Int) z0 z1
      rw [rd_wA, Int.toNat_natCast] at f0 f1 f2
      subst eA
      have HTK := Aside0.mk (mapW_take hlt)
      have hsx : (wA ws i).f0.size ≤ maxLen := HKS.out _ (by rw [wA_eq hlt]; exact List.getElem_mem hlt)
      generalize wA ws i = x at *
      obtain ⟨d0, d1, d2⟩ := three_new wr 31 (.string x.f0) (.string x.f1) (.bool x.f2)
      have hb2 : Below wr.heap.size wr (wr.alloc (.cells #[.string x.f0, .string x.f1, .bool x.f2] 31)) := below_alloc (Below.refl _ _) _
      obtain ⟨w8, u1, u2, u3⟩ := (HM.out.below hb2).put Try.underlying69 (by unfold maxLen; omega) (x := x.f0) hsx x
      replace u1 : Sem.run Try.prog (Instr.mapUpdate 69 (.map (some w.heap.size)) (.string x.f0) (.agg #[.string x.f0, .string x.f1, .bool x.f2])) (wr.alloc (.cells #[.string x.f0, .string x.f1, .bool x.f2] 31)) = .ok () w8 := u1
      have HM8 := Aside0.mk u2
      have hg := u3.grown
      have HB8 : Aside0 (Below w.heap.size w w8) := ⟨(HB.out.trans (hb2.mono HB.out.size)).trans ⟨hg.os, hg.tape, hg.output, hg.size, fun k hk => hg.block k (Nat.lt_of_lt_of_le hk (Nat.le_trans HB.out.size hb2.size)) (fun e => by injection e with e; omega)⟩⟩
      clear u2 u3 hg hb2 hsx
      go_wp2
      go_roundg (gk - 1)
      case measure => omega
      case rel => exact ⟨i + 1, by go_num, by omega, by omega, ⟨by rw [HTK.out]; exact HM8.out⟩, HB8⟩
    · have hiz : i = ws.length := by omega
      subst hiz
      rw [List.take_length] at HM
      obtain ⟨w9, u1, u2, u3, u4⟩ := HM.out.range Try.underlying69
      obtain ⟨rb, hrb⟩ : ∃ rb, rb = wr.heap.size := ⟨_, rfl⟩
      rw [← hrb] at u1 u2
      replace u1 : Sem.run Try.prog (Instr.range 69 (.map (some w.heap.size))) wr = .ok (.pointer (some ⟨rb, 0, none⟩)) w9 := u1
      have HRG := Aside0.mk u2
      have hbl := HM.out.lt
      have HB9 : Aside0 (Below w.heap.size w w9 ∧ rb < w9.heap.size ∧ w.heap.size < w9.heap.size ∧ w.heap.size ≤ rb) := ⟨HB.out.trans (u3.mono HB.out.size), by omega, by omega, by omega⟩
      have HCS : Aside0 ((mapW ws).length ≤ 900000) := ⟨Nat.le_trans (mapW_len ws) hn⟩
      clear u2 u3 u4 hbl hrb hk hlt hi hn HM
      obtain ⟨g0, hg0⟩ : ∃ g0, g0 = gk := ⟨_, rfl⟩
      clear hg0
      obtain ⟨C, hC⟩ : ∃ C, C = mapW ws := ⟨_, rfl⟩
      rw [← hC] at HRG HCS
      have HCW := Aside0.mk hC
      clear hC
      go_wp2
      go_loopg [6] (C.length + 1) (fun kq v6 wq => ∃ dn : List (ByteArray × Wr), C.length - dn.length < kq ∧ dn.length ≤ C.length ∧ Aside0 (Mv.Rng TW eW wq w.heap.size rb ws.length C dn) ∧ Aside0 (Kd.R k31 31 wq 0 (fun k => w9.heap.size ≤ k) v6 (dn.map (·.2))) ∧ Aside0 (Below w.heap.size w wq ∧ w9.heap.size ≤ wq.heap.size))
      case atStart => exact ⟨[], by simp, Nat.zero_le _, HRG, ⟨Kd.R_nil _ _ _ _ _⟩, ⟨HB9.out.1, Nat.le_refl _⟩⟩
      case round =>
        obtain ⟨dn, hk, hdl, HRN, HRW, HBQ⟩ := hrel
        rcases HRN.out.next 0 with ⟨hp, hrun⟩ | ⟨⟨ak, x⟩, w3, ha, hna, hok, hrun, hr3, hg3, hs3, hen⟩
        · have hln : (dn.map (·.2)).length < 1000000 := by rw [List.length_map]; have := HCS.out; omega
          have HSO := Aside0.mk (sortW (dn.map (·.2)) u6 wr 0 _ HRW.out hln)
          rw [HCW.out] at hp
          have HP := Aside0.mk hp
          have HOW : Aside0 (∀ k, u6.ownBlock = some k → w9.heap.size ≤ k) := ⟨HRW.out.1⟩
          clear hp hln
          go_wp2_with (first
            | (go_at_call 76; refine HSO.out.mono ?_; rintro e w4 ⟨rfl, ts, h1, h2, h3, h4⟩; have H1 := Aside0.mk h1; have H2 := Aside0.mk h2; have H3 := Aside0.mk h3; have H4 := Aside0.mk h4; clear h1 h2 h3 h4))
          go_ret
          have hts := sorted_law HP.out H1.out H2.out
          refine ⟨_, rfl, ?_, HBQ.out.1.grown H4.out HBQ.out.1.size (fun k e => Nat.le_trans (Nat.le_of_lt HB9.out.2.2.1) (HOW.out k e))⟩
          rw [← hts]
          exact Kd.R_mono H3.out (fun k (hk : w9.heap.size ≤ k) => Nat.le_trans (Nat.le_of_lt HB9.out.2.2.1) hk)
        · change (Instr.next (.pointer (some ⟨rb, 0, none⟩)) false 0).run Try.prog wr = .ok (.tuple #[.bool true, .string ak, .agg #[.string x.f0, .string x.f1, .bool x.f2]]) w3 at hrun
          change (Instr.entry (.pointer (some ⟨rb, 0, none⟩))).run Try.prog w3 = .ok (.tuple #[.string ak, .agg #[.string x.f0, .string x.f1, .bool x.f2]]) w3 at hen
          have hl := hr3.len
          rw [List.length_append, List.length_singleton] at hl
          obtain ⟨d0, d1, d2⟩ := three_new w3 31 (.string x.f0) (.string x.f1) (.bool x.f2)
          have hb4 : Below w3.heap.size w3 (w3.alloc (.cells #[.string x.f0, .string x.f1, .bool x.f2] 31)) := below_alloc (Below.refl _ _) _
          have h9 := HB9.out
          have hq := HBQ.out
          have hR3 : Kd.R k31 31 (w3.alloc (.cells #[.string x.f0, .string x.f1, .bool x.f2] 31)) 0 (fun k => w9.heap.size ≤ k) u6 (dn.map (·.2)) := Kd.R_below (Kd.R_step HRW.out (fun k hk hl => hg3.block k hl (fun e => by injection e with e; have hk' : w9.heap.size ≤ k := hk; omega))) hb4
          have HRW4 := Aside0.mk hR3
          have HRN4 := Aside0.mk (hr3.below hb4)
          have HB4 : Aside0 (Below w.heap.size w (w3.alloc (.cells #[.string x.f0, .string x.f1, .bool x.f2] 31)) ∧ w9.heap.size ≤ (w3.alloc (.cells #[.string x.f0, .string x.f1, .bool x.f2] 31)).heap.size) := ⟨(hq.1.grown hg3 hq.1.size (fun k e => by injection e with e; omega)).trans (hb4.mono (Nat.le_trans hq.1.size hg3.size)), Nat.le_trans hq.2 (Nat.le_trans hg3.size hb4.size)⟩
          have HLN : Aside0 ((dn.map (·.2)).length + 1 ≤ 900001) := ⟨by rw [List.length_map]; have := HCS.out; omega⟩
          have HMP : Aside0 ((dn ++ [(ak, x)]).map (·.2) = dn.map (·.2) ++ [x]) := ⟨by simp⟩
          clear hg3 hr3 hR3 hb4 h9 hq ha hna hok hs3 HRN HRW
          go_wp2_with (first
            | ((with_reducible refine gate_builtin (b := .append) (xs := #[.tmp 27, .tmp 29]) rfl ?_); at_builtin
               refine Kd.R_append k31 (w0 := w3.alloc (.cells #[.string x.f0, .string x.f1, .bool x.f2] 31)) 0 rfl (.tmp 27) (.tmp 29) 22 31 (.agg #[.string ⟨#[]⟩, .string ⟨#[]⟩, .bool false]) 40 rfl Try.underlying22 info31 rfl (by decide) (by decide) u6 (dn.map (·.2)) x [.string x.f0, .string x.f1, .bool x.f2] (fun k => w9.heap.size ≤ k) (fun _ => False) rfl ?hx (k31_mkM _ _ _ x) (fun k h => h.elim) (fun k hk => Nat.le_trans HB4.out.2 hk) HRW4.out (Below.refl _ _) (Nat.zero_le _) (by have := HLN.out; omega) ?_
               case hx => show Value.slice _ 1 1 = Value.slice _ 1 1; first | rfl | (rw [World.size_alloc])
               intro v7 w7 h1 h2 h3 h4
               have H1 := Aside0.mk h1
               have H3 := Aside0.mk h3
               clear h1 h2 h3 h4))
          go_roundg (gk - 1)
          case measure => omega
          case rel =>
            refine ⟨dn ++ [(ak, x)], by rw [List.length_append, List.length_singleton]; omega, by rw [List.length_append, List.length_singleton]; exact hl, ⟨HRN4.out.same ?_ ?_⟩, ⟨by rw [HMP.out]; exact H1.out⟩, ⟨?_, ?_⟩⟩
            · exact H3.out.block _ HRN4.out.map.lt (fun e => by have := HRW4.out.1 _ e.symm; have := HB9.out; omega)
            · exact H3.out.block _ HRN4.out.lt (fun e => by have := HRW4.out.1 _ e.symm; have := HB9.out; omega)
            · exact HB4.out.1.grown H3.out HB4.out.1.size (fun k e => by have := HRW4.out.1 _ e; have := HB9.out; omega)
            · exact Nat.le_trans HB4.out.2 H3.out.size
end Go.Proofs.Ytmafibbnojdpjaa.St
end
section
set_option linter.unusedVariables false
set_option maxRecDepth 100000
set_option linter.unusedSimpArgs false
namespace Go.Proofs.Ytmafibbnojdpjaa.St
open Go.Proofs.Ytmafibbnojdpjaa.Tr Go.RowKit Go.Proofs.YtmafibbnojdpjaaW.PrintWords Go.Proofs.YtmafibbnojdpjaaW.PrintLast Go.Proofs.YtmafibbnojdpjaaW.PrintMore Go.Proofs.Ytmafibbnojdpjaa.P
attribute [local go_sem] Oper.semAt_some
def cutS (n : Nat) (s : ByteArray) : ByteArray := if n < s.size then s.extract 0 n else s
def keyX (s : ByteArray) : ByteArray := cutS 20 (⟨#[107]⟩ ++ s)
def valX (x : Wr) : ByteArray := if x.f2 then ⟨#[]⟩ else cutS 40 x.f1
def someX (x : Wr) : Wr := ⟨keyX x.f0, valX x, x.f2⟩
def someL (ws : List Wr) : List Wr := (ws.take 12).map someX
def someW (ws : List Wr) : List Wr := sortedW (someL ws)
theorem cutS_size (n : Nat) (s : ByteArray) : (cutS n s).size ≤ n := by
  unfold cutS
  split
  · rw [ByteArray.size_extract]; omega
  · omega
theorem someX_eq (k v : ByteArray) (g : Bool) (kx : ByteArray) (h : kx = ⟨#[107]⟩ ++ k) : someX ⟨k, v, g⟩ = ⟨if 20 < kx.size then kx.extract 0 20 else kx, if g = true then ⟨#[]⟩ else if 40 < v.size then v.extract 0 40 else v, g⟩ := by
  unfold someX keyX valX cutS
  rw [h]
theorem someL_len (ws : List Wr) : (someL ws).length ≤ 12 := by
  unfold someL
  rw [List.length_map, List.length_take]
  omega
theorem someL_keys (ws : List Wr) : ∀ x ∈ someL ws, x.f0.size ≤ 20 := fun x hx => by
  obtain ⟨y, _, rfl⟩ := List.mem_map.1 hx
  exact cutS_size _ _
set_option maxHeartbeats 32000000 in
theorem some_any (ws : List Wr) (A : Option Addr) (c : Nat) (w : World) (hr : Kd.C k31 w A ws.length ws) (hc : ws.length ≤ c) (hn : ws.length < 4611686018427387904) (hsz : ∀ x ∈ ws, x.f0.size ≤ 140737488351232) :
    Calls Try.prog 54 #[.slice A ws.length c] w fun e w' => ∃ v, e = .returned v ∧ Kd.R k31 31 w' 0 (fun k => w.heap.size ≤ k) v (someW ws) ∧ Below w.heap.size w w' := by
  have HR := Aside0.mk hr
  have HN := Aside0.mk hn
  have HSZ := Aside0.mk hsz
  have HB0 : Aside0 (Below w.heap.size w (w.alloc (.cells #[] 31))) := ⟨below_alloc (Below.refl _ _) _⟩
  have HE0 : Aside0 (Kd.R k31 31 (w.alloc (.cells #[] 31)) 0 (fun k => w.heap.size ≤ k) (.slice (some ⟨w.heap.size, 0, none⟩) 0 0) ((ws.take 0).map someX)) := ⟨R_empty k31 _ 31 _ _ _ (Nat.zero_le _) (Nat.le_refl _) (heap_alloc_new _ _)⟩
  have HSO : Aside0 (∀ (W : World) (l : List Wr) (v : Value), l = someL ws → w.heap.size ≤ W.heap.size → Kd.R k31 31 W 0 (fun k => w.heap.size ≤ k) v l → Calls Try.prog 42 #[v] W fun e w' => ∃ v, e = .returned v ∧ Kd.R k31 31 w' 0 (fun k => w.heap.size ≤ k) v (someW ws) ∧ Below W.heap.size W w') := ⟨fun W l v hl hs hR => by
    subst hl
    obtain ⟨A1, c1, rfl, h1, h2⟩ := Kd.R_reads hR
    have h3 := someL_len ws
    refine (sorted_any (someL ws) A1 c1 W h2 h1 (by omega) (fun x hx => by have := someL_keys ws x hx; unfold maxLen; omega)).mono ?_
    rintro e w' ⟨v, rfl, q1, q2⟩
    exact ⟨v, rfl, Kd.R_mono q1 (fun k (hk : W.heap.size ≤ k) => Nat.le_trans hs hk), q2⟩⟩
  clear hr hn hsz
  go_enter Try.func54, Try.ntmps54
  go_wp2
  generalize w.alloc (.cells #[] 31) = W1 at *
  go_loopg [10, 3] (ws.length + 1) (fun kq v10 v3 wq => ∃ (i : Nat), v10 = .int .i64 (i : Int) ∧ i ≤ ws.length ∧ i ≤ 12 ∧ ws.length - i < kq ∧ Aside0 (Kd.R k31 31 wq 0 (fun k => w.heap.size ≤ k) v3 ((ws.take i).map someX)) ∧ Aside0 (Below w.heap.size w wq))
  case atStart => exact ⟨0, rfl, Nat.zero_le _, by omega, by omega, HE0, HB0⟩
  case round =>
    clear HE0 HB0
    obtain ⟨i, rfl, hi, h12, hk, HRW, HB⟩ := hrel
    have z0 : (0 : Int) ≤ (i : Int) := by omega
    have hn := HN.out
    by_cases hlt : i < ws.length
    · have z1 : (i : Int) < (ws.length : Int) := by omega
      obtain ⟨ad5, eA, f0, f1, f2⟩ := at_T31 (Kd.C_below HR.out HB.out) (i : Int) z0 z1
      rw [rd_wA, Int.toNat_natCast] at f0 f1 f2
      subst eA
      have hli : ((ws.take i).map someX).length = i := by rw [List.length_map, List.length_take]; omega
      obtain ⟨A3, c3, ev⟩ := Kd.R_slice HRW.out
      rw [hli] at ev
      subst ev
      have hx0 : (wA ws i).f0.size ≤ 140737488351232 := HSZ.out _ (by rw [wA_eq hlt]; exact List.getElem_mem hlt)
      have HTK : Aside0 ((ws.take (i + 1)).map someX = (ws.take i).map someX ++ [someX (wA ws i)]) := ⟨by rw [List.take_succ_eq_append_getElem hlt, List.map_append, wA_eq hlt]; rfl⟩
      have HLI := Aside0.mk hli
      have HT12 : Aside0 (i = 12 → (ws.take i).map someX = someL ws) := ⟨fun e => by subst e; rfl⟩
      generalize (ws.take i).map someX = L3 at *
      clear hli
      generalize wA ws i = x at *
      obtain ⟨xk, xv, xg⟩ := x
      replace f0 : wr.cell? (ad5.add (i * 3)) = some (.string xk) := f0
      replace f1 : wr.cell? ⟨(ad5.add (i * 3)).block, (ad5.add (i * 3)).off + 1, none⟩ = some (.string xv) := f1
      replace f2 : wr.cell? ⟨(ad5.add (i * 3)).block, (ad5.add (i * 3)).off + 2, none⟩ = some (.bool xg) := f2
      replace hx0 : xk.size ≤ 140737488351232 := hx0
      obtain ⟨d0, d1, d2⟩ := three_new wr 31 (.string xk) (.string xv) (.bool xg)
      have hb2 : Below wr.heap.size wr (wr.alloc (.cells #[.string xk, .string xv, .bool xg] 31)) := below_alloc (Below.refl _ _) _
      by_cases h2 : i < 12
      · have q1 : ¬ (12 : Int) ≤ (i : Int) := by omega
        have hcat : (⟨#[107]⟩ ++ xk : ByteArray).size = 1 + xk.size := by rw [ByteArray.size_append]; rfl
        have q2 : ¬ 9223372036854775807 < (⟨#[107]⟩ : ByteArray).size + xk.size := by
          rw [show (⟨#[107]⟩ : ByteArray).size = 1 from rfl]; omega
        have q3 : ¬ 9223372036854775807 < 1 + xk.size := by omega
        obtain ⟨kx, hkx⟩ : ∃ kx : ByteArray, kx = ⟨#[107]⟩ ++ xk := ⟨_, rfl⟩
        obtain ⟨bx, hbx⟩ : ∃ bx, bx = wr.heap.size + 1 := ⟨_, rfl⟩
        have hnew := heap_alloc_new (wr.alloc (.cells #[.string xk, .string xv, .bool xg] 31)) (.cells #[.string (⟨#[107]⟩ ++ xk), .string xv, .bool xg] 31)
        rw [World.size_alloc, ← hkx, ← hbx] at hnew
        have HNW := Aside0.mk hnew
        have HBX : Aside0 (wr.heap.size ≤ bx) := ⟨by omega⟩
        have HB3 : Aside0 (Below wr.heap.size wr ((wr.alloc (.cells #[.string xk, .string xv, .bool xg] 31)).alloc (.cells #[.string kx, .string xv, .bool xg] 31))) := ⟨below_alloc hb2 _⟩
        have HKX := Aside0.mk hkx
        have hky : (⟨#[107]⟩ ++ xk : ByteArray) = kx := hkx.symm
        clear hkx
        have HCT : Aside0 (kx.size = 1 + xk.size) := ⟨by rw [HKX.out]; exact hcat⟩
        have g0 := (cell_of_row _ _ 0 _ _ _ hnew).trans rfl
        have g1 := (cell_of_row _ _ 1 _ _ _ hnew).trans rfl
        have g2 := (cell_of_row _ _ 2 _ _ _ hnew).trans rfl
        clear hcat hnew hb2 h2 h12 hx0
        have HSX := Aside0.mk (someX_eq xk xv xg kx HKX.out)
        have HBW : Aside0 (∀ o1 o2 : Obj, Below wr.heap.size wr ((wr.alloc o1).alloc o2)) := ⟨fun _ _ => below_alloc (below_alloc (Below.refl _ _) _) _⟩
        clear HKX
        by_cases ha : 20 < kx.size
        all_goals cases xg
        all_goals by_cases hv : 40 < xv.size
        all_goals
          first | (have n0 : (20 : Int) < (kx.size : Int) := by omega) | (have n0 : ¬ (20 : Int) < (kx.size : Int) := by omega)
          first | (have n1 : (40 : Int) < (xv.size : Int) := by omega) | (have n1 : ¬ (40 : Int) < (xv.size : Int) := by omega)
          have HA := Aside0.mk ha
          have HV := Aside0.mk hv
          clear ha hv
          go_wp2_with (first
            | ((with_reducible refine gate_builtin (b := .append) (xs := #[.tmp 44, .tmp 46]) rfl ?_); at_builtin
               refine Kd.R_append k31 (w0 := wr) 0 rfl (.tmp 44) (.tmp 46) 22 31 (.agg #[.string ⟨#[]⟩, .string ⟨#[]⟩, .bool false]) 40 rfl Try.underlying22 info31 rfl (by decide) (by decide) (.slice A3 i c3) L3 (⟨_, _, _⟩ : Wr) [.string _, .string _, .bool _] (fun k => w.heap.size ≤ k) (fun _ => False) rfl ?hx (k31_mkM _ _ _ _) (fun k h => h.elim) (fun k hk => Nat.le_trans (Nat.le_trans HB.out.size (HBW.out _ _).size) hk) (Kd.R_below HRW.out (HBW.out _ _)) ((HBW.out _ _).mono (Nat.zero_le _)) (Nat.zero_le _) (by have := HLI.out; omega) ?_
               case hx => show Value.slice _ 1 1 = Value.slice _ 1 1; simp only [World.size_setCell, World.size_alloc]
               intro v7 w7 h1 h2 h3 h4
               have H1 := Aside0.mk h1
               have H3 := Aside0.mk h3
               clear h1 h2 h3 h4))
          go_roundg (gk - 1)
          case measure => omega
          case rel =>
            refine ⟨i + 1, by go_num, by omega, by omega, by omega, ⟨?_⟩, ⟨(below_step HB.out (HBW.out _ _)).grown H3.out (below_step HB.out (HBW.out _ _)).size (fun k e => HRW.out.1 k e)⟩⟩
            rw [HTK.out, HSX.out]
            have ha := HA.out
            have hv := HV.out
            simp only [ha, hv, if_true, if_false, Bool.false_eq_true]
            exact H1.out
      · have q1 : (12 : Int) ≤ (i : Int) := by omega
        have HL12 := Aside0.mk (HT12.out (by omega))
        have HB2 := Aside0.mk (HB.out.trans (hb2.mono HB.out.size))
        have HRW2 := Aside0.mk (Kd.R_below HRW.out hb2)
        clear hb2 HT12 HTK h2 h12 hx0
        go_wp2_with (first | (go_at_call 42; refine (HSO.out _ _ _ HL12.out HB2.out.size HRW2.out).mono ?_; rintro e w5 ⟨v5, rfl, h1, h2⟩; have H1 := Aside0.mk h1; have H2 := Aside0.mk h2; clear h1 h2))
        go_ret
        exact ⟨_, rfl, H1.out, below_step HB2.out H2.out⟩
    · have hiz : i = ws.length := by omega
      subst hiz
      have HL12 : Aside0 ((ws.take ws.length).map someX = someL ws) := ⟨by unfold someL; rw [List.take_length, List.take_of_length_le h12]⟩
      clear hi hlt hn h12
      go_wp2_with (first | (go_at_call 42; refine (HSO.out _ _ _ HL12.out HB.out.size HRW.out).mono ?_; rintro e w5 ⟨v5, rfl, h1, h2⟩; have H1 := Aside0.mk h1; have H2 := Aside0.mk h2; clear h1 h2))
      go_ret
      exact ⟨_, rfl, H1.out, below_step HB.out H2.out⟩
end Go.Proofs.Ytmafibbnojdpjaa.St
end
section
set_option linter.unusedVariables false
set_option maxRecDepth 100000
set_option linter.unusedSimpArgs false
namespace Go.Proofs.Ytmafibbnojdpjaa.St
open Go.Proofs.Ytmafibbnojdpjaa.Tr Go.RowKit Go.Proofs.YtmafibbnojdpjaaW.PrintWords Go.Proofs.YtmafibbnojdpjaaW.PrintLast Go.Proofs.YtmafibbnojdpjaaW.PrintMore Go.Proofs.Ytmafibbnojdpjaa.P
attribute [local go_sem] Oper.semAt_some
def wsA (wss : List (List Wr)) (i : Nat) : List Wr := wss.getD i []
theorem wsA_eq {wss : List (List Wr)} {i : Nat} (h : i < wss.length) : wsA wss i = wss[i] := by simp [wsA, List.getD, h]
theorem rd_wsA (wss : List (List Wr)) (i : Nat) : rd_L9 wss (i : Int) = wsA wss i := by simp [rd_L9, wsA]
def cmI (first : Int) (wss : List (List Wr)) (i : Nat) : Cm := ⟨first + (i : Int), 10 * (i : Int), someW (wsA wss i)⟩
def listTo (first : Int) (wss : List (List Wr)) (n : Nat) : List Cm := (List.range n).map (cmI first wss)
def listC (first : Int) (wss : List (List Wr)) : List Cm := listTo first wss wss.length
theorem listTo_succ (first : Int) (wss : List (List Wr)) (n : Nat) : listTo first wss (n + 1) = listTo first wss n ++ [cmI first wss n] := by
  unfold listTo
  rw [List.range_succ, List.map_append]
  rfl
theorem listTo_len (first : Int) (wss : List (List Wr)) (n : Nat) : (listTo first wss n).length = n := by simp [listTo]
/-- what the rows ask of their writes -/
def okWs (ws : List Wr) : Prop := ws.length < 4611686018427387904 ∧ ∀ x ∈ ws, x.f0.size ≤ 140737488351232
set_option maxHeartbeats 16000000 in
theorem list_any (first : Int) (wss : List (List Wr)) (A : Option Addr) (c : Nat) (w : World) (hr : Kd.C (Kd.slice 31 k31) w A wss.length wss) (hn : wss.length ≤ 1000) (hok : ∀ ws ∈ wss, okWs ws) (h0 : 0 ≤ first) (h1 : first ≤ 1000000) :
    Calls Try.prog 47 #[.int .i64 first, .slice A wss.length c] w fun e w' => ∃ v, e = .returned v ∧ Kd.R k28 28 w' 0 (fun k => w.heap.size ≤ k) v (listC first wss) ∧ Below w.heap.size w w' := by
  have HR := Aside0.mk hr
  have HOK := Aside0.mk hok
  have HB0 : Aside0 (Below w.heap.size w (w.alloc (.cells #[] 28))) := ⟨below_alloc (Below.refl _ _) _⟩
  have HE0 : Aside0 (Kd.R k28 28 (w.alloc (.cells #[] 28)) 0 (fun k => w.heap.size ≤ k) (.slice (some ⟨w.heap.size, 0, none⟩) 0 0) (listTo first wss 0)) := ⟨R_empty k28 _ 28 _ _ _ (Nat.zero_le _) (Nat.le_refl _) (heap_alloc_new _ _)⟩
  clear hr hok
  go_enter Try.func47, Try.ntmps47
  go_wp2
  generalize w.alloc (.cells #[] 28) = W1 at *
  go_loopg [11, 5] (wss.length + 1) (fun kq v11 v5 wq => ∃ (i : Nat), v11 = .int .i64 (i : Int) ∧ i ≤ wss.length ∧ wss.length - i < kq ∧ Aside0 (Kd.R k28 28 wq 0 (fun k => w.heap.size ≤ k) v5 (listTo first wss i)) ∧ Aside0 (Below w.heap.size w wq))
  case atStart => exact ⟨0, rfl, Nat.zero_le _, by omega, HE0, HB0⟩
  case round =>
    clear HE0 HB0
    obtain ⟨i, rfl, hi, hk, HRW, HB⟩ := hrel
    have z0 : (0 : Int) ≤ (i : Int) := by omega
    by_cases hlt : i < wss.length
    · have z1 : (i : Int) < (wss.length : Int) := by omega
      obtain ⟨ad5, A5, c5, eA, f0, f1, f2⟩ := at_L9 (Kd.C_below HR.out HB.out) (i : Int) z0 z1
      rw [rd_wsA, Int.toNat_natCast] at f0
      rw [rd_wsA] at f1 f2
      subst eA
      have hli := listTo_len first wss i
      obtain ⟨A3, c3, ev⟩ := Kd.R_slice HRW.out
      rw [hli] at ev
      subst ev
      have hw := HOK.out _ (by rw [wsA_eq hlt]; exact List.getElem_mem hlt : wsA wss i ∈ wss)
      have HSM := Aside0.mk (some_any (wsA wss i) A5 c5 wr f2 f1 hw.1 hw.2)
      have HTK : Aside0 (listTo first wss (i + 1) = listTo first wss i ++ [(⟨first + (i : Int), 10 * (i : Int), someW (wsA wss i)⟩ : Cm)]) := ⟨listTo_succ _ _ _⟩
      have HLI := Aside0.mk hli
      have hw1 : IntKind.i64.wrap (first + (i : Int)) = first + (i : Int) := by rw [IntKind.wrap_i64]; omega
      have hw2 : wrap64 (first + (i : Int)) = first + (i : Int) := w64 (by omega) (by omega)
      have hw3 : IntKind.i64.wrap (10 * (i : Int)) = 10 * (i : Int) := by rw [IntKind.wrap_i64]; omega
      have hw4 : wrap64 (10 * (i : Int)) = 10 * (i : Int) := w64 (by omega) (by omega)
      generalize listTo first wss i = L3 at *
      generalize wsA wss i = ws at *
      clear hli f1 f2 hw
      go_wp2_with (first
        | (go_at_call 54; refine HSM.out.mono ?_; rintro e w5 ⟨v5, rfl, h5, hb5⟩; obtain ⟨A7, n7, ev7⟩ := Kd.R_slice h5; subst ev7; have H5 := Aside0.mk h5; have HB5 := Aside0.mk hb5; clear h5 hb5)
        | ((with_reducible refine gate_builtin (b := .append) (xs := #[.tmp 16, .tmp 25]) rfl ?_); at_builtin
           refine Kd.R_append k28 (w0 := w5) 0 rfl (.tmp 16) (.tmp 25) 23 28 (.agg #[.int .i64 0, .int .i64 0, .slice none 0 0]) 40 rfl Try.underlying23 info28 rfl (by decide) (by decide) (.slice A3 i c3) L3 (⟨first + (i : Int), 10 * (i : Int), someW ws⟩ : Cm) [.int .i64 (first + (i : Int)), .int .i64 (10 * (i : Int)), .slice A7 (someW ws).length n7] (fun k => w.heap.size ≤ k) (fun k => wr.heap.size ≤ k) rfl ?hx (k28_mkM _ _ _ _ H5.out) (fun k (hk : wr.heap.size ≤ k) => ⟨Nat.le_trans HB.out.size hk, fun e => by have := Kd.R_lt HRW.out k e.symm; omega⟩) (fun k hk => Nat.le_trans (Nat.le_trans HB.out.size HB5.out.size) hk) (Kd.R_below HRW.out HB5.out) (Below.refl _ _) (Nat.zero_le _) (by have := HLI.out; omega) ?_
           case hx => show Value.slice _ 1 1 = Value.slice _ 1 1; first | rfl | (rw [World.size_alloc])
           intro v7 w7 h1 h2 h3 h4
           have H1 := Aside0.mk h1
           have H3 := Aside0.mk h3
           clear h1 h2 h3 h4))
      go_roundg (gk - 1)
      case measure => omega
      case rel => exact ⟨i + 1, by go_num, by omega, by omega, ⟨by rw [HTK.out]; exact H1.out⟩, ⟨(below_step HB.out HB5.out).grown H3.out (below_step HB.out HB5.out).size (fun k e => HRW.out.1 k e)⟩⟩
    · have hiz : i = wss.length := by omega
      subst hiz
      clear hi hlt
      go_wp2
      go_ret
      exact ⟨_, rfl, HRW.out, HB.out⟩
end Go.Proofs.Ytmafibbnojdpjaa.St
end
section
set_option linter.unusedVariables false
set_option maxRecDepth 100000
set_option linter.unusedSimpArgs false
namespace Go.Proofs.Ytmafibbnojdpjaa.St
open Go.Proofs.Ytmafibbnojdpjaa.Tr Go.RowKit Go.Proofs.YtmafibbnojdpjaaW.PrintWords Go.Proofs.YtmafibbnojdpjaaW.PrintLast Go.Proofs.YtmafibbnojdpjaaW.PrintMore Go.Proofs.Ytmafibbnojdpjaa.P
set_option maxHeartbeats 8000000 in
theorem made_any (q : Int) (ws : List Wr) (cs : List Cm) (A1 A2 : Option Addr) (c1 c2 : Nat) (w : World) (hr1 : Kd.C k31 w A1 ws.length ws) (hc1 : ws.length ≤ c1) (hn1 : ws.length ≤ 1000)
    (hr2 : Kd.C k28 w A2 cs.length cs) (hc2 : cs.length ≤ c2) (hn2 : cs.length ≤ 1000) (hwl : ∀ i, i < cs.length → (cA cs i).f2.length < 4611686018427387904) (MM : StM) (hst : stateM q ws cs = some MM) :
    Calls Try.prog 48 #[.int .i64 q, .slice A1 ws.length c1, .slice A2 cs.length c2] w fun e w' => ∃ s, e = .returned (.tuple #[.pointer (some ⟨s, 0, none⟩), .bool true]) ∧ StoreAt (fun k => w.heap.size ≤ k) w' s MM ∧ Inv MM ∧ Below w.heap.size w w' := by
  have HNW := Aside0.mk (new_any q ws A1 c1 w hr1 hc1 (by omega))
  have HR2 := Aside0.mk hr2
  have HWL := Aside0.mk hwl
  have hnew : newOk q ws = true := by
    unfold stateM at hst
    cases h : newOk q ws with
    | true => rfl
    | false => rw [h, if_neg (by decide)] at hst; cases hst
  have HRM : Aside0 (runM (newM q ws) cs = some MM) := ⟨by unfold stateM at hst; rw [hnew, if_pos rfl] at hst; exact hst⟩
  clear hr1 hr2 hwl hst
  go_enter Try.func48, Try.ntmps48
  go_wp2_with (first | (go_at_call 35; refine HNW.out.mono ?_; rintro e w1 ⟨hb, _, h1⟩; obtain ⟨s, rfl, hs⟩ := h1 hnew; have HB1 := Aside0.mk hb; have HS1 : Aside0 (StoreAt (fun k => w.heap.size ≤ k) w1 s (newM q ws)) := ⟨hs⟩; clear hb h1 hs))
  have HI0 := Aside0.mk (inv_new hnew)
  have HKL : Aside0 ((newM q ws).K.length ≤ 1000 + 200 * 0) := ⟨by have := newAll_length q ws; show (newAll q ws).length ≤ _; omega⟩
  clear HNW hnew
  go_loopg [22] (cs.length + 1) (fun kq v22 wq => ∃ (i : Nat) (M : StM), v22 = .int .i64 (i : Int) ∧ i ≤ cs.length ∧ cs.length - i < kq ∧ Aside0 (runM (newM q ws) (cs.take i) = some M) ∧ Aside0 (StoreAt (fun k => w.heap.size ≤ k) wq s M) ∧ Aside0 (Inv M) ∧ Aside0 (M.hist.length = i ∧ M.K.length ≤ 1000 + 200 * i) ∧ Aside0 (Below w.heap.size w wq))
  case atStart => exact ⟨0, newM q ws, rfl, Nat.zero_le _, by omega, ⟨rfl⟩, HS1, HI0, ⟨rfl, HKL.out⟩, HB1⟩
  case round =>
    clear HS1 HI0 HKL HB1
    obtain ⟨i, M, rfl, hi, hk, HRN, HS, HI, HSZ, HB⟩ := hrel
    have z0 : (0 : Int) ≤ (i : Int) := by omega
    by_cases hlt : i < cs.length
    · have z1 : (i : Int) < (cs.length : Int) := by omega
      obtain ⟨ad5, A5, c5, eA, f0, f1, f2, f3, f4⟩ := at_T28 (Kd.C_below HR2.out HB.out) (i : Int) z0 z1
      rw [rd_cA, Int.toNat_natCast] at f0 f1 f2
      rw [rd_cA] at f3 f4
      subst eA
      have hb2 : Below wr.heap.size wr (wr.alloc (.cells #[.int .i64 (cA cs i).f0, .int .i64 (cA cs i).f1, .slice A5 (cA cs i).f2.length c5] 28)) := below_alloc (Below.refl _ _) _
      have HCM := Aside0.mk (com_any (HS.out.below hb2) HI.out (fun k hk => Nat.le_trans HB.out.size (Nat.le_trans hb2.size hk)) ⟨by have := HSZ.out.1; omega, by have := HSZ.out.2; omega⟩ (cA cs i) A5 c5 (Kd.C_below f4 hb2) f3 (HWL.out i hlt))
      have HRT := Aside0.mk (run_take hlt HRN.out)
      rw [← cA_eq hlt] at HRT
      have HGW : Aside0 (goodC M (cA cs i) = true → (cA cs i).f2.length ≤ 200) := ⟨fun h => by
        have := (goodC_iff.1 h).2.2.2.2.1
        unfold rightW at this
        rw [Bool.and_eq_true, decide_eq_true_eq] at this
        exact this.1⟩
      have HB2 := Aside0.mk (HB.out.trans (hb2.mono HB.out.size))
      clear f3 f4 hb2
      obtain ⟨d0, d1, d2⟩ := three_new wr 28 (.int .i64 (cA cs i).f0) (.int .i64 (cA cs i).f1) (.slice A5 (cA cs i).f2.length c5)
      have hg : goodC M (cA cs i) = true := by
        cases h : goodC M (cA cs i) with
        | true => rfl
        | false =>
          have h1 := HRT.out
          rw [h, if_neg (by decide)] at h1
          have h2 := HRM.out
          rw [run_none h1] at h2
          cases h2
      have HI2 := Aside0.mk (inv_com HI.out hg)
      rw [hg, if_pos rfl] at HRT
      have hW := HGW.out hg
      have HK2 : Aside0 ((comM M (cA cs i)).hist.length = i + 1 ∧ (comM M (cA cs i)).K.length ≤ 1000 + 200 * (i + 1)) := ⟨by
        have h1 := putAll_length (s := (cA cs i).f0) (cA cs i).f2 M.K
        refine ⟨by simp [comM, HSZ.out.1], ?_⟩
        show (putAll (cA cs i).f0 M.K (cA cs i).f2).length ≤ _
        have := HSZ.out.2
        omega⟩
      unfold errC stepM at HCM
      rw [hg, if_pos rfl, if_pos rfl] at HCM
      generalize comM M (cA cs i) = M2 at *
      clear hg hW
      generalize cA cs i = x at *
      go_wp2_with (first | (go_at_call 36; refine HCM.out.mono ?_; rintro e w5 ⟨rfl, hs5, hf5⟩; have HS5 := Aside0.mk hs5; have HB5 := Aside0.mk (fr_below (fun k hk => hk) HB2.out hf5); clear hs5 hf5))
      go_roundg (gk - 1)
      case measure => omega
      case rel => exact ⟨i + 1, M2, by go_num, by omega, by omega, HRT, HS5, HI2, HK2, HB5⟩
    · have hiz : i = cs.length := by omega
      subst hiz
      clear hi hlt hk
      have h1 := HRN.out
      rw [List.take_length] at h1
      have HE : Aside0 (M = MM) := ⟨by have h2 := HRM.out; rw [h1] at h2; injection h2⟩
      clear h1
      go_wp2
      go_ret2
      rw [← HE.out]
      exact ⟨s, rfl, HS.out, HI.out, HB.out⟩
end Go.Proofs.Ytmafibbnojdpjaa.St
end
section
set_option linter.unusedVariables false
set_option maxRecDepth 100000
set_option linter.unusedSimpArgs false
namespace Go.Proofs.Ytmafibbnojdpjaa.St
open Go.Proofs.Ytmafibbnojdpjaa.Tr Go.RowKit Go.Proofs.YtmafibbnojdpjaaW.PrintWords Go.Proofs.YtmafibbnojdpjaaW.PrintLast Go.Proofs.YtmafibbnojdpjaaW.PrintMore Go.Proofs.Ytmafibbnojdpjaa.P
theorem ins_facts (ws : List Wr) : ∀ a ∈ insAll ws, a.2.f0 = a.1 ∧ a.2 ∈ ws := by
  refine list_snoc (p := fun l => ∀ a ∈ insAll l, a.2.f0 = a.1 ∧ a.2 ∈ l) (fun a ha => by cases ha) (fun l x h => ?_) ws
  rw [insAll_snoc]
  intro a ha
  rcases mem_insK.1 ha with rfl | ⟨h1, _⟩
  · exact ⟨rfl, by simp⟩
  · exact ⟨(h a h1).1, List.mem_append_left _ (h a h1).2⟩
theorem sorted_mem {ws : List Wr} {x : Wr} (h : x ∈ sortedW ws) : x ∈ ws := by
  obtain ⟨a, ha, rfl⟩ := List.mem_map.1 h
  exact (ins_facts ws a ha).2
theorem sorted_pair (ws : List Wr) : (sortedW ws).Pairwise fun a b => kl a.f0 b.f0 := by
  unfold sortedW
  rw [List.pairwise_map]
  refine List.Pairwise.imp_of_mem (fun {a b} ha hb h => ?_) (srtK_insAll ws)
  rw [(ins_facts ws a ha).1, (ins_facts ws b hb).1]
  exact h
theorem rises_of {l : List Wr} (h1 : l.Pairwise fun a b => kl a.f0 b.f0) (h2 : ∀ x ∈ l, okW x = true) : rises l = true := by
  unfold rises
  rw [rises_iff]
  intro i hi
  unfold okAt
  rw [Bool.and_eq_true, Bool.or_eq_true, decide_eq_true_eq, decide_eq_true_eq]
  refine ⟨by rw [wA_eq hi]; exact h2 _ (List.getElem_mem hi), ?_⟩
  rcases Nat.eq_zero_or_pos i with h | h
  · exact .inl h
  · refine .inr ?_
    rw [wA_eq hi, wA_eq (show i - 1 < l.length by omega)]
    exact List.pairwise_iff_getElem.1 h1 (i - 1) i (by omega) hi (by omega)
theorem keyX_size (s : ByteArray) : 0 < (keyX s).size := by
  unfold keyX cutS
  have h : (⟨#[107]⟩ ++ s : ByteArray).size = 1 + s.size := by rw [ByteArray.size_append]; rfl
  split
  · rw [ByteArray.size_extract]; omega
  · omega
theorem someX_ok (x : Wr) : okW (someX x) = true := by
  unfold okW someX
  have h1 := keyX_size x.f0
  have h2 : (keyX x.f0).size ≤ 20 := cutS_size _ _
  have h3 : (valX x).size ≤ 40 := by
    unfold valX
    split
    · exact Nat.zero_le _
    · exact cutS_size _ _
  have h4 : (x.f2 && decide ((valX x).size ≠ 0)) = false := by
    cases hg : x.f2 with
    | false => rfl
    | true =>
      unfold valX
      rw [hg, if_pos rfl]
      rfl
  simp only [h4, Bool.not_false, Bool.and_true, Bool.and_eq_true, decide_eq_true_eq]
  omega
theorem some_len (ws : List Wr) : (someW ws).length ≤ 12 := Nat.le_trans (sortedW_len _) (someL_len ws)
theorem some_ok (ws : List Wr) : ∀ x ∈ someW ws, okW x = true := fun x hx => by
  obtain ⟨y, _, rfl⟩ := List.mem_map.1 (sorted_mem hx)
  exact someX_ok y
theorem some_right (ws : List Wr) : rightW (someW ws) = true := by
  unfold rightW
  rw [Bool.and_eq_true, decide_eq_true_eq]
  have := some_len ws
  exact ⟨by omega, rises_of (sorted_pair _) (some_ok ws)⟩
/-- commits one behind the other are taken -/
theorem list_last (first : Int) (wss : List (List Wr)) (n : Nat) : lastAt (listTo first wss n) = if n = 0 then 0 else 10 * ((n - 1 : Nat) : Int) := by
  unfold lastAt
  rcases Nat.eq_zero_or_pos n with h | h
  · subst h
    rfl
  · have hl := listTo_len first wss n
    rw [dif_neg (by omega), if_neg (by omega)]
    simp only [listTo, List.length_map, List.length_range, List.getElem_map, List.getElem_range]
    rfl
theorem list_good {M : StM} {first : Int} {wss : List (List Wr)} {n : Nat} (hq : lastM M = first - 1 + (n : Int)) (hm : first + (n : Int) ≤ maxSeq) (hn : n ≤ 1000) (hh : M.hist = listTo first wss n) : goodC M (cmI first wss n) = true := by
  rw [goodC_iff]
  refine ⟨?_, hm, ?_, ?_, some_right _, ?_⟩
  · show first + (n : Int) = _
    omega
  · show (0 : Int) ≤ 10 * (n : Int)
    omega
  · show 10 * (n : Int) ≤ maxSeq
    unfold maxSeq
    omega
  · rw [hh, listTo_len, list_last]
    rcases Nat.eq_zero_or_pos n with h | h
    · exact .inl h
    · refine .inr ?_
      rw [if_neg (by omega)]
      show 10 * ((n - 1 : Nat) : Int) ≤ 10 * (n : Int)
      omega
theorem list_run {M : StM} (hi : Inv M) {first : Int} {wss : List (List Wr)} (hq : lastM M + 1 = first) (hm : first + 1000 ≤ maxSeq) (hh : M.hist = []) (n : Nat) (hn : n ≤ 1000) :
    ∃ M', runM M (listTo first wss n) = some M' ∧ Inv M' ∧ M'.hist = listTo first wss n ∧ M'.low = M.low ∧ lastM M' = first - 1 + (n : Int) := by
  induction n with
  | zero => exact ⟨M, rfl, hi, hh, rfl, by omega⟩
  | succ n ih =>
    obtain ⟨M', h1, h2, h3, h4, h5⟩ := ih (by omega)
    have hg := list_good (M := M') (first := first) (wss := wss) (n := n) h5 (by omega) (by omega) h3
    refine ⟨comM M' (cmI first wss n), ?_, inv_com h2 hg, ?_, h4, ?_⟩
    · rw [listTo_succ, run_append, h1]
      show (if goodC M' (cmI first wss n) = true then some _ else none) = _
      rw [if_pos hg]
    · show M'.hist ++ [cmI first wss n] = _
      rw [h3, listTo_succ]
    · rw [last_com, h5]
      omega
set_option maxHeartbeats 1000000 in
theorem few_any (A : Option Addr) (n c : Nat) (w : World) : Calls Try.prog 46 #[.slice A n c] w fun e w' => e = .returned (.bool (decide ((n : Int) ≤ 30))) ∧ w' = w := by
  go_enter Try.func46, Try.ntmps46
  go_wp2
  go_ret
  exact ⟨rfl, rfl⟩
end Go.Proofs.Ytmafibbnojdpjaa.St
end
section
set_option linter.unusedVariables false
set_option maxRecDepth 100000
set_option linter.unusedSimpArgs false
namespace Go.Proofs.Ytmafibbnojdpjaa.St
open Go.Proofs.Ytmafibbnojdpjaa.Tr Go.RowKit Go.Proofs.YtmafibbnojdpjaaW.PrintWords Go.Proofs.YtmafibbnojdpjaaW.PrintLast Go.Proofs.YtmafibbnojdpjaaW.PrintMore Go.Proofs.Ytmafibbnojdpjaa.P
/-- the store of the lists' commits -/
theorem list_state (wss : List (List Wr)) (hn : wss.length ≤ 1000) : ∃ M, runM hM0 (listC 1 wss) = some M ∧ Inv M ∧ M.hist = listC 1 wss ∧ M.low = 0 ∧ lastM M = (wss.length : Int) := by
  obtain ⟨M, h1, h2, h3, h4, h5⟩ := list_run hI0 (first := 1) (wss := wss) rfl (by decide) rfl wss.length hn
  exact ⟨M, h1, h2, h3, h4, by rw [h5]; omega⟩
theorem run_lens : ∀ (cs : List Cm) (M M' : StM), runM M cs = some M' → M'.K.length ≤ M.K.length + 200 * cs.length ∧ M'.hist.length = M.hist.length + cs.length ∧ (KeyOk M.K → KeyOk M'.K)
  | [], M, M', h => by cases h; exact ⟨by simp, by simp, fun h => h⟩
  | c :: cs, M, M', h => by
    have h0 : (if goodC M c = true then runM (comM M c) cs else none) = some M' := h
    by_cases hg : goodC M c = true
    · rw [if_pos hg] at h0
      obtain ⟨h1, h2, h3⟩ := run_lens cs _ _ h0
      have h4 : (comM M c).K.length ≤ M.K.length + c.f2.length := putAll_length _ _
      have h5 : c.f2.length ≤ 200 := by
        have := (goodC_iff.1 hg).2.2.2.2.1
        unfold rightW at this
        rw [Bool.and_eq_true, decide_eq_true_eq] at this
        exact this.1
      refine ⟨?_, ?_, fun hk => h3 (keyOk_com hk hg)⟩
      · rw [List.length_cons]; omega
      · rw [h2]; simp [comM]; omega
    · rw [if_neg hg] at h0
      cases h0
end Go.Proofs.Ytmafibbnojdpjaa.St
end
section
set_option linter.unusedVariables false
set_option maxRecDepth 100000
set_option linter.unusedSimpArgs false
namespace Go.Proofs.Ytmafibbnojdpjaa.St
open Go.Proofs.Ytmafibbnojdpjaa.Tr Go.RowKit Go.Proofs.YtmafibbnojdpjaaW.PrintWords Go.Proofs.YtmafibbnojdpjaaW.PrintLast Go.Proofs.YtmafibbnojdpjaaW.PrintMore Go.Proofs.Ytmafibbnojdpjaa.P
def keyW (k : ByteArray) (ws : List Wr) : List Wr := ws.filter fun x => decide (x.f0 = k)
theorem chain_hist (z : ByteArray) : ∀ (cs : List Cm) {M M' : StM}, Inv M → runM M cs = some M' → chainK M'.K z = chainK M.K z ++ cs.flatMap (fun c => (keyW z c.f2).map (verOf c.f0)) ∧ Inv M'
  | [], M, M', hi, h => by cases h; exact ⟨by simp, hi⟩
  | c :: cs, M, M', hi, h => by
    have h0 : (if goodC M c = true then runM (comM M c) cs else none) = some M' := h
    by_cases hg : goodC M c = true
    · rw [if_pos hg] at h0
      obtain ⟨g1, g2⟩ := chain_hist z cs (inv_com hi hg) h0
      rw [show (comM M c).K = putAll c.f0 M.K c.f2 from rfl, chain_putAll c.f2 (right_pair (goodC_iff.1 hg).2.2.2.2.1) M.K hi.srt z] at g1
      refine ⟨?_, g2⟩
      rw [g1, List.flatMap_cons, List.append_assoc]
      rfl
    · rw [if_neg hg] at h0
      cases h0
end Go.Proofs.Ytmafibbnojdpjaa.St
end
section
set_option linter.unusedVariables false
set_option maxRecDepth 100000
set_option linter.unusedSimpArgs false
namespace Go.Proofs.Ytmafibbnojdpjaa.St
open Go.Proofs.Ytmafibbnojdpjaa.Tr Go.RowKit Go.Proofs.YtmafibbnojdpjaaW.PrintWords Go.Proofs.YtmafibbnojdpjaaW.PrintLast Go.Proofs.YtmafibbnojdpjaaW.PrintMore Go.Proofs.Ytmafibbnojdpjaa.P
attribute [local go_sem] Oper.semAt_some
/-- was a key written behind a commit? -/
def wroteK (M : StM) (q : Int) (x : Wr) : Bool := decide (q < lastV (chainK M.K x.f0))
variable {G : Nat → Prop} {col : Nat → Nat} {w w' : World} {s : Nat} {M : StM} {H : Value} {L : List Tr.Item}
set_option maxHeartbeats 4000000 in
theorem free_fn (h : StoreC G col w s M H L) (hinv : Inv M) (hsz : M.K.length ≤ 2000000) (x : Wr) (q : Int) (b0 b1 : Nat) (h0 : Boxed w b0 32 (.pointer (some ⟨s, 0, none⟩))) (h1 : Boxed w b1 3 (.int .i64 q)) :
    Calls Try.prog 88 #[.agg #[.string x.f0, .string x.f1, .bool x.f2], .pointer (some ⟨b0, 0, none⟩), .pointer (some ⟨b1, 0, none⟩)] w fun e w' => e = .returned (.bool (wroteK M q x)) ∧ Below w.heap.size w w' := by
  have hb2 : Below w.heap.size w (w.alloc (.cells #[.string x.f0, .string x.f1, .bool x.f2] 31)) := below_alloc (Below.refl _ _) _
  obtain ⟨d0, d1, d2⟩ := three_new w 31 (.string x.f0) (.string x.f1) (.bool x.f2)
  have c0 := (Boxed.upB h0 hb2).cell
  have HGC : Aside0 (∀ W, Below w.heap.size w W → Calls Try.prog 67 #[.pointer (some ⟨s, 0, none⟩), .string x.f0] W fun e w' => ∃ A c g, e = .returned (.tuple #[.slice A (chainK M.K x.f0).length c, .bool g]) ∧ (chainK M.K x.f0).length ≤ c ∧ Kd.C k118 W A (chainK M.K x.f0).length (chainK M.K x.f0) ∧ Below W.heap.size W w') := ⟨fun W hW => by
    refine (get_chain (h.below hW) hinv.srt (by unfold maxTree; omega) x.f0).mono ?_
    rintro e w' ⟨v, rfl, hr, hb⟩
    obtain ⟨A, c, ev, hc, hC⟩ := Kd.R_reads hr
    subst ev
    exact ⟨A, c, _, rfl, hc, hC, hb⟩⟩
  have HLN : Aside0 ((chainK M.K x.f0).length < 4611686018427387904) := ⟨chain_len hinv.mid (by have := hinv.last0; omega) hinv.last x.f0⟩
  have H1 := Aside0.mk h1
  have HB2 := Aside0.mk hb2
  obtain ⟨ch, hch⟩ : ∃ ch, ch = chainK M.K x.f0 := ⟨_, rfl⟩
  have HWK : Aside0 (wroteK M q x = decide (q < lastV ch)) := ⟨by unfold wroteK; rw [hch]⟩
  rw [← hch] at HGC HLN
  rw [HWK.out]
  clear h h0 h1 hinv hb2 hch
  go_enter Try.func88, Try.ntmps88
  go_wp2
  have SD : Aside0 (∀ W, Below (w.alloc (.cells #[.string x.f0, .string x.f1, .bool x.f2] 31)).heap.size (w.alloc (.cells #[.string x.f0, .string x.f1, .bool x.f2] 31)) W → (fun W : World => W.cell? ⟨b0, 0, none⟩ = some (.pointer (some ⟨s, 0, none⟩)) ∧ W.cell? ⟨w.heap.size, 0, none⟩ = some (.string x.f0)) W) := ⟨fun W hW => ⟨up hW c0, up hW d0⟩⟩
  have S0 := SD.out _ (below_drew1 (Below.refl _ _))
  clear c0 d0 d1 d2
  go_region_held3 (fun W : World => W.cell? ⟨b0, 0, none⟩ = some (.pointer (some ⟨s, 0, none⟩)) ∧ W.cell? ⟨w.heap.size, 0, none⟩ = some (.string x.f0)) (first | exact S0 | exact S8) (first
    | (go_at_call 67; refine (HGC.out _ (by repeat (first | exact HB2.out | apply below_alloc | apply pw_below_drewN | apply below_drew1 | exact Below.refl _ _))).mono ?_; rintro e w8 ⟨A8, c8, g8, rfl, hc8, hC8, hb8⟩
       have hb9 : Below (w.alloc (.cells #[.string x.f0, .string x.f1, .bool x.f2] 31)).heap.size (w.alloc (.cells #[.string x.f0, .string x.f1, .bool x.f2] 31)) w8 := below_step (by repeat (first | apply pw_below_drewN | apply below_drew1 | exact Below.refl _ _)) hb8
       have S8 := SD.out w8 hb9
       have HC8 := Aside0.mk (Kd.C_below hC8 hb8)
       have HCC := Aside0.mk hc8
       have HB8 := Aside0.mk (below_step HB2.out hb9)
       clear hb8 hb9 hC8 hc8))
  clear S0 S8
  have k1 := Boxed.upB H1.out HB8.out
  have SE : Aside0 (∀ W, Below w8.heap.size w8 W → (fun W : World => W.cell? ⟨b1, 0, none⟩ = some (.int .i64 q)) W) := ⟨fun W hW => (Boxed.upB k1 hW).cell⟩
  have S1 := SE.out _ (below_drew1 (Below.refl _ _))
  have HCL : Aside0 (∀ W, Below w8.heap.size w8 W → Calls Try.prog 89 #[.slice A8 ch.length c8] W fun e w' => e = .returned (.int .i64 (lastV ch)) ∧ Below W.heap.size W w') := ⟨fun W hW => chlast_any ch A8 c8 W (Kd.C_below HC8.out hW) HCC.out HLN.out⟩
  clear k1
  go_wp2
  go_region_held3 (fun W : World => W.cell? ⟨b1, 0, none⟩ = some (.int .i64 q)) (first | exact S1 | exact S9) (first
    | (go_at_call 89; refine (HCL.out _ (by repeat (first | apply pw_below_drewN | apply below_drew1 | exact Below.refl _ _))).mono ?_; rintro e w9 ⟨rfl, hb8⟩
       have hb9 : Below w8.heap.size w8 w9 := below_step (by repeat (first | apply pw_below_drewN | apply below_drew1 | exact Below.refl _ _)) hb8
       have S9 := SE.out w9 hb9
       have HB9 := Aside0.mk (below_step HB8.out hb9)
       clear hb8 hb9))
  go_wp2
  go_ret
  exact ⟨rfl, HB9.out⟩
set_option maxHeartbeats 4000000 in
theorem index_fn (ws : List Wr) (A : Option Addr) (c : Nat) (w : World) (hr : Kd.C k31 w A ws.length ws) (hn : ws.length ≤ 1000000) (pr : Wr → Bool) (lb : Array Value) (b0 b1 : Addr) (hlb : lb = #[.pointer (some b0), .pointer (some b1)])
    (hf : ∀ W x, Below w.heap.size w W → Calls Try.prog 88 #[.agg #[.string x.f0, .string x.f1, .bool x.f2], .pointer (some b0), .pointer (some b1)] W fun e w' => e = .returned (.bool (pr x)) ∧ Below W.heap.size W w') :
    Calls Try.prog 110 #[.slice A ws.length c, .func (.func 88) #[] lb] w fun e w' => ∃ r : Int, e = .returned (.int .i64 r) ∧ decide (0 ≤ r) = ws.any pr ∧ Below w.heap.size w w' := by
  subst hlb
  have HR := Aside0.mk hr
  have HF := Aside0.mk hf
  clear hr hf
  go_enter Try.func110, Try.ntmps110
  go_wp2
  go_loopg [8] (ws.length + 1) (fun kq v8 wq => ∃ i : Nat, v8 = .int .i64 (i : Int) ∧ i ≤ ws.length ∧ ws.length - i < kq ∧ Aside0 ((ws.take i).any pr = false) ∧ Aside0 (Below w.heap.size w wq))
  case atStart => exact ⟨0, rfl, Nat.zero_le _, by omega, ⟨rfl⟩, ⟨Below.refl _ _⟩⟩
  case round =>
    obtain ⟨i, rfl, hi, hk, HN, HB⟩ := hrel
    have z0 : (0 : Int) ≤ (i : Int) := by omega
    by_cases hlt : i < ws.length
    · have z1 : (i : Int) < (ws.length : Int) := by omega
      obtain ⟨ad5, eA, f0, f1, f2⟩ := at_T31 (Kd.C_below HR.out HB.out) (i : Int) z0 z1
      rw [rd_wA, Int.toNat_natCast] at f0 f1 f2
      subst eA
      have HTK : Aside0 ((ws.take (i + 1)).any pr = ((ws.take i).any pr || pr (wA ws i))) := ⟨by rw [List.take_succ_eq_append_getElem hlt, List.any_append, wA_eq hlt]; simp⟩
      have HAL : Aside0 (pr (wA ws i) = true → ws.any pr = true) := ⟨fun h => List.any_eq_true.2 ⟨wA ws i, by rw [wA_eq hlt]; exact List.getElem_mem hlt, h⟩⟩
      have HFX := Aside0.mk (HF.out wr (wA ws i) HB.out)
      generalize wA ws i = x at *
      cases hp : pr x with
      | true =>
        rw [hp] at HFX
        have HQ := Aside0.mk (HAL.out hp)
        clear hp HAL
        go_wp2_with (first | (go_at_call 88; refine HFX.out.mono ?_; rintro e w5 ⟨rfl, hb⟩; have HB5 := Aside0.mk (below_step HB.out hb); clear hb))
        go_ret
        exact ⟨(i : Int), rfl, by rw [HQ.out]; exact decide_eq_true z0, HB5.out⟩
      | false =>
        rw [hp] at HFX
        have HQ : Aside0 ((ws.take (i + 1)).any pr = false) := ⟨by rw [HTK.out, HN.out, hp]; rfl⟩
        clear hp HAL HTK
        go_wp2_with (first | (go_at_call 88; refine HFX.out.mono ?_; rintro e w5 ⟨rfl, hb⟩; have HB5 := Aside0.mk (below_step HB.out hb); clear hb))
        go_roundg (gk - 1)
        case measure => omega
        case rel => exact ⟨i + 1, by go_num, by omega, by omega, HQ, HB5⟩
    · have hiz : i = ws.length := by omega
      subst hiz
      rw [List.take_length] at HN
      clear hi hlt hk
      go_wp2
      go_ret
      exact ⟨-1, rfl, by rw [HN.out]; rfl, HB.out⟩
set_option maxHeartbeats 4000000 in
theorem free_any (h : StoreC G col w s M H L) (hinv : Inv M) (hsz : M.K.length ≤ 2000000) (ws : List Wr) (A : Option Addr) (c : Nat) (hr : Kd.C k31 w A ws.length ws) (hn : ws.length ≤ 1000000) (q : Int) :
    Calls Try.prog 60 #[.pointer (some ⟨s, 0, none⟩), .slice A ws.length c, .int .i64 q] w fun e w' => e = .returned (.bool (!ws.any (wroteK M q))) ∧ Below w.heap.size w w' := by
  have hb2 : Below w.heap.size w ((w.alloc (.cells #[.pointer (some ⟨s, 0, none⟩)] 32)).alloc (.cells #[.int .i64 q] 3)) := below_alloc (below_alloc (Below.refl _ _) _) _
  have x0 : Boxed ((w.alloc (.cells #[.pointer (some ⟨s, 0, none⟩)] 32)).alloc (.cells #[.int .i64 q] 3)) w.heap.size 32 (.pointer (some ⟨s, 0, none⟩)) := (Boxed.new w 32 (.pointer (some ⟨s, 0, none⟩))).alloc _
  have x1 : Boxed ((w.alloc (.cells #[.pointer (some ⟨s, 0, none⟩)] 32)).alloc (.cells #[.int .i64 q] 3)) (w.heap.size + 1) 3 (.int .i64 q) := by
    have := Boxed.new (w.alloc (.cells #[.pointer (some ⟨s, 0, none⟩)] 32)) 3 (.int .i64 q)
    rwa [World.size_alloc] at this
  have HIX : Aside0 (∀ W, Below ((w.alloc (.cells #[.pointer (some ⟨s, 0, none⟩)] 32)).alloc (.cells #[.int .i64 q] 3)).heap.size ((w.alloc (.cells #[.pointer (some ⟨s, 0, none⟩)] 32)).alloc (.cells #[.int .i64 q] 3)) W → Calls Try.prog 110 #[.slice A ws.length c, .func (.func 88) #[] #[.pointer (some ⟨w.heap.size, 0, none⟩), .pointer (some ⟨w.heap.size + 1, 0, none⟩)]] W fun e w' => ∃ r : Int, e = .returned (.int .i64 r) ∧ decide (0 ≤ r) = ws.any (wroteK M q) ∧ Below W.heap.size W w') := ⟨fun W hW =>
    index_fn ws A c W (Kd.C_below (Kd.C_below hr hb2) hW) hn (wroteK M q) _ ⟨w.heap.size, 0, none⟩ ⟨w.heap.size + 1, 0, none⟩ rfl (fun W2 x hW2 => free_fn ((h.below hb2).below (below_step hW hW2)) hinv hsz x q w.heap.size (w.heap.size + 1) (Boxed.upB x0 (below_step hW hW2)) (Boxed.upB x1 (below_step hW hW2)))⟩
  have c0 := x0.cell
  have HB2 := Aside0.mk hb2
  have HCF : Aside0 (∀ W, Below ((w.alloc (.cells #[.pointer (some ⟨s, 0, none⟩)] 32)).alloc (.cells #[.int .i64 q] 3)).heap.size ((w.alloc (.cells #[.pointer (some ⟨s, 0, none⟩)] 32)).alloc (.cells #[.int .i64 q] 3)) W → Calls Try.prog 87 #[.slice A ws.length c, .func (.func 88) #[] #[.pointer (some ⟨w.heap.size, 0, none⟩), .pointer (some ⟨w.heap.size + 1, 0, none⟩)]] W fun e w' => e = .returned (.bool (ws.any (wroteK M q))) ∧ Below W.heap.size W w') := ⟨fun W hW => by
    have HI := Aside0.mk (HIX.out W hW)
    clear c0 x0 x1
    go_enter Try.func87, Try.ntmps87
    go_wp2_with (first | (go_at_call 110; refine HI.out.mono ?_; rintro e w5 ⟨r, rfl, hr5, hb⟩; have HR5 := Aside0.mk hr5; have HB5 := Aside0.mk hb; clear hb hr5))
    go_ret
    exact ⟨by show Ending.returned (.bool (decide (0 ≤ r))) = _; rw [HR5.out], HB5.out⟩⟩
  clear h hr hinv hb2 x0 x1 HIX
  go_enter Try.func60, Try.ntmps60
  go_wp2_with (first | (go_at_call 87; refine (HCF.out _ (by repeat (first | apply pw_below_drewN | apply below_drew1 | exact Below.refl _ _))).mono ?_; rintro e w5 ⟨rfl, hb⟩; have HB5 := Aside0.mk (below_step HB2.out hb); clear hb))
  go_ret
  exact ⟨rfl, HB5.out⟩
end Go.Proofs.Ytmafibbnojdpjaa.St
end
section
set_option linter.unusedVariables false
set_option maxRecDepth 100000
set_option linter.unusedSimpArgs false
namespace Go.Proofs.Ytmafibbnojdpjaa.St
open Go.Proofs.Ytmafibbnojdpjaa.Tr Go.RowKit Go.Proofs.YtmafibbnojdpjaaW.PrintWords Go.Proofs.YtmafibbnojdpjaaW.PrintLast Go.Proofs.YtmafibbnojdpjaaW.PrintMore Go.Proofs.Ytmafibbnojdpjaa.P
theorem listC_len (first : Int) (wss : List (List Wr)) : (listC first wss).length = wss.length := listTo_len _ _ _
theorem list_ws (first : Int) (wss : List (List Wr)) : ∀ c ∈ listC first wss, c.f2.length ≤ 12 := fun c hc => by
  obtain ⟨j, _, e⟩ := List.mem_map.1 (show c ∈ (List.range wss.length).map (cmI first wss) from hc)
  rw [← e]
  exact some_len _
end Go.Proofs.Ytmafibbnojdpjaa.St
end
section
set_option linter.unusedVariables false
set_option maxRecDepth 100000
set_option linter.unusedSimpArgs false
namespace Go.Proofs.Ytmafibbnojdpjaa.St
open Go.Proofs.Ytmafibbnojdpjaa.Tr Go.RowKit Go.Proofs.YtmafibbnojdpjaaW.PrintWords Go.Proofs.YtmafibbnojdpjaaW.PrintLast Go.Proofs.YtmafibbnojdpjaaW.PrintMore Go.Proofs.Ytmafibbnojdpjaa.P
theorem lastV_gt {c : List Ver} (h : c.Pairwise fun a b => a.f0 < b.f0) {q : Int} (hq : -1 ≤ q) : q < lastV c ↔ ∃ v ∈ c, q < v.f0 := by
  unfold lastV
  by_cases h0 : c.length = 0
  · rw [dif_pos h0]
    constructor
    · intro h; omega
    · rintro ⟨v, hv, _⟩
      rw [List.eq_nil_of_length_eq_zero h0] at hv
      cases hv
  · rw [dif_neg h0]
    constructor
    · exact fun h => ⟨_, List.getElem_mem _, h⟩
    · rintro ⟨v, hv, hlt⟩
      obtain ⟨i, hi, rfl⟩ := List.mem_iff_getElem.1 hv
      rcases Nat.lt_or_ge i (c.length - 1) with hlt2 | hge
      · have := List.pairwise_iff_getElem.1 h i (c.length - 1) hi (by omega) hlt2
        omega
      · have e : i = c.length - 1 := by omega
        subst e
        exact hlt
/-- nobody writes the keys of ys in x's commit .. -/
def apartX (ys : List Wr) (x : Wr) : Bool := ys.all fun y => !decide (x.f0 = y.f0)
def apartW (ys xs : List Wr) : Bool := xs.all (apartX ys)
def apartL (ys : List Wr) (D : List Cm) : Bool := D.all fun c => apartW ys c.f2
theorem frees_law (wss : List (List Wr)) (hn : wss.length ≤ 1000) {MM : StM} (hrun : runM hM0 (listC 1 wss) = some MM) (q : Nat) (ys : List Wr) : (!ys.any (wroteK MM (q : Int))) = apartL ys ((listC 1 wss).drop q) := by
  obtain ⟨M1, h1, h2, h3, h4, h5⟩ := list_state wss hn
  have e : M1 = MM := by rw [h1] at hrun; injection hrun
  subst e
  have hch : ∀ z, chainK M1.K z = (listC 1 wss).flatMap fun c => (keyW z c.f2).map (verOf c.f0) := fun z => by
    have := (chain_hist z _ hI0 h1).1
    rw [this]
    rfl
  have hwr : ∀ y : Wr, wroteK M1 (q : Int) y = true ↔ ∃ c ∈ (listC 1 wss).drop q, ∃ x ∈ c.f2, x.f0 = y.f0 := fun y => by
    unfold wroteK
    rw [decide_eq_true_eq, lastV_gt (chainK_ok h2.mid y.f0).up (by omega), hch]
    constructor
    · rintro ⟨v, hv, hlt⟩
      obtain ⟨c, hc, hv⟩ := List.mem_flatMap.1 hv
      obtain ⟨x, hx, rfl⟩ := List.mem_map.1 hv
      have hx' := List.mem_filter.1 hx
      have hk := hx'.2
      rw [decide_eq_true_eq] at hk
      refine ⟨c, ?_, x, hx'.1, hk⟩
      have hlt' : (q : Int) < c.f0 := hlt
      obtain ⟨i, hi, rfl⟩ := List.mem_iff_getElem.1 hc
      have hf : (listC 1 wss)[i].f0 = 1 + (i : Int) := by simp [listC, listTo, cmI]
      rw [hf] at hlt'
      rw [List.mem_iff_getElem]
      exact ⟨i - q, by rw [List.length_drop]; omega, by rw [List.getElem_drop]; congr 1; omega⟩
    · rintro ⟨c, hc, x, hx, hk⟩
      obtain ⟨i, hi, rfl⟩ := List.mem_iff_getElem.1 hc
      rw [List.length_drop] at hi
      rw [List.getElem_drop] at hx
      have hf : (listC 1 wss)[q + i].f0 = 1 + ((q + i : Nat) : Int) := by simp [listC, listTo, cmI]
      refine ⟨verOf (listC 1 wss)[q + i].f0 x, List.mem_flatMap.2 ⟨_, List.getElem_mem _, List.mem_map.2 ⟨x, List.mem_filter.2 ⟨hx, by rw [decide_eq_true_eq]; exact hk⟩, rfl⟩⟩, ?_⟩
      show (q : Int) < (listC 1 wss)[q + i].f0
      rw [hf]
      omega
  rw [Bool.eq_iff_iff, Bool.not_eq_true', List.any_eq_false]
  unfold apartL apartW apartX
  simp only [List.all_eq_true, Bool.not_eq_true', decide_eq_false_iff_not]
  constructor
  · intro h c hc x hx y hy e
    exact h y hy ((hwr y).2 ⟨c, hc, x, hx, e⟩)
  · intro h y hy hw
    obtain ⟨c, hc, x, hx, e⟩ := (hwr y).1 hw
    exact h c hc x hx y hy e
theorem apartX_take {ys : List Wr} {x : Wr} {k : Nat} (h : k < ys.length) : apartX (ys.take (k + 1)) x = (apartX (ys.take k) x && !decide (x.f0 = (wA ys k).f0)) := by
  unfold apartX
  rw [List.take_succ_eq_append_getElem h, List.all_append, wA_eq h]
  simp
theorem apartW_take {ys xs : List Wr} {j : Nat} (h : j < xs.length) : apartW ys (xs.take (j + 1)) = (apartW ys (xs.take j) && apartX ys (wA xs j)) := by
  unfold apartW
  rw [List.take_succ_eq_append_getElem h, List.all_append, wA_eq h]
  simp
theorem apartL_take {ys : List Wr} {D : List Cm} {i : Nat} (h : i < D.length) : apartL ys (D.take (i + 1)) = (apartL ys (D.take i) && apartW ys (cA D i).f2) := by
  unfold apartL
  rw [List.take_succ_eq_append_getElem h, List.all_append, cA_eq h]
  simp
end Go.Proofs.Ytmafibbnojdpjaa.St
end
section
set_option linter.unusedVariables false
set_option maxRecDepth 100000
set_option linter.unusedSimpArgs false
namespace Go.Proofs.Ytmafibbnojdpjaa.St
open Go.Proofs.Ytmafibbnojdpjaa.Tr Go.RowKit Go.Proofs.YtmafibbnojdpjaaW.PrintWords Go.Proofs.YtmafibbnojdpjaaW.PrintLast Go.Proofs.YtmafibbnojdpjaaW.PrintMore Go.Proofs.Ytmafibbnojdpjaa.P
attribute [local go_sem] Oper.semAt_some
theorem bytes_ne {a b : ByteArray} (h : ¬ a = b) : (a.toList == b.toList) = false := by
  rw [ByteArray.toList_eq, ByteArray.toList_eq]
  simp only [beq_eq_false_iff_ne, ne_eq]
  intro e
  apply h
  cases a
  cases b
  simpa using e
end Go.Proofs.Ytmafibbnojdpjaa.St
end
section
set_option linter.unusedVariables false
set_option maxRecDepth 100000
set_option linter.unusedSimpArgs false
namespace Go.Proofs.Ytmafibbnojdpjaa.St
open Go.Proofs.Ytmafibbnojdpjaa.Tr Go.RowKit Go.Proofs.YtmafibbnojdpjaaW.PrintWords Go.Proofs.YtmafibbnojdpjaaW.PrintLast Go.Proofs.YtmafibbnojdpjaaW.PrintMore Go.Proofs.Ytmafibbnojdpjaa.P
attribute [local go_sem] Oper.semAt_some
set_option maxHeartbeats 4000000 in
theorem frees_big (wss : List (List Wr)) (A : Option Addr) (c : Nat) (ws : List Wr) (A0 : Option Addr) (c0 : Nat) (sq : Int) (w : World) (h1 : ¬ wss.length ≤ 30) :
    Calls Try.prog 19 #[.slice A wss.length c, .slice A0 ws.length c0, .int .i64 sq] w fun e w' => e = .returned (.bool true) ∧ Below w.heap.size w w' := by
  have n1 : decide ((wss.length : Int) ≤ 30) = false := decide_eq_false (by omega)
  have n1' : ¬ (wss.length : Int) ≤ 30 := by omega
  have HHD := Aside0.mk (head09_any w)
  go_enter Try.func19, Try.ntmps19
  go_wp2_with (first
    | (go_at_call 34; refine HHD.out.mono ?_; rintro e w1 ⟨rfl, hb⟩; have HB1 := Aside0.mk hb; clear hb)
    | (go_at_call 46; refine (few_any _ _ _ _).mono ?_; rintro e w2 ⟨rfl, rfl⟩))
  go_ret
  exact ⟨rfl, HB1.out⟩
set_option maxHeartbeats 64000000 in
theorem frees_err (wss : List (List Wr)) (A : Option Addr) (c : Nat) (ws : List Wr) (A0 : Option Addr) (c0 : Nat) (sq : Int) (w : World) (hr : Kd.C (Kd.slice 31 k31) w A wss.length wss) (hn : wss.length ≤ 30) (hok : ∀ ws ∈ wss, okWs ws) (hr0 : Kd.C k31 w A0 ws.length ws) (hc0 : ws.length ≤ c0) (hok0 : okWs ws) (er : Int) (hcs : (sq < 0 ∧ er = 12) ∨ (¬ sq < 0 ∧ (wss.length : Int) < sq ∧ er = 13)) :
    Calls Try.prog 19 #[.slice A wss.length c, .slice A0 ws.length c0, .int .i64 sq] w fun e w' => e = .returned (.bool true) ∧ Below w.heap.size w w' := by
  have n1 : decide ((wss.length : Int) ≤ 30) = true := decide_eq_true (by omega)
  have n1' : (wss.length : Int) ≤ 30 := by omega
  have HHD := Aside0.mk (head09_any w)
  have hll := listC_len 1 wss
  obtain ⟨MM, hrun, hinv, hhist, hlow, hlast⟩ := list_state wss (by omega)
  have hst : stateM 0 [] (listC 1 wss) = some MM := by unfold stateM; rw [if_pos hN0]; exact hrun
  have hkl : MM.K.length ≤ 2000000 := by have := (run_lens _ _ _ hrun).1; have h0 : hM0.K.length = 0 := rfl; omega
  have HLS : Aside0 (∀ W, Below w.heap.size w W → Calls Try.prog 47 #[.int .i64 1, .slice A wss.length c] W fun e w' => ∃ v, e = .returned v ∧ Kd.R k28 28 w' 0 (fun k => W.heap.size ≤ k) v (listC 1 wss) ∧ Below W.heap.size W w') := ⟨fun W hW => list_any 1 wss A c W (Kd.C_below hr hW) (by omega) hok (by decide) (by decide)⟩
  have HSO : Aside0 (∀ W, Below w.heap.size w W → Calls Try.prog 54 #[.slice A0 ws.length c0] W fun e w' => ∃ v, e = .returned v ∧ Kd.R k31 31 w' 0 (fun k => W.heap.size ≤ k) v (someW ws) ∧ Below W.heap.size W w') := ⟨fun W hW => some_any ws A0 c0 W (Kd.C_below hr0 hW) hc0 hok0.1 hok0.2⟩
  have HLL : Aside0 ((listC 1 wss).length = wss.length) := ⟨hll⟩
  have HWS : Aside0 (∀ i, i < (listC 1 wss).length → (cA (listC 1 wss) i).f2.length ≤ 12) := ⟨fun i hi => by rw [cA_eq hi]; exact list_ws 1 wss _ (List.getElem_mem hi)⟩
  have HSL := Aside0.mk (some_len ws)
  have HST := Aside0.mk hst
  have HIV := Aside0.mk (And.intro hinv (And.intro hkl (And.intro hhist (And.intro hlow hlast))))
  have HFL : Aside0 (∀ q : Nat, (!(someW ws).any (wroteK MM (q : Int))) = apartL (someW ws) ((listC 1 wss).drop q)) := ⟨fun q => frees_law wss (by omega) hrun q _⟩
  have HWS2 : Aside0 (∀ c ∈ listC 1 wss, c.f2.length ≤ 200) := ⟨fun c hc => by have := list_ws 1 wss c hc; omega⟩
  clear hr hok hr0 hok0 hrun hinv hhist hlow hlast hst hkl hll
  obtain ⟨ys, hys⟩ : ∃ ys, ys = someW ws := ⟨_, rfl⟩
  rw [← hys] at HSO HSL HFL
  clear hys
  have HSI : Aside0 (∀ (G : Nat → Prop) (W : World) (s : Nat), StoreAt G W s MM → Calls Try.prog 59 #[.pointer (some ⟨s, 0, none⟩), .int .i64 sq] W fun e w' => e = .returned (.tuple #[.slice none 0 0, .int .i64 er]) ∧ Below W.heap.size W w') := ⟨fun G W s hs => by
    obtain ⟨col, H, L, hs⟩ := hs
    obtain ⟨i1, i2, i3, i4, i5⟩ := HIV.out
    rcases hcs with ⟨g1, rfl⟩ | ⟨g1, g2, rfl⟩
    · exact since_old hs sq (by rw [i4]; exact g1)
    · exact since_mark hs i1.low i1.last sq (by rw [i5]; exact g2)⟩
  rcases hcs with ⟨g1, rfl⟩ | ⟨g1, g2, rfl⟩
  all_goals
    go_enter Try.func19, Try.ntmps19
    go_wp2_with (first
      | (go_at_call 34; refine HHD.out.mono ?_; rintro e w1 ⟨rfl, hb⟩; have HB1 := Aside0.mk hb; clear hb)
      | (go_at_call 46; refine (few_any _ _ _ _).mono ?_; rintro e w1b ⟨rfl, rfl⟩)
      | (go_at_call 47; refine (HLS.out _ HB1.out).mono ?_; rintro e w2 ⟨v2, rfl, hr2, hb2⟩
         obtain ⟨A2, c2, e2, hc2, hC2⟩ := Kd.R_reads hr2
         subst e2
         have HM2 := Aside0.mk (made_any 0 [] (listC 1 wss) none A2 0 c2 w2 (Kd.C_nil _ _) (Nat.le_refl _) (by decide) hC2 hc2 (by rw [HLL.out]; omega) (fun i hi => by have := HWS.out i hi; omega) MM HST.out)
         have HCK := Aside0.mk (fun (k : Nat) (hk : k ≤ (listC 1 wss).length) => Kd.C_drop hC2 hk hc2)
         rw [HLL.out] at HM2 hc2 ⊢
         have hc5 : (wss.length : Int) ≤ (c2 : Int) := by omega
         have HB2 := Aside0.mk (below_step HB1.out hb2)
         clear hr2 hb2 hC2)
      | (go_at_call 48; refine HM2.out.mono ?_; rintro e w3 ⟨s, rfl, h1, h2, h3⟩
         have HS3 := Aside0.mk h1
         have H23 := Aside0.mk h3
         have HB3 := Aside0.mk (below_step HB2.out h3)
         have HSX := Aside0.mk (HSO.out _ HB3.out)
         clear h1 h2 h3)
      | (go_at_call 54; refine HSX.out.mono ?_; rintro e w4 ⟨v4, rfl, hr4, hb4⟩
         obtain ⟨A4, c4, e4', hc4, hC4⟩ := Kd.R_reads hr4
         subst e4'
         have HC4 := Aside0.mk hC4
         have HB4 := Aside0.mk (below_step HB3.out hb4)
         have H24 := Aside0.mk (below_step H23.out hb4)
         have HS4 := Aside0.mk (HS3.out.below hb4)
         clear hr4 hb4 hC4 hc4)
      | (go_at_call 59; refine (HSI.out _ _ _ HS4.out).mono ?_; rintro e w5 ⟨rfl, hb⟩; have HB5 := Aside0.mk (below_step HB4.out hb); clear hb))
    go_ret
    exact ⟨by simp, HB5.out⟩
set_option maxHeartbeats 64000000 in
theorem frees_in (wss : List (List Wr)) (A : Option Addr) (c : Nat) (ws : List Wr) (A0 : Option Addr) (c0 : Nat) (w : World) (hr : Kd.C (Kd.slice 31 k31) w A wss.length wss) (hn : wss.length ≤ 30) (hok : ∀ ws ∈ wss, okWs ws) (hr0 : Kd.C k31 w A0 ws.length ws) (hc0 : ws.length ≤ c0) (hok0 : okWs ws) (q : Nat) (hq : q ≤ wss.length) :
    Calls Try.prog 19 #[.slice A wss.length c, .slice A0 ws.length c0, .int .i64 (q : Int)] w fun e w' => e = .returned (.bool true) ∧ Below w.heap.size w w' := by
  have n1 : decide ((wss.length : Int) ≤ 30) = true := decide_eq_true (by omega)
  have n1' : (wss.length : Int) ≤ 30 := by omega
  have HHD := Aside0.mk (head09_any w)
  have hll := listC_len 1 wss
  obtain ⟨MM, hrun, hinv, hhist, hlow, hlast⟩ := list_state wss (by omega)
  have hst : stateM 0 [] (listC 1 wss) = some MM := by unfold stateM; rw [if_pos hN0]; exact hrun
  have hkl : MM.K.length ≤ 2000000 := by have := (run_lens _ _ _ hrun).1; have h0 : hM0.K.length = 0 := rfl; omega
  have HLS : Aside0 (∀ W, Below w.heap.size w W → Calls Try.prog 47 #[.int .i64 1, .slice A wss.length c] W fun e w' => ∃ v, e = .returned v ∧ Kd.R k28 28 w' 0 (fun k => W.heap.size ≤ k) v (listC 1 wss) ∧ Below W.heap.size W w') := ⟨fun W hW => list_any 1 wss A c W (Kd.C_below hr hW) (by omega) hok (by decide) (by decide)⟩
  have HSO : Aside0 (∀ W, Below w.heap.size w W → Calls Try.prog 54 #[.slice A0 ws.length c0] W fun e w' => ∃ v, e = .returned v ∧ Kd.R k31 31 w' 0 (fun k => W.heap.size ≤ k) v (someW ws) ∧ Below W.heap.size W w') := ⟨fun W hW => some_any ws A0 c0 W (Kd.C_below hr0 hW) hc0 hok0.1 hok0.2⟩
  have HLL : Aside0 ((listC 1 wss).length = wss.length) := ⟨hll⟩
  have HWS : Aside0 (∀ i, i < (listC 1 wss).length → (cA (listC 1 wss) i).f2.length ≤ 12) := ⟨fun i hi => by rw [cA_eq hi]; exact list_ws 1 wss _ (List.getElem_mem hi)⟩
  have HSL := Aside0.mk (some_len ws)
  have HST := Aside0.mk hst
  have HIV := Aside0.mk (And.intro hinv (And.intro hkl (And.intro hhist (And.intro hlow hlast))))
  have HFL : Aside0 (∀ q : Nat, (!(someW ws).any (wroteK MM (q : Int))) = apartL (someW ws) ((listC 1 wss).drop q)) := ⟨fun q => frees_law wss (by omega) hrun q _⟩
  have HWS2 : Aside0 (∀ c ∈ listC 1 wss, c.f2.length ≤ 200) := ⟨fun c hc => by have := list_ws 1 wss c hc; omega⟩
  clear hr hok hr0 hok0 hrun hinv hhist hlow hlast hst hkl hll
  obtain ⟨ys, hys⟩ : ∃ ys, ys = someW ws := ⟨_, rfl⟩
  rw [← hys] at HSO HSL HFL
  clear hys
  obtain ⟨D, hD⟩ : ∃ D, D = (listC 1 wss).drop q := ⟨_, rfl⟩
  have HDL : Aside0 (D.length = wss.length - q) := ⟨by rw [hD, List.length_drop, HLL.out]⟩
  have HD12 : Aside0 (∀ i, i < D.length → (cA D i).f2.length ≤ 12) := ⟨fun i hi => by
    have h1 : i + q < (listC 1 wss).length := by rw [hD, List.length_drop] at hi; omega
    have h2 : cA D i = cA (listC 1 wss) (i + q) := by rw [cA_eq hi, cA_eq h1]; simp only [hD, List.getElem_drop]; congr 1; omega
    rw [h2]
    exact HWS.out _ h1⟩
  have HFQ : Aside0 ((!ys.any (wroteK MM (q : Int))) = apartL ys D) := ⟨by rw [hD]; exact HFL.out q⟩
  have HSI : Aside0 (∀ (G : Nat → Prop) (W : World) (s : Nat), StoreAt G W s MM → Calls Try.prog 59 #[.pointer (some ⟨s, 0, none⟩), .int .i64 (q : Int)] W fun e w' => ∃ A c, e = .returned (.tuple #[.slice A (wss.length - q) c, .int .i64 0]) ∧ Kd.C k28 w' A D.length D ∧ Below W.heap.size W w') := ⟨fun G W s hs => by
    obtain ⟨col, H, L, hs⟩ := hs
    obtain ⟨i1, i2, i3, i4, i5⟩ := HIV.out
    have := since_good hs i1.low i1.last q (by rw [i3, HLL.out]; exact hq) (by rw [i3, HLL.out]; omega) (fun c hc => HWS2.out c (by rw [i3] at hc; exact hc))
    rw [i4, i3, Int.zero_add, ← hD] at this
    refine this.mono ?_
    rintro e w' ⟨v, rfl, hr, hb⟩
    obtain ⟨A, c, ev, hc, hC⟩ := Kd.R_reads hr
    subst ev
    exact ⟨A, c, by rw [HDL.out], hC, hb⟩⟩
  have n4 : ¬ (q : Int) < 0 := by omega
  have n5 : ¬ (wss.length : Int) < (q : Int) := by omega
  have e1 : IntKind.i64.wrap ((wss.length : Int) - (q : Int)) = ((wss.length - q : Nat) : Int) := by rw [IntKind.wrap_i64]; omega
  have e2 : wrap64 ((wss.length : Int) - (q : Int)) = ((wss.length - q : Nat) : Int) := by rw [w64 (by omega) (by omega)]; omega
  have e4 : (0 : Int) ≤ (q : Int) := by omega
  have e5 : (q : Int) ≤ (wss.length : Int) := by omega
  have HDE := Aside0.mk hD
  clear hD HFL
  go_enter Try.func19, Try.ntmps19
  go_wp2_with (first
    | (go_at_call 34; refine HHD.out.mono ?_; rintro e w1 ⟨rfl, hb⟩; have HB1 := Aside0.mk hb; clear hb)
    | (go_at_call 46; refine (few_any _ _ _ _).mono ?_; rintro e w1b ⟨rfl, rfl⟩)
    | (go_at_call 47; refine (HLS.out _ HB1.out).mono ?_; rintro e w2 ⟨v2, rfl, hr2, hb2⟩
       obtain ⟨A2, c2, e2, hc2, hC2⟩ := Kd.R_reads hr2
       subst e2
       have HM2 := Aside0.mk (made_any 0 [] (listC 1 wss) none A2 0 c2 w2 (Kd.C_nil _ _) (Nat.le_refl _) (by decide) hC2 hc2 (by rw [HLL.out]; omega) (fun i hi => by have := HWS.out i hi; omega) MM HST.out)
       have hck := Kd.C_drop hC2 (m := q) (by rw [HLL.out]; exact hq) hc2
       obtain ⟨A1, hA1⟩ : ∃ A1, (if c2 = q then A2 else A2.map (·.add (q * k28.sz))) = A1 := ⟨_, rfl⟩
       rw [hA1, ← HDE.out] at hck
       have hA2 : (if c2 = q then A2 else A2.map (·.add (q * 3))) = A1 := hA1
       have HCK := Aside0.mk hck
       rw [HLL.out] at HM2 hc2 ⊢
       have hc5 : (wss.length : Int) ≤ (c2 : Int) := by omega
       have HB2 := Aside0.mk (below_step HB1.out hb2)
       have hc6 : q ≤ c2 := by omega
       clear hr2 hb2 hC2 hck hA1)
    | (go_at_call 48; refine HM2.out.mono ?_; rintro e w3 ⟨s, rfl, h1, h2, h3⟩
       have HS3 := Aside0.mk h1
       have H23 := Aside0.mk h3
       have HB3 := Aside0.mk (below_step HB2.out h3)
       have HSX := Aside0.mk (HSO.out _ HB3.out)
       clear h1 h2 h3)
    | (go_at_call 54; refine HSX.out.mono ?_; rintro e w4 ⟨v4, rfl, hr4, hb4⟩
       obtain ⟨A4, c4, e4', hc4, hC4⟩ := Kd.R_reads hr4
       subst e4'
       have HC4 := Aside0.mk hC4
       have HB4 := Aside0.mk (below_step HB3.out hb4)
       have H24 := Aside0.mk (below_step H23.out hb4)
       have HS4 := Aside0.mk (HS3.out.below hb4)
       clear hr4 hb4 hC4 hc4)
    | (go_at_call 59; refine (HSI.out _ _ _ HS4.out).mono ?_; rintro e w5 ⟨A5, c5, rfl, hC5, hb⟩
       have HG5 := Aside0.mk hC5
       have HL5 := Aside0.mk (Kd.C_below HCK.out (below_step H24.out hb))
       have HY5 := Aside0.mk (Kd.C_below HC4.out hb)
       have HS5 := Aside0.mk (HS4.out.below hb)
       have HB5 := Aside0.mk (below_step HB4.out hb)
       clear hb hC5))
  clear HHD HLS HSO HM2 HCK HSX HC4 H24 HS4 HB1 HB2 HB3 HB4 HSI HS3 H23 HDE
  go_loopg [77, 13] (D.length + 1) (fun kq v77 v13 wq => ∃ (i : Nat) (b : Bool), v77 = .int .i64 (i : Int) ∧ v13 = .bool b ∧ i ≤ D.length ∧ D.length - i < kq ∧ Aside0 (b = apartL ys (D.take i)) ∧ Aside0 (Below w5.heap.size w5 wq))
  case atStart => exact ⟨0, true, rfl, rfl, Nat.zero_le _, by omega, ⟨rfl⟩, ⟨Below.refl _ _⟩⟩
  case round =>
    obtain ⟨i, b, rfl, rfl, hi, hk, HBV, HBQ⟩ := hrel
    have z0 : (0 : Int) ≤ (i : Int) := by omega
    have hdl := HDL.out
    by_cases hlt : i < D.length
    · have z1 : (i : Int) < (D.length : Int) := by omega
      have z2 : (i : Int) < ((wss.length - q : Nat) : Int) := by omega
      obtain ⟨ad5, A7, c7, eA, f0, f1, f2, f3, f4⟩ := at_T28 (Kd.C_below HL5.out HBQ.out) (i : Int) z0 z1
      obtain ⟨ad6, A6, c6, eB, g0, g1, g2, g3, g4⟩ := at_T28 (Kd.C_below HG5.out HBQ.out) (i : Int) z0 z1
      rw [rd_cA, Int.toNat_natCast] at f0 f1 f2 g0 g1 g2
      rw [rd_cA] at f3 f4 g3 g4
      have HTK := Aside0.mk (apartL_take (ys := ys) hlt)
      have HX12 := Aside0.mk (HD12.out i hlt)
      rw [eA] at hA2
      have HA2 := Aside0.mk hA2
      subst eA
      subst eB
      clear hA2
      generalize cA D i = x at *
      obtain ⟨d0, d1, d2⟩ := three_new wr 28 (.int .i64 x.f0) (.int .i64 x.f1) (.slice A7 x.f2.length c7)
      have hb6 : Below wr.heap.size wr (wr.alloc (.cells #[.int .i64 x.f0, .int .i64 x.f1, .slice A7 x.f2.length c7] 28)) := below_alloc (Below.refl _ _) _
      have g0 := up hb6 g0
      have g1 := up hb6 g1
      have g2 := up hb6 g2
      have HXC := Aside0.mk (Kd.C_below f4 hb6)
      have HXG := Aside0.mk (Kd.C_below g4 hb6)
      have HB6 := Aside0.mk (below_step HBQ.out hb6)
      obtain ⟨gO, hgO⟩ : ∃ gO, gO = gk := ⟨_, rfl⟩
      have HGO := Aside0.mk hgO
      clear hgO f3 f4 g3 g4 hb6 hdl
      go_wp2
      go_quiet (fail)
      go_wp2
      have HG2 := Aside0.mk g2
      generalize wr.alloc (.cells #[.int .i64 x.f0, .int .i64 x.f1, .slice A7 x.f2.length c7] 28) = W6 at *
      clear d0 d1 d2 g0 g1 f0 f1 f2
      go_loopg [115, 13] (x.f2.length + 1) (fun kq v115 v13 wq => ∃ (j : Nat) (b2 : Bool), v115 = .int .i64 (j : Int) ∧ v13 = .bool b2 ∧ j ≤ x.f2.length ∧ x.f2.length - j < kq ∧ Aside0 (b2 = (b && apartW ys (x.f2.take j))) ∧ Aside0 (Below W6.heap.size W6 wq))
      case atStart => exact ⟨0, b, rfl, rfl, Nat.zero_le _, by omega, ⟨by simp [apartW]⟩, ⟨pw_below_drewN (Below.refl _ _) _⟩⟩
      case round =>
        obtain ⟨j, b2, rfl, rfl, hj, hkj, HBV2, HBJ⟩ := hrel
        have y0 : (0 : Int) ≤ (j : Int) := by omega
        have hx12 := HX12.out
        have hdl := HDL.out
        by_cases hjl : j < x.f2.length
        · have y1 : (j : Int) < (x.f2.length : Int) := by omega
          obtain ⟨ad7, eC, k0, k1, k2⟩ := at_T31 (Kd.C_below HXC.out HBJ.out) (j : Int) y0 y1
          obtain ⟨ad8, eD, l0, l1, l2⟩ := at_T31 (Kd.C_below HXG.out HBJ.out) (j : Int) y0 y1
          rw [rd_wA, Int.toNat_natCast] at k0 k1 k2 l0 l1 l2
          have HTJ := Aside0.mk (apartW_take (ys := ys) hjl)
          have hg2 := up HBJ.out HG2.out
          subst eC eD
          generalize wA x.f2 j = y at *
          obtain ⟨d0, d1, d2⟩ := three_new wr 31 (.string y.f0) (.string y.f1) (.bool y.f2)
          have hb7 : Below wr.heap.size wr (wr.alloc (.cells #[.string y.f0, .string y.f1, .bool y.f2] 31)) := below_alloc (Below.refl _ _) _
          have l0 := up hb7 l0
          have l1 := up hb7 l1
          have l2 := up hb7 l2
          have hg2 := up hb7 hg2
          have HD0 := Aside0.mk d0
          have HB7 := Aside0.mk (below_step HBJ.out hb7)
          obtain ⟨gP, hgP⟩ : ∃ gP, gP = gk := ⟨_, rfl⟩
          have HGP := Aside0.mk hgP
          clear hgP hb7
          go_wp2
          go_quiet (fail)
          go_wp2
          obtain ⟨yb, hyb⟩ : ∃ yb, yb = wr.heap.size := ⟨_, rfl⟩
          rw [← hyb] at HD0 ⊢
          clear hyb
          generalize wr.alloc (.cells #[.string y.f0, .string y.f1, .bool y.f2] 31) = W7 at *
          clear d0 d1 d2 l0 l1 l2 hg2 k0 k1 k2
          go_loopg [132, 13] (ys.length + 1) (fun kq v132 v13 wq => ∃ (k : Nat) (b3 : Bool), v132 = .int .i64 (k : Int) ∧ v13 = .bool b3 ∧ k ≤ ys.length ∧ ys.length - k < kq ∧ Aside0 (b3 = (b2 && apartX (ys.take k) y)) ∧ Aside0 (Below W7.heap.size W7 wq))
          case atStart => exact ⟨0, b2, rfl, rfl, Nat.zero_le _, by omega, ⟨by simp [apartX]⟩, ⟨pw_below_drewN (Below.refl _ _) _⟩⟩
          case round =>
            obtain ⟨k, b3, rfl, rfl, hkl, hkk, HBV3, HBK⟩ := hrel
            have x0' : (0 : Int) ≤ (k : Int) := by omega
            have hy12 := HSL.out
            have hx12 := HX12.out
            have hdl := HDL.out
            by_cases hkl2 : k < ys.length
            · have x1' : (k : Int) < (ys.length : Int) := by omega
              obtain ⟨ad9, eE, p0, p1, p2⟩ := at_T31 (Kd.C_below HY5.out (below_step (below_step HB6.out HB7.out) HBK.out)) (k : Int) x0' x1'
              rw [rd_wA, Int.toNat_natCast] at p0 p1 p2
              have HTX := Aside0.mk (apartX_take (x := y) hkl2)
              have hd0 := up HBK.out HD0.out
              subst eE
              generalize wA ys k = z at *
              obtain ⟨d0, d1, d2⟩ := three_new wr 31 (.string z.f0) (.string z.f1) (.bool z.f2)
              have hb8 : Below wr.heap.size wr (wr.alloc (.cells #[.string z.f0, .string z.f1, .bool z.f2] 31)) := below_alloc (Below.refl _ _) _
              have hd0 := up hb8 hd0
              have HB8 := Aside0.mk (below_step HBK.out hb8)
              clear hb8
              cases b3 with
              | false =>
                have HN : Aside0 (false = (b2 && apartX (ys.take (k + 1)) y)) := ⟨by rw [HTX.out, ← Bool.and_assoc, ← HBV3.out]; rfl⟩
                go_wp2
                go_roundg (gk - 1)
                case measure => omega
                case rel => exact ⟨k + 1, false, by go_num, rfl, by omega, by omega, HN, HB8⟩
              | true =>
                by_cases hyz : y.f0 = z.f0
                · have hbe : (y.f0.toList == z.f0.toList) = true := by rw [hyz]; exact beq_self_eq_true _
                  have HN : Aside0 (false = (b2 && apartX (ys.take (k + 1)) y)) := ⟨by rw [HTX.out, ← Bool.and_assoc, ← HBV3.out, decide_eq_true hyz]; rfl⟩
                  clear hyz
                  go_wp2
                  go_roundg (gk - 1)
                  case measure => omega
                  case rel => exact ⟨k + 1, false, by go_num, rfl, by omega, by omega, HN, HB8⟩
                · have hbe : (y.f0.toList == z.f0.toList) = false := bytes_ne hyz
                  have HN : Aside0 (true = (b2 && apartX (ys.take (k + 1)) y)) := ⟨by rw [HTX.out, ← Bool.and_assoc, ← HBV3.out, decide_eq_false hyz]; rfl⟩
                  clear hyz
                  go_wp2
                  go_roundg (gk - 1)
                  case measure => omega
                  case rel => exact ⟨k + 1, true, by go_num, rfl, by omega, by omega, HN, HB8⟩
            · have hkz : k = ys.length := by omega
              subst hkz
              have HN : Aside0 (b3 = (b && apartW ys (x.f2.take (j + 1)))) := ⟨by rw [HBV3.out, HTJ.out, List.take_length, HBV2.out, Bool.and_assoc]⟩
              clear hkl hkl2 hkk
              go_wp2
              go_roundg (gP - 1)
              case measure => have := HGP.out; omega
              case rel => exact ⟨j + 1, b3, by go_num, rfl, by omega, by have := HGP.out; omega, HN, ⟨below_step HB7.out HBK.out⟩⟩
        · have hjz : j = x.f2.length := by omega
          subst hjz
          have HN : Aside0 (b2 = apartL ys (D.take (i + 1))) := ⟨by rw [HBV2.out, HTK.out, List.take_length, HBV.out]⟩
          clear hj hjl hkj
          go_wp2
          go_roundg (gO - 1)
          case measure => have := HGO.out; omega
          case rel => exact ⟨i + 1, b2, by go_num, rfl, by omega, by have := HGO.out; omega, HN, ⟨below_step HB6.out HBJ.out⟩⟩
    · have hiz : i = D.length := by omega
      subst hiz
      have z2 : ¬ (D.length : Int) < ((wss.length - q : Nat) : Int) := by omega
      have hbv := HBV.out
      rw [List.take_length] at hbv
      have HFR : Aside0 (∀ W, Below w5.heap.size w5 W → Calls Try.prog 60 #[.pointer (some ⟨s, 0, none⟩), .slice A4 ys.length c4, .int .i64 (q : Int)] W fun e w' => e = .returned (.bool b) ∧ Below W.heap.size W w') := ⟨fun W hW => by
        obtain ⟨col, H, L, hs⟩ := HS5.out.below hW
        have := free_any hs HIV.out.1 HIV.out.2.1 ys A4 c4 (Kd.C_below HY5.out hW) (by have := HSL.out; omega) (q : Int)
        rw [HFQ.out, ← hbv] at this
        exact this⟩
      have hbb : (b == b) = true := beq_self_eq_true b
      clear hbv hi hlt hk
      go_wp2_with (first
        | (go_at_call 60; refine (HFR.out _ HBQ.out).mono ?_; rintro e w6 ⟨rfl, hb⟩; have HB6 := Aside0.mk (below_step HBQ.out hb); clear hb))
      go_ret
      exact ⟨by simp, below_step HB5.out HB6.out⟩
theorem storeFrees_walk (l0 : List (List Wr)) (A : Option Addr) (c : Nat) (l1 : List Wr) (A0 : Option Addr) (c0 : Nat) (sq : Int) (w : World) (hr : Kd.C (Kd.slice 31 k31) w A l0.length l0) (_ : l0.length ≤ c) (ho : l0.length ≤ maxLen ∧ l0.length * 24 ≤ 140737488351232 ∧ ∀ y ∈ l0, (y.length ≤ maxLen ∧ y.length * 40 ≤ 140737488351232 ∧ ∀ z ∈ y, (z.f0.size ≤ 140737488351232 ∧ z.f1.size ≤ 140737488351232 ∧ True)))
    (hr0 : Kd.C k31 w A0 l1.length l1) (hl0 : l1.length ≤ c0) (ho0 : l1.length ≤ maxLen ∧ l1.length * 40 ≤ 140737488351232 ∧ ∀ y ∈ l1, (y.f0.size ≤ 140737488351232 ∧ y.f1.size ≤ 140737488351232 ∧ True)) (_ : (Lit.int .i64 sq).wf = true) :
    Calls Try.prog 19 #[.slice A l0.length c, .slice A0 l1.length c0, .int .i64 sq] w fun e w' => e = .returned (.bool true) ∧ Below w.heap.size w w' := by
  by_cases h1 : l0.length ≤ 30
  · have hok : ∀ ws ∈ l0, okWs ws := fun ws hw => ⟨by have := (ho.2.2 ws hw).2.1; omega, fun x hx => ((ho.2.2 ws hw).2.2 x hx).1⟩
    have hok0 : okWs l1 := ⟨by omega, fun x hx => (ho0.2.2 x hx).1⟩
    by_cases h2 : sq < 0
    · exact frees_err l0 A c l1 A0 c0 sq w hr h1 hok hr0 hl0 hok0 12 (.inl ⟨h2, rfl⟩)
    · by_cases h3 : (l0.length : Int) < sq
      · exact frees_err l0 A c l1 A0 c0 sq w hr h1 hok hr0 hl0 hok0 13 (.inr ⟨h2, h3, rfl⟩)
      · obtain ⟨q, rfl⟩ : ∃ q : Nat, sq = (q : Int) := ⟨sq.toNat, by omega⟩
        exact frees_in l0 A c l1 A0 c0 w hr h1 hok hr0 hl0 hok0 q (by omega)
  · exact frees_big l0 A c l1 A0 c0 sq w h1
end Go.Proofs.Ytmafibbnojdpjaa.St
end
