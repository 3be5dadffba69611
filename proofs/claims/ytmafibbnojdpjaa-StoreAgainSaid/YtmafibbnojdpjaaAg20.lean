/- Lemmas that the proof needs, part 20. -/
import Derived.Test.YtmafibbnojdpjaaWKept
import Derived.Deep.RegionHeld3
import Derived.Test.YtmafibbnojdpjaaWWords
import Derived.Deep.RegionLaw
import Derived.Test.YtmafibbnojdpjaaAg1
import Derived.Test.YtmafibbnojdpjaaAg2
import Derived.Test.YtmafibbnojdpjaaAg3
import Derived.Test.YtmafibbnojdpjaaAg4
import Derived.Test.YtmafibbnojdpjaaAg5
import Derived.Test.YtmafibbnojdpjaaAg6
import Derived.Test.YtmafibbnojdpjaaAg7
import Derived.Test.YtmafibbnojdpjaaAg8
import Derived.Test.YtmafibbnojdpjaaAg9
import Derived.Test.YtmafibbnojdpjaaAg10
import Derived.Test.YtmafibbnojdpjaaAg11
import Derived.Test.YtmafibbnojdpjaaAg12
import Derived.Test.YtmafibbnojdpjaaAg13
import Derived.Test.YtmafibbnojdpjaaAg14
import Derived.Test.YtmafibbnojdpjaaAg15
import Derived.Test.YtmafibbnojdpjaaAg16
import Derived.Test.YtmafibbnojdpjaaAg17
import Derived.Test.YtmafibbnojdpjaaAg18
import Derived.Test.YtmafibbnojdpjaaAg19
section
set_option linter.unusedVariables false
set_option maxRecDepth 100000
set_option linter.unusedSimpArgs false
namespace Go.Proofs.Ytmafibbnojdpjaa.St
open Go.Proofs.Ytmafibbnojdpjaa.Tr Go.RowKit Go.Proofs.YtmafibbnojdpjaaW.PrintWords Go.Proofs.YtmafibbnojdpjaaW.PrintLast Go.Proofs.YtmafibbnojdpjaaW.PrintMore Go.Proofs.Ytmafibbnojdpjaa.P
attribute [local go_sem] Oper.semAt_some
/-- writes by their keys, of one key the last one -/
def insAll (ws : List Wr) : List (ByteArray × Wr) := ws.foldl (fun K x => insK K x.f0 x) []
def sortedW (ws : List Wr) : List Wr := (insAll ws).map (·.2)
def mapW (ws : List Wr) : List (ByteArray × Wr) := ws.foldl (fun C x => Mv.putC C x.f0 x) []
theorem insAll_snoc (ws : List Wr) (x : Wr) : insAll (ws ++ [x]) = insK (insAll ws) x.f0 x := by simp [insAll]
theorem mapW_snoc (ws : List Wr) (x : Wr) : mapW (ws ++ [x]) = Mv.putC (mapW ws) x.f0 x := by simp [mapW]
theorem list_snoc {α : Type} {p : List α → Prop} (h0 : p []) (h1 : ∀ l x, p l → p (l ++ [x])) : ∀ l, p l := by
  intro l
  have : ∀ n (l : List α), l.length = n → p l := by
    intro n
    induction n with
    | zero => intro l h; rw [List.length_eq_zero_iff.1 h]; exact h0
    | succ n ih =>
      intro l h
      have hne : l ≠ [] := fun e => by rw [e] at h; cases h
      rw [← List.dropLast_concat_getLast hne]
      exact h1 _ _ (ih _ (by rw [List.length_dropLast]; omega))
  exact this _ l rfl
theorem srtK_insAll (ws : List Wr) : SrtK (insAll ws) := by
  refine list_snoc (p := fun l => SrtK (insAll l)) List.Pairwise.nil (fun l x h => ?_) ws
  rw [insAll_snoc]
  exact srtK_ins h _ _
theorem nd_mapW (ws : List Wr) : Mv.NdC (mapW ws) := by
  refine list_snoc (p := fun l => Mv.NdC (mapW l)) List.Pairwise.nil (fun l x h => ?_) ws
  rw [mapW_snoc]
  exact Mv.nd_put h _ _
theorem find_mapW (ws : List Wr) (z : ByteArray) : Mv.findC (mapW ws) z = getK (insAll ws) z := by
  refine list_snoc (p := fun l => Mv.findC (mapW l) z = getK (insAll l) z) rfl (fun l x h => ?_) ws
  rw [mapW_snoc, insAll_snoc, Mv.find_put, getK_ins (srtK_insAll l), h]
theorem key_mapW (ws : List Wr) : ∀ a ∈ mapW ws, a.2.f0 = a.1 := by
  refine list_snoc (p := fun l => ∀ a ∈ mapW l, a.2.f0 = a.1) (fun a ha => by cases ha) (fun l x h => ?_) ws
  rw [mapW_snoc]
  intro a ha
  unfold Mv.putC Mv.delC at ha
  rcases List.mem_append.1 ha with ha | ha
  · exact h a (List.mem_filter.1 ha).1
  · rw [List.mem_singleton] at ha
    rw [ha]
theorem mapW_len (ws : List Wr) : (mapW ws).length ≤ ws.length := by
  refine list_snoc (p := fun l => (mapW l).length ≤ l.length) (Nat.le_refl _) (fun l x h => ?_) ws
  rw [mapW_snoc, Mv.len_put (nd_mapW l), List.length_append, List.length_singleton]
  split <;> omega
/-- what comes out of the sort is the writes by their keys -/
theorem sorted_law {ws ts : List Wr} {dn : List (ByteArray × Wr)} (hp : dn.Perm (mapW ws)) (ht : ts.Perm (dn.map (·.2))) (hs : ts.Pairwise fun a b => ¬ kl b.f0 a.f0) : ts = sortedW ws := by
  have hd : (dn.map (·.2)).map (fun x : Wr => (x.f0, x)) = dn := by
    rw [List.map_map]
    conv => rhs; rw [← List.map_id dn]
    refine List.map_congr_left (fun a ha => ?_)
    have := key_mapW ws a (hp.mem_iff.1 ha)
    exact Prod.ext this rfl
  have hT : (ts.map fun x : Wr => (x.f0, x)).Perm (mapW ws) := by
    have := ht.map (fun x : Wr => (x.f0, x))
    rw [hd] at this
    exact this.trans hp
  have hnd : Mv.NdC (ts.map fun x : Wr => (x.f0, x)) := (hT.symm.pairwise_iff (R := fun a b : ByteArray × Wr => a.1 ≠ b.1) (fun q => q.symm)).1 (nd_mapW ws)
  have hST : SrtK (ts.map fun x : Wr => (x.f0, x)) := by
    unfold SrtK Mv.NdC at *
    rw [List.pairwise_map] at hnd ⊢
    refine (hs.and hnd).imp (fun {a b} h => ?_)
    rcases kl_tri a.f0 b.f0 with q | q | q
    · exact q
    · exact absurd q h.2
    · exact absurd q h.1
  have he : (ts.map fun x : Wr => (x.f0, x)) = insAll ws := by
    refine srtK_ext hST (srtK_insAll ws) (fun z => ?_)
    rw [← find_mapW]
    exact Mv.find_perm hT.symm (nd_mapW ws) z
  unfold sortedW
  rw [← he, List.map_map]
  conv => lhs; rw [← List.map_id ts]
  rfl
theorem sortedW_len (ws : List Wr) : (sortedW ws).length ≤ ws.length := by
  refine list_snoc (p := fun l => (sortedW l).length ≤ l.length) (Nat.le_refl _) (fun l x h => ?_) ws
  unfold sortedW at *
  rw [insAll_snoc, List.length_map, List.length_append, List.length_singleton]
  rw [List.length_map] at h
  have := insK_length (insAll l) x.f0 x
  omega
noncomputable abbrev TW : Mv.KT Try.prog 9 ByteArray := Mv.KT.str Try.underlying9
def eW (x : Wr) : Value := .agg #[.string x.f0, .string x.f1, .bool x.f2]
theorem mapW_take {ws : List Wr} {i : Nat} (hi : i < ws.length) : mapW (ws.take (i + 1)) = Mv.putC (mapW (ws.take i)) (wA ws i).f0 (wA ws i) := by
  rw [List.take_succ_eq_append_getElem hi, mapW_snoc, wA_eq hi]
set_option maxHeartbeats 16000000 in
theorem sorted_any (ws : List Wr) (A : Option Addr) (c : Nat) (w : World) (hr : Kd.C k31 w A ws.length ws) (hc : ws.length ≤ c) (hn : ws.length ≤ 900000) (hks : ∀ x ∈ ws, x.f0.size ≤ maxLen) :
    Calls Try.prog 42 #[.slice A ws.length c] w fun e w' => ∃ v, e = .returned v ∧ Kd.R k31 31 w' 0 (fun k => w.heap.size ≤ k) v (sortedW ws) ∧ Below w.heap.size w w' := by
  have HR := Aside0.mk hr
  have HKS := Aside0.mk hks
  have hmm := @run_makeMap Try.prog
  have HM0 : Aside0 (Mv.MapV TW eW (w.alloc (.map #[] 0)) w.heap.size 0 (mapW (ws.take 0))) := ⟨Mv.MapV.new _ _ _⟩
  have HB0 : Aside0 (Below w.heap.size w (w.alloc (.map #[] 0))) := ⟨below_alloc (Below.refl _ _) _⟩
  have HN := Aside0.mk hn
  clear hr hks hn
  go_enter Try.func42, Try.ntmps42
  go_wp2
  generalize w.alloc (.map #[] 0) = W1 at *
  go_loopg [12] (ws.length + 1) (fun kq v12 wq => ∃ (i : Nat), v12 = .int .i64 (i : Int) ∧ i ≤ ws.length ∧ ws.length - i < kq ∧ Aside0 (Mv.MapV TW eW wq w.heap.size i (mapW (ws.take i))) ∧ Aside0 (Below w.heap.size w wq))
  case atStart => exact ⟨0, rfl, Nat.zero_le _, by omega, HM0, HB0⟩
  case round =>
    clear HM0 HB0
    obtain ⟨i, rfl, hi, hk, HM, HB⟩ := hrel
    have z0 : (0 : Int) ≤ (i : Int) := by omega
    have hn := HN.out
    by_cases hlt : i < ws.length
    · have z1 : (i : Int) < (ws.length : Int) := by omega
      obtain ⟨ad5, eA, f0, f1, f2⟩ := at_T31 (Kd.C_below HR.out HB.out) (i : Int) z0 z1
      rw [rd_wA, Int.toNat_natCast] at f0 f1 f2
      subst eA
      have HTK := Aside0.mk (mapW_take hlt)
      have hsx : (wA ws i).f0.size ≤ maxLen := HKS.out _ (by rw [wA_eq hlt]; exact List.getElem_mem hlt)
      generalize wA ws i = x at *
      obtain ⟨d0, d1, d2⟩ := three_new wr 31 (.string x.f0) (.string x.f1) (.bool x.f2)
      have hb2 : Below wr.heap.size wr (wr.alloc (.cells #[.string x.f0, .string x.f1, .bool x.f2] 31)) := below_alloc (Below.refl _ _) _
      obtain ⟨w8, u1, u2, u3⟩ := (HM.out.below hb2).put Try.underlying69 (by unfold maxLen; omega) (x := x.f0) hsx x
      replace u1 : Sem.run Try.prog (Instr.mapUpdate 69 (.map (some w.heap.size)) (.string x.f0) (.agg #[.string x.f0, .string x.f1, .bool x.f2])) (wr.alloc (.cells #[.string x.f0, .string x.f1, .bool x.f2] 31)) = .ok () w8 := u1
      have HM8 := Aside0.mk u2
      have hg := u3.grown
      have HB8 : Aside0 (Below w.heap.size w w8) := ⟨(HB.out.trans (hb2.mono HB.out.size)).trans ⟨hg.os, hg.tape, hg.output, hg.size, fun k hk => hg.block k (Nat.lt_of_lt_of_le hk (Nat.le_trans HB.out.size hb2.size)) (fun e => by injection e with e; omega)⟩⟩
      clear u2 u3 hg hb2 hsx
      go_wp2
      go_roundg (gk - 1)
      case measure => omega
      case rel => exact ⟨i + 1, by go_num, by omega, by omega, ⟨by rw [HTK.out]; exact HM8.out⟩, HB8⟩
    · have hiz : i = ws.length := by omega
      subst hiz
      rw [List.take_length] at HM
      obtain ⟨w9, u1, u2, u3, u4⟩ := HM.out.range Try.underlying69
      obtain ⟨rb, hrb⟩ : ∃ rb, rb = wr.heap.size := ⟨_, rfl⟩
      rw [← hrb] at u1 u2
      replace u1 : Sem.run Try.prog (Instr.range 69 (.map (some w.heap.size))) wr = .ok (.pointer (some ⟨rb, 0, none⟩)) w9 := u1
      have HRG := Aside0.mk u2
      have hbl := HM.out.lt
      have HB9 : Aside0 (Below w.heap.size w w9 ∧ rb < w9.heap.size ∧ w.heap.size < w9.heap.size ∧ w.heap.size ≤ rb) := ⟨HB.out.trans (u3.mono HB.out.size), by omega, by omega, by omega⟩
      have HCS : Aside0 ((mapW ws).length ≤ 900000) := ⟨Nat.le_trans (mapW_len ws) hn⟩
      clear u2 u3 u4 hbl hrb hk hlt hi hn HM
      obtain ⟨g0, hg0⟩ : ∃ g0, g0 = gk := ⟨_, rfl⟩
      clear hg0
      obtain ⟨C, hC⟩ : ∃ C, C = mapW ws := ⟨_, rfl⟩
      rw [← hC] at HRG HCS
      have HCW := Aside0.mk hC
      clear hC
      go_wp2
      go_loopg [6] (C.length + 1) (fun kq v6 wq => ∃ dn : List (ByteArray × Wr), C.length - dn.length < kq ∧ dn.length ≤ C.length ∧ Aside0 (Mv.Rng TW eW wq w.heap.size rb ws.length C dn) ∧ Aside0 (Kd.R k31 31 wq 0 (fun k => w9.heap.size ≤ k) v6 (dn.map (·.2))) ∧ Aside0 (Below w.heap.size w wq ∧ w9.heap.size ≤ wq.heap.size))
      case atStart => exact ⟨[], by simp, Nat.zero_le _, HRG, ⟨Kd.R_nil _ _ _ _ _⟩, ⟨HB9.out.1, Nat.le_refl _⟩⟩
      case round =>
        obtain ⟨dn, hk, hdl, HRN, HRW, HBQ⟩ := hrel
        rcases HRN.out.next 0 with ⟨hp, hrun⟩ | ⟨⟨ak, x⟩, w3, ha, hna, hok, hrun, hr3, hg3, hs3, hen⟩
        · have hln : (dn.map (·.2)).length < 1000000 := by rw [List.length_map]; have := HCS.out; omega
          have HSO := Aside0.mk (sortW (dn.map (·.2)) u6 wr 0 _ HRW.out hln)
          rw [HCW.out] at hp
          have HP := Aside0.mk hp
          have HOW : Aside0 (∀ k, u6.ownBlock = some k → w9.heap.size ≤ k) := ⟨HRW.out.1⟩
          clear hp hln
          go_wp2_with (first
            | (go_at_call 76; refine HSO.out.mono ?_; rintro e w4 ⟨rfl, ts, h1, h2, h3, h4⟩; have H1 := Aside0.mk h1; have H2 := Aside0.mk h2; have H3 := Aside0.mk h3; have H4 := Aside0.mk h4; clear h1 h2 h3 h4))
          go_ret
          have hts := sorted_law HP.out H1.out H2.out
          refine ⟨_, rfl, ?_, HBQ.out.1.grown H4.out HBQ.out.1.size (fun k e => Nat.le_trans (Nat.le_of_lt HB9.out.2.2.1) (HOW.out k e))⟩
          rw [← hts]
          exact Kd.R_mono H3.out (fun k (hk : w9.heap.size ≤ k) => Nat.le_trans (Nat.le_of_lt HB9.out.2.2.1) hk)
        · change (Instr.next (.pointer (some ⟨rb, 0, none⟩)) false 0).run Try.prog wr = .ok (.tuple #[.bool true, .string ak, .agg #[.string x.f0, .string x.f1, .bool x.f2]]) w3 at hrun
          change (Instr.entry (.pointer (some ⟨rb, 0, none⟩))).run Try.prog w3 = .ok (.tuple #[.string ak, .agg #[.string x.f0, .string x.f1, .bool x.f2]]) w3 at hen
          have hl := hr3.len
          rw [List.length_append, List.length_singleton] at hl
          obtain ⟨d0, d1, d2⟩ := three_new w3 31 (.string x.f0) (.string x.f1) (.bool x.f2)
          have hb4 : Below w3.heap.size w3 (w3.alloc (.cells #[.string x.f0, .string x.f1, .bool x.f2] 31)) := below_alloc (Below.refl _ _) _
          have h9 := HB9.out
          have hq := HBQ.out
          have hR3 : Kd.R k31 31 (w3.alloc (.cells #[.string x.f0, .string x.f1, .bool x.f2] 31)) 0 (fun k => w9.heap.size ≤ k) u6 (dn.map (·.2)) := Kd.R_below (Kd.R_step HRW.out (fun k hk hl => hg3.block k hl (fun e => by injection e with e; have hk' : w9.heap.size ≤ k := hk; omega))) hb4
          have HRW4 := Aside0.mk hR3
          have HRN4 := Aside0.mk (hr3.below hb4)
          have HB4 : Aside0 (Below w.heap.size w (w3.alloc (.cells #[.string x.f0, .string x.f1, .bool x.f2] 31)) ∧ w9.heap.size ≤ (w3.alloc (.cells #[.string x.f0, .string x.f1, .bool x.f2] 31)).heap.size) := ⟨(hq.1.grown hg3 hq.1.size (fun k e => by injection e with e; omega)).trans (hb4.mono (Nat.le_trans hq.1.size hg3.size)), Nat.le_trans hq.2 (Nat.le_trans hg3.size hb4.size)⟩
          have HLN : Aside0 ((dn.map (·.2)).length + 1 ≤ 900001) := ⟨by rw [List.length_map]; have := HCS.out; omega⟩
          have HMP : Aside0 ((dn ++ [(ak, x)]).map (·.2) = dn.map (·.2) ++ [x]) := ⟨by simp⟩
          clear hg3 hr3 hR3 hb4 h9 hq ha hna hok hs3 HRN HRW
          go_wp2_with (first
            | ((with_reducible refine gate_builtin (b := .append) (xs := #[.tmp 27, .tmp 29]) rfl ?_); at_builtin
               refine Kd.R_append k31 (w0 := w3.alloc (.cells #[.string x.f0, .string x.f1, .bool x.f2] 31)) 0 rfl (.tmp 27) (.tmp 29) 22 31 (.agg #[.string ⟨#[]⟩, .string ⟨#[]⟩, .bool false]) 40 rfl Try.underlying22 info31 rfl (by decide) (by decide) u6 (dn.map (·.2)) x [.string x.f0, .string x.f1, .bool x.f2] (fun k => w9.heap.size ≤ k) (fun _ => False) rfl ?hx (k31_mkM _ _ _ x) (fun k h => h.elim) (fun k hk => Nat.le_trans HB4.out.2 hk) HRW4.out (Below.refl _ _) (Nat.zero_le _) (by have := HLN.out; omega) ?_
               case hx => show Value.slice _ 1 1 = Value.slice _ 1 1; first | rfl | (rw [World.size_alloc])
               intro v7 w7 h1 h2 h3 h4
               have H1 := Aside0.mk h1
               have H3 := Aside0.mk h3
               clear h1 h2 h3 h4))
          go_roundg (gk - 1)
          case measure => omega
          case rel =>
            refine ⟨dn ++ [(ak, x)], by rw [List.length_append, List.length_singleton]; omega, by rw [List.length_append, List.length_singleton]; exact hl, ⟨HRN4.out.same ?_ ?_⟩, ⟨by rw [HMP.out]; exact H1.out⟩, ⟨?_, ?_⟩⟩
            · exact H3.out.block _ HRN4.out.map.lt (fun e => by have := HRW4.out.1 _ e.symm; have := HB9.out; omega)
            · exact H3.out.block _ HRN4.out.lt (fun e => by have := HRW4.out.1 _ e.symm; have := HB9.out; omega)
            · exact HB4.out.1.grown H3.out HB4.out.1.size (fun k e => by have := HRW4.out.1 _ e; have := HB9.out; omega)
            · exact Nat.le_trans HB4.out.2 H3.out.size
end Go.Proofs.Ytmafibbnojdpjaa.St
end
section
set_option linter.unusedVariables false
set_option maxRecDepth 100000
set_option linter.unusedSimpArgs false
namespace Go.Proofs.Ytmafibbnojdpjaa.St
open Go.Proofs.Ytmafibbnojdpjaa.Tr Go.RowKit Go.Proofs.YtmafibbnojdpjaaW.PrintWords Go.Proofs.YtmafibbnojdpjaaW.PrintLast Go.Proofs.YtmafibbnojdpjaaW.PrintMore Go.Proofs.Ytmafibbnojdpjaa.P
attribute [local go_sem] Oper.semAt_some
def cutS (n : Nat) (s : ByteArray) : ByteArray := if n < s.size then s.extract 0 n else s
def keyX (s : ByteArray) : ByteArray := cutS 20 (⟨#[107]⟩ ++ s)
def valX (x : Wr) : ByteArray := if x.f2 then ⟨#[]⟩ else cutS 40 x.f1
def someX (x : Wr) : Wr := ⟨keyX x.f0, valX x, x.f2⟩
def someL (ws : List Wr) : List Wr := (ws.take 12).map someX
def someW (ws : List Wr) : List Wr := sortedW (someL ws)
theorem cutS_size (n : Nat) (s : ByteArray) : (cutS n s).size ≤ n := by
  unfold cutS
  split
  · rw [ByteArray.size_extract]; omega
  · omega
theorem someX_eq (k v : ByteArray) (g : Bool) (kx : ByteArray) (h : kx = ⟨#[107]⟩ ++ k) : someX ⟨k, v, g⟩ = ⟨if 20 < kx.size then kx.extract 0 20 else kx, if g = true then ⟨#[]⟩ else if 40 < v.size then v.extract 0 40 else v, g⟩ := by
  unfold someX keyX valX cutS
  rw [h]
theorem someL_len (ws : List Wr) : (someL ws).length ≤ 12 := by
  unfold someL
  rw [List.length_map, List.length_take]
  omega
theorem someL_keys (ws : List Wr) : ∀ x ∈ someL ws, x.f0.size ≤ 20 := fun x hx => by
  obtain ⟨y, _, rfl⟩ := List.mem_map.1 hx
  exact cutS_size _ _
set_option maxHeartbeats 32000000 in
theorem some_any (ws : List Wr) (A : Option Addr) (c : Nat) (w : World) (hr : Kd.C k31 w A ws.length ws) (hc : ws.length ≤ c) (hn : ws.length < 4611686018427387904) (hsz : ∀ x ∈ ws, x.f0.size ≤ 140737488351232) :
    Calls Try.prog 54 #[.slice A ws.length c] w fun e w' => ∃ v, e = .returned v ∧ Kd.R k31 31 w' 0 (fun k => w.heap.size ≤ k) v (someW ws) ∧ Below w.heap.size w w' := by
  have HR := Aside0.mk hr
  have HN := Aside0.mk hn
  have HSZ := Aside0.mk hsz
  have HB0 : Aside0 (Below w.heap.size w (w.alloc (.cells #[] 31))) := ⟨below_alloc (Below.refl _ _) _⟩
  have HE0 : Aside0 (Kd.R k31 31 (w.alloc (.cells #[] 31)) 0 (fun k => w.heap.size ≤ k) (.slice (some ⟨w.heap.size, 0, none⟩) 0 0) ((ws.take 0).map someX)) := ⟨R_empty k31 _ 31 _ _ _ (Nat.zero_le _) (Nat.le_refl _) (heap_alloc_new _ _)⟩
  have HSO : Aside0 (∀ (W : World) (l : List Wr) (v : Value), l = someL ws → w.heap.size ≤ W.heap.size → Kd.R k31 31 W 0 (fun k => w.heap.size ≤ k) v l → Calls Try.prog 42 #[v] W fun e w' => ∃ v, e = .returned v ∧ Kd.R k31 31 w' 0 (fun k => w.heap.size ≤ k) v (someW ws) ∧ Below W.heap.size W w') := ⟨fun W l v hl hs hR => by
    subst hl
    obtain ⟨A1, c1, rfl, h1, h2⟩ := Kd.R_reads hR
    have h3 := someL_len ws
    refine (sorted_any (someL ws) A1 c1 W h2 h1 (by omega) (fun x hx => by have := someL_keys ws x hx; unfold maxLen; omega)).mono ?_
    rintro e w' ⟨v, rfl, q1, q2⟩
    exact ⟨v, rfl, Kd.R_mono q1 (fun k (hk : W.heap.size ≤ k) => Nat.le_trans hs hk), q2⟩⟩
  clear hr hn hsz
  go_enter Try.func54, Try.ntmps54
  go_wp2
  generalize w.alloc (.cells #[] 31) = W1 at *
  go_loopg [10, 3] (ws.length + 1) (fun kq v10 v3 wq => ∃ (i : Nat), v10 = .int .i64 (i : Int) ∧ i ≤ ws.length ∧ i ≤ 12 ∧ ws.length - i < kq ∧ Aside0 (Kd.R k31 31 wq 0 (fun k => w.heap.size ≤ k) v3 ((ws.take i).map someX)) ∧ Aside0 (Below w.heap.size w wq))
  case atStart => exact ⟨0, rfl, Nat.zero_le _, by omega, by omega, HE0, HB0⟩
  case round =>
    clear HE0 HB0
    obtain ⟨i, rfl, hi, h12, hk, HRW, HB⟩ := hrel
    have z0 : (0 : Int) ≤ (i : Int) := by omega
    have hn := HN.out
    by_cases hlt : i < ws.length
    · have z1 : (i : Int) < (ws.length : Int) := by omega
      obtain ⟨ad5, eA, f0, f1, f2⟩ := at_T31 (Kd.C_below HR.out HB.out) (i : Int) z0 z1
      rw [rd_wA, Int.toNat_natCast] at f0 f1 f2
      subst eA
      have hli : ((ws.take i).map someX).length = i := by rw [List.length_map, List.length_take]; omega
      obtain ⟨A3, c3, ev⟩ := Kd.R_slice HRW.out
      rw [hli] at ev
      subst ev
      have hx0 : (wA ws i).f0.size ≤ 140737488351232 := HSZ.out _ (by rw [wA_eq hlt]; exact List.getElem_mem hlt)
      have HTK : Aside0 ((ws.take (i + 1)).map someX = (ws.take i).map someX ++ [someX (wA ws i)]) := ⟨by rw [List.take_succ_eq_append_getElem hlt, List.map_append, wA_eq hlt]; rfl⟩
      have HLI := Aside0.mk hli
      have HT12 : Aside0 (i = 12 → (ws.take i).map someX = someL ws) := ⟨fun e => by subst e; rfl⟩
      generalize (ws.take i).map someX = L3 at *
      clear hli
      generalize wA ws i = x at *
      obtain ⟨xk, xv, xg⟩ := x
      replace f0 : wr.cell? (ad5.add (i * 3)) = some (.string xk) := f0
      replace f1 : wr.cell? ⟨(ad5.add (i * 3)).block, (ad5.add (i * 3)).off + 1, none⟩ = some (.string xv) := f1
      replace f2 : wr.cell? ⟨(ad5.add (i * 3)).block, (ad5.add (i * 3)).off + 2, none⟩ = some (.bool xg) := f2
      replace hx0 : xk.size ≤ 140737488351232 := hx0
      obtain ⟨d0, d1, d2⟩ := three_new wr 31 (.string xk) (.string xv) (.bool xg)
      have hb2 : Below wr.heap.size wr (wr.alloc (.cells #[.string xk, .string xv, .bool xg] 31)) := below_alloc (Below.refl _ _) _
      by_cases h2 : i < 12
      · have q1 : ¬ (12 : Int) ≤ (i : Int) := by omega
        have hcat : (⟨#[107]⟩ ++ xk : ByteArray).size = 1 + xk.size := by rw [ByteArray.size_append]; rfl
        have q2 : ¬ 9223372036854775807 < (⟨#[107]⟩ : ByteArray).size + xk.size := by
          rw [show (⟨#[107]⟩ : ByteArray).size = 1 from rfl]; omega
        have q3 : ¬ 9223372036854775807 < 1 + xk.size := by omega
        obtain ⟨kx, hkx⟩ : ∃ kx : ByteArray, kx = ⟨#[107]⟩ ++ xk := ⟨_, rfl⟩
        obtain ⟨bx, hbx⟩ : ∃ bx, bx = wr.heap.size + 1 := ⟨_, rfl⟩
        have hnew := heap_alloc_new (wr.alloc (.cells #[.string xk, .string xv, .bool xg] 31)) (.cells #[.string (⟨#[107]⟩ ++ xk), .string xv, .bool xg] 31)
        rw [World.size_alloc, ← hkx, ← hbx] at hnew
        have HNW := Aside0.mk hnew
        have HBX : Aside0 (wr.heap.size ≤ bx) := ⟨by omega⟩
        have HB3 : Aside0 (Below wr.heap.size wr ((wr.alloc (.cells #[.string xk, .string xv, .bool xg] 31)).alloc (.cells #[.string kx, .string xv, .bool xg] 31))) := ⟨below_alloc hb2 _⟩
        have HKX := Aside0.mk hkx
        have hky : (⟨#[107]⟩ ++ xk : ByteArray) = kx := hkx.symm
        clear hkx
        have HCT : Aside0 (kx.size = 1 + xk.size) := ⟨by rw [HKX.out]; exact hcat⟩
        have g0 := (cell_of_row _ _ 0 _ _ _ hnew).trans rfl
        have g1 := (cell_of_row _ _ 1 _ _ _ hnew).trans rfl
        have g2 := (cell_of_row _ _ 2 _ _ _ hnew).trans rfl
        clear hcat hnew hb2 h2 h12 hx0
        have HSX := Aside0.mk (someX_eq xk xv xg kx HKX.out)
        have HBW : Aside0 (∀ o1 o2 : Obj, Below wr.heap.size wr ((wr.alloc o1).alloc o2)) := ⟨fun _ _ => below_alloc (below_alloc (Below.refl _ _) _) _⟩
        clear HKX
        by_cases ha : 20 < kx.size
        all_goals cases xg
        all_goals by_cases hv : 40 < xv.size
        all_goals
          first | (have n0 : (20 : Int) < (kx.size : Int) := by omega) | (have n0 : ¬ (20 : Int) < (kx.size : Int) := by omega)
          first | (have n1 : (40 : Int) < (xv.size : Int) := by omega) | (have n1 : ¬ (40 : Int) < (xv.size : Int) := by omega)
          have HA := Aside0.mk ha
          have HV := Aside0.mk hv
          clear ha hv
          go_wp2_with (first
            | ((with_reducible refine gate_builtin (b := .append) (xs := #[.tmp 44, .tmp 46]) rfl ?_); at_builtin
               refine Kd.R_append k31 (w0 := wr) 0 rfl (.tmp 44) (.tmp 46) 22 31 (.agg #[.string ⟨#[]⟩, .string ⟨#[]⟩, .bool false]) 40 rfl Try.underlying22 info31 rfl (by decide) (by decide) (.slice A3 i c3) L3 (⟨_, _, _⟩ : Wr) [.string _, .string _, .bool _] (fun k => w.heap.size ≤ k) (fun _ => False) rfl ?hx (k31_mkM _ _ _ _) (fun k h => h.elim) (fun k hk => Nat.le_trans (Nat.le_trans HB.out.size (HBW.out _ _).size) hk) (Kd.R_below HRW.out (HBW.out _ _)) ((HBW.out _ _).mono (Nat.zero_le _)) (Nat.zero_le _) (by have := HLI.out; omega) ?_
               case hx => show Value.slice _ 1 1 = Value.slice _ 1 1; simp only [World.size_setCell, World.size_alloc]
               intro v7 w7 h1 h2 h3 h4
               have H1 := Aside0.mk h1
               have H3 := Aside0.mk h3
               clear h1 h2 h3 h4))
          go_roundg (gk - 1)
          case measure => omega
          case rel =>
            refine ⟨i + 1, by go_num, by omega, by omega, by omega, ⟨?_⟩, ⟨(below_step HB.out (HBW.out _ _)).grown H3.out (below_step HB.out (HBW.out _ _)).size (fun k e => HRW.out.1 k e)⟩⟩
            rw [HTK.out, HSX.out]
            have ha := HA.out
            have hv := HV.out
            simp only [ha, hv, if_true, if_false, Bool.false_eq_true]
            exact H1.out
      · have q1 : (12 : Int) ≤ (i : Int) := by omega
        have HL12 := Aside0.mk (HT12.out (by omega))
        have HB2 := Aside0.mk (HB.out.trans (hb2.mono HB.out.size))
        have HRW2 := Aside0.mk (Kd.R_below HRW.out hb2)
        clear hb2 HT12 HTK h2 h12 hx0
        go_wp2_with (first | (go_at_call 42; refine (HSO.out _ _ _ HL12.out HB2.out.size HRW2.out).mono ?_; rintro e w5 ⟨v5, rfl, h1, h2⟩; have H1 := Aside0.mk h1; have H2 := Aside0.mk h2; clear h1 h2))
        go_ret
        exact ⟨_, rfl, H1.out, below_step HB2.out H2.out⟩
    · have hiz : i = ws.length := by omega
      subst hiz
      have HL12 : Aside0 ((ws.take ws.length).map someX = someL ws) := ⟨by unfold someL; rw [List.take_length, List.take_of_length_le h12]⟩
      clear hi hlt hn h12
      go_wp2_with (first | (go_at_call 42; refine (HSO.out _ _ _ HL12.out HB.out.size HRW.out).mono ?_; rintro e w5 ⟨v5, rfl, h1, h2⟩; have H1 := Aside0.mk h1; have H2 := Aside0.mk h2; clear h1 h2))
      go_ret
      exact ⟨_, rfl, H1.out, below_step HB.out H2.out⟩
end Go.Proofs.Ytmafibbnojdpjaa.St
end
section
set_option linter.unusedVariables false
set_option maxRecDepth 100000
set_option linter.unusedSimpArgs false
namespace Go.Proofs.Ytmafibbnojdpjaa.St
open Go.Proofs.Ytmafibbnojdpjaa.Tr Go.RowKit Go.Proofs.YtmafibbnojdpjaaW.PrintWords Go.Proofs.YtmafibbnojdpjaaW.PrintLast Go.Proofs.YtmafibbnojdpjaaW.PrintMore Go.Proofs.Ytmafibbnojdpjaa.P
attribute [local go_sem] Oper.semAt_some
def wsA (wss : List (List Wr)) (i : Nat) : List Wr := wss.getD i []
theorem wsA_eq {wss : List (List Wr)} {i : Nat} (h : i < wss.length) : wsA wss i = wss[i] := by simp [wsA, List.getD, h]
theorem rd_wsA (wss : List (List Wr)) (i : Nat) : rd_L9 wss (i : Int) = wsA wss i := by simp [rd_L9, wsA]
def cmI (first : Int) (wss : List (List Wr)) (i : Nat) : Cm := ⟨first + (i : Int), 10 * (i : Int), someW (wsA wss i)⟩
def listTo (first : Int) (wss : List (List Wr)) (n : Nat) : List Cm := (List.range n).map (cmI first wss)
def listC (first : Int) (wss : List (List Wr)) : List Cm := listTo first wss wss.length
theorem listTo_succ (first : Int) (wss : List (List Wr)) (n : Nat) : listTo first wss (n + 1) = listTo first wss n ++ [cmI first wss n] := by
  unfold listTo
  rw [List.range_succ, List.map_append]
  rfl
theorem listTo_len (first : Int) (wss : List (List Wr)) (n : Nat) : (listTo first wss n).length = n := by simp [listTo]
/-- what the rows ask of their writes -/
def okWs (ws : List Wr) : Prop := ws.length < 4611686018427387904 ∧ ∀ x ∈ ws, x.f0.size ≤ 140737488351232
set_option maxHeartbeats 16000000 in
theorem list_any (first : Int) (wss : List (List Wr)) (A : Option Addr) (c : Nat) (w : World) (hr : Kd.C (Kd.slice 31 k31) w A wss.length wss) (hn : wss.length ≤ 1000) (hok : ∀ ws ∈ wss, okWs ws) (h0 : 0 ≤ first) (h1 : first ≤ 1000000) :
    Calls Try.prog 47 #[.int .i64 first, .slice A wss.length c] w fun e w' => ∃ v, e = .returned v ∧ Kd.R k28 28 w' 0 (fun k => w.heap.size ≤ k) v (listC first wss) ∧ Below w.heap.size w w' := by
  have HR := Aside0.mk hr
  have HOK := Aside0.mk hok
  have HB0 : Aside0 (Below w.heap.size w (w.alloc (.cells #[] 28))) := ⟨below_alloc (Below.refl _ _) _⟩
  have HE0 : Aside0 (Kd.R k28 28 (w.alloc (.cells #[] 28)) 0 (fun k => w.heap.size ≤ k) (.slice (some ⟨w.heap.size, 0, none⟩) 0 0) (listTo first wss 0)) := ⟨R_empty k28 _ 28 _ _ _ (Nat.zero_le _) (Nat.le_refl _) (heap_alloc_new _ _)⟩
  clear hr hok
  go_enter Try.func47, Try.ntmps47
  go_wp2
  generalize w.alloc (.cells #[] 28) = W1 at *
  go_loopg [11, 5] (wss.length + 1) (fun kq v11 v5 wq => ∃ (i : Nat), v11 = .int .i64 (i : Int) ∧ i ≤ wss.length ∧ wss.length - i < kq ∧ Aside0 (Kd.R k28 28 wq 0 (fun k => w.heap.size ≤ k) v5 (listTo first wss i)) ∧ Aside0 (Below w.heap.size w wq))
  case atStart => exact ⟨0, rfl, Nat.zero_le _, by omega, HE0, HB0⟩
  case round =>
    clear HE0 HB0
    obtain ⟨i, rfl, hi, hk, HRW, HB⟩ := hrel
    have z0 : (0 : Int) ≤ (i : Int) := by omega
    by_cases hlt : i < wss.length
    · have z1 : (i : Int) < (wss.length : Int) := by omega
      obtain ⟨ad5, A5, c5, eA, f0, f1, f2⟩ := at_L9 (Kd.C_below HR.out HB.out) (i : Int) z0 z1
      rw [rd_wsA, Int.toNat_natCast] at f0
      rw [rd_wsA] at f1 f2
      subst eA
      have hli := listTo_len first wss i
      obtain ⟨A3, c3, ev⟩ := Kd.R_slice HRW.out
      rw [hli] at ev
      subst ev
      have hw := HOK.out _ (by rw [wsA_eq hlt]; exact List.getElem_mem hlt : wsA wss i ∈ wss)
      have HSM := Aside0.mk (some_any (wsA wss i) A5 c5 wr f2 f1 hw.1 hw.2)
      have HTK : Aside0 (listTo first wss (i + 1) = listTo first wss i ++ [(⟨first + (i : Int), 10 * (i : Int), someW (wsA wss i)⟩ : Cm)]) := ⟨listTo_succ _ _ _⟩
      have HLI := Aside0.mk hli
      have hw1 : IntKind.i64.wrap (first + (i : Int)) = first + (i : Int) := by rw [IntKind.wrap_i64]; omega
      have hw2 : wrap64 (first + (i : Int)) = first + (i : Int) := w64 (by omega) (by omega)
      have hw3 : IntKind.i64.wrap (10 * (i : Int)) = 10 * (i : Int) := by rw [IntKind.wrap_i64]; omega
      have hw4 : wrap64 (10 * (i : Int)) = 10 * (i : Int) := w64 (by omega) (by omega)
      generalize listTo first wss i = L3 at *
      generalize wsA wss i = ws at *
      clear hli f1 f2 hw
      go_wp2_with (first
        | (go_at_call 54; refine HSM.out.mono ?_; rintro e w5 ⟨v5, rfl, h5, hb5⟩; obtain ⟨A7, n7, ev7⟩ := Kd.R_slice h5; subst ev7; have H5 := Aside0.mk h5; have HB5 := Aside0.mk hb5; clear h5 hb5)
        | ((with_reducible refine gate_builtin (b := .append) (xs := #[.tmp 16, .tmp 25]) rfl ?_); at_builtin
           refine Kd.R_append k28 (w0 := w5) 0 rfl (.tmp 16) (.tmp 25) 23 28 (.agg #[.int .i64 0, .int .i64 0, .slice none 0 0]) 40 rfl Try.underlying23 info28 rfl (by decide) (by decide) (.slice A3 i c3) L3 (⟨first + (i : Int), 10 * (i : Int), someW ws⟩ : Cm) [.int .i64 (first + (i : Int)), .int .i64 (10 * (i : Int)), .slice A7 (someW ws).length n7] (fun k => w.heap.size ≤ k) (fun k => wr.heap.size ≤ k) rfl ?hx (k28_mkM _ _ _ _ H5.out) (fun k (hk : wr.heap.size ≤ k) => ⟨Nat.le_trans HB.out.size hk, fun e => by have := Kd.R_lt HRW.out k e.symm; omega⟩) (fun k hk => Nat.le_trans (Nat.le_trans HB.out.size HB5.out.size) hk) (Kd.R_below HRW.out HB5.out) (Below.refl _ _) (Nat.zero_le _) (by have := HLI.out; omega) ?_
           case hx => show Value.slice _ 1 1 = Value.slice _ 1 1; first | rfl | (rw [World.size_alloc])
           intro v7 w7 h1 h2 h3 h4
           have H1 := Aside0.mk h1
           have H3 := Aside0.mk h3
           clear h1 h2 h3 h4))
      go_roundg (gk - 1)
      case measure => omega
      case rel => exact ⟨i + 1, by go_num, by omega, by omega, ⟨by rw [HTK.out]; exact H1.out⟩, ⟨(below_step HB.out HB5.out).grown H3.out (below_step HB.out HB5.out).size (fun k e => HRW.out.1 k e)⟩⟩
    · have hiz : i = wss.length := by omega
      subst hiz
      clear hi hlt
      go_wp2
      go_ret
      exact ⟨_, rfl, HRW.out, HB.out⟩
def thereW (ws : List Wr) : List Wr := ws.filter fun x => !x.f2
set_option maxHeartbeats 16000000 in
theorem there_any (ws : List Wr) (A : Option Addr) (c : Nat) (w : World) (hr : Kd.C k31 w A ws.length ws) (hn : ws.length ≤ 1000000) :
    Calls Try.prog 53 #[.slice A ws.length c] w fun e w' => ∃ v, e = .returned v ∧ Kd.R k31 31 w' 0 (fun k => w.heap.size ≤ k) v (thereW ws) ∧ Below w.heap.size w w' := by
  have HR := Aside0.mk hr
  have HB0 : Aside0 (Below w.heap.size w (w.alloc (.cells #[] 31))) := ⟨below_alloc (Below.refl _ _) _⟩
  have HE0 : Aside0 (Kd.R k31 31 (w.alloc (.cells #[] 31)) 0 (fun k => w.heap.size ≤ k) (.slice (some ⟨w.heap.size, 0, none⟩) 0 0) (thereW (ws.take 0))) := ⟨R_empty k31 _ 31 _ _ _ (Nat.zero_le _) (Nat.le_refl _) (heap_alloc_new _ _)⟩
  clear hr
  go_enter Try.func53, Try.ntmps53
  go_wp2
  generalize w.alloc (.cells #[] 31) = W1 at *
  go_loopg [9, 3] (ws.length + 1) (fun kq v9 v3 wq => ∃ (i : Nat), v9 = .int .i64 (i : Int) ∧ i ≤ ws.length ∧ ws.length - i < kq ∧ Aside0 (Kd.R k31 31 wq 0 (fun k => w.heap.size ≤ k) v3 (thereW (ws.take i))) ∧ Aside0 (Below w.heap.size w wq))
  case atStart => exact ⟨0, rfl, Nat.zero_le _, by omega, HE0, HB0⟩
  case round =>
    clear HE0 HB0
    obtain ⟨i, rfl, hi, hk, HRW, HB⟩ := hrel
    have z0 : (0 : Int) ≤ (i : Int) := by omega
    by_cases hlt : i < ws.length
    · have z1 : (i : Int) < (ws.length : Int) := by omega
      obtain ⟨ad5, eA, f0, f1, f2⟩ := at_T31 (Kd.C_below HR.out HB.out) (i : Int) z0 z1
      rw [rd_wA, Int.toNat_natCast] at f0 f1 f2
      subst eA
      obtain ⟨A3, c3, ev⟩ := Kd.R_slice HRW.out
      subst ev
      have HTK : Aside0 (thereW (ws.take (i + 1)) = thereW (ws.take i) ++ if (wA ws i).f2 = true then [] else [wA ws i]) := ⟨by
        unfold thereW
        rw [List.take_succ_eq_append_getElem hlt, List.filter_append, ← wA_eq hlt, List.filter_cons, List.filter_nil]
        cases (wA ws i).f2 <;> rfl⟩
      have HLI : Aside0 ((thereW (ws.take i)).length ≤ i) := ⟨by
        refine Nat.le_trans (List.length_filter_le _ _) ?_
        rw [List.length_take]; omega⟩
      generalize thereW (ws.take i) = L3 at *
      generalize wA ws i = x at *
      obtain ⟨d0, d1, d2⟩ := three_new wr 31 (.string x.f0) (.string x.f1) (.bool x.f2)
      have HB2 : Aside0 (Below wr.heap.size wr (wr.alloc (.cells #[.string x.f0, .string x.f1, .bool x.f2] 31))) := ⟨below_alloc (Below.refl _ _) _⟩
      cases hg : x.f2 with
      | true =>
        rw [hg] at d2 f2 HB2 HTK d0 d1
        rw [if_pos rfl, List.append_nil] at HTK
        clear hg
        go_wp2
        go_roundg (gk - 1)
        case measure => omega
        case rel => exact ⟨i + 1, by go_num, by omega, by omega, ⟨by rw [HTK.out]; exact Kd.R_below HRW.out HB2.out⟩, ⟨below_step HB.out HB2.out⟩⟩
      | false =>
        rw [hg] at d2 f2 HB2 HTK d0 d1
        rw [if_neg (by decide)] at HTK
        have HXE : Aside0 (x = ⟨x.f0, x.f1, false⟩) := ⟨by rw [← hg]⟩
        clear hg
        go_wp2_with (first
          | ((with_reducible refine gate_builtin (b := .append) (xs := #[.tmp 16, .tmp 18]) rfl ?_); at_builtin
             refine Kd.R_append k31 (w0 := wr) 0 rfl (.tmp 16) (.tmp 18) 22 31 (.agg #[.string ⟨#[]⟩, .string ⟨#[]⟩, .bool false]) 40 rfl Try.underlying22 info31 rfl (by decide) (by decide) (.slice A3 L3.length c3) L3 (⟨x.f0, x.f1, false⟩ : Wr) [.string x.f0, .string x.f1, .bool false] (fun k => w.heap.size ≤ k) (fun _ => False) rfl ?hx (k31_mkM _ _ _ _) (fun k h => h.elim) (fun k hk => Nat.le_trans (Nat.le_trans HB.out.size HB2.out.size) hk) (Kd.R_below HRW.out HB2.out) (HB2.out.mono (Nat.zero_le _)) (Nat.zero_le _) (by have := HLI.out; omega) ?_
             case hx => show Value.slice _ 1 1 = Value.slice _ 1 1; first | rfl | (rw [World.size_alloc])
             intro v7 w7 h1 h2 h3 h4
             have H1 := Aside0.mk h1
             have H3 := Aside0.mk h3
             clear h1 h2 h3 h4))
        go_roundg (gk - 1)
        case measure => omega
        case rel => exact ⟨i + 1, by go_num, by omega, by omega, ⟨by rw [HTK.out]; rw [HXE.out]; exact H1.out⟩, ⟨(below_step HB.out HB2.out).grown H3.out (below_step HB.out HB2.out).size (fun k e => HRW.out.1 k e)⟩⟩
    · have hiz : i = ws.length := by omega
      subst hiz
      rw [List.take_length] at HRW
      clear hi hlt
      go_wp2
      go_ret
      exact ⟨_, rfl, HRW.out, HB.out⟩
end Go.Proofs.Ytmafibbnojdpjaa.St
end
section
set_option linter.unusedVariables false
set_option maxRecDepth 100000
set_option linter.unusedSimpArgs false
namespace Go.Proofs.Ytmafibbnojdpjaa.St
open Go.Proofs.Ytmafibbnojdpjaa.Tr Go.RowKit Go.Proofs.YtmafibbnojdpjaaW.PrintWords Go.Proofs.YtmafibbnojdpjaaW.PrintLast Go.Proofs.YtmafibbnojdpjaaW.PrintMore Go.Proofs.Ytmafibbnojdpjaa.P
theorem ins_facts (ws : List Wr) : ∀ a ∈ insAll ws, a.2.f0 = a.1 ∧ a.2 ∈ ws := by
  refine list_snoc (p := fun l => ∀ a ∈ insAll l, a.2.f0 = a.1 ∧ a.2 ∈ l) (fun a ha => by cases ha) (fun l x h => ?_) ws
  rw [insAll_snoc]
  intro a ha
  rcases mem_insK.1 ha with rfl | ⟨h1, _⟩
  · exact ⟨rfl, by simp⟩
  · exact ⟨(h a h1).1, List.mem_append_left _ (h a h1).2⟩
theorem sorted_mem {ws : List Wr} {x : Wr} (h : x ∈ sortedW ws) : x ∈ ws := by
  obtain ⟨a, ha, rfl⟩ := List.mem_map.1 h
  exact (ins_facts ws a ha).2
theorem sorted_pair (ws : List Wr) : (sortedW ws).Pairwise fun a b => kl a.f0 b.f0 := by
  unfold sortedW
  rw [List.pairwise_map]
  refine List.Pairwise.imp_of_mem (fun {a b} ha hb h => ?_) (srtK_insAll ws)
  rw [(ins_facts ws a ha).1, (ins_facts ws b hb).1]
  exact h
theorem rises_of {l : List Wr} (h1 : l.Pairwise fun a b => kl a.f0 b.f0) (h2 : ∀ x ∈ l, okW x = true) : rises l = true := by
  unfold rises
  rw [rises_iff]
  intro i hi
  unfold okAt
  rw [Bool.and_eq_true, Bool.or_eq_true, decide_eq_true_eq, decide_eq_true_eq]
  refine ⟨by rw [wA_eq hi]; exact h2 _ (List.getElem_mem hi), ?_⟩
  rcases Nat.eq_zero_or_pos i with h | h
  · exact .inl h
  · refine .inr ?_
    rw [wA_eq hi, wA_eq (show i - 1 < l.length by omega)]
    exact List.pairwise_iff_getElem.1 h1 (i - 1) i (by omega) hi (by omega)
theorem keyX_size (s : ByteArray) : 0 < (keyX s).size := by
  unfold keyX cutS
  have h : (⟨#[107]⟩ ++ s : ByteArray).size = 1 + s.size := by rw [ByteArray.size_append]; rfl
  split
  · rw [ByteArray.size_extract]; omega
  · omega
theorem someX_ok (x : Wr) : okW (someX x) = true := by
  unfold okW someX
  have h1 := keyX_size x.f0
  have h2 : (keyX x.f0).size ≤ 20 := cutS_size _ _
  have h3 : (valX x).size ≤ 40 := by
    unfold valX
    split
    · exact Nat.zero_le _
    · exact cutS_size _ _
  have h4 : (x.f2 && decide ((valX x).size ≠ 0)) = false := by
    cases hg : x.f2 with
    | false => rfl
    | true =>
      unfold valX
      rw [hg, if_pos rfl]
      rfl
  simp only [h4, Bool.not_false, Bool.and_true, Bool.and_eq_true, decide_eq_true_eq]
  omega
theorem some_len (ws : List Wr) : (someW ws).length ≤ 12 := Nat.le_trans (sortedW_len _) (someL_len ws)
theorem some_ok (ws : List Wr) : ∀ x ∈ someW ws, okW x = true := fun x hx => by
  obtain ⟨y, _, rfl⟩ := List.mem_map.1 (sorted_mem hx)
  exact someX_ok y
theorem some_right (ws : List Wr) : rightW (someW ws) = true := by
  unfold rightW
  rw [Bool.and_eq_true, decide_eq_true_eq]
  have := some_len ws
  exact ⟨by omega, rises_of (sorted_pair _) (some_ok ws)⟩
theorem there_pair (ws : List Wr) : (thereW (someW ws)).Pairwise fun a b => kl a.f0 b.f0 := List.Pairwise.filter _ (sorted_pair _)
theorem there_new {q : Int} (h0 : 0 ≤ q) (h1 : q ≤ maxSeq) (ws : List Wr) : newOk q (thereW (someW ws)) = true := by
  unfold newOk
  rw [decide_eq_true h0, decide_eq_true h1, rises_of (there_pair ws) (fun x hx => some_ok ws x (List.mem_filter.1 hx).1)]
  simp only [Bool.true_and, List.all_eq_true]
  exact fun x hx => (List.mem_filter.1 hx).2
/-- commits one behind the other are taken -/
theorem list_last (first : Int) (wss : List (List Wr)) (n : Nat) : lastAt (listTo first wss n) = if n = 0 then 0 else 10 * ((n - 1 : Nat) : Int) := by
  unfold lastAt
  rcases Nat.eq_zero_or_pos n with h | h
  · subst h
    rfl
  · have hl := listTo_len first wss n
    rw [dif_neg (by omega), if_neg (by omega)]
    simp only [listTo, List.length_map, List.length_range, List.getElem_map, List.getElem_range]
    rfl
theorem list_good {M : StM} {first : Int} {wss : List (List Wr)} {n : Nat} (hq : lastM M = first - 1 + (n : Int)) (hm : first + (n : Int) ≤ maxSeq) (hn : n ≤ 1000) (hh : M.hist = listTo first wss n) : goodC M (cmI first wss n) = true := by
  rw [goodC_iff]
  refine ⟨?_, hm, ?_, ?_, some_right _, ?_⟩
  · show first + (n : Int) = _
    omega
  · show (0 : Int) ≤ 10 * (n : Int)
    omega
  · show 10 * (n : Int) ≤ maxSeq
    unfold maxSeq
    omega
  · rw [hh, listTo_len, list_last]
    rcases Nat.eq_zero_or_pos n with h | h
    · exact .inl h
    · refine .inr ?_
      rw [if_neg (by omega)]
      show 10 * ((n - 1 : Nat) : Int) ≤ 10 * (n : Int)
      omega
theorem list_run {M : StM} (hi : Inv M) {first : Int} {wss : List (List Wr)} (hq : lastM M + 1 = first) (hm : first + 1000 ≤ maxSeq) (hh : M.hist = []) (n : Nat) (hn : n ≤ 1000) :
    ∃ M', runM M (listTo first wss n) = some M' ∧ Inv M' ∧ M'.hist = listTo first wss n ∧ M'.low = M.low ∧ lastM M' = first - 1 + (n : Int) := by
  induction n with
  | zero => exact ⟨M, rfl, hi, hh, rfl, by omega⟩
  | succ n ih =>
    obtain ⟨M', h1, h2, h3, h4, h5⟩ := ih (by omega)
    have hg := list_good (M := M') (first := first) (wss := wss) (n := n) h5 (by omega) (by omega) h3
    refine ⟨comM M' (cmI first wss n), ?_, inv_com h2 hg, ?_, h4, ?_⟩
    · rw [listTo_succ, run_append, h1]
      show (if goodC M' (cmI first wss n) = true then some _ else none) = _
      rw [if_pos hg]
    · show M'.hist ++ [cmI first wss n] = _
      rw [h3, listTo_succ]
    · rw [last_com, h5]
      omega
set_option maxHeartbeats 1000000 in
theorem few_any (A : Option Addr) (n c : Nat) (w : World) : Calls Try.prog 46 #[.slice A n c] w fun e w' => e = .returned (.bool (decide ((n : Int) ≤ 30))) ∧ w' = w := by
  go_enter Try.func46, Try.ntmps46
  go_wp2
  go_ret
  exact ⟨rfl, rfl⟩
end Go.Proofs.Ytmafibbnojdpjaa.St
end
section
set_option linter.unusedVariables false
set_option maxRecDepth 100000
set_option linter.unusedSimpArgs false
namespace Go.Proofs.Ytmafibbnojdpjaa.St
open Go.Proofs.Ytmafibbnojdpjaa.Tr Go.RowKit Go.Proofs.YtmafibbnojdpjaaW.PrintWords Go.Proofs.YtmafibbnojdpjaaW.PrintLast Go.Proofs.YtmafibbnojdpjaaW.PrintMore Go.Proofs.Ytmafibbnojdpjaa.P
set_option maxHeartbeats 8000000 in
theorem made_any (q : Int) (ws : List Wr) (cs : List Cm) (A1 A2 : Option Addr) (c1 c2 : Nat) (w : World) (hr1 : Kd.C k31 w A1 ws.length ws) (hc1 : ws.length ≤ c1) (hn1 : ws.length ≤ 1000)
    (hr2 : Kd.C k28 w A2 cs.length cs) (hc2 : cs.length ≤ c2) (hn2 : cs.length ≤ 1000) (hwl : ∀ i, i < cs.length → (cA cs i).f2.length < 4611686018427387904) (MM : StM) (hst : stateM q ws cs = some MM) :
    Calls Try.prog 48 #[.int .i64 q, .slice A1 ws.length c1, .slice A2 cs.length c2] w fun e w' => ∃ s, e = .returned (.tuple #[.pointer (some ⟨s, 0, none⟩), .bool true]) ∧ StoreAt (fun k => w.heap.size ≤ k) w' s MM ∧ Inv MM ∧ Below w.heap.size w w' := by
  have HNW := Aside0.mk (new_any q ws A1 c1 w hr1 hc1 (by omega))
  have HR2 := Aside0.mk hr2
  have HWL := Aside0.mk hwl
  have hnew : newOk q ws = true := by
    unfold stateM at hst
    cases h : newOk q ws with
    | true => rfl
    | false => rw [h, if_neg (by decide)] at hst; cases hst
  have HRM : Aside0 (runM (newM q ws) cs = some MM) := ⟨by unfold stateM at hst; rw [hnew, if_pos rfl] at hst; exact hst⟩
  clear hr1 hr2 hwl hst
  go_enter Try.func48, Try.ntmps48
  go_wp2_with (first | (go_at_call 35; refine HNW.out.mono ?_; rintro e w1 ⟨hb, _, h1⟩; obtain ⟨s, rfl, hs⟩ := h1 hnew; have HB1 := Aside0.mk hb; have HS1 : Aside0 (StoreAt (fun k => w.heap.size ≤ k) w1 s (newM q ws)) := ⟨hs⟩; clear hb h1 hs))
  have HI0 := Aside0.mk (inv_new hnew)
  have HKL : Aside0 ((newM q ws).K.length ≤ 1000 + 200 * 0) := ⟨by have := newAll_length q ws; show (newAll q ws).length ≤ _; omega⟩
  clear HNW hnew
  go_loopg [22] (cs.length + 1) (fun kq v22 wq => ∃ (i : Nat) (M : StM), v22 = .int .i64 (i : Int) ∧ i ≤ cs.length ∧ cs.length - i < kq ∧ Aside0 (runM (newM q ws) (cs.take i) = some M) ∧ Aside0 (StoreAt (fun k => w.heap.size ≤ k) wq s M) ∧ Aside0 (Inv M) ∧ Aside0 (M.hist.length = i ∧ M.K.length ≤ 1000 + 200 * i) ∧ Aside0 (Below w.heap.size w wq))
  case atStart => exact ⟨0, newM q ws, rfl, Nat.zero_le _, by omega, ⟨rfl⟩, HS1, HI0, ⟨rfl, HKL.out⟩, HB1⟩
  case round =>
    clear HS1 HI0 HKL HB1
    obtain ⟨i, M, rfl, hi, hk, HRN, HS, HI, HSZ, HB⟩ := hrel
    have z0 : (0 : Int) ≤ (i : Int) := by omega
    by_cases hlt : i < cs.length
    · have z1 : (i : Int) < (cs.length : Int) := by omega
      obtain ⟨ad5, A5, c5, eA, f0, f1, f2, f3, f4⟩ := at_T28 (Kd.C_below HR2.out HB.out) (i : Int) z0 z1
      rw [rd_cA, Int.toNat_natCast] at f0 f1 f2
      rw [rd_cA] at f3 f4
      subst eA
      have hb2 : Below wr.heap.size wr (wr.alloc (.cells #[.int .i64 (cA cs i).f0, .int .i64 (cA cs i).f1, .slice A5 (cA cs i).f2.length c5] 28)) := below_alloc (Below.refl _ _) _
      have HCM := Aside0.mk (com_any (HS.out.below hb2) HI.out (fun k hk => Nat.le_trans HB.out.size (Nat.le_trans hb2.size hk)) ⟨by have := HSZ.out.1; omega, by have := HSZ.out.2; omega⟩ (cA cs i) A5 c5 (Kd.C_below f4 hb2) f3 (HWL.out i hlt))
      have HRT := Aside0.mk (run_take hlt HRN.out)
      rw [← cA_eq hlt] at HRT
      have HGW : Aside0 (goodC M (cA cs i) = true → (cA cs i).f2.length ≤ 200) := ⟨fun h => by
        have := (goodC_iff.1 h).2.2.2.2.1
        unfold rightW at this
        rw [Bool.and_eq_true, decide_eq_true_eq] at this
        exact this.1⟩
      have HB2 := Aside0.mk (HB.out.trans (hb2.mono HB.out.size))
      clear f3 f4 hb2
      obtain ⟨d0, d1, d2⟩ := three_new wr 28 (.int .i64 (cA cs i).f0) (.int .i64 (cA cs i).f1) (.slice A5 (cA cs i).f2.length c5)
      have hg : goodC M (cA cs i) = true := by
        cases h : goodC M (cA cs i) with
        | true => rfl
        | false =>
          have h1 := HRT.out
          rw [h, if_neg (by decide)] at h1
          have h2 := HRM.out
          rw [run_none h1] at h2
          cases h2
      have HI2 := Aside0.mk (inv_com HI.out hg)
      rw [hg, if_pos rfl] at HRT
      have hW := HGW.out hg
      have HK2 : Aside0 ((comM M (cA cs i)).hist.length = i + 1 ∧ (comM M (cA cs i)).K.length ≤ 1000 + 200 * (i + 1)) := ⟨by
        have h1 := putAll_length (s := (cA cs i).f0) (cA cs i).f2 M.K
        refine ⟨by simp [comM, HSZ.out.1], ?_⟩
        show (putAll (cA cs i).f0 M.K (cA cs i).f2).length ≤ _
        have := HSZ.out.2
        omega⟩
      unfold errC stepM at HCM
      rw [hg, if_pos rfl, if_pos rfl] at HCM
      generalize comM M (cA cs i) = M2 at *
      clear hg hW
      generalize cA cs i = x at *
      go_wp2_with (first | (go_at_call 36; refine HCM.out.mono ?_; rintro e w5 ⟨rfl, hs5, hf5⟩; have HS5 := Aside0.mk hs5; have HB5 := Aside0.mk (fr_below (fun k hk => hk) HB2.out hf5); clear hs5 hf5))
      go_roundg (gk - 1)
      case measure => omega
      case rel => exact ⟨i + 1, M2, by go_num, by omega, by omega, HRT, HS5, HI2, HK2, HB5⟩
    · have hiz : i = cs.length := by omega
      subst hiz
      clear hi hlt hk
      have h1 := HRN.out
      rw [List.take_length] at h1
      have HE : Aside0 (M = MM) := ⟨by have h2 := HRM.out; rw [h1] at h2; injection h2⟩
      clear h1
      go_wp2
      go_ret2
      rw [← HE.out]
      exact ⟨s, rfl, HS.out, HI.out, HB.out⟩
end Go.Proofs.Ytmafibbnojdpjaa.St
end
section
set_option linter.unusedVariables false
set_option maxRecDepth 100000
set_option linter.unusedSimpArgs false
namespace Go.Proofs.Ytmafibbnojdpjaa.St
open Go.Proofs.Ytmafibbnojdpjaa.Tr Go.RowKit Go.Proofs.YtmafibbnojdpjaaW.PrintWords Go.Proofs.YtmafibbnojdpjaaW.PrintLast Go.Proofs.YtmafibbnojdpjaaW.PrintMore Go.Proofs.Ytmafibbnojdpjaa.P
theorem run_lens : ∀ (cs : List Cm) (M M' : StM), runM M cs = some M' → M'.K.length ≤ M.K.length + 200 * cs.length ∧ M'.hist.length = M.hist.length + cs.length ∧ (KeyOk M.K → KeyOk M'.K)
  | [], M, M', h => by cases h; exact ⟨by simp, by simp, fun h => h⟩
  | c :: cs, M, M', h => by
    have h0 : (if goodC M c = true then runM (comM M c) cs else none) = some M' := h
    by_cases hg : goodC M c = true
    · rw [if_pos hg] at h0
      obtain ⟨h1, h2, h3⟩ := run_lens cs _ _ h0
      have h4 : (comM M c).K.length ≤ M.K.length + c.f2.length := putAll_length _ _
      have h5 : c.f2.length ≤ 200 := by
        have := (goodC_iff.1 hg).2.2.2.2.1
        unfold rightW at this
        rw [Bool.and_eq_true, decide_eq_true_eq] at this
        exact this.1
      refine ⟨?_, ?_, fun hk => h3 (keyOk_com hk hg)⟩
      · rw [List.length_cons]; omega
      · rw [h2]; simp [comM]; omega
    · rw [if_neg hg] at h0
      cases h0
end Go.Proofs.Ytmafibbnojdpjaa.St
end
section
set_option linter.unusedVariables false
set_option maxRecDepth 100000
set_option linter.unusedSimpArgs false
namespace Go.Proofs.Ytmafibbnojdpjaa.St
open Go.Proofs.Ytmafibbnojdpjaa.Tr Go.RowKit Go.Proofs.YtmafibbnojdpjaaW.PrintWords Go.Proofs.YtmafibbnojdpjaaW.PrintLast Go.Proofs.YtmafibbnojdpjaaW.PrintMore Go.Proofs.Ytmafibbnojdpjaa.P
theorem listC_len (first : Int) (wss : List (List Wr)) : (listC first wss).length = wss.length := listTo_len _ _ _
theorem list_ws (first : Int) (wss : List (List Wr)) : ∀ c ∈ listC first wss, c.f2.length ≤ 12 := fun c hc => by
  obtain ⟨j, _, e⟩ := List.mem_map.1 (show c ∈ (List.range wss.length).map (cmI first wss) from hc)
  rw [← e]
  exact some_len _
def lenL (l : List Cm) : Nat := (l.map (·.f2.length)).sum
theorem lenL_le (l : List Cm) (n : Nat) (h : ∀ c ∈ l, c.f2.length ≤ n) : lenL l ≤ l.length * n := by
  induction l with
  | nil => simp [lenL]
  | cons c l ih =>
    have h1 := h c (List.mem_cons_self ..)
    have h2 := ih (fun x hx => h x (List.mem_cons_of_mem _ hx))
    unfold lenL at *
    rw [List.map_cons, List.sum_cons, List.length_cons, Nat.add_mul]
    omega
end Go.Proofs.Ytmafibbnojdpjaa.St
end
section
set_option linter.unusedVariables false
set_option maxRecDepth 100000
set_option linter.unusedSimpArgs false
namespace Go.Proofs.Ytmafibbnojdpjaa.St
open Go.Proofs.Ytmafibbnojdpjaa.Tr Go.RowKit Go.Proofs.YtmafibbnojdpjaaW.PrintWords Go.Proofs.YtmafibbnojdpjaaW.PrintLast Go.Proofs.YtmafibbnojdpjaaW.PrintMore Go.Proofs.Ytmafibbnojdpjaa.P
/-- how much Cut takes away -/
theorem cutN_eq {c : List Ver} (h : upV c) (q : Int) : Go.Proofs.Ytmafibbnojdpjaa.C.cutN c q = if (atO c q).isSome then (cutV c q).length - 1 else (cutV c q).length := by
  have hb := behind_cut h q
  obtain ⟨h1, _⟩ := cut_split h q
  have hl := cut_len c q
  unfold Go.Proofs.Ytmafibbnojdpjaa.C.cutN
  rw [hb]
  unfold atO
  obtain ⟨n, hn⟩ : ∃ n, n = (cutV c q).length := ⟨_, rfl⟩
  rw [← hn] at h1 hl ⊢
  by_cases h0 : n = 0
  · have e : cutV c q = [] := List.eq_nil_of_length_eq_zero (by omega)
    rw [e, if_neg (by omega)]
    simp
  · have hlt : n - 1 < c.length := by omega
    have e : (cutV c q).getLast? = some c[n - 1] := by
      rw [h1, List.getLast?_eq_getElem?, List.length_take, List.getElem?_take]
      rw [if_pos (by omega), show min n c.length - 1 = n - 1 from by omega, List.getElem?_eq_getElem hlt]
    have er : (rd_T118 c ((n : Int) - 1)) = c[n - 1] := by
      rw [show ((n : Int) - 1) = ((n - 1 : Nat) : Int) from by omega]
      simp [rd_T118, List.getD, hlt]
    rw [e, er]
    cases hg : c[n - 1].f2 with
    | true => rw [if_neg (by simp)]; simp [hg]
    | false => rw [if_pos ⟨by omega, rfl⟩]; simp [hg]; try omega
theorem atO_pos {c : List Ver} {q : Int} (h : (atO c q).isSome = true) : 0 < (cutV c q).length := by
  refine Nat.pos_of_ne_zero (fun e => ?_)
  have : cutV c q = [] := List.eq_nil_of_length_eq_zero e
  unfold atO at h
  rw [this] at h
  cases h
theorem chain_vac {K : List KC} (h : SrtK K) (q : Int) (z : ByteArray) : chainK (vacK K q) z = cutC (chainK K z) q := by
  unfold chainK
  rw [getK_vac h]
  cases hg : getK K z with
  | none => simp [cutC]
  | some c =>
    show ((if cutC c q = [] then none else some (cutC c q)) : Option (List Ver)).getD [] = cutC c q
    split
    · rename_i e; rw [e]; rfl
    · rfl
theorem Inv.upc {M : StM} (h : Inv M) (z : ByteArray) : upV (chainK M.K z) := (chainK_ok h.mid z).up
def sumL (K : List KC) : Nat := (K.map (·.2.length)).sum
theorem vers_sum (M : StM) : versM M = sumL M.K := rfl
theorem sum_split {K : List KC} (h : SrtK K) (x : ByteArray) : sumL K = sumL (K.filter fun a => decide (kl a.1 x)) + (chainK K x).length + sumL (K.filter fun a => decide (kl x a.1)) := by
  induction K with
  | nil => rfl
  | cons b K ih =>
    obtain ⟨h1, h2⟩ := List.pairwise_cons.1 h
    have ih := ih h2
    have hc : ∀ (b : KC) (K : List KC), sumL (b :: K) = b.2.length + sumL K := fun b K => by unfold sumL; rw [List.map_cons, List.sum_cons]
    have hne : b.1 ≠ x → chainK (b :: K) x = chainK K x := fun e => by unfold chainK getK; rw [List.find?_cons_of_neg (by simpa using e)]
    rw [hc]
    rcases kl_tri b.1 x with e | e | e
    · rw [List.filter_cons_of_pos (by simpa using e), List.filter_cons_of_neg (by simpa using kl_anti e), hc, hne (fun q => kl_irrefl x (by rw [q] at e; exact e))]
      omega
    · have e1 : chainK (b :: K) x = b.2 := by unfold chainK getK; rw [List.find?_cons_of_pos (by simpa using e)]; rfl
      have e2 : chainK K x = [] := by
        unfold chainK
        rw [getK_none.2 (fun a ha q => kl_irrefl x (by have := h1 a ha; rw [q, e] at this; exact this))]
        rfl
      rw [e2] at ih
      rw [e1, List.filter_cons_of_neg (by rw [e]; simpa using kl_irrefl x), List.filter_cons_of_neg (by rw [e]; simpa using kl_irrefl x)]
      simp only [List.length_nil] at ih
      omega
    · rw [List.filter_cons_of_neg (by simpa using kl_anti e), List.filter_cons_of_pos (by simpa using e), hc, hne (fun q => kl_irrefl x (by rw [q] at e; exact e))]
      omega
theorem sum_ins {K : List KC} (h : SrtK K) (x : ByteArray) (c : List Ver) : sumL (insK K x c) + (chainK K x).length = sumL K + c.length := by
  have := sum_split h x
  have ha : ∀ A B : List KC, sumL (A ++ B) = sumL A + sumL B := fun A B => by simp [sumL]
  have e : sumL [(x, c)] = c.length := by simp [sumL]
  have e2 : sumL (insK K x c) = sumL (K.filter fun a => decide (kl a.1 x)) + c.length + sumL (K.filter fun a => decide (kl x a.1)) := by
    unfold insK
    rw [ha, ha, e]
  rw [e2, this]
  omega
theorem sum_putAll (s : Int) (ws : List Wr) : ∀ K : List KC, SrtK K → sumL (putAll s K ws) = sumL K + ws.length := by
  induction ws with
  | nil => intro K _; rfl
  | cons x ws ih =>
    intro K h
    rw [show putAll s K (x :: ws) = putAll s (putW s K x) ws from rfl, ih (putW s K x) (show SrtK (putW s K x) from srtK_ins h _ _)]
    have := sum_ins h x.f0 (chainK K x.f0 ++ [verOf s x])
    rw [List.length_append, List.length_singleton] at this
    rw [List.length_cons]
    unfold putW
    omega
theorem vers_run : ∀ (cs : List Cm) {M M' : StM}, Inv M → runM M cs = some M' → versM M' = versM M + lenL cs ∧ Inv M'
  | [], M, M', hi, h => by cases h; exact ⟨by simp [lenL], hi⟩
  | c :: cs, M, M', hi, h => by
    unfold runM at h
    split at h
    · rename_i hg
      obtain ⟨g1, g2⟩ := vers_run cs (inv_com hi hg) h
      refine ⟨?_, g2⟩
      rw [g1, vers_sum, show (comM M c).K = putAll c.f0 M.K c.f2 from rfl, sum_putAll _ _ _ hi.srt, vers_sum]
      simp only [lenL, List.map_cons, List.sum_cons]
      omega
    · cases h
theorem vers_new (q : Int) {ws : List Wr} (h : ws.Pairwise fun a b => kl a.f0 b.f0) : versM (newM q ws) = ws.length := by
  rw [vers_sum, show (newM q ws).K = newAll q ws from rfl, newAll_map ws h]
  unfold sumL
  rw [List.map_map]
  induction ws with
  | nil => rfl
  | cons x ws ih =>
    rw [List.map_cons, List.sum_cons, ih (List.pairwise_cons.1 h).2, List.length_cons]
    show 1 + _ = _
    omega
/-- chains of like lengths: as many versions -/
theorem vers_ext {A B : List KC} (hA : SrtK A) (hB : SrtK B) (nA : ∀ a ∈ A, a.2 ≠ []) (nB : ∀ a ∈ B, a.2 ≠ []) (h : ∀ z, (chainK A z).length = (chainK B z).length) : sumL A = sumL B := by
  have hs : ∀ {K : List KC}, SrtK K → SrtK (K.map fun a => (a.1, a.2.length)) := fun h => by unfold SrtK at *; rw [List.pairwise_map]; exact h
  have hg : ∀ (K : List KC) (z : ByteArray), getK (K.map fun a => (a.1, a.2.length)) z = (getK K z).map List.length := fun K z => by
    induction K with
    | nil => rfl
    | cons b K ih =>
      unfold getK at *
      rw [List.map_cons, List.find?_cons, List.find?_cons]
      dsimp only
      cases decide (b.1 = z) with
      | true => rfl
      | false => exact ih
  have hn : ∀ {K : List KC}, (∀ a ∈ K, a.2 ≠ []) → ∀ z, (getK K z).map List.length = if (chainK K z).length = 0 then none else some (chainK K z).length := fun {K} nK z => by
    unfold chainK
    cases hk : getK K z with
    | none => rfl
    | some c =>
      have := nK _ (getK_mem hk)
      show some c.length = if c.length = 0 then none else some c.length
      rw [if_neg (fun e => this (List.eq_nil_of_length_eq_zero e))]
  have e : A.map (fun a => (a.1, a.2.length)) = B.map fun a => (a.1, a.2.length) := srtK_ext (hs hA) (hs hB) (fun z => by rw [hg, hg, hn nA, hn nB, h z])
  have e2 := congrArg (fun l : List (ByteArray × Nat) => (l.map (·.2)).sum) e
  simpa [sumL, List.map_map, Function.comp_def] using e2
/-- the versions that commits make of a key -/
def versC (cs : List Cm) (z : ByteArray) : List Ver := cs.flatMap fun c => (c.f2.filter fun x => decide (x.f0 = z)).map (verOf c.f0)
theorem chain_run (z : ByteArray) : ∀ (cs : List Cm) {M M' : StM}, Inv M → runM M cs = some M' → chainK M'.K z = chainK M.K z ++ versC cs z ∧ (∀ v ∈ versC cs z, lastM M < v.f0) ∧ lastM M' = lastM M + cs.length
  | [], M, M', hi, h => by
    cases h
    refine ⟨by simp [versC], fun v hv => ?_, by simp⟩
    cases hv
  | c :: cs, M, M', hi, h => by
    unfold runM at h
    split at h
    · rename_i hg
      obtain ⟨h1, _, _, _, h5, _⟩ := goodC_iff.1 hg
      obtain ⟨g1, g2, g3⟩ := chain_run z cs (inv_com hi hg) h
      rw [show (comM M c).K = putAll c.f0 M.K c.f2 from rfl, chain_putAll c.f2 (right_pair h5) M.K hi.srt z] at g1
      have hv : versC (c :: cs) z = (c.f2.filter fun x => decide (x.f0 = z)).map (verOf c.f0) ++ versC cs z := by simp [versC]
      rw [last_com] at g2 g3
      refine ⟨by rw [g1, hv, List.append_assoc], fun v hv' => ?_, by rw [g3, List.length_cons]; omega⟩
      rw [hv] at hv'
      rcases List.mem_append.1 hv' with hv' | hv'
      · obtain ⟨x, _, rfl⟩ := List.mem_map.1 hv'
        show lastM M < c.f0
        omega
      · have := g2 v hv'
        omega
    · cases h
theorem run_app : ∀ (a b : List Cm) {M M' : StM}, runM M (a ++ b) = some M' → ∃ M1, runM M a = some M1 ∧ runM M1 b = some M'
  | [], b, M, M', h => ⟨M, rfl, h⟩
  | c :: a, b, M, M', h => by
    have h0 : (if goodC M c = true then runM (comM M c) (a ++ b) else none) = some M' := h
    by_cases hg : goodC M c = true
    · rw [if_pos hg] at h0
      obtain ⟨M1, h1, h2⟩ := run_app a b h0
      exact ⟨M1, (show (if goodC M c = true then runM (comM M c) a else none) = some M1 by rw [if_pos hg]; exact h1), h2⟩
    · rw [if_neg hg] at h0
      cases h0
/-- a state that is begun anew of what there was behind a commit -/
theorem again {q0 : Int} {b : List Wr} {cs : List Cm} {M : StM} (h : stateM q0 b cs = some M) (k : Nat) (hk : k ≤ cs.length) (b' : List Wr) (hb : newOk (q0 + k) b' = true) (hb' : ∀ z, getO (newM (q0 + k) b') z (q0 + k) = getO M z (q0 + k)) :
    ∃ T, stateM (q0 + k) b' (cs.drop k) = some T ∧ (∀ z q, q0 + k ≤ q → getO T z q = getO M z q) ∧ versM (vacM M (q0 + k)) = versM T ∧ versM T = b'.length + lenL (cs.drop k) := by
  obtain ⟨h1, h2⟩ := state_parts h
  have hn0 := inv_new h1
  have hl0 : lastM (newM q0 b) = q0 := by simp [lastM, newM]
  obtain ⟨M1, r1, r2⟩ := run_app (cs.take k) (cs.drop k) (by rw [List.take_append_drop]; exact h2)
  obtain ⟨_, hi1⟩ := vers_run _ hn0 r1
  obtain ⟨_, hiM⟩ := vers_run _ hi1 r2
  have hl1 : lastM M1 = q0 + k := by rw [(chain_run ⟨#[]⟩ _ hn0 r1).2.2, hl0, List.length_take]; omega
  have hnT := inv_new hb
  have hlT : lastM (newM (q0 + k) b') = q0 + k := by simp [lastM, newM]
  have hgo : ∀ (cs : List Cm) {A A' B : StM}, lastM A = lastM B → (B.hist.length = 0 ∨ (0 < A.hist.length ∧ lastAt A.hist = lastAt B.hist)) → runM A cs = some A' → ∃ B', runM B cs = some B' := by
    intro cs
    induction cs with
    | nil => intro A A' B _ _ _; exact ⟨B, rfl⟩
    | cons c cs ih =>
      intro A A' B hl hh hr
      have h0 : (if goodC A c = true then runM (comM A c) cs else none) = some A' := hr
      by_cases hg : goodC A c = true
      · rw [if_pos hg] at h0
        obtain ⟨g1, g2, g3, g4, g5, g6⟩ := goodC_iff.1 hg
        have hgB : goodC B c = true := goodC_iff.2 ⟨by rw [g1, hl], g2, g3, g4, g5, by
          rcases hh with h | ⟨h1, h2⟩
          · exact .inl h
          · right
            rw [← h2]
            rcases g6 with g6 | g6
            · omega
            · exact g6⟩
        have e1 : ∀ (X : StM), lastAt (comM X c).hist = c.f1 := fun X => by
          unfold lastAt comM
          rw [dif_neg (by simp)]
          simp
        obtain ⟨B', hB'⟩ := ih (A := comM A c) (B := comM B c) (by rw [last_com, last_com, hl]) (.inr ⟨by simp [comM], by rw [e1, e1]⟩) h0
        exact ⟨B', (show (if goodC B c = true then runM (comM B c) cs else none) = some B' by rw [if_pos hgB]; exact hB')⟩
      · rw [if_neg hg] at h0
        cases h0
  obtain ⟨T, hT⟩ := hgo (cs.drop k) (A := M1) (B := newM (q0 + k) b') (by rw [hl1, hlT]) (.inl rfl) r2
  have hTs : stateM (q0 + k) b' (cs.drop k) = some T := by unfold stateM; rw [if_pos hb]; exact hT
  obtain ⟨hv, hiT⟩ := vers_run _ hnT hT
  have hcl : ∀ z q, q0 + k ≤ q → getO T z q = getO M z q := fun z q hq => by
    have c1 := (chain_run z _ hnT hT).1
    have c2 := (chain_run z _ hi1 r2).1
    have hcut : ∀ (A B : List Ver), cutV (A ++ B) q = cutV A q ++ cutV B q := fun A B => by unfold cutV; rw [List.filter_append]
    have e1 := getO_top hnT (q := q) (by rw [hlT]; exact hq) z
    have e2 := getO_top hi1 (q := q) (by rw [hl1]; exact hq) z
    rw [hlT] at e1
    rw [hl1] at e2
    have e3 := (getO_run z (cs.drop k) (q := q0 + k) hi1 (by rw [hl1]; exact Int.le_refl _) r2).1
    have e4 : getO (newM (q0 + k) b') z q = getO M1 z q := by rw [e1, e2, hb' z, e3]
    unfold getO at e4 ⊢
    rw [c1, c2]
    unfold atO at e4 ⊢
    rw [hcut, hcut, List.getLast?_append, List.getLast?_append]
    cases (cutV (versC (cs.drop k) z) q).getLast? with
    | some v => rfl
    | none => exact e4
  refine ⟨T, hTs, hcl, ?_, by rw [hv, vers_new _ (rises_pair (newOk_facts hb).2.2.1)]⟩
  have hlow : M.low = q0 := (base_state h).2.2.1
  have hlast : lastM M = lastM M1 + (cs.drop k).length := (chain_run ⟨#[]⟩ _ hi1 r2).2.2
  have hiV := inv_vac hiM (q0 + k) (by rw [hlow]; omega) (by rw [hlast, hl1]; omega)
  refine vers_ext hiV.srt hiT.srt (fun a ha => (hiV.ch a ha).2) (fun a ha => (hiT.ch a ha).2) (fun z => ?_)
  rw [show (vacM M (q0 + k)).K = vacK M.K (q0 + k) from rfl, chain_vac hiM.srt]
  obtain ⟨c1, d1, _⟩ := chain_run z _ hnT hT
  obtain ⟨c2, d2, _⟩ := chain_run z _ hi1 r2
  have hcv : (cutV (chainK M.K z) (q0 + k)).length = (chainK M1.K z).length := by
    rw [c2]
    unfold cutV
    rw [List.filter_append, List.filter_eq_self.2 (fun v hv => decide_eq_true (by have := (chainK_ok hi1.mid z).top v hv; omega)), List.filter_eq_nil_iff.2 (fun v hv => by rw [decide_eq_true_eq]; have := d2 v hv; omega), List.append_nil]
  have hcl' := hcl z (q0 + k) (Int.le_refl _)
  have hN := cutN_eq (hiM.upc z) (q0 + k)
  have hbz : (chainK (newM (q0 + k) b').K z).length = if (getO (newM (q0 + k) b') z (q0 + k)).isSome then 1 else 0 := by
    have hw := rises_pair (newOk_facts hb).2.2.1
    rw [show (newM (q0 + k) b').K = newAll (q0 + k) b' from rfl]
    unfold getO
    rw [show (newM (q0 + k) b').K = newAll (q0 + k) b' from rfl]
    unfold chainK
    cases hg : getK (newAll (q0 + k) b') z with
    | none => rfl
    | some c =>
      have := getK_mem hg
      rw [newAll_map b' hw] at this
      obtain ⟨x, _, e⟩ := List.mem_map.1 this
      injection e with _ e
      subst e
      show 1 = if (atO [(⟨q0 + k, x.f1, false⟩ : Ver)] (q0 + k)).isSome then 1 else 0
      simp [atO, cutV]
  unfold cutC
  rw [List.length_drop, hN, hcv, c1, List.length_append, hbz, hb' z]
  have hcm : (chainK M.K z).length = (chainK M1.K z).length + (versC (cs.drop k) z).length := by rw [c2, List.length_append]
  rw [show atO (chainK M.K z) (q0 + k) = getO M z (q0 + k) from rfl]
  cases hs : (getO M z (q0 + k)).isSome with
  | true =>
    have hp : 0 < (cutV (chainK M.K z) (q0 + k)).length := atO_pos hs
    rw [if_pos rfl, if_pos rfl]
    omega
  | false =>
    rw [if_neg (by decide), if_neg (by decide)]
    omega
-- what a state shows goes in again
def okKV (a : KV) : Prop := okW ⟨a.1, a.2, false⟩ = true
theorem okKV_of {x : Wr} (h : okW x = true) : okKV (x.f0, x.f1) := by
  unfold okKV okW at *
  simp only [Bool.and_eq_true] at h ⊢
  exact ⟨h.1, rfl⟩
theorem ok_put {C : KVs} (h : ∀ a ∈ C, okKV a) {x : Wr} (hx : okW x = true) : ∀ a ∈ Mv.putC C x.f0 x.f1, okKV a := fun a ha => by
  unfold Mv.putC at ha
  rcases List.mem_append.1 ha with ha | ha
  · exact h a (List.mem_filter.1 ha).1
  · rw [List.mem_singleton] at ha
    rw [ha]
    exact okKV_of hx
theorem ok_putB (ws : List Wr) : (∀ x ∈ ws, okW x = true) → ∀ {C : KVs}, (∀ a ∈ C, okKV a) → ∀ a ∈ putB C ws, okKV a := by
  induction ws with
  | nil => exact fun _ C h => h
  | cons x ws ih => exact fun hw C h => ih (fun y hy => hw y (List.mem_cons_of_mem _ hy)) (ok_put h (hw x (List.mem_cons_self ..)))
theorem ok_wrs (ws : List Wr) : (∀ x ∈ ws, okW x = true) → ∀ {C : KVs}, (∀ a ∈ C, okKV a) → ∀ a ∈ wrsC C ws, okKV a := by
  induction ws with
  | nil => exact fun _ C h => h
  | cons x ws ih =>
    intro hw C h
    refine ih (fun y hy => hw y (List.mem_cons_of_mem _ hy)) (fun a ha => ?_)
    unfold wrC at ha
    split at ha
    · exact h a (List.mem_filter.1 ha).1
    · exact ok_put h (hw x (List.mem_cons_self ..)) a ha
theorem ok_atC (q : Int) : ∀ (cs : List Cm), (∀ c ∈ cs, ∀ x ∈ c.f2, okW x = true) → ∀ {C : KVs}, (∀ a ∈ C, okKV a) → ∀ a ∈ atC C cs q, okKV a
  | [], _, C, h => h
  | c :: cs, hc, C, h => by
    unfold atC
    split
    · exact h
    · exact ok_atC q cs (fun d hd => hc d (List.mem_cons_of_mem _ hd)) (ok_wrs c.f2 (hc c (List.mem_cons_self ..)) h)
theorem right_ok {l : List Wr} (h : rightW l = true) : ∀ x ∈ l, okW x = true := by
  unfold rightW at h
  rw [Bool.and_eq_true] at h
  exact rises_okW h.2
theorem base_ok {q0 q : Int} {b : List Wr} {cs : List Cm} {M : StM} (h : stateM q0 b cs = some M) (hq : q0 ≤ q) (hq2 : q ≤ maxSeq) : newOk q (baseM M q) = true ∧ ∀ z, getO (newM q (baseM M q)) z q = getO M z q := by
  obtain ⟨h1, h2⟩ := state_parts h
  obtain ⟨n1, n2, n3, n4⟩ := newOk_facts h1
  obtain ⟨_, hiM, _, hh, _⟩ := base_state h
  have hs := shows_at h hq
  have hok : ∀ a ∈ atM b cs q, okKV a := ok_atC q cs (fun c hc => right_ok (hiM.ws c (by rw [hh]; exact hc))) (ok_putB b (rises_okW n3) (fun a ha => by cases ha))
  have hp : (baseM M q).Pairwise fun a b => kl a.f0 b.f0 := by
    unfold baseM
    rw [List.pairwise_map]
    exact show_pair hiM q
  have hn : newOk q (baseM M q) = true := by
    unfold newOk
    rw [decide_eq_true (by omega : 0 ≤ q), decide_eq_true hq2, rises_of hp (fun x hx => ?_)]
    · simp [baseM, kvW]
    · obtain ⟨a, ha, rfl⟩ := List.mem_map.1 hx
      exact hok a ((hs.perm hiM).mem_iff.2 ha)
  refine ⟨hn, fun z => ?_⟩
  obtain ⟨g1, g2⟩ := getO_new (q := q) hp z
  cases hg : getO M z q with
  | some v =>
    exact g1 ⟨z, v, false⟩ (List.mem_map.2 ⟨(z, v), (mem_show M q _).2 hg, rfl⟩) rfl
  | none =>
    cases hg2 : getO (newM q (baseM M q)) z q with
    | none => rfl
    | some v =>
      obtain ⟨x, hx, e⟩ := g2 (by rw [hg2]; rfl)
      obtain ⟨a, ha, rfl⟩ := List.mem_map.1 hx
      have := (mem_show M q a).1 ha
      rw [show a.1 = z from e, hg] at this
      cases this
theorem run_lenL : ∀ (cs : List Cm) {M M' : StM}, runM M cs = some M' → M'.K.length ≤ M.K.length + lenL cs
  | [], M, M', h => by cases h; exact Nat.le_add_right _ _
  | c :: cs, M, M', h => by
    have h0 : (if goodC M c = true then runM (comM M c) cs else none) = some M' := h
    by_cases hg : goodC M c = true
    · rw [if_pos hg] at h0
      have h1 := run_lenL cs h0
      have h2 : (comM M c).K.length ≤ M.K.length + c.f2.length := putAll_length _ _
      have h3 : lenL (c :: cs) = c.f2.length + lenL cs := by simp [lenL]
      omega
    · rw [if_neg hg] at h0
      cases h0
/-- the store of a beginning and lists -/
structure Made (q0 : Int) (ws : List Wr) (wss : List (List Wr)) (MM : StM) : Prop where
  st : stateM q0 (thereW (someW ws)) (listC (q0 + 1) wss) = some MM
  inv : Inv MM
  low : MM.low = q0
  hist : MM.hist = listC (q0 + 1) wss
  len : lastM MM = q0 + (wss.length : Int)
  ksz : MM.K.length ≤ 12 + wss.length * 12
  key : KeyOk MM.K
theorem made_law {q0 : Int} (h0 : 0 ≤ q0) (h1 : q0 ≤ 1000000) (ws : List Wr) (wss : List (List Wr)) (hn : wss.length ≤ 1000) : ∃ MM, Made q0 ws wss MM := by
  have hnew : newOk q0 (thereW (someW ws)) = true := there_new h0 (by unfold maxSeq; omega) ws
  have hi := inv_new hnew
  have hl : lastM (newM q0 (thereW (someW ws))) = q0 := by simp [lastM, newM]
  obtain ⟨MM, r1, r2, r3, r4, r5⟩ := list_run hi (first := q0 + 1) (wss := wss) (by rw [hl]) (by unfold maxSeq; omega) rfl wss.length hn
  have hst : stateM q0 (thereW (someW ws)) (listC (q0 + 1) wss) = some MM := by unfold stateM; rw [if_pos hnew]; exact r1
  obtain ⟨_, _, l3⟩ := run_lens _ _ _ r1
  have l1 := run_lenL _ r1
  have l2 := lenL_le (listTo (q0 + 1) wss wss.length) 12 (list_ws (q0 + 1) wss)
  have hb : (thereW (someW ws)).length ≤ 12 := Nat.le_trans (List.length_filter_le _ _) (some_len ws)
  have hk := newAll_length q0 (thereW (someW ws))
  have hk2 : (newM q0 (thereW (someW ws))).K.length = (newAll q0 (thereW (someW ws))).length := rfl
  have hll : (listTo (q0 + 1) wss wss.length).length = wss.length := listTo_len _ _ _
  exact ⟨MM, hst, r2, r4, r3, by rw [r5]; omega, by rw [hll] at l2; omega, l3 (keyOk_new hnew)⟩
end Go.Proofs.Ytmafibbnojdpjaa.St
end
section
set_option linter.unusedVariables false
set_option maxRecDepth 100000
set_option linter.unusedSimpArgs false
namespace Go.Proofs.Ytmafibbnojdpjaa.St
open Go.Proofs.Ytmafibbnojdpjaa.Tr Go.RowKit Go.Proofs.YtmafibbnojdpjaaW.PrintWords Go.Proofs.YtmafibbnojdpjaaW.PrintLast Go.Proofs.YtmafibbnojdpjaaW.PrintMore Go.Proofs.Ytmafibbnojdpjaa.P
attribute [local go_sem] Oper.semAt_some
/-- x & 255 % (n + 1) -/
theorem rem_facts {low : Int} {n q : Nat} (hn : n ≤ 1000) (hq : (low % 256) % ((n : Int) + 1) = (q : Int)) : ∃ a N1 : Nat, bits .and .i64 low 255 = (a : Int) ∧ IntKind.i64.wrap ((n : Int) + 1) = (N1 : Int) ∧ wrap64 ((n : Int) + 1) = (N1 : Int) ∧ Int.tmod (a : Int) (N1 : Int) = (q : Int) ∧ ¬ (N1 : Int) = 0 ∧ ¬ N1 = 0 ∧ ((N1 : Int) == 0) = false ∧ q ≤ n := by
  have e0 : 0 ≤ low % 256 := by omega
  have m1 : bits .and .i64 low 255 = ((low % 256).toNat : Int) := by
    clear hq
    rw [Tr.low_bits low 255 8 (by decide), IntKind.wrap_i64]; omega
  have w1 : IntKind.i64.wrap ((n : Int) + 1) = ((n + 1 : Nat) : Int) := by clear hq; rw [IntKind.wrap_i64]; omega
  have w2 : wrap64 ((n : Int) + 1) = ((n + 1 : Nat) : Int) := by clear hq w1; rw [w64 (by omega) (by omega)]; rfl
  have hN : ((n + 1 : Nat) : Int) = (n : Int) + 1 := rfl
  have ha : ((low % 256).toNat : Int) = low % 256 := Int.toNat_of_nonneg e0
  have hlt : (q : Int) < (n : Int) + 1 := by rw [← hq]; exact Int.emod_lt_of_pos _ (by clear hq; omega)
  refine ⟨(low % 256).toNat, n + 1, m1, w1, w2, ?_, ?_, Nat.succ_ne_zero n, ?_, ?_⟩
  · rw [Int.tmod_eq_emod_of_nonneg (Int.natCast_nonneg _), ha, hN]; exact hq
  · clear hq; omega
  · exact beq_eq_false_iff_ne.2 (by clear hq; omega)
  · clear hq; omega
set_option maxHeartbeats 4000000 in
theorem again_big1 (ws : List Wr) (A0 : Option Addr) (c0 : Nat) (wss : List (List Wr)) (A : Option Addr) (c : Nat) (a0 : Int) (w : World) (h1 : ¬ wss.length ≤ 30) :
    Calls Try.prog 14 #[.slice A0 ws.length c0, .slice A wss.length c, .int .i64 a0] w fun e w' => e = .returned (.bool true) ∧ Below w.heap.size w w' := by
  have n1 : decide ((wss.length : Int) ≤ 30) = false := decide_eq_false (by omega)
  have n1' : ¬ (wss.length : Int) ≤ 30 := by omega
  have HHD := Aside0.mk (head09_any w)
  go_enter Try.func14, Try.ntmps14
  go_wp2_with (first
    | (go_at_call 34; refine HHD.out.mono ?_; rintro e w1 ⟨rfl, hb⟩; have HB1 := Aside0.mk hb; clear hb)
    | (go_at_call 46; refine (few_any _ _ _ _).mono ?_; rintro e w2 ⟨rfl, rfl⟩))
  go_ret
  exact ⟨rfl, HB1.out⟩
/-- the row of a list's commits, for At -/
theorem list_at (first : Int) (wss : List (List Wr)) : ∀ c ∈ listC first wss, c.f2.length ≤ 1000 ∧ ∀ x ∈ c.f2, x.f0.size ≤ maxLen := fun c hc => by
  refine ⟨by have := list_ws first wss c hc; omega, fun x hx => ?_⟩
  obtain ⟨j, _, e⟩ := List.mem_map.1 (show c ∈ (List.range wss.length).map (cmI first wss) from hc)
  rw [← e] at hx
  have := okW_key (some_ok _ x hx)
  unfold maxLen
  omega
theorem there_at (ws : List Wr) : ∀ x ∈ thereW (someW ws), x.f0.size ≤ maxLen := fun x hx => by
  have := okW_key (some_ok _ x (List.mem_filter.1 hx).1)
  unfold maxLen
  omega
set_option maxHeartbeats 32000000 in
theorem again_in (ws : List Wr) (A0 : Option Addr) (c0 : Nat) (wss : List (List Wr)) (A : Option Addr) (c : Nat) (a0 : Int) (w : World) (hr0 : Kd.C k31 w A0 ws.length ws) (hc0 : ws.length ≤ c0) (hok0 : okWs ws) (hr : Kd.C (Kd.slice 31 k31) w A wss.length wss) (hn : wss.length ≤ 30) (hok : ∀ ws ∈ wss, okWs ws)
    (k : Nat) (hk : (a0 % 256) % ((wss.length : Int) + 1) = (k : Int)) :
    Calls Try.prog 14 #[.slice A0 ws.length c0, .slice A wss.length c, .int .i64 a0] w fun e w' => e = .returned (.bool true) ∧ Below w.heap.size w w' := by
  have n1 : decide ((wss.length : Int) ≤ 30) = true := decide_eq_true (by omega)
  have n1' : (wss.length : Int) ≤ 30 := by omega
  obtain ⟨a, N1, m1, wr1, wr2, hrem, hnz, hnz2, hnb, hkn⟩ := rem_facts (show wss.length ≤ 1000 by omega) hk
  clear hk
  have HHD := Aside0.mk (head09_any w)
  obtain ⟨MM, hM⟩ := made_law (q0 := 0) (by decide) (by decide) ws wss (by omega)
  have hM1 := hM.st
  rw [show (0 : Int) + 1 = 1 from rfl] at hM1
  have hll := listC_len 1 wss
  obtain ⟨hb1, hb2⟩ := base_ok hM1 (q := (0 : Int) + (k : Int)) (by omega) (by unfold maxSeq; omega)
  obtain ⟨T, t1, t2, t3, t4⟩ := again hM1 k (by rw [hll]; exact hkn) _ hb1 hb2
  rw [Int.zero_add] at t1 t2 t3 hb1
  obtain ⟨_, tI, tL, tH, tK⟩ := base_state t1
  obtain ⟨tp1, tp2⟩ := state_parts t1
  have tKO : KeyOk T.K := (run_lens _ _ _ tp2).2.2 (keyOk_new tp1)
  have hbl : (baseM MM (k : Int)).length ≤ 372 := by
    rw [base_len]
    have := showM_len MM ⟨#[]⟩ ⟨#[]⟩ (k : Int)
    have := hM.ksz
    omega
  have tKL : T.K.length ≤ 2000000 := by
    rw [List.length_drop, hll] at tK
    omega
  have tLa : lastM T = (wss.length : Int) := by
    unfold lastM
    rw [tL, tH, List.length_drop, hll]
    omega
  have HSO : Aside0 (∀ W, Below w.heap.size w W → Calls Try.prog 54 #[.slice A0 ws.length c0] W fun e w' => ∃ v, e = .returned v ∧ Kd.R k31 31 w' 0 (fun k => W.heap.size ≤ k) v (someW ws) ∧ Below W.heap.size W w') := ⟨fun W hW => some_any ws A0 c0 W (Kd.C_below hr0 hW) hc0 hok0.1 hok0.2⟩
  have HLS : Aside0 (∀ W, Below w.heap.size w W → Calls Try.prog 47 #[.int .i64 1, .slice A wss.length c] W fun e w' => ∃ v, e = .returned v ∧ Kd.R k28 28 w' 0 (fun k => W.heap.size ≤ k) v (listC 1 wss) ∧ Below W.heap.size W w') := ⟨fun W hW => list_any 1 wss A c W (Kd.C_below hr hW) (by omega) hok (by decide) (by decide)⟩
  have HLL : Aside0 ((listC 1 wss).length = wss.length) := ⟨hll⟩
  have HWS : Aside0 (∀ i, i < (listC 1 wss).length → (cA (listC 1 wss) i).f2.length ≤ 1000) := ⟨fun i hi => by rw [cA_eq hi]; have := list_ws 1 wss _ (List.getElem_mem hi); omega⟩
  have HAT := Aside0.mk (And.intro (list_at 1 wss) (there_at ws))
  have HSL := Aside0.mk (some_len ws)
  have HTL : Aside0 ((thereW (someW ws)).length ≤ 12) := ⟨Nat.le_trans (List.length_filter_le _ _) (some_len ws)⟩
  have HM := Aside0.mk hM
  have HM1 := Aside0.mk hM1
  have HT1 := Aside0.mk t1
  have HTI := Aside0.mk (And.intro tI (And.intro tKL tKO))
  have HTL2 := Aside0.mk (And.intro tL tLa)
  have HBL := Aside0.mk hbl
  have HVT : Aside0 (versM (vacM MM (k : Int)) = versM T) := ⟨t3⟩
  have HSH : Aside0 (∀ q : Int, (k : Int) ≤ q → Shows (atM (thereW (someW ws)) (listC 1 wss) q) T q) := ⟨fun q hq => by
    have := shows_at hM1 (q := q) (by omega)
    exact ⟨this.1, fun z => by rw [this.2 z, t2 z q hq]⟩⟩
  have e4 : (0 : Int) ≤ (k : Int) := by omega
  have e5 : (k : Int) ≤ (wss.length : Int) := by omega
  clear hr0 hok0 hr hok hM hM1 hb1 hb2 t1 t2 t3 t4 tI tL tH tK tp1 tp2 tKO tKL tLa hbl hll
  go_enter Try.func14, Try.ntmps14
  go_wp2_with (first
    | (go_at_call 34; refine HHD.out.mono ?_; rintro e w1 ⟨rfl, hb⟩; have HB1 := Aside0.mk hb; clear hb)
    | (go_at_call 46; refine (few_any _ _ _ _).mono ?_; rintro e w1b ⟨rfl, rfl⟩)
    | (go_at_call 54; refine (HSO.out _ HB1.out).mono ?_; rintro e w2 ⟨v2, rfl, hr2, hb2⟩
       obtain ⟨A2, c2, e2, hc2, hC2⟩ := Kd.R_reads hr2
       subst e2
       have HT2 := Aside0.mk (there_any (someW ws) A2 c2 w2 hC2 (by have := HSL.out; omega))
       have HB2 := Aside0.mk (below_step HB1.out hb2)
       clear hr2 hb2 hC2 hc2)
    | (go_at_call 53; refine HT2.out.mono ?_; rintro e w3 ⟨v3, rfl, hr3, hb3⟩
       obtain ⟨A3, c3, e3, hc3, hC3⟩ := Kd.R_reads hr3
       subst e3
       have HC3 := Aside0.mk hC3
       have HCC3 := Aside0.mk hc3
       have HB3 := Aside0.mk (below_step HB2.out hb3)
       clear hr3 hb3 hC3 hc3)
    | (go_at_call 47; refine (HLS.out _ HB3.out).mono ?_; rintro e w4 ⟨v4, rfl, hr4, hb4⟩
       obtain ⟨A4, c4, e4', hc4, hC4⟩ := Kd.R_reads hr4
       subst e4'
       have HC3 := Aside0.mk (Kd.C_below HC3.out hb4)
       have HMA := Aside0.mk (made_any 0 (thereW (someW ws)) (listC 1 wss) A3 A4 c3 c4 w4 HC3.out HCC3.out (by have := HTL.out; omega) hC4 hc4 (by rw [HLL.out]; omega) (fun i hi => by have := HWS.out i hi; omega) MM HM1.out)
       have hCD := Kd.C_drop hC4 (m := k) (by rw [HLL.out]; exact hkn) hc4
       rw [HLL.out] at HMA hC4 hc4 ⊢
       have hc5 : (wss.length : Int) ≤ (c4 : Int) := by omega
       have hc6 : k ≤ c4 := by omega
       obtain ⟨A1, hA1⟩ : ∃ A1, (if c4 = k then A4 else A4.map (·.add (k * k28.sz))) = A1 := ⟨_, rfl⟩
       rw [hA1, List.length_drop, HLL.out] at hCD
       have hA2 : (if c4 = k then A4 else A4.map (·.add (k * 3))) = A1 := hA1
       have HCD := Aside0.mk hCD
       have HC4 := Aside0.mk hC4
       have HB4 := Aside0.mk (below_step HB3.out hb4)
       clear hr4 hb4 hC4 hCD hA1)
    | (go_at_call 48; refine HMA.out.mono ?_; rintro e w5 ⟨s, rfl, h1, h2, h3⟩
       have HS5 := Aside0.mk h1
       have HC3 := Aside0.mk (Kd.C_below HC3.out h3)
       have HC4 := Aside0.mk (Kd.C_below HC4.out h3)
       have HCD := Aside0.mk (Kd.C_below HCD.out h3)
       have HB5 := Aside0.mk (below_step HB4.out h3)
       have H45 := Aside0.mk h3.size
       clear h1 h2 h3))
  clear HHD HSO HLS HT2 HMA HB1 HB2 HB3
  have HBS : Aside0 (∀ W, Below w5.heap.size w5 W → Calls Try.prog 52 #[.pointer (some ⟨s, 0, none⟩), .int .i64 (k : Int)] W fun e w' => ∃ v, e = .returned v ∧ Kd.R k31 31 w' 0 (fun k => W.heap.size ≤ k) v (baseM MM k) ∧ Below W.heap.size W w') := ⟨fun W hW => by
    obtain ⟨col, H, L, hs⟩ := HS5.out.below hW
    exact base_any hs HM.out.inv (by have := HM.out.ksz; omega) k⟩
  have HMT : Aside0 (∀ W (A6 : Option Addr) (n6 c6 : Nat), Below w5.heap.size w5 W → n6 = (baseM MM k).length → Kd.C k31 W A6 (baseM MM k).length (baseM MM k) → (baseM MM k).length ≤ c6 → Calls Try.prog 48 #[.int .i64 (k : Int), .slice A6 n6 c6, .slice A1 (wss.length - k) (c4 - k)] W fun e w' => ∃ t, e = .returned (.tuple #[.pointer (some ⟨t, 0, none⟩), .bool true]) ∧ StoreAt (fun k => W.heap.size ≤ k) w' t T ∧ Inv T ∧ Below W.heap.size W w') := ⟨fun W A6 n6 c6 hW hn6 hC hc6 => by
    subst hn6
    have hl : ((listC 1 wss).drop k).length = wss.length - k := by rw [List.length_drop, HLL.out]
    have := made_any k (baseM MM k) ((listC 1 wss).drop k) A6 A1 c6 (c4 - k) W hC hc6 (by have := HBL.out; omega) (by rw [hl]; exact Kd.C_below HCD.out hW) (by omega) (by omega) (fun i hi => by
      have h1 : i + k < (listC 1 wss).length := by rw [HLL.out]; omega
      have h2 : cA ((listC 1 wss).drop k) i = cA (listC 1 wss) (i + k) := by rw [cA_eq hi, cA_eq h1, List.getElem_drop]; congr 1; omega
      rw [h2]
      have := HWS.out _ h1
      omega) T HT1.out
    rw [hl] at this
    exact this⟩
  obtain ⟨BM, hBM⟩ : ∃ BM, BM = baseM MM k := ⟨_, rfl⟩
  rw [← hBM] at HBS HMT
  clear hBM
  go_region_held3 (fun _ : World => True) (exact trivial) (first
    | (go_at_call 52; refine (HBS.out _ (by repeat (first | apply pw_below_drewN | apply below_drew1 | exact Below.refl _ _))).mono ?_; rintro e w6 ⟨v6, rfl, hr6, hb6⟩
       obtain ⟨A6, c6, e6, hc6', hC6⟩ := Kd.R_reads hr6
       subst e6
       have hb6' : Below w5.heap.size w5 w6 := below_step (by repeat (first | apply pw_below_drewN | apply below_drew1 | exact Below.refl _ _)) hb6
       have HM6 := Aside0.mk (HMT.out w6 A6 BM.length c6 hb6' rfl hC6 hc6')
       have HB6 := Aside0.mk hb6'
       clear hr6 hb6 hC6 hc6' hb6')
    | (go_at_call 48; refine HM6.out.mono ?_; rintro e w7 ⟨t, rfl, h1, _, h3⟩
       have HT7 := Aside0.mk h1
       have HB7 := Aside0.mk (below_step HB6.out h3)
       have H67 : Aside0 (w5.heap.size ≤ w6.heap.size ∧ w6.heap.size ≤ w7.heap.size) := ⟨HB6.out.size, h3.size⟩
       clear h1 h3))
  have HS7 : Aside0 (StoreAt (fun k => w4.heap.size ≤ k ∧ k < w5.heap.size) w7 s MM) := ⟨(HS5.out.turn (fun k hk h => ⟨h, hk⟩)).below HB7.out⟩
  have HTT : Aside0 (StoreAt (fun k => w6.heap.size ≤ k ∧ k < w7.heap.size) w7 t T) := ⟨HT7.out.turn (fun k hk h => ⟨h, hk⟩)⟩
  have HLO : Aside0 (∀ W, Below w7.heap.size w7 W → Calls Try.prog 43 #[.pointer (some ⟨t, 0, none⟩)] W fun e w' => e = .returned (.int .i64 (k : Int)) ∧ Below W.heap.size W w') := ⟨fun W hW => by
    obtain ⟨col, H, L, hs⟩ := HTT.out.below hW
    refine (low_any hs).mono ?_
    rintro e w' ⟨rfl, rfl⟩
    exact ⟨by rw [HTL2.out.1], Below.refl _ _⟩⟩
  have HLT : Aside0 (∀ W, Below w7.heap.size w7 W → Calls Try.prog 37 #[.pointer (some ⟨t, 0, none⟩)] W fun e w' => e = .returned (.int .i64 (wss.length : Int)) ∧ Below W.heap.size W w') := ⟨fun W hW => by
    obtain ⟨col, H, L, hs⟩ := HTT.out.below hW
    refine (last_any hs HTI.out.1.low HTI.out.1.last).mono ?_
    rintro e w' ⟨rfl, n, rfl⟩
    exact ⟨by rw [HTL2.out.2], pw_below_drewN (Below.refl _ _) _⟩⟩
  have HLS2 : Aside0 (∀ W, Below w7.heap.size w7 W → Calls Try.prog 37 #[.pointer (some ⟨s, 0, none⟩)] W fun e w' => e = .returned (.int .i64 (wss.length : Int)) ∧ Below W.heap.size W w') := ⟨fun W hW => by
    obtain ⟨col, H, L, hs⟩ := HS7.out.below hW
    refine (last_any hs HM.out.inv.low HM.out.inv.last).mono ?_
    rintro e w' ⟨rfl, n, rfl⟩
    exact ⟨by rw [HM.out.len, Int.zero_add], pw_below_drewN (Below.refl _ _) _⟩⟩
  have HAC : Aside0 (∀ (W : World) (q : Int), Below w7.heap.size w7 W → Calls Try.prog 50 #[.slice A3 (thereW (someW ws)).length c3, .slice A4 wss.length c4, .int .i64 q] W fun e w' => ∃ m n, e = .returned (.map (some m)) ∧ Mv.MapV TS eS w' m n (atM (thereW (someW ws)) (listC 1 wss) q) ∧ Below W.heap.size W w') := ⟨fun W q hW => by
    have hC4 := Kd.C_below (Kd.C_below HC4.out HB7.out) hW
    have hl := HLL.out
    have := at9_any (thereW (someW ws)) (listC 1 wss) q A3 A4 c3 c4 W (Kd.C_below (Kd.C_below HC3.out HB7.out) hW) (by rw [hl]; exact hC4) (by have := HTL.out; omega) (by rw [hl]; omega) HAT.out.2 HAT.out.1
    rw [hl] at this
    refine this.mono ?_
    rintro e w' ⟨m, n, rfl, _, h1, h2⟩
    exact ⟨m, n, rfl, h1, h2⟩⟩
  have HSC : Aside0 (∀ (W : World) (m n : Nat) (q : Int), Below w7.heap.size w7 W → (k : Int) ≤ q → Mv.MapV TS eS W m n (atM (thereW (someW ws)) (listC 1 wss) q) → Calls Try.prog 49 #[.pointer (some ⟨t, 0, none⟩), .map (some m), .int .i64 q] W fun e w' => e = .returned (.bool true) ∧ Below W.heap.size W w') := ⟨fun W m n q hW hq hm => by
    obtain ⟨col, H, L, hs⟩ := HTT.out.below hW
    exact shows_any hs HTI.out.1 HTI.out.2.1 HTI.out.2.2 m n _ hm q (HSH.out q hq)⟩
  have HB57 := Aside0.mk (below_step HB5.out HB7.out)
  clear HBS HMT HM6 HB6 HT7 HSH HTL2 HAT
  go_wp2_with (first
    | (go_at_call 43; refine (HLO.out _ (Below.refl _ _)).mono ?_; rintro e w8 ⟨rfl, hb8⟩; have HB8 := Aside0.mk hb8; clear hb8)
    | (go_at_call 37; with_reducible refine (HLT.out _ HB8.out).mono ?_; rintro e w9 ⟨rfl, hb9⟩; have HB9 := Aside0.mk (below_step HB8.out hb9); clear hb9)
    | (go_at_call 37; with_reducible refine (HLS2.out _ HB9.out).mono ?_; rintro e w10 ⟨rfl, hb10⟩; have HB10 := Aside0.mk (below_step HB9.out hb10); clear hb10))
  go_loopg [13] (wss.length + 2) (fun kq v13 wq => ∃ q : Nat, v13 = .int .i64 (q : Int) ∧ k ≤ q ∧ q ≤ wss.length + 1 ∧ wss.length + 1 - q < kq ∧ Aside0 (Below w7.heap.size w7 wq))
  case atStart => exact ⟨k, rfl, Nat.le_refl _, by omega, by omega, HB10⟩
  case round =>
    obtain ⟨q, rfl, hkq, hq, hk, HBQ⟩ := hrel
    by_cases hlt : q ≤ wss.length
    · have z1 : (q : Int) ≤ (wss.length : Int) := by omega
      have HA := Aside0.mk (HAC.out wr q HBQ.out)
      have HS := Aside0.mk (fun (W : World) (m n : Nat) (hW : Below w7.heap.size w7 W) => HSC.out W m n q hW (by omega))
      go_wp2_with (first
        | (go_at_call 50; refine HA.out.mono ?_; rintro e w11 ⟨m, n, rfl, h1, h2⟩; have HB11 := Aside0.mk (below_step HBQ.out h2); have HS11 := Aside0.mk (HS.out _ _ _ HB11.out h1); clear h1 h2)
        | (go_at_call 49; refine HS11.out.mono ?_; rintro e w12 ⟨rfl, h2⟩; have HB12 := Aside0.mk (below_step HB11.out h2); clear h2))
      go_roundg (gk - 1)
      case measure => omega
      case rel => exact ⟨q + 1, by go_num, by omega, by omega, by omega, HB12⟩
    · have z1 : ¬ (q : Int) ≤ (wss.length : Int) := by omega
      have hz := And.intro H45.out (And.intro H67.out HBQ.out.size)
      have hsG : StoreAt (fun k => (w4.heap.size ≤ k ∧ k < w5.heap.size) ∨ wr.heap.size ≤ k) wr s MM := (HS7.out.below HBQ.out).turn (fun k hk h => .inl h)
      have HVA : Aside0 (Calls Try.prog 44 #[.pointer (some ⟨s, 0, none⟩), .int .i64 (k : Int)] wr fun e w' => e = .returned (.int .i64 0) ∧ StoreAt (fun k => (w4.heap.size ≤ k ∧ k < w5.heap.size) ∨ wr.heap.size ≤ k) w' s (vacM MM k) ∧ Fr (fun k => (w4.heap.size ≤ k ∧ k < w5.heap.size) ∨ wr.heap.size ≤ k) wr w') := ⟨by
        obtain ⟨col, H, L, hs⟩ := hsG
        exact vac_good hs (fun k hk => .inr hk) HM.out.inv (by have := HM.out.ksz; omega) (by rw [HM.out.hist, show (0 : Int) + 1 = 1 from rfl, HLL.out]; omega) (fun b hb => by have := HM.out.key b hb; unfold maxLen; omega) k (by rw [HM.out.low]; omega) (by rw [HM.out.len]; omega)⟩
      have HIV := Aside0.mk (inv_vac HM.out.inv (k : Int) (by rw [HM.out.low]; omega) (by rw [HM.out.len]; omega))
      have hkv : (vacM MM (k : Int)).K.length ≤ 2000000 := by
        have h1 : (vacK MM.K (k : Int)).length ≤ MM.K.length := List.length_filterMap_le _ _
        have h2 := HM.out.ksz
        show (vacK MM.K (k : Int)).length ≤ _
        omega
      have HKV := Aside0.mk hkv
      have HTR := Aside0.mk (HTT.out.below HBQ.out)
      have HZ := Aside0.mk hz
      clear hsG hz hkv hlt hk hq
      go_wp2_with (first
        | (go_at_call 44; refine HVA.out.mono ?_; rintro e w11 ⟨rfl, h1, h2⟩
           have HV1 := Aside0.mk h1
           have HT1 : Aside0 (StoreAt (fun k => w6.heap.size ≤ k ∧ k < w7.heap.size) w11 t T) := ⟨HTR.out.kept (fun k hk hl => h2.block k hl (fun hg => by
             have hz := HZ.out
             have hk' : w6.heap.size ≤ k ∧ k < w7.heap.size := hk
             rcases hg with hg | hg
             · have hg' : w4.heap.size ≤ k ∧ k < w5.heap.size := hg
               omega
             · have hg' : wr.heap.size ≤ k := hg
               omega))⟩
           have HF1 := Aside0.mk h2
           have HE1 : Aside0 (Calls Try.prog 45 #[.pointer (some ⟨s, 0, none⟩)] w11 fun e w' => e = .returned (.int .i64 (versM T : Int)) ∧ Below w11.heap.size w11 w') := ⟨by
             obtain ⟨col, H, L, hs⟩ := HV1.out
             have := versions_any hs HIV.out HKV.out
             rw [HVT.out] at this
             exact this⟩
           have HE2 : Aside0 (∀ W, Below w11.heap.size w11 W → Calls Try.prog 45 #[.pointer (some ⟨t, 0, none⟩)] W fun e w' => e = .returned (.int .i64 (versM T : Int)) ∧ Below W.heap.size W w') := ⟨fun W hW => by
             obtain ⟨col, H, L, hs⟩ := HT1.out.below hW
             exact versions_any hs HTI.out.1 HTI.out.2.1⟩
           clear h1 h2)
        | (go_at_call 45; with_reducible refine HE1.out.mono ?_; rintro e w12 ⟨rfl, h2⟩; have HB12 := Aside0.mk h2; clear h2)
        | (go_at_call 45; with_reducible refine (HE2.out _ HB12.out).mono ?_; rintro e w13 ⟨rfl, h2⟩; have HB13 := Aside0.mk (below_step HB12.out h2); clear h2))
      go_ret
      have hz := HZ.out
      have hw4 := HB4.out.size
      refine ⟨by simp, ?_⟩
      have h1 := below_step HB57.out HBQ.out
      have h2 := HF1.out
      exact below_step (h1.trans ⟨h2.os, h2.tape, h2.output, h2.size, fun k hk => h2.block k (Nat.lt_of_lt_of_le hk h1.size) (fun hg => by
        rcases hg with hg | hg
        · have hg' : w4.heap.size ≤ k ∧ k < w5.heap.size := hg
          omega
        · have hg' : wr.heap.size ≤ k := hg
          have := h1.size
          omega)⟩) HB13.out
theorem storeAgain_walk (l0 : List Wr) (A0 : Option Addr) (c0 : Nat) (l1 : List (List Wr)) (A : Option Addr) (c : Nat) (a0 : Int) (w : World) (hr0 : Kd.C k31 w A0 l0.length l0) (hl0 : l0.length ≤ c0) (ho0 : l0.length ≤ maxLen ∧ l0.length * 40 ≤ 140737488351232 ∧ ∀ y ∈ l0, (y.f0.size ≤ 140737488351232 ∧ y.f1.size ≤ 140737488351232 ∧ True))
    (hr : Kd.C (Kd.slice 31 k31) w A l1.length l1) (_ : l1.length ≤ c) (ho : l1.length ≤ maxLen ∧ l1.length * 24 ≤ 140737488351232 ∧ ∀ y ∈ l1, (y.length ≤ maxLen ∧ y.length * 40 ≤ 140737488351232 ∧ ∀ z ∈ y, (z.f0.size ≤ 140737488351232 ∧ z.f1.size ≤ 140737488351232 ∧ True))) (_ : (Lit.int .i64 a0).wf = true) :
    Calls Try.prog 14 #[.slice A0 l0.length c0, .slice A l1.length c, .int .i64 a0] w fun e w' => e = .returned (.bool true) ∧ Below w.heap.size w w' := by
  by_cases h1 : l1.length ≤ 30
  · have hok : ∀ ws ∈ l1, okWs ws := fun ws hw => ⟨by have := (ho.2.2 ws hw).2.1; omega, fun x hx => ((ho.2.2 ws hw).2.2 x hx).1⟩
    obtain ⟨q, hq⟩ : ∃ q : Nat, (a0 % 256) % ((l1.length : Int) + 1) = (q : Int) := ⟨((a0 % 256) % ((l1.length : Int) + 1)).toNat, (Int.toNat_of_nonneg (Int.emod_nonneg _ (by omega))).symm⟩
    exact again_in l0 A0 c0 l1 A c a0 w hr0 hl0 ⟨by omega, fun x hx => (ho0.2.2 x hx).1⟩ hr h1 hok q hq
  · exact again_big1 l0 A0 c0 l1 A c a0 w h1
end Go.Proofs.Ytmafibbnojdpjaa.St
end
