/- Lemmas that the proof needs, part 20. -/
import Derived.Test.YtmafibbnojdpjaaWWords
import Derived.Test.YtmafibbnojdpjaaWKept
import Derived.Deep.RegionHeld3
import Derived.Deep.RegionLaw
import Derived.Test.YtmafibbnojdpjaaWs1
import Derived.Test.YtmafibbnojdpjaaWs2
import Derived.Test.YtmafibbnojdpjaaWs3
import Derived.Test.YtmafibbnojdpjaaWs4
import Derived.Test.YtmafibbnojdpjaaWs5
import Derived.Test.YtmafibbnojdpjaaWs6
import Derived.Test.YtmafibbnojdpjaaWs7
import Derived.Test.YtmafibbnojdpjaaWs8
import Derived.Test.YtmafibbnojdpjaaWs9
import Derived.Test.YtmafibbnojdpjaaWs10
import Derived.Test.YtmafibbnojdpjaaWs11
import Derived.Test.YtmafibbnojdpjaaWs12
import Derived.Test.YtmafibbnojdpjaaWs13
import Derived.Test.YtmafibbnojdpjaaWs14
import Derived.Test.YtmafibbnojdpjaaWs15
import Derived.Test.YtmafibbnojdpjaaWs16
import Derived.Test.YtmafibbnojdpjaaWs17
import Derived.Test.YtmafibbnojdpjaaWs18
import Derived.Test.YtmafibbnojdpjaaWs19
section
set_option linter.unusedVariables false
set_option maxRecDepth 100000
set_option linter.unusedSimpArgs false
namespace Go.Proofs.Ytmafibbnojdpjaa.St
open Go.Proofs.Ytmafibbnojdpjaa.Tr Go.RowKit Go.Proofs.YtmafibbnojdpjaaW.PrintWords Go.Proofs.YtmafibbnojdpjaaW.PrintLast Go.Proofs.YtmafibbnojdpjaaW.PrintMore Go.Proofs.Ytmafibbnojdpjaa.P
attribute [local go_sem] Oper.semAt_some
/-- writes by their keys, of one key the last one -/
def insAll (ws : List Wr) : List (ByteArray × Wr) := ws.foldl (fun K x => insK K x.f0 x) []
def sortedW (ws : List Wr) : List Wr := (insAll ws).map (·.2)
def mapW (ws : List Wr) : List (ByteArray × Wr) := ws.foldl (fun C x => Mv.putC C x.f0 x) []
theorem insAll_snoc (ws : List Wr) (x : Wr) : insAll (ws ++ [x]) = insK (insAll ws) x.f0 x := by simp [insAll]
theorem mapW_snoc (ws : List Wr) (x : Wr) : mapW (ws ++ [x]) = Mv.putC (mapW ws) x.f0 x := by simp [mapW]
theorem list_snoc {α : Type} {p : List α → Prop} (h0 : p []) (h1 : ∀ l x, p l → p (l ++ [x])) : ∀ l, p l := by
  intro l
  have : ∀ n (l : List α), l.length = n → p l := by
    intro n
    induction n with
    | zero => intro l h; rw [List.length_eq_zero_iff.1 h]; exact h0
    | succ n ih =>
      intro l h
      have hne : l ≠ [] := fun e => by rw [e] at h; cases h
      rw [← List.dropLast_concat_getLast hne]
      exact h1 _ _ (ih _ (by rw [List.length_dropLast]; omega))
  exact this _ l rfl
theorem srtK_insAll (ws : List Wr) : SrtK (insAll ws) := by
  refine list_snoc (p := fun l => SrtK (insAll l)) List.Pairwise.nil (fun l x h => ?_) ws
  rw [insAll_snoc]
  exact srtK_ins h _ _
theorem nd_mapW (ws : List Wr) : Mv.NdC (mapW ws) := by
  refine list_snoc (p := fun l => Mv.NdC (mapW l)) List.Pairwise.nil (fun l x h => ?_) ws
  rw [mapW_snoc]
  exact Mv.nd_put h _ _
theorem find_mapW (ws : List Wr) (z : ByteArray) : Mv.findC (mapW ws) z = getK (insAll ws) z := by
  refine list_snoc (p := fun l => Mv.findC (mapW l) z = getK (insAll l) z) rfl (fun l x h => ?_) ws
  rw [mapW_snoc, insAll_snoc, Mv.find_put, getK_ins (srtK_insAll l), h]
theorem key_mapW (ws : List Wr) : ∀ a ∈ mapW ws, a.2.f0 = a.1 := by
  refine list_snoc (p := fun l => ∀ a ∈ mapW l, a.2.f0 = a.1) (fun a ha => by cases ha) (fun l x h => ?_) ws
  rw [mapW_snoc]
  intro a ha
  unfold Mv.putC Mv.delC at ha
  rcases List.mem_append.1 ha with ha | ha
  · exact h a (List.mem_filter.1 ha).1
  · rw [List.mem_singleton] at ha
    rw [ha]
theorem mapW_len (ws : List Wr) : (mapW ws).length ≤ ws.length := by
  refine list_snoc (p := fun l => (mapW l).length ≤ l.length) (Nat.le_refl _) (fun l x h => ?_) ws
  rw [mapW_snoc, Mv.len_put (nd_mapW l), List.length_append, List.length_singleton]
  split <;> omega
/-- what comes out of the sort is the writes by their keys -/
theorem sorted_law {ws ts : List Wr} {dn : List (ByteArray × Wr)} (hp : dn.Perm (mapW ws)) (ht : ts.Perm (dn.map (·.2))) (hs : ts.Pairwise fun a b => ¬ kl b.f0 a.f0) : ts = sortedW ws := by
  have hd : (dn.map (·.2)).map (fun x : Wr => (x.f0, x)) = dn := by
    rw [List.map_map]
    conv => rhs; rw [← List.map_id dn]
    refine List.map_congr_left (fun a ha => ?_)
    have := key_mapW ws a (hp.mem_iff.1 ha)
    exact Prod.ext this rfl
  have hT : (ts.map fun x : Wr => (x.f0, x)).Perm (mapW ws) := by
    have := ht.map (fun x : Wr => (x.f0, x))
    rw [hd] at this
    exact this.trans hp
  have hnd : Mv.NdC (ts.map fun x : Wr => (x.f0, x)) := (hT.symm.pairwise_iff (R := fun a b : ByteArray × Wr => a.1 ≠ b.1) (fun q => q.symm)).1 (nd_mapW ws)
  have hST : SrtK (ts.map fun x : Wr => (x.f0, x)) := by
    unfold SrtK Mv.NdC at *
    rw [List.pairwise_map] at hnd ⊢
    refine (hs.and hnd).imp (fun {a b} h => ?_)
    rcases kl_tri a.f0 b.f0 with q | q | q
    · exact q
    · exact absurd q h.2
    · exact absurd q h.1
  have he : (ts.map fun x : Wr => (x.f0, x)) = insAll ws := by
    refine srtK_ext hST (srtK_insAll ws) (fun z => ?_)
    rw [← find_mapW]
    exact Mv.find_perm hT.symm (nd_mapW ws) z
  unfold sortedW
  rw [← he, List.map_map]
  conv => lhs; rw [← List.map_id ts]
  rfl
theorem sortedW_len (ws : List Wr) : (sortedW ws).length ≤ ws.length := by
  refine list_snoc (p := fun l => (sortedW l).length ≤ l.length) (Nat.le_refl _) (fun l x h => ?_) ws
  unfold sortedW at *
  rw [insAll_snoc, List.length_map, List.length_append, List.length_singleton]
  rw [List.length_map] at h
  have := insK_length (insAll l) x.f0 x
  omega
noncomputable abbrev TW : Mv.KT Try.prog 9 ByteArray := Mv.KT.str Try.underlying9
def eW (x : Wr) : Value := .agg #[.string x.f0, .string x.f1, .bool x.f2]
theorem mapW_take {ws : List Wr} {i : Nat} (hi : i < ws.length) : mapW (ws.take (i + 1)) = Mv.putC (mapW (ws.take i)) (wA ws i).f0 (wA ws i) := by
  rw [List.take_succ_eq_append_getElem hi, mapW_snoc, wA_eq hi]
set_option maxHeartbeats 16000000 in
theorem sorted_any (ws : List Wr) (A : Option Addr) (c : Nat) (w : World) (hr : Kd.C k31 w A ws.length ws) (hc : ws.length ≤ c) (hn : ws.length ≤ 900000) (hks : ∀ x ∈ ws, x.f0.size ≤ maxLen) :
    Calls Try.prog 42 #[.slice A ws.length c] w fun e w' => ∃ v, e = .returned v ∧ Kd.R k31 31 w' 0 (fun k => w.heap.size ≤ k) v (sortedW ws) ∧ Below w.heap.size w w' := by
  have HR := Aside0.mk hr
  have HKS := Aside0.mk hks
  have hmm := @run_makeMap Try.prog
  have HM0 : Aside0 (Mv.MapV TW eW (w.alloc (.map #[] 0)) w.heap.size 0 (mapW (ws.take 0))) := ⟨Mv.MapV.new _ _ _⟩
  have HB0 : Aside0 (Below w.heap.size w (w.alloc (.map #[] 0))) := ⟨below_alloc (Below.refl _ _) _⟩
  have HN := Aside0.mk hn
  clear hr hks hn
  go_enter Try.func42, Try.ntmps42
  go_wp2
  generalize w.alloc (.map #[] 0) = W1 at *
  go_loopg [12] (ws.length + 1) (fun kq v12 wq => ∃ (i : Nat), v12 = .int .i64 (i : Int) ∧ i ≤ ws.length ∧ ws.length - i < kq ∧ Aside0 (Mv.MapV TW eW wq w.heap.size i (mapW (ws.take i))) ∧ Aside0 (Below w.heap.size w wq))
  case atStart => exact ⟨0, rfl, Nat.zero_le _, by omega, HM0, HB0⟩
  case round =>
    clear HM0 HB0
    obtain ⟨i, rfl, hi, hk, HM, HB⟩ := hrel
    have z0 : (0 : Int) ≤ (i : Int) := by omega
    have hn := HN.out
    by_cases hlt : i < ws.length
    · have z1 : (i : Int) < (ws.length : Int) := by omega
      obtain ⟨ad5, eA, f0, f1, f2⟩ := at_T31 (Kd.C_below HR.out HB.out) (i : Int) z0 z1
      rw [rd_wA, Int.toNat_natCast] at f0 f1 f2
      subst eA
      have HTK := Aside0.mk (mapW_take hlt)
      have hsx : (wA ws i).f0.size ≤ maxLen := HKS.out _ (by rw [wA_eq hlt]; exact List.getElem_mem hlt)
      generalize wA ws i = x at *
      obtain ⟨d0, d1, d2⟩ := three_new wr 31 (.string x.f0) (.string x.f1) (.bool x.f2)
      have hb2 : Below wr.heap.size wr (wr.alloc (.cells #[.string x.f0, .string x.f1, .bool x.f2] 31)) := below_alloc (Below.refl _ _) _
      obtain ⟨w8, u1, u2, u3⟩ := (HM.out.below hb2).put Try.underlying69 (by unfold maxLen; omega) (x := x.f0) hsx x
      replace u1 : Sem.run Try.prog (Instr.mapUpdate 69 (.map (some w.heap.size)) (.string x.f0) (.agg #[.string x.f0, .string x.f1, .bool x.f2])) (wr.alloc (.cells #[.string x.f0, .string x.f1, .bool x.f2] 31)) = .ok () w8 := u1
      have HM8 := Aside0.mk u2
      have hg := u3.grown
      have HB8 : Aside0 (Below w.heap.size w w8) := ⟨(HB.out.trans (hb2.mono HB.out.size)).trans ⟨hg.os, hg.tape, hg.output, hg.size, fun k hk => hg.block k (Nat.lt_of_lt_of_le hk (Nat.le_trans HB.out.size hb2.size)) (fun e => by injection e with e; omega)⟩⟩
      clear u2 u3 hg hb2 hsx
      go_wp2
      go_roundg (gk - 1)
      case measure => omega
      case rel => exact ⟨i + 1, by go_num, by omega, by omega, ⟨by rw [HTK.out]; exact HM8.out⟩, HB8⟩
    · have hiz : i = ws.length := by omega
      subst hiz
      rw [List.take_length] at HM
      obtain ⟨w9, u1, u2, u3, u4⟩ := HM.out.range Try.underlying69
      obtain ⟨rb, hrb⟩ : ∃ rb, rb = wr.heap.size := ⟨_, rfl⟩
      rw [← hrb] at u1 u2
      replace u1 : Sem.run Try.prog (Instr.range 69 (.map (some w.heap.size))) wr = .ok (.pointer (some ⟨rb, 0, none⟩)) w9 := u1
      have HRG := Aside0.mk u2
      have hbl := HM.out.lt
      have HB9 : Aside0 (Below w.heap.size w w9 ∧ rb < w9.heap.size ∧ w.heap.size < w9.heap.size ∧ w.heap.size ≤ rb) := ⟨HB.out.trans (u3.mono HB.out.size), by omega, by omega, by omega⟩
      have HCS : Aside0 ((mapW ws).length ≤ 900000) := ⟨Nat.le_trans (mapW_len ws) hn⟩
      clear u2 u3 u4 hbl hrb hk hlt hi hn HM
      obtain ⟨g0, hg0⟩ : ∃ g0, g0 = gk := ⟨_, rfl⟩
      clear hg0
      obtain ⟨C, hC⟩ : ∃ C, C = mapW ws := ⟨_, rfl⟩
      rw [← hC] at HRG HCS
      have HCW := Aside0.mk hC
      clear hC
      go_wp2
      go_loopg [6] (C.length + 1) (fun kq v6 wq => ∃ dn : List (ByteArray × Wr), C.length - dn.length < kq ∧ dn.length ≤ C.length ∧ Aside0 (Mv.Rng TW eW wq w.heap.size rb ws.length C dn) ∧ Aside0 (Kd.R k31 31 wq 0 (fun k => w9.heap.size ≤ k) v6 (dn.map (·.2))) ∧ Aside0 (Below w.heap.size w wq ∧ w9.heap.size ≤ wq.heap.size))
      case atStart => exact ⟨[], by simp, Nat.zero_le _, HRG, ⟨Kd.R_nil _ _ _ _ _⟩, ⟨HB9.out.1, Nat.le_refl _⟩⟩
      case round =>
        obtain ⟨dn, hk, hdl, HRN, HRW, HBQ⟩ := hrel
        rcases HRN.out.next 0 with ⟨hp, hrun⟩ | ⟨⟨ak, x⟩, w3, ha, hna, hok, hrun, hr3, hg3, hs3, hen⟩
        · have hln : (dn.map (·.2)).length < 1000000 := by rw [List.length_map]; have := HCS.out; omega
          have HSO := Aside0.mk (sortW (dn.map (·.2)) u6 wr 0 _ HRW.out hln)
          rw [HCW.out] at hp
          have HP := Aside0.mk hp
          have HOW : Aside0 (∀ k, u6.ownBlock = some k → w9.heap.size ≤ k) := ⟨HRW.out.1⟩
          clear hp hln
          go_wp2_with (first
            | (go_at_call 76; refine HSO.out.mono ?_; rintro e w4 ⟨rfl, ts, h1, h2, h3, h4⟩; have H1 := Aside0.mk h1; have H2 := Aside0.mk h2; have H3 := Aside0.mk h3; have H4 := Aside0.mk h4; clear h1 h2 h3 h4))
          go_ret
          have hts := sorted_law HP.out H1.out H2.out
          refine ⟨_, rfl, ?_, HBQ.out.1.grown H4.out HBQ.out.1.size (fun k e => Nat.le_trans (Nat.le_of_lt HB9.out.2.2.1) (HOW.out k e))⟩
          rw [← hts]
          exact Kd.R_mono H3.out (fun k (hk : w9.heap.size ≤ k) => Nat.le_trans (Nat.le_of_lt HB9.out.2.2.1) hk)
        · change (Instr.next (.pointer (some ⟨rb, 0, none⟩)) false 0).run Try.prog wr = .ok (.tuple #[.bool true, .string ak, .agg #[.string x.f0, .string x.f1, .bool x.f2]]) w3 at hrun
          change (Instr.entry (.pointer (some ⟨rb, 0, none⟩))).run Try.prog w3 = .ok (.tuple #[.string ak, .agg #[.string x.f0, .string x.f1, .bool x.f2]]) w3 at hen
          have hl := hr3.len
          rw [List.length_append, List.length_singleton] at hl
          obtain ⟨d0, d1, d2⟩ := three_new w3 31 (.string x.f0) (.string x.f1) (.bool x.f2)
          have hb4 : Below w3.heap.size w3 (w3.alloc (.cells #[.string x.f0, .string x.f1, .bool x.f2] 31)) := below_alloc (Below.refl _ _) _
          have h9 := HB9.out
          have hq := HBQ.out
          have hR3 : Kd.R k31 31 (w3.alloc (.cells #[.string x.f0, .string x.f1, .bool x.f2] 31)) 0 (fun k => w9.heap.size ≤ k) u6 (dn.map (·.2)) := Kd.R_below (Kd.R_step HRW.out (fun k hk hl => hg3.block k hl (fun e => by injection e with e; have hk' : w9.heap.size ≤ k := hk; omega))) hb4
          have HRW4 := Aside0.mk hR3
          have HRN4 := Aside0.mk (hr3.below hb4)
          have HB4 : Aside0 (Below w.heap.size w (w3.alloc (.cells #[.string x.f0, .string x.f1, .bool x.f2] 31)) ∧ w9.heap.size ≤ (w3.alloc (.cells #[.string x.f0, .string x.f1, .bool x.f2] 31)).heap.size) := ⟨(hq.1.grown hg3 hq.1.size (fun k e => by injection e with e; omega)).trans (hb4.mono (Nat.le_trans hq.1.size hg3.size)), Nat.le_trans hq.2 (Nat.le_trans hg3.size hb4.size)⟩
          have HLN : Aside0 ((dn.map (·.2)).length + 1 ≤ 900001) := ⟨by rw [List.length_map]; have := HCS.out; omega⟩
          have HMP : Aside0 ((dn ++ [(ak, x)]).map (·.2) = dn.map (·.2) ++ [x]) := ⟨by simp⟩
          clear hg3 hr3 hR3 hb4 h9 hq ha hna hok hs3 HRN HRW
          go_wp2_with (first
            | ((with_reducible refine gate_builtin (b := .append) (xs := #[.tmp 27, .tmp 29]) rfl ?_); at_builtin
               refine Kd.R_append k31 (w0 := w3.alloc (.cells #[.string x.f0, .string x.f1, .bool x.f2] 31)) 0 rfl (.tmp 27) (.tmp 29) 22 31 (.agg #[.string ⟨#[]⟩, .string ⟨#[]⟩, .bool false]) 40 rfl Try.underlying22 info31 rfl (by decide) (by decide) u6 (dn.map (·.2)) x [.string x.f0, .string x.f1, .bool x.f2] (fun k => w9.heap.size ≤ k) (fun _ => False) rfl ?hx (k31_mkM _ _ _ x) (fun k h => h.elim) (fun k hk => Nat.le_trans HB4.out.2 hk) HRW4.out (Below.refl _ _) (Nat.zero_le _) (by have := HLN.out; omega) ?_
               case hx => show Value.slice _ 1 1 = Value.slice _ 1 1; first | rfl | (rw [World.size_alloc])
               intro v7 w7 h1 h2 h3 h4
               have H1 := Aside0.mk h1
               have H3 := Aside0.mk h3
               clear h1 h2 h3 h4))
          go_roundg (gk - 1)
          case measure => omega
          case rel =>
            refine ⟨dn ++ [(ak, x)], by rw [List.length_append, List.length_singleton]; omega, by rw [List.length_append, List.length_singleton]; exact hl, ⟨HRN4.out.same ?_ ?_⟩, ⟨by rw [HMP.out]; exact H1.out⟩, ⟨?_, ?_⟩⟩
            · exact H3.out.block _ HRN4.out.map.lt (fun e => by have := HRW4.out.1 _ e.symm; have := HB9.out; omega)
            · exact H3.out.block _ HRN4.out.lt (fun e => by have := HRW4.out.1 _ e.symm; have := HB9.out; omega)
            · exact HB4.out.1.grown H3.out HB4.out.1.size (fun k e => by have := HRW4.out.1 _ e; have := HB9.out; omega)
            · exact Nat.le_trans HB4.out.2 H3.out.size
end Go.Proofs.Ytmafibbnojdpjaa.St
end
section
set_option linter.unusedVariables false
set_option maxRecDepth 100000
set_option linter.unusedSimpArgs false
namespace Go.Proofs.Ytmafibbnojdpjaa.St
open Go.Proofs.Ytmafibbnojdpjaa.Tr Go.RowKit Go.Proofs.YtmafibbnojdpjaaW.PrintWords Go.Proofs.YtmafibbnojdpjaaW.PrintLast Go.Proofs.YtmafibbnojdpjaaW.PrintMore Go.Proofs.Ytmafibbnojdpjaa.P
attribute [local go_sem] Oper.semAt_some
def cutS (n : Nat) (s : ByteArray) : ByteArray := if n < s.size then s.extract 0 n else s
def keyX (s : ByteArray) : ByteArray := cutS 20 (⟨#[107]⟩ ++ s)
def valX (x : Wr) : ByteArray := if x.f2 then ⟨#[]⟩ else cutS 40 x.f1
def someX (x : Wr) : Wr := ⟨keyX x.f0, valX x, x.f2⟩
def someL (ws : List Wr) : List Wr := (ws.take 12).map someX
def someW (ws : List Wr) : List Wr := sortedW (someL ws)
theorem cutS_size (n : Nat) (s : ByteArray) : (cutS n s).size ≤ n := by
  unfold cutS
  split
  · rw [ByteArray.size_extract]; omega
  · omega
theorem someX_eq (k v : ByteArray) (g : Bool) (kx : ByteArray) (h : kx = ⟨#[107]⟩ ++ k) : someX ⟨k, v, g⟩ = ⟨if 20 < kx.size then kx.extract 0 20 else kx, if g = true then ⟨#[]⟩ else if 40 < v.size then v.extract 0 40 else v, g⟩ := by
  unfold someX keyX valX cutS
  rw [h]
theorem someL_len (ws : List Wr) : (someL ws).length ≤ 12 := by
  unfold someL
  rw [List.length_map, List.length_take]
  omega
theorem someL_keys (ws : List Wr) : ∀ x ∈ someL ws, x.f0.size ≤ 20 := fun x hx => by
  obtain ⟨y, _, rfl⟩ := List.mem_map.1 hx
  exact cutS_size _ _
set_option maxHeartbeats 32000000 in
theorem some_any (ws : List Wr) (A : Option Addr) (c : Nat) (w : World) (hr : Kd.C k31 w A ws.length ws) (hc : ws.length ≤ c) (hn : ws.length < 4611686018427387904) (hsz : ∀ x ∈ ws, x.f0.size ≤ 140737488351232) :
    Calls Try.prog 54 #[.slice A ws.length c] w fun e w' => ∃ v, e = .returned v ∧ Kd.R k31 31 w' 0 (fun k => w.heap.size ≤ k) v (someW ws) ∧ Below w.heap.size w w' := by
  have HR := Aside0.mk hr
  have HN := Aside0.mk hn
  have HSZ := Aside0.mk hsz
  have HB0 : Aside0 (Below w.heap.size w (w.alloc (.cells #[] 31))) := ⟨below_alloc (Below.refl _ _) _⟩
  have HE0 : Aside0 (Kd.R k31 31 (w.alloc (.cells #[] 31)) 0 (fun k => w.heap.size ≤ k) (.slice (some ⟨w.heap.size, 0, none⟩) 0 0) ((ws.take 0).map someX)) := ⟨R_empty k31 _ 31 _ _ _ (Nat.zero_le _) (Nat.le_refl _) (heap_alloc_new _ _)⟩
  have HSO : Aside0 (∀ (W : World) (l : List Wr) (v : Value), l = someL ws → w.heap.size ≤ W.heap.size → Kd.R k31 31 W 0 (fun k => w.heap.size ≤ k) v l → Calls Try.prog 42 #[v] W fun e w' => ∃ v, e = .returned v ∧ Kd.R k31 31 w' 0 (fun k => w.heap.size ≤ k) v (someW ws) ∧ Below W.heap.size W w') := ⟨fun W l v hl hs hR => by
    subst hl
    obtain ⟨A1, c1, rfl, h1, h2⟩ := Kd.R_reads hR
    have h3 := someL_len ws
    refine (sorted_any (someL ws) A1 c1 W h2 h1 (by omega) (fun x hx => by have := someL_keys ws x hx; unfold maxLen; omega)).mono ?_
    rintro e w' ⟨v, rfl, q1, q2⟩
    exact ⟨v, rfl, Kd.R_mono q1 (fun k (hk : W.heap.size ≤ k) => Nat.le_trans hs hk), q2⟩⟩
  clear hr hn hsz
  go_enter Try.func54, Try.ntmps54
  go_wp2
  generalize w.alloc (.cells #[] 31) = W1 at *
  go_loopg [10, 3] (ws.length + 1) (fun kq v10 v3 wq => ∃ (i : Nat), v10 = .int .i64 (i : Int) ∧ i ≤ ws.length ∧ i ≤ 12 ∧ ws.length - i < kq ∧ Aside0 (Kd.R k31 31 wq 0 (fun k => w.heap.size ≤ k) v3 ((ws.take i).map someX)) ∧ Aside0 (Below w.heap.size w wq))
  case atStart => exact ⟨0, rfl, Nat.zero_le _, by omega, by omega, HE0, HB0⟩
  case round =>
    clear HE0 HB0
    obtain ⟨i, rfl, hi, h12, hk, HRW, HB⟩ := hrel
    have z0 : (0 : Int) ≤ (i : Int) := by omega
    have hn := HN.out
    by_cases hlt : i < ws.length
    · have z1 : (i : Int) < (ws.length : Int) := by omega
      obtain ⟨ad5, eA, f0, f1, f2⟩ := at_T31 (Kd.C_below HR.out HB.out) (i : Int) z0 z1
      rw [rd_wA, Int.toNat_natCast] at f0 f1 f2
      subst eA
      have hli : ((ws.take i).map someX).length = i := by rw [List.length_map, List.length_take]; omega
      obtain ⟨A3, c3, ev⟩ := Kd.R_slice HRW.out
      rw [hli] at ev
      subst ev
      have hx0 : (wA ws i).f0.size ≤ 140737488351232 := HSZ.out _ (by rw [wA_eq hlt]; exact List.getElem_mem hlt)
      have HTK : Aside0 ((ws.take (i + 1)).map someX = (ws.take i).map someX ++ [someX (wA ws i)]) := ⟨by rw [List.take_succ_eq_append_getElem hlt, List.map_append, wA_eq hlt]; rfl⟩
      have HLI := Aside0.mk hli
      have HT12 : Aside0 (i = 12 → (ws.take i).map someX = someL ws) := ⟨fun e => by subst e; rfl⟩
      generalize (ws.take i).map someX = L3 at *
      clear hli
      generalize wA ws i = x at *
      obtain ⟨xk, xv, xg⟩ := x
      replace f0 : wr.cell? (ad5.add (i * 3)) = some (.string xk) := f0
      replace f1 : wr.cell? ⟨(ad5.add (i * 3)).block, (ad5.add (i * 3)).off + 1, none⟩ = some (.string xv) := f1
      replace f2 : wr.cell? ⟨(ad5.add (i * 3)).block, (ad5.add (i * 3)).off + 2, none⟩ = some (.bool xg) := f2
      replace hx0 : xk.size ≤ 140737488351232 := hx0
      obtain ⟨d0, d1, d2⟩ := three_new wr 31 (.string xk) (.string xv) (.bool xg)
      have hb2 : Below wr.heap.size wr (wr.alloc (.cells #[.string xk, .string xv, .bool xg] 31)) := below_alloc (Below.refl _ _) _
      by_cases h2 : i < 12
      · have q1 : ¬ (12 : Int) ≤ (i : Int) := by omega
        have hcat : (⟨#[107]⟩ ++ xk : ByteArray).size = 1 + xk.size := by rw [ByteArray.size_append]; rfl
        have q2 : ¬ 9223372036854775807 < (⟨#[107]⟩ : ByteArray).size + xk.size := by
          rw [show (⟨#[107]⟩ : ByteArray).size = 1 from rfl]; omega
        have q3 : ¬ 9223372036854775807 < 1 + xk.size := by omega
        obtain ⟨kx, hkx⟩ : ∃ kx : ByteArray, kx = ⟨#[107]⟩ ++ xk := ⟨_, rfl⟩
        obtain ⟨bx, hbx⟩ : ∃ bx, bx = wr.heap.size + 1 := ⟨_, rfl⟩
        have hnew := heap_alloc_new (wr.alloc (.cells #[.string xk, .string xv, .bool xg] 31)) (.cells #[.string (⟨#[107]⟩ ++ xk), .string xv, .bool xg] 31)
        rw [World.size_alloc, ← hkx, ← hbx] at hnew
        have HNW := Aside0.mk hnew
        have HBX : Aside0 (wr.heap.size ≤ bx) := ⟨by omega⟩
        have HB3 : Aside0 (Below wr.heap.size wr ((wr.alloc (.cells #[.string xk, .string xv, .bool xg] 31)).alloc (.cells #[.string kx, .string xv, .bool xg] 31))) := ⟨below_alloc hb2 _⟩
        have HKX := Aside0.mk hkx
        have hky : (⟨#[107]⟩ ++ xk : ByteArray) = kx := hkx.symm
        clear hkx
        have HCT : Aside0 (kx.size = 1 + xk.size) := ⟨by rw [HKX.out]; exact hcat⟩
        have g0 := (cell_of_row _ _ 0 _ _ _ hnew).trans rfl
        have g1 := (cell_of_row _ _ 1 _ _ _ hnew).trans rfl
        have g2 := (cell_of_row _ _ 2 _ _ _ hnew).trans rfl
        clear hcat hnew hb2 h2 h12 hx0
        have HSX := Aside0.mk (someX_eq xk xv xg kx HKX.out)
        have HBW : Aside0 (∀ o1 o2 : Obj, Below wr.heap.size wr ((wr.alloc o1).alloc o2)) := ⟨fun _ _ => below_alloc (below_alloc (Below.refl _ _) _) _⟩
        clear HKX
        by_cases ha : 20 < kx.size
        all_goals cases xg
        all_goals by_cases hv : 40 < xv.size
        all_goals
          first | (have n0 : (20 : Int) < (kx.size : Int) := by omega) | (have n0 : ¬ (20 : Int) < (kx.size : Int) := by omega)
          first | (have n1 : (40 : Int) < (xv.size : Int) := by omega) | (have n1 : ¬ (40 : Int) < (xv.size : Int) := by omega)
          have HA := Aside0.mk ha
          have HV := Aside0.mk hv
          clear ha hv
          go_wp2_with (first
            | ((with_reducible refine gate_builtin (b := .append) (xs := #[.tmp 44, .tmp 46]) rfl ?_); at_builtin
               refine Kd.R_append k31 (w0 := wr) 0 rfl (.tmp 44) (.tmp 46) 22 31 (.agg #[.string ⟨#[]⟩, .string ⟨#[]⟩, .bool false]) 40 rfl Try.underlying22 info31 rfl (by decide) (by decide) (.slice A3 i c3) L3 (⟨_, _, _⟩ : Wr) [.string _, .string _, .bool _] (fun k => w.heap.size ≤ k) (fun _ => False) rfl ?hx (k31_mkM _ _ _ _) (fun k h => h.elim) (fun k hk => Nat.le_trans (Nat.le_trans HB.out.size (HBW.out _ _).size) hk) (Kd.R_below HRW.out (HBW.out _ _)) ((HBW.out _ _).mono (Nat.zero_le _)) (Nat.zero_le _) (by have := HLI.out; omega) ?_
               case hx => show Value.slice _ 1 1 = Value.slice _ 1 1; simp only [World.size_setCell, World.size_alloc]
               intro v7 w7 h1 h2 h3 h4
               have H1 := Aside0.mk h1
               have H3 := Aside0.mk h3
               clear h1 h2 h3 h4))
          go_roundg (gk - 1)
          case measure => omega
          case rel =>
            refine ⟨i + 1, by go_num, by omega, by omega, by omega, ⟨?_⟩, ⟨(below_step HB.out (HBW.out _ _)).grown H3.out (below_step HB.out (HBW.out _ _)).size (fun k e => HRW.out.1 k e)⟩⟩
            rw [HTK.out, HSX.out]
            have ha := HA.out
            have hv := HV.out
            simp only [ha, hv, if_true, if_false, Bool.false_eq_true]
            exact H1.out
      · have q1 : (12 : Int) ≤ (i : Int) := by omega
        have HL12 := Aside0.mk (HT12.out (by omega))
        have HB2 := Aside0.mk (HB.out.trans (hb2.mono HB.out.size))
        have HRW2 := Aside0.mk (Kd.R_below HRW.out hb2)
        clear hb2 HT12 HTK h2 h12 hx0
        go_wp2_with (first | (go_at_call 42; refine (HSO.out _ _ _ HL12.out HB2.out.size HRW2.out).mono ?_; rintro e w5 ⟨v5, rfl, h1, h2⟩; have H1 := Aside0.mk h1; have H2 := Aside0.mk h2; clear h1 h2))
        go_ret
        exact ⟨_, rfl, H1.out, below_step HB2.out H2.out⟩
    · have hiz : i = ws.length := by omega
      subst hiz
      have HL12 : Aside0 ((ws.take ws.length).map someX = someL ws) := ⟨by unfold someL; rw [List.take_length, List.take_of_length_le h12]⟩
      clear hi hlt hn h12
      go_wp2_with (first | (go_at_call 42; refine (HSO.out _ _ _ HL12.out HB.out.size HRW.out).mono ?_; rintro e w5 ⟨v5, rfl, h1, h2⟩; have H1 := Aside0.mk h1; have H2 := Aside0.mk h2; clear h1 h2))
      go_ret
      exact ⟨_, rfl, H1.out, below_step HB.out H2.out⟩
end Go.Proofs.Ytmafibbnojdpjaa.St
end
section
set_option linter.unusedVariables false
set_option maxRecDepth 100000
set_option linter.unusedSimpArgs false
namespace Go.Proofs.Ytmafibbnojdpjaa.St
open Go.Proofs.Ytmafibbnojdpjaa.Tr Go.RowKit Go.Proofs.YtmafibbnojdpjaaW.PrintWords Go.Proofs.YtmafibbnojdpjaaW.PrintLast Go.Proofs.YtmafibbnojdpjaaW.PrintMore Go.Proofs.Ytmafibbnojdpjaa.P
attribute [local go_sem] Oper.semAt_some
def wsA (wss : List (List Wr)) (i : Nat) : List Wr := wss.getD i []
theorem wsA_eq {wss : List (List Wr)} {i : Nat} (h : i < wss.length) : wsA wss i = wss[i] := by simp [wsA, List.getD, h]
theorem rd_wsA (wss : List (List Wr)) (i : Nat) : rd_L9 wss (i : Int) = wsA wss i := by simp [rd_L9, wsA]
def cmI (first : Int) (wss : List (List Wr)) (i : Nat) : Cm := ⟨first + (i : Int), 10 * (i : Int), someW (wsA wss i)⟩
def listTo (first : Int) (wss : List (List Wr)) (n : Nat) : List Cm := (List.range n).map (cmI first wss)
def listC (first : Int) (wss : List (List Wr)) : List Cm := listTo first wss wss.length
theorem listTo_succ (first : Int) (wss : List (List Wr)) (n : Nat) : listTo first wss (n + 1) = listTo first wss n ++ [cmI first wss n] := by
  unfold listTo
  rw [List.range_succ, List.map_append]
  rfl
theorem listTo_len (first : Int) (wss : List (List Wr)) (n : Nat) : (listTo first wss n).length = n := by simp [listTo]
/-- what the rows ask of their writes -/
def okWs (ws : List Wr) : Prop := ws.length < 4611686018427387904 ∧ ∀ x ∈ ws, x.f0.size ≤ 140737488351232
set_option maxHeartbeats 16000000 in
theorem list_any (first : Int) (wss : List (List Wr)) (A : Option Addr) (c : Nat) (w : World) (hr : Kd.C (Kd.slice 31 k31) w A wss.length wss) (hn : wss.length ≤ 1000) (hok : ∀ ws ∈ wss, okWs ws) (h0 : 0 ≤ first) (h1 : first ≤ 1000000) :
    Calls Try.prog 47 #[.int .i64 first, .slice A wss.length c] w fun e w' => ∃ v, e = .returned v ∧ Kd.R k28 28 w' 0 (fun k => w.heap.size ≤ k) v (listC first wss) ∧ Below w.heap.size w w' := by
  have HR := Aside0.mk hr
  have HOK := Aside0.mk hok
  have HB0 : Aside0 (Below w.heap.size w (w.alloc (.cells #[] 28))) := ⟨below_alloc (Below.refl _ _) _⟩
  have HE0 : Aside0 (Kd.R k28 28 (w.alloc (.cells #[] 28)) 0 (fun k => w.heap.size ≤ k) (.slice (some ⟨w.heap.size, 0, none⟩) 0 0) (listTo first wss 0)) := ⟨R_empty k28 _ 28 _ _ _ (Nat.zero_le _) (Nat.le_refl _) (heap_alloc_new _ _)⟩
  clear hr hok
  go_enter Try.func47, Try.ntmps47
  go_wp2
  generalize w.alloc (.cells #[] 28) = W1 at *
  go_loopg [11, 5] (wss.length + 1) (fun kq v11 v5 wq => ∃ (i : Nat), v11 = .int .i64 (i : Int) ∧ i ≤ wss.length ∧ wss.length - i < kq ∧ Aside0 (Kd.R k28 28 wq 0 (fun k => w.heap.size ≤ k) v5 (listTo first wss i)) ∧ Aside0 (Below w.heap.size w wq))
  case atStart => exact ⟨0, rfl, Nat.zero_le _, by omega, HE0, HB0⟩
  case round =>
    clear HE0 HB0
    obtain ⟨i, rfl, hi, hk, HRW, HB⟩ := hrel
    have z0 : (0 : Int) ≤ (i : Int) := by omega
    by_cases hlt : i < wss.length
    · have z1 : (i : Int) < (wss.length : Int) := by omega
      obtain ⟨ad5, A5, c5, eA, f0, f1, f2⟩ := at_L9 (Kd.C_below HR.out HB.out) (i : Int) z0 z1
      rw [rd_wsA, Int.toNat_natCast] at f0
      rw [rd_wsA] at f1 f2
      subst eA
      have hli := listTo_len first wss i
      obtain ⟨A3, c3, ev⟩ := Kd.R_slice HRW.out
      rw [hli] at ev
      subst ev
      have hw := HOK.out _ (by rw [wsA_eq hlt]; exact List.getElem_mem hlt : wsA wss i ∈ wss)
      have HSM := Aside0.mk (some_any (wsA wss i) A5 c5 wr f2 f1 hw.1 hw.2)
      have HTK : Aside0 (listTo first wss (i + 1) = listTo first wss i ++ [(⟨first + (i : Int), 10 * (i : Int), someW (wsA wss i)⟩ : Cm)]) := ⟨listTo_succ _ _ _⟩
      have HLI := Aside0.mk hli
      have hw1 : IntKind.i64.wrap (first + (i : Int)) = first + (i : Int) := by rw [IntKind.wrap_i64]; omega
      have hw2 : wrap64 (first + (i : Int)) = first + (i : Int) := w64 (by omega) (by omega)
      have hw3 : IntKind.i64.wrap (10 * (i : Int)) = 10 * (i : Int) := by rw [IntKind.wrap_i64]; omega
      have hw4 : wrap64 (10 * (i : Int)) = 10 * (i : Int) := w64 (by omega) (by omega)
      generalize listTo first wss i = L3 at *
      generalize wsA wss i = ws at *
      clear hli f1 f2 hw
      go_wp2_with (first
        | (go_at_call 54; refine HSM.out.mono ?_; rintro e w5 ⟨v5, rfl, h5, hb5⟩; obtain ⟨A7, n7, ev7⟩ := Kd.R_slice h5; subst ev7; have H5 := Aside0.mk h5; have HB5 := Aside0.mk hb5; clear h5 hb5)
        | ((with_reducible refine gate_builtin (b := .append) (xs := #[.tmp 16, .tmp 25]) rfl ?_); at_builtin
           refine Kd.R_append k28 (w0 := w5) 0 rfl (.tmp 16) (.tmp 25) 23 28 (.agg #[.int .i64 0, .int .i64 0, .slice none 0 0]) 40 rfl Try.underlying23 info28 rfl (by decide) (by decide) (.slice A3 i c3) L3 (⟨first + (i : Int), 10 * (i : Int), someW ws⟩ : Cm) [.int .i64 (first + (i : Int)), .int .i64 (10 * (i : Int)), .slice A7 (someW ws).length n7] (fun k => w.heap.size ≤ k) (fun k => wr.heap.size ≤ k) rfl ?hx (k28_mkM _ _ _ _ H5.out) (fun k (hk : wr.heap.size ≤ k) => ⟨Nat.le_trans HB.out.size hk, fun e => by have := Kd.R_lt HRW.out k e.symm; omega⟩) (fun k hk => Nat.le_trans (Nat.le_trans HB.out.size HB5.out.size) hk) (Kd.R_below HRW.out HB5.out) (Below.refl _ _) (Nat.zero_le _) (by have := HLI.out; omega) ?_
           case hx => show Value.slice _ 1 1 = Value.slice _ 1 1; first | rfl | (rw [World.size_alloc])
           intro v7 w7 h1 h2 h3 h4
           have H1 := Aside0.mk h1
           have H3 := Aside0.mk h3
           clear h1 h2 h3 h4))
      go_roundg (gk - 1)
      case measure => omega
      case rel => exact ⟨i + 1, by go_num, by omega, by omega, ⟨by rw [HTK.out]; exact H1.out⟩, ⟨(below_step HB.out HB5.out).grown H3.out (below_step HB.out HB5.out).size (fun k e => HRW.out.1 k e)⟩⟩
    · have hiz : i = wss.length := by omega
      subst hiz
      clear hi hlt
      go_wp2
      go_ret
      exact ⟨_, rfl, HRW.out, HB.out⟩
end Go.Proofs.Ytmafibbnojdpjaa.St
end
section
set_option linter.unusedVariables false
set_option maxRecDepth 100000
set_option linter.unusedSimpArgs false
namespace Go.Proofs.Ytmafibbnojdpjaa.St
open Go.Proofs.Ytmafibbnojdpjaa.Tr Go.RowKit Go.Proofs.YtmafibbnojdpjaaW.PrintWords Go.Proofs.YtmafibbnojdpjaaW.PrintLast Go.Proofs.YtmafibbnojdpjaaW.PrintMore Go.Proofs.Ytmafibbnojdpjaa.P
theorem ins_facts (ws : List Wr) : ∀ a ∈ insAll ws, a.2.f0 = a.1 ∧ a.2 ∈ ws := by
  refine list_snoc (p := fun l => ∀ a ∈ insAll l, a.2.f0 = a.1 ∧ a.2 ∈ l) (fun a ha => by cases ha) (fun l x h => ?_) ws
  rw [insAll_snoc]
  intro a ha
  rcases mem_insK.1 ha with rfl | ⟨h1, _⟩
  · exact ⟨rfl, by simp⟩
  · exact ⟨(h a h1).1, List.mem_append_left _ (h a h1).2⟩
theorem sorted_mem {ws : List Wr} {x : Wr} (h : x ∈ sortedW ws) : x ∈ ws := by
  obtain ⟨a, ha, rfl⟩ := List.mem_map.1 h
  exact (ins_facts ws a ha).2
theorem sorted_pair (ws : List Wr) : (sortedW ws).Pairwise fun a b => kl a.f0 b.f0 := by
  unfold sortedW
  rw [List.pairwise_map]
  refine List.Pairwise.imp_of_mem (fun {a b} ha hb h => ?_) (srtK_insAll ws)
  rw [(ins_facts ws a ha).1, (ins_facts ws b hb).1]
  exact h
theorem rises_of {l : List Wr} (h1 : l.Pairwise fun a b => kl a.f0 b.f0) (h2 : ∀ x ∈ l, okW x = true) : rises l = true := by
  unfold rises
  rw [rises_iff]
  intro i hi
  unfold okAt
  rw [Bool.and_eq_true, Bool.or_eq_true, decide_eq_true_eq, decide_eq_true_eq]
  refine ⟨by rw [wA_eq hi]; exact h2 _ (List.getElem_mem hi), ?_⟩
  rcases Nat.eq_zero_or_pos i with h | h
  · exact .inl h
  · refine .inr ?_
    rw [wA_eq hi, wA_eq (show i - 1 < l.length by omega)]
    exact List.pairwise_iff_getElem.1 h1 (i - 1) i (by omega) hi (by omega)
theorem keyX_size (s : ByteArray) : 0 < (keyX s).size := by
  unfold keyX cutS
  have h : (⟨#[107]⟩ ++ s : ByteArray).size = 1 + s.size := by rw [ByteArray.size_append]; rfl
  split
  · rw [ByteArray.size_extract]; omega
  · omega
theorem someX_ok (x : Wr) : okW (someX x) = true := by
  unfold okW someX
  have h1 := keyX_size x.f0
  have h2 : (keyX x.f0).size ≤ 20 := cutS_size _ _
  have h3 : (valX x).size ≤ 40 := by
    unfold valX
    split
    · exact Nat.zero_le _
    · exact cutS_size _ _
  have h4 : (x.f2 && decide ((valX x).size ≠ 0)) = false := by
    cases hg : x.f2 with
    | false => rfl
    | true =>
      unfold valX
      rw [hg, if_pos rfl]
      rfl
  simp only [h4, Bool.not_false, Bool.and_true, Bool.and_eq_true, decide_eq_true_eq]
  omega
theorem some_len (ws : List Wr) : (someW ws).length ≤ 12 := Nat.le_trans (sortedW_len _) (someL_len ws)
theorem some_ok (ws : List Wr) : ∀ x ∈ someW ws, okW x = true := fun x hx => by
  obtain ⟨y, _, rfl⟩ := List.mem_map.1 (sorted_mem hx)
  exact someX_ok y
theorem some_right (ws : List Wr) : rightW (someW ws) = true := by
  unfold rightW
  rw [Bool.and_eq_true, decide_eq_true_eq]
  have := some_len ws
  exact ⟨by omega, rises_of (sorted_pair _) (some_ok ws)⟩
/-- commits one behind the other are taken -/
theorem list_last (first : Int) (wss : List (List Wr)) (n : Nat) : lastAt (listTo first wss n) = if n = 0 then 0 else 10 * ((n - 1 : Nat) : Int) := by
  unfold lastAt
  rcases Nat.eq_zero_or_pos n with h | h
  · subst h
    rfl
  · have hl := listTo_len first wss n
    rw [dif_neg (by omega), if_neg (by omega)]
    simp only [listTo, List.length_map, List.length_range, List.getElem_map, List.getElem_range]
    rfl
theorem list_good {M : StM} {first : Int} {wss : List (List Wr)} {n : Nat} (hq : lastM M = first - 1 + (n : Int)) (hm : first + (n : Int) ≤ maxSeq) (hn : n ≤ 1000) (hh : M.hist = listTo first wss n) : goodC M (cmI first wss n) = true := by
  rw [goodC_iff]
  refine ⟨?_, hm, ?_, ?_, some_right _, ?_⟩
  · show first + (n : Int) = _
    omega
  · show (0 : Int) ≤ 10 * (n : Int)
    omega
  · show 10 * (n : Int) ≤ maxSeq
    unfold maxSeq
    omega
  · rw [hh, listTo_len, list_last]
    rcases Nat.eq_zero_or_pos n with h | h
    · exact .inl h
    · refine .inr ?_
      rw [if_neg (by omega)]
      show 10 * ((n - 1 : Nat) : Int) ≤ 10 * (n : Int)
      omega
theorem list_run {M : StM} (hi : Inv M) {first : Int} {wss : List (List Wr)} (hq : lastM M + 1 = first) (hm : first + 1000 ≤ maxSeq) (hh : M.hist = []) (n : Nat) (hn : n ≤ 1000) :
    ∃ M', runM M (listTo first wss n) = some M' ∧ Inv M' ∧ M'.hist = listTo first wss n ∧ M'.low = M.low ∧ lastM M' = first - 1 + (n : Int) := by
  induction n with
  | zero => exact ⟨M, rfl, hi, hh, rfl, by omega⟩
  | succ n ih =>
    obtain ⟨M', h1, h2, h3, h4, h5⟩ := ih (by omega)
    have hg := list_good (M := M') (first := first) (wss := wss) (n := n) h5 (by omega) (by omega) h3
    refine ⟨comM M' (cmI first wss n), ?_, inv_com h2 hg, ?_, h4, ?_⟩
    · rw [listTo_succ, run_append, h1]
      show (if goodC M' (cmI first wss n) = true then some _ else none) = _
      rw [if_pos hg]
    · show M'.hist ++ [cmI first wss n] = _
      rw [h3, listTo_succ]
    · rw [last_com, h5]
      omega
end Go.Proofs.Ytmafibbnojdpjaa.St
end
section
set_option linter.unusedVariables false
set_option maxRecDepth 100000
set_option linter.unusedSimpArgs false
namespace Go.Proofs.Ytmafibbnojdpjaa.St
open Go.Proofs.Ytmafibbnojdpjaa.Tr Go.RowKit Go.Proofs.YtmafibbnojdpjaaW.PrintWords Go.Proofs.YtmafibbnojdpjaaW.PrintLast Go.Proofs.YtmafibbnojdpjaaW.PrintMore Go.Proofs.Ytmafibbnojdpjaa.P
/-- the store of the lists' commits -/
theorem list_state (wss : List (List Wr)) (hn : wss.length ≤ 1000) : ∃ M, runM hM0 (listC 1 wss) = some M ∧ Inv M ∧ M.hist = listC 1 wss ∧ M.low = 0 ∧ lastM M = (wss.length : Int) := by
  obtain ⟨M, h1, h2, h3, h4, h5⟩ := list_run hI0 (first := 1) (wss := wss) rfl (by decide) rfl wss.length hn
  exact ⟨M, h1, h2, h3, h4, by rw [h5]; omega⟩
theorem run_lens : ∀ (cs : List Cm) (M M' : StM), runM M cs = some M' → M'.K.length ≤ M.K.length + 200 * cs.length ∧ M'.hist.length = M.hist.length + cs.length ∧ (KeyOk M.K → KeyOk M'.K)
  | [], M, M', h => by cases h; exact ⟨by simp, by simp, fun h => h⟩
  | c :: cs, M, M', h => by
    have h0 : (if goodC M c = true then runM (comM M c) cs else none) = some M' := h
    by_cases hg : goodC M c = true
    · rw [if_pos hg] at h0
      obtain ⟨h1, h2, h3⟩ := run_lens cs _ _ h0
      have h4 : (comM M c).K.length ≤ M.K.length + c.f2.length := putAll_length _ _
      have h5 : c.f2.length ≤ 200 := by
        have := (goodC_iff.1 hg).2.2.2.2.1
        unfold rightW at this
        rw [Bool.and_eq_true, decide_eq_true_eq] at this
        exact this.1
      refine ⟨?_, ?_, fun hk => h3 (keyOk_com hk hg)⟩
      · rw [List.length_cons]; omega
      · rw [h2]; simp [comM]; omega
    · rw [if_neg hg] at h0
      cases h0
set_option maxHeartbeats 16000000 in
theorem made17_any (wss : List (List Wr)) (A : Option Addr) (c : Nat) (q : Int) (w : World) (hr : Kd.C (Kd.slice 31 k31) w A wss.length wss) (hn : wss.length ≤ 30) (hok : ∀ ws ∈ wss, okWs ws) (h0 : 0 ≤ q) (h1 : q ≤ (wss.length : Int)) (MM : StM) (hrun : runM hM0 (listC 1 wss) = some MM) :
    Calls Try.prog 56 #[.slice A wss.length c, .int .i64 q] w fun e w' => ∃ s v G, e = .returned (.tuple #[.pointer (some ⟨s, 0, none⟩), v]) ∧ StoreAt G w' s (vacM MM q) ∧ (∀ k, G k → w.heap.size ≤ k) ∧ (∀ k, w'.heap.size ≤ k → G k) ∧ Kd.R k28 28 w' 0 (fun k => w.heap.size ≤ k ∧ ¬ G k) v (listC 1 wss) ∧ Below w.heap.size w w' := by
  have HNW := Aside0.mk (new_any 0 [] none 0 w (Kd.C_nil _ _) (Nat.le_refl _) (by decide))
  have HRUN := Aside0.mk hrun
  have HLS : Aside0 (∀ W, Below w.heap.size w W → Calls Try.prog 47 #[.int .i64 1, .slice A wss.length c] W fun e w' => ∃ v, e = .returned v ∧ Kd.R k28 28 w' 0 (fun k => W.heap.size ≤ k) v (listC 1 wss) ∧ Below W.heap.size W w') := ⟨fun W hW => list_any 1 wss A c W (Kd.C_below hr hW) (by omega) hok (by decide) (by decide)⟩
  have HLL : Aside0 ((listC 1 wss).length = wss.length) := ⟨listTo_len _ _ _⟩
  have HWL : Aside0 (∀ i, i < (listC 1 wss).length → (cA (listC 1 wss) i).f2.length ≤ 12) := ⟨fun i hi => by
    rw [cA_eq hi]
    obtain ⟨j, _, e⟩ := List.mem_map.1 (show (listC 1 wss)[i] ∈ (List.range wss.length).map (cmI 1 wss) from List.getElem_mem hi)
    rw [← e]
    exact some_len _⟩
  have HVA : Aside0 (∀ (G : Nat → Prop) (W : World) (s : Nat), (∀ k, W.heap.size ≤ k → G k) → StoreAt G W s MM → Calls Try.prog 44 #[.pointer (some ⟨s, 0, none⟩), .int .i64 q] W fun e w' => e = .returned (.int .i64 0) ∧ StoreAt G w' s (vacM MM q) ∧ Fr G W w') := ⟨fun G W s hG hs => by
    obtain ⟨col, H, L, hs⟩ := hs
    obtain ⟨M1, g1, g2, g3, g4, g5⟩ := list_state wss (by omega)
    have e : M1 = MM := by have h2 := HRUN.out; rw [g1] at h2; injection h2
    subst e
    obtain ⟨l1, l2, l3⟩ := run_lens _ _ _ g1
    have hl := HLL.out
    have hk0 : hM0.K.length = 0 := rfl
    have hh0 : hM0.hist.length = 0 := rfl
    exact vac_good hs hG g2 (by omega) (by omega) (fun b hb => by have := l3 (keyOk_new hN0) b hb; unfold maxLen; omega) q (by rw [g4]; exact h0) (by rw [g5]; exact h1)⟩
  clear hr hok hrun
  go_enter Try.func56, Try.ntmps56
  go_wp2_with (first
    | (go_at_call 35; refine HNW.out.mono ?_; rintro e w1 ⟨hb, _, h1⟩; obtain ⟨s, rfl, hs⟩ := h1 hN0; have HB1 := Aside0.mk hb; have HS1 := Aside0.mk hs; clear hb h1 hs)
    | (go_at_call 47; refine (HLS.out _ HB1.out).mono ?_; rintro e w2 ⟨v2, rfl, hr2, hb2⟩; obtain ⟨A2, c2, ev2⟩ := Kd.R_slice hr2; rw [HLL.out] at ev2; subst ev2; have HR2 := Aside0.mk (Kd.R_bound hr2); have HB2 := Aside0.mk hb2; clear hr2 hb2))
  have HSG : Aside0 (StoreAt (fun k => (w.heap.size ≤ k ∧ k < w1.heap.size) ∨ w2.heap.size ≤ k) w2 s hM0) := ⟨(HS1.out.turn (fun k hk h => .inl ⟨h, hk⟩)).below HB2.out⟩
  have HSZ0 : Aside0 (w.heap.size ≤ w1.heap.size ∧ w1.heap.size ≤ w2.heap.size) := ⟨HB1.out.size, HB2.out.size⟩
  clear HNW HLS HS1
  obtain ⟨G, hG⟩ : ∃ G : Nat → Prop, G = (fun k => (w.heap.size ≤ k ∧ k < w1.heap.size) ∨ w2.heap.size ≤ k) := ⟨_, rfl⟩
  rw [← hG] at HSG
  have HGX : Aside0 (∀ k, G k ↔ (w.heap.size ≤ k ∧ k < w1.heap.size) ∨ w2.heap.size ≤ k) := ⟨fun k => by rw [hG]⟩
  clear hG
  obtain ⟨cs, hcs⟩ : ∃ cs, cs = listC 1 wss := ⟨_, rfl⟩
  rw [← hcs] at HRUN HLL HWL HR2
  have HCS := Aside0.mk hcs
  clear hcs
  go_loopg [19] (wss.length + 1) (fun kq v19 wq => ∃ (i : Nat) (M : StM), v19 = .int .i64 (i : Int) ∧ i ≤ wss.length ∧ wss.length - i < kq ∧ Aside0 (runM hM0 (cs.take i) = some M) ∧ Aside0 (StoreAt G wq s M) ∧ Aside0 (Inv M) ∧ Aside0 (M.hist.length = i ∧ M.K.length ≤ 200 * i) ∧ Aside0 (Fr G w2 wq))
  case atStart => exact ⟨0, hM0, rfl, Nat.zero_le _, by omega, ⟨rfl⟩, HSG, ⟨hI0⟩, ⟨rfl, Nat.le_refl _⟩, ⟨Fr.refl _ _⟩⟩
  case round =>
    clear HSG
    obtain ⟨i, M, rfl, hi, hk, HRN, HS, HI, HSZ, HF⟩ := hrel
    have z0 : (0 : Int) ≤ (i : Int) := by omega
    have hG2 : ∀ k, wr.heap.size ≤ k → G k := fun k hk => (HGX.out k).2 (.inr (Nat.le_trans HF.out.size hk))
    have HRW : Kd.R k28 28 wr 0 (fun k => w1.heap.size ≤ k ∧ k < w2.heap.size) (.slice A2 wss.length c2) cs := Kd.R_mono (Kd.R_step HR2.out (fun k hk hl => HF.out.block k hl (fun hg => by
      have h1 : w1.heap.size ≤ k := hk.1
      rcases (HGX.out k).1 hg with h | h <;> omega))) (fun k hk => ⟨hk.1, hk.2.2.1⟩)
    by_cases hlt : i < wss.length
    · have z1 : (i : Int) < (wss.length : Int) := by omega
      have hlc : i < cs.length := by rw [HLL.out]; exact hlt
      obtain ⟨A9, c9, e9, hc9, hC9⟩ := Kd.R_reads HRW
      injection e9 with e9 e9b e9c
      clear e9b
      subst e9 e9c
      rw [HLL.out] at hC9
      obtain ⟨ad5, A5, c5, eA, f0, f1, f2, f3, f4⟩ := at_T28 hC9 (i : Int) z0 z1
      rw [rd_cA, Int.toNat_natCast] at f0 f1 f2
      rw [rd_cA] at f3 f4
      subst eA
      have hb2 : Below wr.heap.size wr (wr.alloc (.cells #[.int .i64 (cA cs i).f0, .int .i64 (cA cs i).f1, .slice A5 (cA cs i).f2.length c5] 28)) := below_alloc (Below.refl _ _) _
      have HCM := Aside0.mk (com_any (HS.out.below hb2) HI.out (fun k hk => hG2 k (Nat.le_trans hb2.size hk)) ⟨by have := HSZ.out.1; omega, by have := HSZ.out.2; omega⟩ (cA cs i) A5 c5 (Kd.C_below f4 hb2) f3 (by have := HWL.out i hlc; omega))
      have HRT := Aside0.mk (run_take hlc HRN.out)
      rw [← cA_eq hlc] at HRT
      have HB2 := Aside0.mk hb2
      have HW12 := Aside0.mk (HWL.out i hlc)
      clear f3 f4 hb2 hC9 HRW
      obtain ⟨d0, d1, d2⟩ := three_new wr 28 (.int .i64 (cA cs i).f0) (.int .i64 (cA cs i).f1) (.slice A5 (cA cs i).f2.length c5)
      have hg : goodC M (cA cs i) = true := by
        cases h : goodC M (cA cs i) with
        | true => rfl
        | false =>
          have h1 := HRT.out
          rw [h, if_neg (by decide)] at h1
          have h2 := HRUN.out
          rw [run_none h1] at h2
          cases h2
      have HI2 := Aside0.mk (inv_com HI.out hg)
      rw [hg, if_pos rfl] at HRT
      have HK2 : Aside0 ((comM M (cA cs i)).hist.length = i + 1 ∧ (comM M (cA cs i)).K.length ≤ 200 * (i + 1)) := ⟨by
        have h1 := putAll_length (s := (cA cs i).f0) (cA cs i).f2 M.K
        refine ⟨by simp [comM, HSZ.out.1], ?_⟩
        show (putAll (cA cs i).f0 M.K (cA cs i).f2).length ≤ _
        have := HSZ.out.2
        have := HW12.out
        omega⟩
      unfold errC stepM at HCM
      rw [hg, if_pos rfl, if_pos rfl] at HCM
      generalize comM M (cA cs i) = M2 at *
      clear hg hlc
      generalize cA cs i = x at *
      clear hG2
      go_wp2_with (first | (go_at_call 36; refine HCM.out.mono ?_; rintro e w5 ⟨rfl, hs5, hf5⟩; have HS5 := Aside0.mk hs5; have HF5 := Aside0.mk (HF.out.trans ((Fr.below HB2.out).trans hf5)); clear hs5 hf5))
      go_roundg (gk - 1)
      case measure => omega
      case rel => exact ⟨i + 1, M2, by go_num, by omega, by omega, HRT, HS5, HI2, HK2, HF5⟩
    · have hiz : i = wss.length := by omega
      subst hiz
      have h1 := HRN.out
      rw [← HLL.out, List.take_length] at h1
      have h2 := HRUN.out
      rw [h1] at h2
      have e : M = MM := by injection h2
      subst e
      have HRW2 := Aside0.mk HRW
      have HV := Aside0.mk (HVA.out G wr s hG2 HS.out)
      clear hi hlt hk h1 h2 HRW hG2
      go_wp2_with (first | (go_at_call 44; refine HV.out.mono ?_; rintro e w5 ⟨rfl, hs5, hf5⟩; have HS5 := Aside0.mk hs5; have HF5 := Aside0.mk hf5; clear hs5 hf5))
      go_ret2
      have hf := HF.out.trans HF5.out
      have hz := HSZ0.out
      refine ⟨s, _, G, rfl, HS5.out, fun k hk => ?_, fun k hk => (HGX.out k).2 (.inr (Nat.le_trans hf.size hk)), ?_, ?_⟩
      · rcases (HGX.out k).1 hk with h | h <;> omega
      · rw [← HCS.out]
        refine Kd.R_mono (Kd.R_step HRW2.out (fun k hk hl => HF5.out.block k hl (fun hg => ?_))) (fun k hk => ⟨by omega, fun hg => ?_⟩)
        · rcases (HGX.out k).1 hg with h | h <;> omega
        · rcases (HGX.out k).1 hg with h | h <;> omega
      · exact (HB1.out.trans (HB2.out.mono HB1.out.size)).trans ⟨hf.os, hf.tape, hf.output, hf.size, fun k hk => hf.block k (by omega) (fun hg => by rcases (HGX.out k).1 hg with h | h <;> omega)⟩
end Go.Proofs.Ytmafibbnojdpjaa.St
end
section
set_option linter.unusedVariables false
set_option maxRecDepth 100000
set_option linter.unusedSimpArgs false
namespace Go.Proofs.Ytmafibbnojdpjaa.St
open Go.Proofs.Ytmafibbnojdpjaa.Tr Go.RowKit Go.Proofs.YtmafibbnojdpjaaW.PrintWords Go.Proofs.YtmafibbnojdpjaaW.PrintLast Go.Proofs.YtmafibbnojdpjaaW.PrintMore Go.Proofs.Ytmafibbnojdpjaa.P
def lastSeq : List Cm → Int → Int
  | [], m => m
  | c :: cs, _ => lastSeq cs c.f0
theorem onlyL_cons (p : ByteArray) (c : Cm) (cs : List Cm) : onlyL p (c :: cs) = (if (onlyW p c.f2).length = 0 then [] else [onlyC p c]) ++ onlyL p cs := by
  unfold onlyL
  rw [List.map_cons, List.filter_cons]
  by_cases h : (onlyW p c.f2).length = 0
  · rw [if_pos h, if_neg (by simpa [onlyC] using h)]
    rfl
  · rw [if_neg h, if_pos (by simpa [onlyC] using h)]
    rfl
theorem onlyL_len (p : ByteArray) (cs : List Cm) : (onlyL p cs).length ≤ cs.length := by
  unfold onlyL
  refine Nat.le_trans (List.length_filter_le _ _) ?_
  rw [List.length_map]
  exact Nat.le_refl _
/-- there is room for all: all are told -/
theorem poll_all (p : ByteArray) (most : Nat) : ∀ (cs acc : List Cm) (m : Int), acc.length + cs.length ≤ most → pollF p most cs acc m = (acc ++ onlyL p cs, lastSeq cs m)
  | [], acc, m, _ => by rw [pollF_nil]; simp [onlyL, lastSeq]
  | c :: cs, acc, m, h => by
    rw [List.length_cons] at h
    rw [onlyL_cons]
    by_cases h0 : (onlyW p c.f2).length = 0
    · rw [pollF_skip (by omega) h0, poll_all p most cs acc c.f0 (by omega), if_pos h0]
      rfl
    · rw [pollF_take (by omega) h0, poll_all p most cs _ c.f0 (by rw [List.length_append, List.length_singleton]; omega), if_neg h0, List.append_assoc]
      rfl
/-- the lists' store, with what is behind q -/
structure LSt (wss : List (List Wr)) (q : Int) (M : StM) : Prop where
  inv : Inv M
  low : M.low = q
  hist : M.hist = (listC 1 wss).drop q.toNat
  len : lastM M = (wss.length : Int)
theorem listC_len (first : Int) (wss : List (List Wr)) : (listC first wss).length = wss.length := listTo_len _ _ _
theorem lst_of {wss : List (List Wr)} {MM : StM} (hrun : runM hM0 (listC 1 wss) = some MM) (hn : wss.length ≤ 1000) {q : Int} (h0 : 0 ≤ q) (h1 : q ≤ (wss.length : Int)) : LSt wss q (vacM MM q) := by
  obtain ⟨M1, g1, g2, g3, g4, g5⟩ := list_state wss hn
  have e : M1 = MM := by rw [g1] at hrun; injection hrun
  subst e
  refine ⟨inv_vac g2 q (by rw [g4]; exact h0) (by rw [g5]; exact h1), rfl, ?_, by rw [last_vac (by rw [g4]; exact h0) (by rw [g5]; exact h1)]; exact g5⟩
  show M1.hist.drop (q - M1.low).toNat = _
  rw [g3, g4, Int.sub_zero]
theorem list_ws (first : Int) (wss : List (List Wr)) : ∀ c ∈ listC first wss, c.f2.length ≤ 12 := fun c hc => by
  obtain ⟨j, _, e⟩ := List.mem_map.1 (show c ∈ (List.range wss.length).map (cmI first wss) from hc)
  rw [← e]
  exact some_len _
/-- a poll from k commits behind q -/
theorem poll_lst {G : Nat → Prop} {w : World} {s : Nat} {wss : List (List Wr)} {q : Int} {M : StM} (h : StoreAt G w s M) (hl : LSt wss q M) (hn : wss.length ≤ 1000) (h0 : 0 ≤ q) (k : Nat) (hk : k ≤ M.hist.length) (p : ByteArray) (m : Nat) (h1 : 1 ≤ m) (h2 : m ≤ 100) (h3 : p.size ≤ 400) :
    Calls Try.prog 57 #[.pointer (some ⟨s, 0, none⟩), .int .i64 (q + k), .string p, .int .i64 (m : Int)] w fun e w' => ∃ v, e = .returned (.tuple #[.agg #[v, .int .i64 (pollF p m (M.hist.drop k) [] (q + k)).2], .int .i64 0]) ∧ Kd.R k28 28 w' w.heap.size (fun _ => True) v (pollF p m (M.hist.drop k) [] (q + k)).1 ∧ Below w.heap.size w w' := by
  obtain ⟨col, H, L, hs⟩ := h
  have hlen : M.hist.length ≤ 1000 := by rw [hl.hist, List.length_drop, listC_len]; omega
  have := poll_good hs hl.inv.low hl.inv.last k hk (by omega) (fun c hc => by rw [hl.hist] at hc; have := list_ws 1 wss c (List.mem_of_mem_drop hc); omega) p m h1 h2 h3
  rw [hl.low] at this
  refine this.mono ?_
  rintro e w' ⟨v, mk, rfl, hr, rfl, hb⟩
  exact ⟨v, rfl, hr, hb⟩
theorem onlyL_lens {p : ByteArray} {cs : List Cm} {n : Nat} (h : ∀ c ∈ cs, c.f2.length ≤ n) : ∀ c ∈ onlyL p cs, c.f2.length ≤ n := fun c hc => by
  obtain ⟨d, hd, e⟩ := List.mem_map.1 (List.mem_filter.1 hc).1
  rw [← e]
  exact Nat.le_trans (List.length_filter_le _ _) (h d hd)
end Go.Proofs.Ytmafibbnojdpjaa.St
end
section
set_option linter.unusedVariables false
set_option maxRecDepth 100000
set_option linter.unusedSimpArgs false
namespace Go.Proofs.Ytmafibbnojdpjaa.St
open Go.Proofs.Ytmafibbnojdpjaa.Tr Go.RowKit Go.Proofs.YtmafibbnojdpjaaW.PrintWords Go.Proofs.YtmafibbnojdpjaaW.PrintLast Go.Proofs.YtmafibbnojdpjaaW.PrintMore Go.Proofs.Ytmafibbnojdpjaa.P
theorem onlyL_app (p : ByteArray) (a b : List Cm) : onlyL p (a ++ b) = onlyL p a ++ onlyL p b := by
  unfold onlyL
  rw [List.map_append, List.filter_append]
/-- a poll tells what the first commits wrote -/
theorem poll_some (p : ByteArray) (most : Nat) : ∀ (cs acc : List Cm) (m : Int), acc.length ≤ most → ∃ j, j ≤ cs.length ∧ pollF p most cs acc m = (acc ++ onlyL p (cs.take j), lastSeq (cs.take j) m) ∧ (acc.length < most → cs ≠ [] → 1 ≤ j)
  | [], acc, m, h => ⟨0, Nat.le_refl _, by rw [pollF_nil]; simp [onlyL, lastSeq], fun _ h => (h rfl).elim⟩
  | c :: cs, acc, m, h => by
    by_cases hf : acc.length = most
    · exact ⟨0, Nat.zero_le _, by rw [pollF_full hf]; simp [onlyL, lastSeq], fun h => by omega⟩
    · by_cases h0 : (onlyW p c.f2).length = 0
      · obtain ⟨j, h1, h2, h3⟩ := poll_some p most cs acc c.f0 h
        have e : onlyL p ((c :: cs).take (j + 1)) = onlyL p (cs.take j) := by
          rw [List.take_succ_cons, onlyL_cons, if_pos h0, List.nil_append]
        refine ⟨j + 1, by rw [List.length_cons]; omega, ?_, fun _ _ => by omega⟩
        rw [pollF_skip hf h0, h2, e]
        rfl
      · obtain ⟨j, h1, h2, h3⟩ := poll_some p most cs (acc ++ [onlyC p c]) c.f0 (by rw [List.length_append, List.length_singleton]; omega)
        have e : acc ++ onlyL p ((c :: cs).take (j + 1)) = acc ++ [onlyC p c] ++ onlyL p (cs.take j) := by
          rw [List.take_succ_cons, onlyL_cons, if_neg h0, List.append_assoc]
        refine ⟨j + 1, by rw [List.length_cons]; omega, ?_, fun _ _ => by omega⟩
        rw [pollF_take hf h0, h2, e]
        rfl
/-- the lists' commits are numbered -/
theorem seq_list {wss : List (List Wr)} {k j : Nat} (h : k + j ≤ wss.length) (m : Int) (hm : j = 0 → m = (k : Int)) : lastSeq (((listC 1 wss).drop k).take j) m = ((k + j : Nat) : Int) := by
  induction j generalizing m with
  | zero => rw [List.take_zero]; show m = _; rw [hm rfl]; rfl
  | succ j ih =>
    have hl : ∀ (l : List Cm) (c : Cm) (m : Int), lastSeq (l ++ [c]) m = c.f0 := by
      intro l
      induction l with
      | nil => intro c m; rfl
      | cons a l ih => intro c m; exact ih c a.f0
    have hlt : j < ((listC 1 wss).drop k).length := by rw [List.length_drop, listC_len]; omega
    rw [List.take_succ_eq_append_getElem hlt, hl]
    rw [List.getElem_drop]
    simp only [listC, listTo, List.getElem_map, List.getElem_range]
    show (1 : Int) + ((k + j : Nat) : Int) = _
    omega
end Go.Proofs.Ytmafibbnojdpjaa.St
end
section
set_option linter.unusedVariables false
set_option maxRecDepth 100000
set_option linter.unusedSimpArgs false
namespace Go.Proofs.Ytmafibbnojdpjaa.St
open Go.Proofs.Ytmafibbnojdpjaa.Tr Go.RowKit Go.Proofs.YtmafibbnojdpjaaW.PrintWords Go.Proofs.YtmafibbnojdpjaaW.PrintLast Go.Proofs.YtmafibbnojdpjaaW.PrintMore Go.Proofs.Ytmafibbnojdpjaa.P
attribute [local go_sem] Oper.semAt_some
theorem same_lp (q a : Int) (l : List Wr) (hn : l.length < 4611686018427387904) : ∀ (d i : Nat), i + d = l.length → mailbaglaw11_Same.l0 (d + 1) (l.length : Int) (i : Int) q a l q a l = some true
  | 0, i, h => by
    unfold mailbaglaw11_Same.l0
    rw [if_neg (by omega)]
  | d + 1, i, h => by
    unfold mailbaglaw11_Same.l0
    rw [if_pos (by omega), if_pos (by omega), if_pos (by omega), if_pos (by omega), if_neg (by simp), show wrap64 ((i : Int) + 1) = ((i + 1 : Nat) : Int) from by rw [w64 (by omega) (by omega)]; rfl]
    exact same_lp q a l hn d (i + 1) (by omega)
theorem same_me (q a : Int) (l : List Wr) (hn : l.length < 4611686018427387904) : mailbaglaw11_Same.f (l.length + 2) q a l q a l = some true := by
  unfold mailbaglaw11_Same.f
  rw [if_pos rfl, if_pos rfl, show ((l.length : Int) != (l.length : Int)) = false from by simp]
  simp only [mailbaglaw11_Same.j0]
  rw [if_neg (by decide)]
  exact same_lp q a l hn l.length 0 (by omega)
set_option maxHeartbeats 4000000 in
theorem steps_big1 (wss : List (List Wr)) (A : Option Addr) (c : Nat) (p : ByteArray) (l : List Int) (B : Option Addr) (d : Nat) (w : World) (h1 : ¬ wss.length ≤ 30) :
    Calls Try.prog 17 #[.slice A wss.length c, .string p, .slice B l.length d] w fun e w' => e = .returned (.bool true) ∧ Below w.heap.size w w' := by
  have n1 : (30 : Int) < (wss.length : Int) := by omega
  have HHD := Aside0.mk (head17_any w)
  go_enter Try.func17, Try.ntmps17
  go_wp2_with (first
    | (go_at_call 25; refine HHD.out.mono ?_; rintro e w1 ⟨rfl, hb⟩; have HB1 := Aside0.mk hb; clear hb))
  go_ret
  exact ⟨rfl, HB1.out⟩
set_option maxHeartbeats 4000000 in
theorem steps_big2 (wss : List (List Wr)) (A : Option Addr) (c : Nat) (p : ByteArray) (l : List Int) (B : Option Addr) (d : Nat) (w : World) (h1 : wss.length ≤ 30) (h2 : ¬ p.size ≤ 60) :
    Calls Try.prog 17 #[.slice A wss.length c, .string p, .slice B l.length d] w fun e w' => e = .returned (.bool true) ∧ Below w.heap.size w w' := by
  have n1 : ¬ (30 : Int) < (wss.length : Int) := by omega
  have n2 : (60 : Int) < (p.size : Int) := by omega
  have HHD := Aside0.mk (head17_any w)
  go_enter Try.func17, Try.ntmps17
  go_wp2_with (first
    | (go_at_call 25; refine HHD.out.mono ?_; rintro e w1 ⟨rfl, hb⟩; have HB1 := Aside0.mk hb; clear hb))
  go_ret
  exact ⟨rfl, HB1.out⟩
set_option maxHeartbeats 4000000 in
theorem steps_big3 (wss : List (List Wr)) (A : Option Addr) (c : Nat) (p : ByteArray) (l : List Int) (B : Option Addr) (d : Nat) (w : World) (h1 : wss.length ≤ 30) (h2 : p.size ≤ 60) (h3 : ¬ l.length ≤ 40) :
    Calls Try.prog 17 #[.slice A wss.length c, .string p, .slice B l.length d] w fun e w' => e = .returned (.bool true) ∧ Below w.heap.size w w' := by
  have n1 : ¬ (30 : Int) < (wss.length : Int) := by omega
  have n2 : ¬ (60 : Int) < (p.size : Int) := by omega
  have n3 : (40 : Int) < (l.length : Int) := by omega
  have HHD := Aside0.mk (head17_any w)
  go_enter Try.func17, Try.ntmps17
  go_wp2_with (first
    | (go_at_call 25; refine HHD.out.mono ?_; rintro e w1 ⟨rfl, hb⟩; have HB1 := Aside0.mk hb; clear hb))
  go_ret
  exact ⟨rfl, HB1.out⟩
theorem w64_succ (t : Nat) (h : t < 100) : Value.int IntKind.i64 (wrap64 ((t : Int) + 1)) = Value.int IntKind.i64 ((t + 1 : Nat) : Int) := by
  rw [w64 (by omega) (by omega)]
  rfl
theorem and_15 (n : Int) : bits .and .i64 n 15 = n % 16 := by
  rw [Tr.low_bits n 15 4 (by decide), IntKind.wrap_i64]; omega
set_option maxHeartbeats 32000000 in
theorem steps_in (wss : List (List Wr)) (A : Option Addr) (c : Nat) (p : ByteArray) (l : List Int) (B : Option Addr) (d : Nat) (w : World) (hr : Kd.C (Kd.slice 31 k31) w A wss.length wss) (hn : wss.length ≤ 30) (hok : ∀ ws ∈ wss, okWs ws) (hp : p.size ≤ 60) (hC : (Kd.int .i64).C w B l.length l) (h40 : l.length ≤ 40) :
    Calls Try.prog 17 #[.slice A wss.length c, .string p, .slice B l.length d] w fun e w' => e = .returned (.bool true) ∧ Below w.heap.size w w' := by
  have n1 : ¬ (30 : Int) < (wss.length : Int) := by omega
  have n2 : ¬ (60 : Int) < (p.size : Int) := by omega
  have n3 : ¬ (40 : Int) < (l.length : Int) := by omega
  have HHD := Aside0.mk (head17_any w)
  have HC := Aside0.mk hC
  obtain ⟨MM, hrun, _⟩ := list_state wss (by omega)
  have HMD : Aside0 (∀ W, Below w.heap.size w W → Calls Try.prog 56 #[.slice A wss.length c, .int .i64 0] W fun e w' => ∃ s v G, e = .returned (.tuple #[.pointer (some ⟨s, 0, none⟩), v]) ∧ StoreAt G w' s (vacM MM 0) ∧ (∀ k, G k → W.heap.size ≤ k) ∧ (∀ k, w'.heap.size ≤ k → G k) ∧ Kd.R k28 28 w' 0 (fun k => W.heap.size ≤ k ∧ ¬ G k) v (listC 1 wss) ∧ Below W.heap.size W w') := ⟨fun W hW => made17_any wss A c 0 W (Kd.C_below hr hW) hn hok (by decide) (by omega) MM hrun⟩
  have hls := lst_of hrun (by omega) (q := 0) (by decide) (by omega)
  have hM : (vacM MM 0).hist = listC 1 wss := hls.hist
  have hll := listC_len 1 wss
  have HPL : Aside0 (∀ (G : Nat → Prop) (W : World) (s k m : Nat), StoreAt G W s (vacM MM 0) → k ≤ wss.length → 1 ≤ m → m ≤ 100 → ∃ j, k + j ≤ wss.length ∧ (k < wss.length → 1 ≤ j) ∧ (30 ≤ m → k + j = wss.length) ∧ Calls Try.prog 57 #[.pointer (some ⟨s, 0, none⟩), .int .i64 (k : Int), .string p, .int .i64 (m : Int)] W fun e w' => ∃ v mk, mk = ((k + j : Nat) : Int) ∧ e = .returned (.tuple #[.agg #[v, .int .i64 mk], .int .i64 0]) ∧ Kd.R k28 28 w' W.heap.size (fun _ => True) v (onlyL p (((listC 1 wss).drop k).take j)) ∧ Below W.heap.size W w') := ⟨fun G W s k m hs hk h1 h2 => by
    have := poll_lst hs hls (by omega) (by decide) k (by rw [hM, hll]; exact hk) p m h1 h2 (by omega)
    rw [hM, Int.zero_add] at this
    obtain ⟨j, q1, q2, q3⟩ := poll_some p m ((listC 1 wss).drop k) [] (k : Int) (Nat.zero_le _)
    rw [List.length_drop, hll] at q1
    have hj : (k < wss.length → 1 ≤ j) := fun hlt => q3 h1 (fun e => by have := congrArg List.length e; rw [List.length_drop, hll] at this; simp at this; omega)
    refine ⟨j, by omega, hj, fun hm => ?_, ?_⟩
    · have e1 := poll_all p m ((listC 1 wss).drop k) [] (k : Int) (by rw [List.length_drop, hll]; simp; omega)
      have e2 := q2.symm.trans e1
      have e3 : lastSeq (((listC 1 wss).drop k).take j) (k : Int) = lastSeq ((listC 1 wss).drop k) (k : Int) := congrArg Prod.snd e2
      rw [seq_list (by omega) (k : Int) (fun _ => rfl)] at e3
      have e4 := seq_list (wss := wss) (k := k) (j := wss.length - k) (by omega) (k : Int) (fun _ => rfl)
      rw [List.take_of_length_le (by rw [List.length_drop, hll]; exact Nat.le_refl _)] at e4
      rw [e4] at e3
      omega
    · rw [q2, seq_list (by omega) (k : Int) (fun _ => rfl), List.nil_append] at this
      refine this.mono ?_
      rintro e w' ⟨v, rfl, h1, h2⟩
      exact ⟨v, _, rfl, rfl, h1, h2⟩⟩
  have HWL : Aside0 (∀ i, i < (onlyL p (listC 1 wss)).length → (cA (onlyL p (listC 1 wss)) i).f2.length ≤ 12) := ⟨fun i hi => by rw [cA_eq hi]; exact onlyL_lens (list_ws 1 wss) _ (List.getElem_mem hi)⟩
  have HLL : Aside0 ((listC 1 wss).length = wss.length) := ⟨hll⟩
  clear hr hok hrun hls hM hll hC
  go_enter Try.func17, Try.ntmps17
  go_wp2_with (first
    | (go_at_call 25; refine HHD.out.mono ?_; rintro e w1 ⟨rfl, hb⟩; have HB1 := Aside0.mk hb; clear hb)
    | (go_at_call 56; refine (HMD.out _ HB1.out).mono ?_; rintro e w2 ⟨s, v, G, rfl, h1, h2, h3, h4, h5⟩; obtain ⟨A2, c2, ev⟩ := Kd.R_slice h4; rw [HLL.out] at ev; subst ev
       have HS2 := Aside0.mk h1
       have HB2 := Aside0.mk (below_step HB1.out h5)
       clear h1 h2 h3 h4 h5
       obtain ⟨j0, _, _, hj0, hpl⟩ := HPL.out G w2 s 0 100 HS2.out (Nat.zero_le _) (by decide) (by decide)
       have hj0' := hj0 (by decide)
       rw [Nat.zero_add] at hj0'
       subst hj0'
       rw [Nat.zero_add, List.drop_zero, List.take_of_length_le (by rw [HLL.out]; exact Nat.le_refl _)] at hpl
       have HP0 := Aside0.mk hpl
       clear hpl hj0)
    | (go_at_call 57; refine HP0.out.mono ?_; rintro e w3 ⟨v3, mk3, hmk3, rfl, h1, h2⟩; subst hmk3; obtain ⟨AA, cA', ev⟩ := Kd.R_slice h1; subst ev
       have hnew := heap_alloc_new w3 (.cells #[.slice AA (onlyL p (listC 1 wss)).length cA', .int .i64 (wss.length : Int)] 92)
       have x0 := (cell_of_row _ _ 0 _ _ _ hnew).trans rfl
       have x1 := (cell_of_row _ _ 1 _ _ _ hnew).trans rfl
       have HR3 := Aside0.mk (Kd.R_below h1 (below_alloc (Below.refl _ _) (.cells #[.slice AA (onlyL p (listC 1 wss)).length cA', .int .i64 (wss.length : Int)] 92)))
       have HS3 := Aside0.mk (HS2.out.below (below_step h2 (below_alloc (Below.refl _ _) (.cells #[.slice AA (onlyL p (listC 1 wss)).length cA', .int .i64 (wss.length : Int)] 92))))
       have HB3 := Aside0.mk (below_step (below_step HB2.out h2) (below_alloc (Below.refl _ _) (.cells #[.slice AA (onlyL p (listC 1 wss)).length cA', .int .i64 (wss.length : Int)] 92)))
       have HNW := Aside0.mk hnew
       clear h1 h2 hnew))
  clear HMD HHD HB1 HS2 HB2 HP0 x0 x1
  generalize w3.alloc (.cells #[.slice AA (onlyL p (listC 1 wss)).length cA', .int .i64 (wss.length : Int)] 92) = W3 at *
  generalize w3.heap.size = ba at *
  go_loopg [13, 11, 12] 62 (fun kq v13 v11 v12 wq => ∃ i k : Nat, v13 = .int .i64 (i : Int) ∧ v11 = .int .i64 (k : Int) ∧ v12 = .int .i64 ((onlyL p ((listC 1 wss).take k)).length : Int) ∧ i ≤ 60 ∧ k ≤ wss.length ∧ (i ≤ k ∨ k = wss.length) ∧ 61 - i < kq ∧ Aside0 (Below W3.heap.size W3 wq))
  case atStart => exact ⟨0, 0, rfl, rfl, by simp [onlyL], by omega, Nat.zero_le _, by omega, by omega, ⟨Below.refl _ _⟩⟩
  case round =>
    obtain ⟨i, k, rfl, rfl, rfl, hi, hkn, hik, hk, HBQ⟩ := hrel
    by_cases hlt : k < wss.length
    · have hi60 : i < 60 := by omega
      have n4 : (i : Int) < 60 := by omega
      have n5 : (k : Int) < (wss.length : Int) := by omega
      have z0 : (0 : Int) ≤ (i : Int) := by omega
      rcases Nat.lt_or_ge i l.length with hil | hil
      case' inl =>
        have n6 : (i : Int) < (l.length : Int) := by omega
        obtain ⟨adB, eB, f0⟩ := Kd.at_int (Kd.C_below HC.out (below_step HB3.out HBQ.out)) (i : Int) z0 n6
        rw [Int.toNat_natCast] at f0
        subst eB
        generalize rd l (i : Int) = a at *
        have m15 : bits .and .i64 a 15 = a % 16 := and_15 a
        obtain ⟨mm, hmm⟩ : ∃ mm : Nat, 1 + a % 16 = (mm : Int) := ⟨(1 + a % 16).toNat, by omega⟩
        have hm1 : 1 ≤ mm := by omega
        have hm2 : mm ≤ 16 := by omega
        have hw1 : IntKind.i64.wrap (1 + a % 16) = (mm : Int) := by rw [IntKind.wrap_i64]; omega
        have hw1' : wrap64 (1 + a % 16) = (mm : Int) := by rw [w64 (by omega) (by omega)]; exact hmm
        clear hmm
      case' inr =>
        have n6 : ¬ (i : Int) < (l.length : Int) := by omega
        have hm1 : 1 ≤ 1 := Nat.le_refl _
        have hm2 : 1 ≤ 16 := by decide
      all_goals
        obtain ⟨j, hj1, hj2, _, hpl⟩ := HPL.out G wr s k _ (HS3.out.below HBQ.out) hkn hm1 (by omega)
        have hj3 := hj2 hlt
        have HPK := Aside0.mk hpl
        have HAP : Aside0 (onlyL p (listC 1 wss) = onlyL p ((listC 1 wss).take k) ++ (onlyL p (((listC 1 wss).drop k).take j) ++ onlyL p ((listC 1 wss).drop (k + j)))) := ⟨by
          rw [← onlyL_app, ← List.drop_drop, List.take_append_drop, ← onlyL_app, List.take_append_drop]⟩
        have HTK : Aside0 (onlyL p ((listC 1 wss).take (k + j)) = onlyL p ((listC 1 wss).take k) ++ onlyL p (((listC 1 wss).drop k).take j)) := ⟨by
          rw [← onlyL_app, ← List.take_add]⟩
        have HN30 : Aside0 ((onlyL p (listC 1 wss)).length ≤ 30) := ⟨by have := onlyL_len p (listC 1 wss); have := HLL.out; omega⟩
        clear hpl hj2 hlt
        obtain ⟨n0, hn0⟩ : ∃ n0, n0 = (onlyL p ((listC 1 wss).take k)).length := ⟨_, rfl⟩
        rw [← hn0]
        have HN0 := Aside0.mk hn0
        clear hn0
        obtain ⟨L, hL⟩ : ∃ L, L = onlyL p (((listC 1 wss).drop k).take j) := ⟨_, rfl⟩
        rw [← hL] at HPK HAP HTK
        clear hL
        obtain ⟨ALL, hALL⟩ : ∃ ALL, ALL = onlyL p (listC 1 wss) := ⟨_, rfl⟩
        rw [← hALL] at HAP HN30 HR3 HNW HWL
        clear hALL
        go_wp2_with (first
          | (go_at_call 57; refine HPK.out.mono ?_; rintro e w5 ⟨v5, mk, hmk, rfl, h1, h2⟩; obtain ⟨A5, c5, ev⟩ := Kd.R_slice h1; subst ev
             have nmk : ¬ mk < (k : Int) := by omega
             have HMK := Aside0.mk hmk
             clear hmk
             have hnew := heap_alloc_new w5 (.cells #[.slice A5 L.length c5, .int .i64 mk] 92)
             have x0 := (cell_of_row _ _ 0 _ _ _ hnew).trans rfl
             have x1 := (cell_of_row _ _ 1 _ _ _ hnew).trans rfl
             have HN5 := Aside0.mk hnew
             have HR5 := Aside0.mk (Kd.R_below h1 (below_alloc (Below.refl _ _) (.cells #[.slice A5 L.length c5, .int .i64 mk] 92)))
             have HB5 := Aside0.mk (below_step (below_step HBQ.out h2) (below_alloc (Below.refl _ _) (.cells #[.slice A5 L.length c5, .int .i64 mk] 92)))
             clear h1 h2 hnew))
        clear x0 x1
        generalize w5.alloc (.cells #[.slice A5 L.length c5, .int .i64 mk] 92) = W6 at *
        generalize w5.heap.size = bb at *
        obtain ⟨gg, hgg⟩ : ∃ gg, gg = gk := ⟨_, rfl⟩
        have HGG := Aside0.mk hgg
        clear hgg
        go_loopg [93, 12] (L.length + 1) (fun kq v93 v12 wq => ∃ t u : Nat, v93 = .int .i64 (t : Int) ∧ v12 = .int .i64 (u : Int) ∧ t ≤ L.length ∧ L.length - t < kq ∧ Aside0 (u = n0 + t) ∧ Aside0 (Below W6.heap.size W6 wq))
        case atStart => exact ⟨0, n0, rfl, rfl, Nat.zero_le _, by omega, ⟨rfl⟩, ⟨Below.refl _ _⟩⟩
        case round =>
          obtain ⟨t, u, rfl, rfl, ht, hkt, HU, HBT⟩ := hrel
          have y0 : (0 : Int) ≤ (t : Int) := by omega
          have hbw := below_step HB5.out HBT.out
          have x0 : wr.cell? ⟨ba, 0, none⟩ = some (.slice AA ALL.length cA') := up hbw ((cell_of_row _ _ 0 _ _ _ HNW.out).trans rfl)
          have hall := congrArg List.length HAP.out
          rw [List.length_append, List.length_append, ← HN0.out] at hall
          have hn30 := HN30.out
          by_cases htl : t < L.length
          · have y1 : (t : Int) < (L.length : Int) := by omega
            have hnt : u < ALL.length := by have := HU.out; omega
            have HEQ : cA ALL u = cA L t := by
              rw [cA_eq hnt, cA_eq htl]
              have e : ALL[u]? = L[t]? := by
                rw [HAP.out, List.getElem?_append_right (by have := HN0.out; have := HU.out; omega), show u - (onlyL p ((listC 1 wss).take k)).length = t from by have := HN0.out; have := HU.out; omega, List.getElem?_append_left htl]
              rw [List.getElem?_eq_getElem hnt, List.getElem?_eq_getElem htl] at e
              injection e
            obtain ⟨A9, c9, e9, hc9, hC9⟩ := Kd.R_reads (Kd.R_below HR5.out HBT.out)
            injection e9 with e9 e9b e9c
            clear e9b
            subst e9 e9c
            obtain ⟨ad5, A7, c7, eA, f0', f1, f2, f3, f4⟩ := at_T28 hC9 (t : Int) y0 y1
            obtain ⟨A8, c8, e8, hc8, hC8⟩ := Kd.R_reads (Kd.R_below HR3.out hbw)
            injection e8 with e8 e8b e8c
            clear e8b
            subst e8 e8c
            obtain ⟨ad6, A6, c6, eB2, g0, g1, g2, g3, g4⟩ := at_T28 hC8 (u : Int) (by omega) (by omega)
            rw [rd_cA, Int.toNat_natCast] at f0' f1 f2 g0 g1 g2
            rw [rd_cA] at f3 f4 g3 g4
            rw [HEQ] at g0 g1 g2 g3 g4
            have hx12 := HWL.out u hnt
            rw [HEQ] at hx12
            subst eA eB2
            generalize cA L t = x at *
            obtain ⟨d0, d1, d2⟩ := three_new wr 28 (.int .i64 x.f0) (.int .i64 x.f1) (.slice A7 x.f2.length c7)
            have hb7 : Below wr.heap.size wr (wr.alloc (.cells #[.int .i64 x.f0, .int .i64 x.f1, .slice A7 x.f2.length c7] 28)) := below_alloc (Below.refl _ _) _
            have x0 := up hb7 x0
            have g0 := up hb7 g0
            have g1 := up hb7 g1
            have g2 := up hb7 g2
            have HSM : Aside0 (∀ W, Below wr.heap.size wr W → Calls Try.prog 33 #[.agg #[.int .i64 x.f0, .int .i64 x.f1, .slice A7 x.f2.length c7], .agg #[.int .i64 x.f0, .int .i64 x.f1, .slice A6 x.f2.length c6]] W fun e w' => e = .returned (.bool true) ∧ Below W.heap.size W w') := ⟨fun W hW => mailbaglaw11_Same.calls (x.f2.length + 2) x.f0 x.f1 A7 c7 x.f2 x.f0 x.f1 A6 c6 x.f2 true W (Kd.C_below f4 hW) f3 (Kd.C_below g4 hW) g3 (same_me x.f0 x.f1 x.f2 (by omega))⟩
            have HB7 := Aside0.mk hb7
            have HUB : Aside0 (u < 100 ∧ t < 100) := ⟨by omega⟩
            have n8 : ¬ (ALL.length : Int) ≤ (u : Int) := by omega
            have n8' : ¬ ALL.length ≤ u := by omega
            have n8c : decide ((ALL.length : Int) ≤ (u : Int)) = false := decide_eq_false n8
            have n8d : decide (ALL.length ≤ u) = false := decide_eq_false n8'
            have n9 : (0 : Int) ≤ (u : Int) := by omega
            have n10 : (u : Int) < (ALL.length : Int) := by omega
            clear f3 f4 g3 g4 hC9 hc9 hC8 hc8 HEQ hbw hb7 hall
            have hu : Below (wr.alloc (.cells #[.int .i64 x.f0, .int .i64 x.f1, .slice A7 x.f2.length c7] 28)).heap.size (wr.alloc (.cells #[.int .i64 x.f0, .int .i64 x.f1, .slice A7 x.f2.length c7] 28)) (wr.alloc (.cells #[.int .i64 x.f0, .int .i64 x.f1, .slice A7 x.f2.length c7] 28)).drew := below_drew1 (Below.refl _ _)
            have S0 : (fun W : World => W.cell? ⟨wr.heap.size, 0, none⟩ = some (.int .i64 x.f0) ∧ W.cell? ⟨wr.heap.size, 1, none⟩ = some (.int .i64 x.f1) ∧ W.cell? ⟨wr.heap.size, 2, none⟩ = some (.slice A7 x.f2.length c7) ∧ W.cell? ⟨ba, 0, none⟩ = some (.slice (some ad6) ALL.length cA') ∧ W.cell? (ad6.add (u * 3)) = some (.int .i64 x.f0) ∧ W.cell? ⟨(ad6.add (u * 3)).block, (ad6.add (u * 3)).off + 1, none⟩ = some (.int .i64 x.f1) ∧ W.cell? ⟨(ad6.add (u * 3)).block, (ad6.add (u * 3)).off + 2, none⟩ = some (.slice A6 x.f2.length c6)) (wr.alloc (.cells #[.int .i64 x.f0, .int .i64 x.f1, .slice A7 x.f2.length c7] 28)).drew := ⟨Tr.up hu d0, Tr.up hu d1, Tr.up hu d2, Tr.up hu x0, Tr.up hu g0, Tr.up hu g1, Tr.up hu g2⟩
            have SD : Aside0 (∀ W, Below (wr.alloc (.cells #[.int .i64 x.f0, .int .i64 x.f1, .slice A7 x.f2.length c7] 28)).heap.size (wr.alloc (.cells #[.int .i64 x.f0, .int .i64 x.f1, .slice A7 x.f2.length c7] 28)) W → (fun W : World => W.cell? ⟨wr.heap.size, 0, none⟩ = some (.int .i64 x.f0) ∧ W.cell? ⟨wr.heap.size, 1, none⟩ = some (.int .i64 x.f1) ∧ W.cell? ⟨wr.heap.size, 2, none⟩ = some (.slice A7 x.f2.length c7) ∧ W.cell? ⟨ba, 0, none⟩ = some (.slice (some ad6) ALL.length cA') ∧ W.cell? (ad6.add (u * 3)) = some (.int .i64 x.f0) ∧ W.cell? ⟨(ad6.add (u * 3)).block, (ad6.add (u * 3)).off + 1, none⟩ = some (.int .i64 x.f1) ∧ W.cell? ⟨(ad6.add (u * 3)).block, (ad6.add (u * 3)).off + 2, none⟩ = some (.slice A6 x.f2.length c6)) W) := ⟨fun W hW => ⟨Tr.up hW d0, Tr.up hW d1, Tr.up hW d2, Tr.up hW x0, Tr.up hW g0, Tr.up hW g1, Tr.up hW g2⟩⟩
            clear hu
            go_wp2
            go_region_held3 (fun W : World => W.cell? ⟨wr.heap.size, 0, none⟩ = some (.int .i64 x.f0) ∧ W.cell? ⟨wr.heap.size, 1, none⟩ = some (.int .i64 x.f1) ∧ W.cell? ⟨wr.heap.size, 2, none⟩ = some (.slice A7 x.f2.length c7) ∧ W.cell? ⟨ba, 0, none⟩ = some (.slice (some ad6) ALL.length cA') ∧ W.cell? (ad6.add (u * 3)) = some (.int .i64 x.f0) ∧ W.cell? ⟨(ad6.add (u * 3)).block, (ad6.add (u * 3)).off + 1, none⟩ = some (.int .i64 x.f1) ∧ W.cell? ⟨(ad6.add (u * 3)).block, (ad6.add (u * 3)).off + 2, none⟩ = some (.slice A6 x.f2.length c6)) (first | exact S0 | exact S8) (first
              | (go_at_call 33; refine (HSM.out _ (by repeat (first | apply below_alloc | apply pw_below_drewN | apply below_drew1 | exact Below.refl _ _))).mono ?_; rintro e w8 ⟨rfl, hb8⟩
                 have S8 := SD.out w8 (below_step (by repeat (first | apply pw_below_drewN | apply below_drew1 | exact Below.refl _ _)) hb8)
                 have HB8 : Aside0 (Below W6.heap.size W6 w8) := ⟨below_step HBT.out (below_step (by repeat (first | apply below_alloc | apply pw_below_drewN | apply below_drew1 | exact Below.refl _ _)) hb8)⟩
                 clear hb8))
            go_wp2
            go_roundg (gk - 1)
            case measure => omega
            case rel => exact ⟨t + 1, u + 1, by first | exact w64_succ t HUB.out.2 | rfl, by first | exact w64_succ u HUB.out.1 | rfl, by omega, by omega, ⟨by have := HU.out; omega⟩, HB8⟩
          · have htz : t = L.length := by omega
            subst htz
            have x1 : wr.cell? ⟨bb, 1, none⟩ = some (.int .i64 mk) := up HBT.out ((cell_of_row _ _ 1 _ _ _ HN5.out).trans rfl)
            have hln : u = (onlyL p ((listC 1 wss).take (k + j))).length := by rw [HTK.out, List.length_append, ← HN0.out]; exact HU.out
            have HLN := Aside0.mk hln
            have HBW := Aside0.mk hbw
            clear ht htl hkt hall hn30 hln hbw
            go_wp2
            go_roundg (gg - 1)
            case measure => have := HGG.out; omega
            case rel => exact ⟨i + 1, k + j, by go_num, by rw [HMK.out], by rw [← HLN.out], by omega, by omega, by omega, by have := HGG.out; omega, HBW⟩
    · have hkz : k = wss.length := by omega
      subst hkz
      have he : (listC 1 wss).take wss.length = listC 1 wss := by rw [← HLL.out, List.take_length]
      rw [he]
      have n5 : ¬ (wss.length : Int) < (wss.length : Int) := by omega
      have x0 : wr.cell? ⟨ba, 0, none⟩ = some (.slice AA (onlyL p (listC 1 wss)).length cA') := up HBQ.out ((cell_of_row _ _ 0 _ _ _ HNW.out).trans rfl)
      clear he hkn hik
      by_cases hi6 : i < 60
      · have n4 : (i : Int) < 60 := by omega
        clear hlt hk
        go_wp2
        go_ret
        exact ⟨by simp, below_step HB3.out HBQ.out⟩
      · have n4 : ¬ (i : Int) < 60 := by omega
        clear hlt hk
        go_wp2
        go_ret
        exact ⟨by simp, below_step HB3.out HBQ.out⟩
theorem watchSteps_walk (l0 : List (List Wr)) (A : Option Addr) (c : Nat) (p : ByteArray) (l2 : List Int) (B : Option Addr) (d : Nat) (w : World) (hr : Kd.C (Kd.slice 31 k31) w A l0.length l0) (_ : l0.length ≤ c) (ho : l0.length ≤ maxLen ∧ l0.length * 24 ≤ 140737488351232 ∧ ∀ y ∈ l0, (y.length ≤ maxLen ∧ y.length * 40 ≤ 140737488351232 ∧ ∀ z ∈ y, (z.f0.size ≤ 140737488351232 ∧ z.f1.size ≤ 140737488351232 ∧ True)))
    (_ : p.size ≤ 140737488351232) (hC : (Kd.int .i64).C w B l2.length l2) (_ : l2.length ≤ d) (_ : l2.length ≤ maxLen ∧ l2.length * 8 ≤ 140737488351232 ∧ ∀ y ∈ l2, (Lit.int .i64 y).wf = true) :
    Calls Try.prog 17 #[.slice A l0.length c, .string p, .slice B l2.length d] w fun e w' => e = .returned (.bool true) ∧ Below w.heap.size w w' := by
  by_cases h1 : l0.length ≤ 30
  · by_cases h2 : p.size ≤ 60
    · by_cases h3 : l2.length ≤ 40
      · exact steps_in l0 A c p l2 B d w hr h1 (fun ws hw => ⟨by have := (ho.2.2 ws hw).2.1; omega, fun x hx => ((ho.2.2 ws hw).2.2 x hx).1⟩) h2 hC h3
      · exact steps_big3 l0 A c p l2 B d w h1 h2 h3
    · exact steps_big2 l0 A c p l2 B d w h1 h2
  · exact steps_big1 l0 A c p l2 B d w h1
end Go.Proofs.Ytmafibbnojdpjaa.St
end
