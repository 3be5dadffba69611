/- Lemmas that the proof needs, part 21. -/
import Derived.Test.YtmafibbnojdpjaaWKept
import Derived.Deep.RegionHeld3
import Derived.Test.YtmafibbnojdpjaaWWords
import Derived.Deep.RegionLaw
import Derived.Test.YtmafibbnojdpjaaWpo1
import Derived.Test.YtmafibbnojdpjaaWpo2
import Derived.Test.YtmafibbnojdpjaaWpo3
import Derived.Test.YtmafibbnojdpjaaWpo4
import Derived.Test.YtmafibbnojdpjaaWpo5
import Derived.Test.YtmafibbnojdpjaaWpo6
import Derived.Test.YtmafibbnojdpjaaWpo7
import Derived.Test.YtmafibbnojdpjaaWpo8
import Derived.Test.YtmafibbnojdpjaaWpo9
import Derived.Test.YtmafibbnojdpjaaWpo10
import Derived.Test.YtmafibbnojdpjaaWpo11
import Derived.Test.YtmafibbnojdpjaaWpo12
import Derived.Test.YtmafibbnojdpjaaWpo13
import Derived.Test.YtmafibbnojdpjaaWpo14
import Derived.Test.YtmafibbnojdpjaaWpo15
import Derived.Test.YtmafibbnojdpjaaWpo16
import Derived.Test.YtmafibbnojdpjaaWpo17
import Derived.Test.YtmafibbnojdpjaaWpo18
import Derived.Test.YtmafibbnojdpjaaWpo19
import Derived.Test.YtmafibbnojdpjaaWpo20
section
set_option linter.unusedVariables false
set_option maxRecDepth 100000
set_option linter.unusedSimpArgs false
namespace Go.Proofs.Ytmafibbnojdpjaa.St
open Go.Proofs.Ytmafibbnojdpjaa.Tr Go.RowKit Go.Proofs.YtmafibbnojdpjaaW.PrintWords Go.Proofs.YtmafibbnojdpjaaW.PrintLast Go.Proofs.YtmafibbnojdpjaaW.PrintMore Go.Proofs.Ytmafibbnojdpjaa.P
attribute [local go_sem] Oper.semAt_some
/-- writes by their keys, of one key the last one -/
def insAll (ws : List Wr) : List (ByteArray × Wr) := ws.foldl (fun K x => insK K x.f0 x) []
def sortedW (ws : List Wr) : List Wr := (insAll ws).map (·.2)
def mapW (ws : List Wr) : List (ByteArray × Wr) := ws.foldl (fun C x => Mv.putC C x.f0 x) []
theorem insAll_snoc (ws : List Wr) (x : Wr) : insAll (ws ++ [x]) = insK (insAll ws) x.f0 x := by simp [insAll]
theorem mapW_snoc (ws : List Wr) (x : Wr) : mapW (ws ++ [x]) = Mv.putC (mapW ws) x.f0 x := by simp [mapW]
theorem list_snoc {α : Type} {p : List α → Prop} (h0 : p []) (h1 : ∀ l x, p l → p (l ++ [x])) : ∀ l, p l := by
  intro l
  have : ∀ n (l : List α), l.length = n → p l := by
    intro n
    induction n with
    | zero => intro l h; rw [List.length_eq_zero_iff.1 h]; exact h0
    | succ n ih =>
      intro l h
      have hne : l ≠ [] := fun e => by rw [e] at h; cases h
      rw [← List.dropLast_concat_getLast hne]
      exact h1 _ _ (ih _ (by rw [List.length_dropLast]; omega))
  exact this _ l rfl
theorem srtK_insAll (ws : List Wr) : SrtK (insAll ws) := by
  refine list_snoc (p := fun l => SrtK (insAll l)) List.Pairwise.nil (fun l x h => ?_) ws
  rw [insAll_snoc]
  exact srtK_ins h _ _
theorem nd_mapW (ws : List Wr) : Mv.NdC (mapW ws) := by
  refine list_snoc (p := fun l => Mv.NdC (mapW l)) List.Pairwise.nil (fun l x h => ?_) ws
  rw [mapW_snoc]
  exact Mv.nd_put h _ _
theorem find_mapW (ws : List Wr) (z : ByteArray) : Mv.findC (mapW ws) z = getK (insAll ws) z := by
  refine list_snoc (p := fun l => Mv.findC (mapW l) z = getK (insAll l) z) rfl (fun l x h => ?_) ws
  rw [mapW_snoc, insAll_snoc, Mv.find_put, getK_ins (srtK_insAll l), h]
theorem key_mapW (ws : List Wr) : ∀ a ∈ mapW ws, a.2.f0 = a.1 := by
  refine list_snoc (p := fun l => ∀ a ∈ mapW l, a.2.f0 = a.1) (fun a ha => by cases ha) (fun l x h => ?_) ws
  rw [mapW_snoc]
  intro a ha
  unfold Mv.putC Mv.delC at ha
  rcases List.mem_append.1 ha with ha | ha
  · exact h a (List.mem_filter.1 ha).1
  · rw [List.mem_singleton] at ha
    rw [ha]
theorem mapW_len (ws : List Wr) : (mapW ws).length ≤ ws.length := by
  refine list_snoc (p := fun l => (mapW l).length ≤ l.length) (Nat.le_refl _) (fun l x h => ?_) ws
  rw [mapW_snoc, Mv.len_put (nd_mapW l), List.length_append, List.length_singleton]
  split <;> omega
/-- what comes out of the sort is the writes by their keys -/
theorem sorted_law {ws ts : List Wr} {dn : List (ByteArray × Wr)} (hp : dn.Perm (mapW ws)) (ht : ts.Perm (dn.map (·.2))) (hs : ts.Pairwise fun a b => ¬ kl b.f0 a.f0) : ts = sortedW ws := by
  have hd : (dn.map (·.2)).map (fun x : Wr => (x.f0, x)) = dn := by
    rw [List.map_map]
    conv => rhs; rw [← List.map_id dn]
    refine List.map_congr_left (fun a ha => ?_)
    have := key_mapW ws a (hp.mem_iff.1 ha)
    exact Prod.ext this rfl
  have hT : (ts.map fun x : Wr => (x.f0, x)).Perm (mapW ws) := by
    have := ht.map (fun x : Wr => (x.f0, x))
    rw [hd] at this
    exact this.trans hp
  have hnd : Mv.NdC (ts.map fun x : Wr => (x.f0, x)) := (hT.symm.pairwise_iff (R := fun a b : ByteArray × Wr => a.1 ≠ b.1) (fun q => q.symm)).1 (nd_mapW ws)
  have hST : SrtK (ts.map fun x : Wr => (x.f0, x)) := by
    unfold SrtK Mv.NdC at *
    rw [List.pairwise_map] at hnd ⊢
    refine (hs.and hnd).imp (fun {a b} h => ?_)
    rcases kl_tri a.f0 b.f0 with q | q | q
    · exact q
    · exact absurd q h.2
    · exact absurd q h.1
  have he : (ts.map fun x : Wr => (x.f0, x)) = insAll ws := by
    refine srtK_ext hST (srtK_insAll ws) (fun z => ?_)
    rw [← find_mapW]
    exact Mv.find_perm hT.symm (nd_mapW ws) z
  unfold sortedW
  rw [← he, List.map_map]
  conv => lhs; rw [← List.map_id ts]
  rfl
theorem sortedW_len (ws : List Wr) : (sortedW ws).length ≤ ws.length := by
  refine list_snoc (p := fun l => (sortedW l).length ≤ l.length) (Nat.le_refl _) (fun l x h => ?_) ws
  unfold sortedW at *
  rw [insAll_snoc, List.length_map, List.length_append, List.length_singleton]
  rw [List.length_map] at h
  have := insK_length (insAll l) x.f0 x
  omega
noncomputable abbrev TW : Mv.KT Try.prog 9 ByteArray := Mv.KT.str Try.underlying9
def eW (x : Wr) : Value := .agg #[.string x.f0, .string x.f1, .bool x.f2]
theorem mapW_take {ws : List Wr} {i : Nat} (hi : i < ws.length) : mapW (ws.take (i + 1)) = Mv.putC (mapW (ws.take i)) (wA ws i).f0 (wA ws i) := by
  rw [List.take_succ_eq_append_getElem hi, mapW_snoc, wA_eq hi]
set_option maxHeartbeats 16000000 in
theorem sorted_any (ws : List Wr) (A : Option Addr) (c : Nat) (w : World) (hr : Kd.C k31 w A ws.length ws) (hc : ws.length ≤ c) (hn : ws.length ≤ 900000) (hks : ∀ x ∈ ws, x.f0.size ≤ maxLen) :
    Calls Try.prog 42 #[.slice A ws.length c] w fun e w' => ∃ v, e = .returned v ∧ Kd.R k31 31 w' 0 (fun k => w.heap.size ≤ k) v (sortedW ws) ∧ Below w.heap.size w w' := by
  have HR := Aside0.mk hr
  have HKS := Aside0.mk hks
  have hmm := @run_makeMap Try.prog
  have HM0 : Aside0 (Mv.MapV TW eW (w.alloc (.map #[] 0)) w.heap.size 0 (mapW (ws.take 0))) := ⟨Mv.MapV.new _ _ _⟩
  have HB0 : Aside0 (Below w.heap.size w (w.alloc (.map #[] 0))) := ⟨below_alloc (Below.refl _ _) _⟩
  have HN := Aside0.mk hn
  clear hr hks hn
  go_enter Try.func42, Try.ntmps42
  go_wp2
  generalize w.alloc (.map #[] 0) = W1 at *
  go_loopg [12] (ws.length + 1) (fun kq v12 wq => ∃ (i : Nat), v12 = .int .i64 (i : Int) ∧ i ≤ ws.length ∧ ws.length - i < kq ∧ Aside0 (Mv.MapV TW eW wq w.heap.size i (mapW (ws.take i))) ∧ Aside0 (Below w.heap.size w wq))
  case atStart => exact ⟨0, rfl, Nat.zero_le _, by omega, HM0, HB0⟩
  case round =>
    clear HM0 HB0
    obtain ⟨i, rfl, hi, hk, HM, HB⟩ := hrel
    have z0 : (0 : Int) ≤ (i : Int) := by omega
    have hn := HN.out
    by_cases hlt : i < ws.length
    · have z1 : (i : Int) < (ws.length : Int) := by omega
      obtain ⟨ad5, eA, f0, f1, f2⟩ := at_T31 (Kd.C_below HR.out HB.out) (i : Int) z0 z1
      rw [rd_wA, Int.toNat_natCast] at f0 f1 f2
      subst eA
      have HTK := Aside0.mk (mapW_take hlt)
      have hsx : (wA ws i).f0.size ≤ maxLen := HKS.out _ (by rw [wA_eq hlt]; exact List.getElem_mem hlt)
      generalize wA ws i = x at *
      obtain ⟨d0, d1, d2⟩ := three_new wr 31 (.string x.f0) (.string x.f1) (.bool x.f2)
      have hb2 : Below wr.heap.size wr (wr.alloc (.cells #[.string x.f0, .string x.f1, .bool x.f2] 31)) := below_alloc (Below.refl _ _) _
      obtain ⟨w8, u1, u2, u3⟩ := (HM.out.below hb2).put Try.underlying69 (by unfold maxLen; omega) (x := x.f0) hsx x
      replace u1 : Sem.run Try.prog (Instr.mapUpdate 69 (.map (some w.heap.size)) (.string x.f0) (.agg #[.string x.f0, .string x.f1, .bool x.f2])) (wr.alloc (.cells #[.string x.f0, .string x.f1, .bool x.f2] 31)) = .ok () w8 := u1
      have HM8 := Aside0.mk u2
      have hg := u3.grown
      have HB8 : Aside0 (Below w.heap.size w w8) := ⟨(HB.out.trans (hb2.mono HB.out.size)).trans ⟨hg.os, hg.tape, hg.output, hg.size, fun k hk => hg.block k (Nat.lt_of_lt_of_le hk (Nat.le_trans HB.out.size hb2.size)) (fun e => by injection e with e; omega)⟩⟩
      clear u2 u3 hg hb2 hsx
      go_wp2
      go_roundg (gk - 1)
      case measure => omega
      case rel => exact ⟨i + 1, by go_num, by omega, by omega, ⟨by rw [HTK.out]; exact HM8.out⟩, HB8⟩
    · have hiz : i = ws.length := by omega
      subst hiz
      rw [List.take_length] at HM
      obtain ⟨w9, u1, u2, u3, u4⟩ := HM.out.range Try.underlying69
      obtain ⟨rb, hrb⟩ : ∃ rb, rb = wr.heap.size := ⟨_, rfl⟩
      rw [← hrb] at u1 u2
      replace u1 : Sem.run Try.prog (Instr.range 69 (.map (some w.heap.size))) wr = .ok (.pointer (some ⟨rb, 0, none⟩)) w9 := u1
      have HRG := Aside0.mk u2
      have hbl := HM.out.lt
      have HB9 : Aside0 (Below w.heap.size w w9 ∧ rb < w9.heap.size ∧ w.heap.size < w9.heap.size ∧ w.heap.size ≤ rb) := ⟨HB.out.trans (u3.mono HB.out.size), by omega, by omega, by omega⟩
      have HCS : Aside0 ((mapW ws).length ≤ 900000) := ⟨Nat.le_trans (mapW_len ws) hn⟩
      clear u2 u3 u4 hbl hrb hk hlt hi hn HM
      obtain ⟨g0, hg0⟩ : ∃ g0, g0 = gk := ⟨_, rfl⟩
      clear hg0
      obtain ⟨C, hC⟩ : ∃ C, C = mapW ws := ⟨_, rfl⟩
      rw [← hC] at HRG HCS
      have HCW := Aside0.mk hC
      clear hC
      go_wp2
      go_loopg [6] (C.length + 1) (fun kq v6 wq => ∃ dn : List (ByteArray × Wr), C.length - dn.length < kq ∧ dn.length ≤ C.length ∧ Aside0 (Mv.Rng TW eW wq w.heap.size rb ws.length C dn) ∧ Aside0 (Kd.R k31 31 wq 0 (fun k => w9.heap.size ≤ k) v6 (dn.map (·.2))) ∧ Aside0 (Below w.heap.size w wq ∧ w9.heap.size ≤ wq.heap.size))
      case atStart => exact ⟨[], by simp, Nat.zero_le _, HRG, ⟨Kd.R_nil _ _ _ _ _⟩, ⟨HB9.out.1, Nat.le_refl _⟩⟩
      case round =>
        obtain ⟨dn, hk, hdl, HRN, HRW, HBQ⟩ := hrel
        rcases HRN.out.next 0 with ⟨hp, hrun⟩ | ⟨⟨ak, x⟩, w3, ha, hna, hok, hrun, hr3, hg3, hs3, hen⟩
        · have hln : (dn.map (·.2)).length < 1000000 := by rw [List.length_map]; have := HCS.out; omega
          have HSO := Aside0.mk (sortW (dn.map (·.2)) u6 wr 0 _ HRW.out hln)
          rw [HCW.out] at hp
          have HP := Aside0.mk hp
          have HOW : Aside0 (∀ k, u6.ownBlock = some k → w9.heap.size ≤ k) := ⟨HRW.out.1⟩
          clear hp hln
          go_wp2_with (first
            | (go_at_call 76; refine HSO.out.mono ?_; rintro e w4 ⟨rfl, ts, h1, h2, h3, h4⟩; have H1 := Aside0.mk h1; have H2 := Aside0.mk h2; have H3 := Aside0.mk h3; have H4 := Aside0.mk h4; clear h1 h2 h3 h4))
          go_ret
          have hts := sorted_law HP.out H1.out H2.out
          refine ⟨_, rfl, ?_, HBQ.out.1.grown H4.out HBQ.out.1.size (fun k e => Nat.le_trans (Nat.le_of_lt HB9.out.2.2.1) (HOW.out k e))⟩
          rw [← hts]
          exact Kd.R_mono H3.out (fun k (hk : w9.heap.size ≤ k) => Nat.le_trans (Nat.le_of_lt HB9.out.2.2.1) hk)
        · change (Instr.next (.pointer (some ⟨rb, 0, none⟩)) false 0).run Try.prog wr = .ok (.tuple #[.bool true, .string ak, .agg #[.string x.f0, .string x.f1, .bool x.f2]]) w3 at hrun
          change (Instr.entry (.pointer (some ⟨rb, 0, none⟩))).run Try.prog w3 = .ok (.tuple #[.string ak, .agg #[.string x.f0, .string x.f1, .bool x.f2]]) w3 at hen
          have hl := hr3.len
          rw [List.length_append, List.length_singleton] at hl
          obtain ⟨d0, d1, d2⟩ := three_new w3 31 (.string x.f0) (.string x.f1) (.bool x.f2)
          have hb4 : Below w3.heap.size w3 (w3.alloc (.cells #[.string x.f0, .string x.f1, .bool x.f2] 31)) := below_alloc (Below.refl _ _) _
          have h9 := HB9.out
          have hq := HBQ.out
          have hR3 : Kd.R k31 31 (w3.alloc (.cells #[.string x.f0, .string x.f1, .bool x.f2] 31)) 0 (fun k => w9.heap.size ≤ k) u6 (dn.map (·.2)) := Kd.R_below (Kd.R_step HRW.out (fun k hk hl => hg3.block k hl (fun e => by injection e with e; have hk' : w9.heap.size ≤ k := hk; omega))) hb4
          have HRW4 := Aside0.mk hR3
          have HRN4 := Aside0.mk (hr3.below hb4)
          have HB4 : Aside0 (Below w.heap.size w (w3.alloc (.cells #[.string x.f0, .string x.f1, .bool x.f2] 31)) ∧ w9.heap.size ≤ (w3.alloc (.cells #[.string x.f0, .string x.f1, .bool x.f2] 31)).heap.size) := ⟨(hq.1.grown hg3 hq.1.size (fun k e => by injection e with e; omega)).trans (hb4.mono (Nat.le_trans hq.1.size hg3.size)), Nat.le_trans hq.2 (Nat.le_trans hg3.size hb4.size)⟩
          have HLN : Aside0 ((dn.map (·.2)).length + 1 ≤ 900001) := ⟨by rw [List.length_map]; have := HCS.out; omega⟩
          have HMP : Aside0 ((dn ++ [(ak, x)]).map (·.2) = dn.map (·.2) ++ [x]) := ⟨by simp⟩
          clear hg3 hr3 hR3 hb4 h9 hq ha hna hok hs3 HRN HRW
          go_wp2_with (first
            | ((with_reducible refine gate_builtin (b := .append) (xs := #[.tmp 27, .tmp 29]) rfl ?_); at_builtin
               refine Kd.R_append k31 (w0 := w3.alloc (.cells #[.string x.f0, .string x.f1, .bool x.f2] 31)) 0 rfl (.tmp 27) (.tmp 29) 22 31 (.agg #[.string ⟨#[]⟩, .string ⟨#[]⟩, .bool false]) 40 rfl Try.underlying22 info31 rfl (by decide) (by decide) u6 (dn.map (·.2)) x [.string x.f0, .string x.f1, .bool x.f2] (fun k => w9.heap.size ≤ k) (fun _ => False) rfl ?hx (k31_mkM _ _ _ x) (fun k h => h.elim) (fun k hk => Nat.le_trans HB4.out.2 hk) HRW4.out (Below.refl _ _) (Nat.zero_le _) (by have := HLN.out; omega) ?_
               case hx => show Value.slice _ 1 1 = Value.slice _ 1 1; first | rfl | (rw [World.size_alloc])
               intro v7 w7 h1 h2 h3 h4
               have H1 := Aside0.mk h1
               have H3 := Aside0.mk h3
               clear h1 h2 h3 h4))
          go_roundg (gk - 1)
          case measure => omega
          case rel =>
            refine ⟨dn ++ [(ak, x)], by rw [List.length_append, List.length_singleton]; omega, by rw [List.length_append, List.length_singleton]; exact hl, ⟨HRN4.out.same ?_ ?_⟩, ⟨by rw [HMP.out]; exact H1.out⟩, ⟨?_, ?_⟩⟩
            · exact H3.out.block _ HRN4.out.map.lt (fun e => by have := HRW4.out.1 _ e.symm; have := HB9.out; omega)
            · exact H3.out.block _ HRN4.out.lt (fun e => by have := HRW4.out.1 _ e.symm; have := HB9.out; omega)
            · exact HB4.out.1.grown H3.out HB4.out.1.size (fun k e => by have := HRW4.out.1 _ e; have := HB9.out; omega)
            · exact Nat.le_trans HB4.out.2 H3.out.size
end Go.Proofs.Ytmafibbnojdpjaa.St
end
section
set_option linter.unusedVariables false
set_option maxRecDepth 100000
set_option linter.unusedSimpArgs false
namespace Go.Proofs.Ytmafibbnojdpjaa.St
open Go.Proofs.Ytmafibbnojdpjaa.Tr Go.RowKit Go.Proofs.YtmafibbnojdpjaaW.PrintWords Go.Proofs.YtmafibbnojdpjaaW.PrintLast Go.Proofs.YtmafibbnojdpjaaW.PrintMore Go.Proofs.Ytmafibbnojdpjaa.P
attribute [local go_sem] Oper.semAt_some
def cutS (n : Nat) (s : ByteArray) : ByteArray := if n < s.size then s.extract 0 n else s
def keyX (s : ByteArray) : ByteArray := cutS 20 (⟨#[107]⟩ ++ s)
def valX (x : Wr) : ByteArray := if x.f2 then ⟨#[]⟩ else cutS 40 x.f1
def someX (x : Wr) : Wr := ⟨keyX x.f0, valX x, x.f2⟩
def someL (ws : List Wr) : List Wr := (ws.take 12).map someX
def someW (ws : List Wr) : List Wr := sortedW (someL ws)
theorem cutS_size (n : Nat) (s : ByteArray) : (cutS n s).size ≤ n := by
  unfold cutS
  split
  · rw [ByteArray.size_extract]; omega
  · omega
theorem someX_eq (k v : ByteArray) (g : Bool) (kx : ByteArray) (h : kx = ⟨#[107]⟩ ++ k) : someX ⟨k, v, g⟩ = ⟨if 20 < kx.size then kx.extract 0 20 else kx, if g = true then ⟨#[]⟩ else if 40 < v.size then v.extract 0 40 else v, g⟩ := by
  unfold someX keyX valX cutS
  rw [h]
theorem someL_len (ws : List Wr) : (someL ws).length ≤ 12 := by
  unfold someL
  rw [List.length_map, List.length_take]
  omega
theorem someL_keys (ws : List Wr) : ∀ x ∈ someL ws, x.f0.size ≤ 20 := fun x hx => by
  obtain ⟨y, _, rfl⟩ := List.mem_map.1 hx
  exact cutS_size _ _
set_option maxHeartbeats 32000000 in
theorem some_any (ws : List Wr) (A : Option Addr) (c : Nat) (w : World) (hr : Kd.C k31 w A ws.length ws) (hc : ws.length ≤ c) (hn : ws.length < 4611686018427387904) (hsz : ∀ x ∈ ws, x.f0.size ≤ 140737488351232) :
    Calls Try.prog 54 #[.slice A ws.length c] w fun e w' => ∃ v, e = .returned v ∧ Kd.R k31 31 w' 0 (fun k => w.heap.size ≤ k) v (someW ws) ∧ Below w.heap.size w w' := by
  have HR := Aside0.mk hr
  have HN := Aside0.mk hn
  have HSZ := Aside0.mk hsz
  have HB0 : Aside0 (Below w.heap.size w (w.alloc (.cells #[] 31))) := ⟨below_alloc (Below.refl _ _) _⟩
  have HE0 : Aside0 (Kd.R k31 31 (w.alloc (.cells #[] 31)) 0 (fun k => w.heap.size ≤ k) (.slice (some ⟨w.heap.size, 0, none⟩) 0 0) ((ws.take 0).map someX)) := ⟨R_empty k31 _ 31 _ _ _ (Nat.zero_le _) (Nat.le_refl _) (heap_alloc_new _ _)⟩
  have HSO : Aside0 (∀ (W : World) (l : List Wr) (v : Value), l = someL ws → w.heap.size ≤ W.heap.size → Kd.R k31 31 W 0 (fun k => w.heap.size ≤ k) v l → Calls Try.prog 42 #[v] W fun e w' => ∃ v, e = .returned v ∧ Kd.R k31 31 w' 0 (fun k => w.heap.size ≤ k) v (someW ws) ∧ Below W.heap.size W w') := ⟨fun W l v hl hs hR => by
    subst hl
    obtain ⟨A1, c1, rfl, h1, h2⟩ := Kd.R_reads hR
    have h3 := someL_len ws
    refine (sorted_any (someL ws) A1 c1 W h2 h1 (by omega) (fun x hx => by have := someL_keys ws x hx; unfold maxLen; omega)).mono ?_
    rintro e w' ⟨v, rfl, q1, q2⟩
    exact ⟨v, rfl, Kd.R_mono q1 (fun k (hk : W.heap.size ≤ k) => Nat.le_trans hs hk), q2⟩⟩
  clear hr hn hsz
  go_enter Try.func54, Try.ntmps54
  go_wp2
  generalize w.alloc (.cells #[] 31) = W1 at *
  go_loopg [10, 3] (ws.length + 1) (fun kq v10 v3 wq => ∃ (i : Nat), v10 = .int .i64 (i : Int) ∧ i ≤ ws.length ∧ i ≤ 12 ∧ ws.length - i < kq ∧ Aside0 (Kd.R k31 31 wq 0 (fun k => w.heap.size ≤ k) v3 ((ws.take i).map someX)) ∧ Aside0 (Below w.heap.size w wq))
  case atStart => exact ⟨0, rfl, Nat.zero_le _, by omega, by omega, HE0, HB0⟩
  case round =>
    clear HE0 HB0
    obtain ⟨i, rfl, hi, h12, hk, HRW, HB⟩ := hrel
    have z0 : (0 : Int) ≤ (i : Int) := by omega
    have hn := HN.out
    by_cases hlt : i < ws.length
    · have z1 : (i : Int) < (ws.length : Int) := by omega
      obtain ⟨ad5, eA, f0, f1, f2⟩ := at_T31 (Kd.C_below HR.out HB.out) (i : Int) z0 z1
      rw [rd_wA, Int.toNat_natCast] at f0 f1 f2
      subst eA
      have hli : ((ws.take i).map someX).length = i := by rw [List.length_map, List.length_take]; omega
      obtain ⟨A3, c3, ev⟩ := Kd.R_slice HRW.out
      rw [hli] at ev
      subst ev
      have hx0 : (wA ws i).f0.size ≤ 140737488351232 := HSZ.out _ (by rw [wA_eq hlt]; exact List.getElem_mem hlt)
      have HTK : Aside0 ((ws.take (i + 1)).map someX = (ws.take i).map someX ++ [someX (wA ws i)]) := ⟨by rw [List.take_succ_eq_append_getElem hlt, List.map_append, wA_eq hlt]; rfl⟩
      have HLI := Aside0.mk hli
      have HT12 : Aside0 (i = 12 → (ws.take i).map someX = someL ws) := ⟨fun e => by subst e; rfl⟩
      generalize (ws.take i).map someX = L3 at *
      clear hli
      generalize wA ws i = x at *
      obtain ⟨xk, xv, xg⟩ := x
      replace f0 : wr.cell? (ad5.add (i * 3)) = some (.string xk) := f0
      replace f1 : wr.cell? ⟨(ad5.add (i * 3)).block, (ad5.add (i * 3)).off + 1, none⟩ = some (.string xv) := f1
      replace f2 : wr.cell? ⟨(ad5.add (i * 3)).block, (ad5.add (i * 3)).off + 2, none⟩ = some (.bool xg) := f2
      replace hx0 : xk.size ≤ 140737488351232 := hx0
      obtain ⟨d0, d1, d2⟩ := three_new wr 31 (.string xk) (.string xv) (.bool xg)
      have hb2 : Below wr.heap.size wr (wr.alloc (.cells #[.string xk, .string xv, .bool xg] 31)) := below_alloc (Below.refl _ _) _
      by_cases h2 : i < 12
      · have q1 : ¬ (12 : Int) ≤ (i : Int) := by omega
        have hcat : (⟨#[107]⟩ ++ xk : ByteArray).size = 1 + xk.size := by rw [ByteArray.size_append]; rfl
        have q2 : ¬ 9223372036854775807 < (⟨#[107]⟩ : ByteArray).size + xk.size := by
          rw [show (⟨#[107]⟩ : ByteArray).size = 1 from rfl]; omega
        have q3 : ¬ 9223372036854775807 < 1 + xk.size := by omega
        obtain ⟨kx, hkx⟩ : ∃ kx : ByteArray, kx = ⟨#[107]⟩ ++ xk := ⟨_, rfl⟩
        obtain ⟨bx, hbx⟩ : ∃ bx, bx = wr.heap.size + 1 := ⟨_, rfl⟩
        have hnew := heap_alloc_new (wr.alloc (.cells #[.string xk, .string xv, .bool xg] 31)) (.cells #[.string (⟨#[107]⟩ ++ xk), .string xv, .bool xg] 31)
        rw [World.size_alloc, ← hkx, ← hbx] at hnew
        have HNW := Aside0.mk hnew
        have HBX : Aside0 (wr.heap.size ≤ bx) := ⟨by omega⟩
        have HB3 : Aside0 (Below wr.heap.size wr ((wr.alloc (.cells #[.string xk, .string xv, .bool xg] 31)).alloc (.cells #[.string kx, .string xv, .bool xg] 31))) := ⟨below_alloc hb2 _⟩
        have HKX := Aside0.mk hkx
        have hky : (⟨#[107]⟩ ++ xk : ByteArray) = kx := hkx.symm
        clear hkx
        have HCT : Aside0 (kx.size = 1 + xk.size) := ⟨by rw [HKX.out]; exact hcat⟩
        have g0 := (cell_of_row _ _ 0 _ _ _ hnew).trans rfl
        have g1 := (cell_of_row _ _ 1 _ _ _ hnew).trans rfl
        have g2 := (cell_of_row _ _ 2 _ _ _ hnew).trans rfl
        clear hcat hnew hb2 h2 h12 hx0
        have HSX := Aside0.mk (someX_eq xk xv xg kx HKX.out)
        have HBW : Aside0 (∀ o1 o2 : Obj, Below wr.heap.size wr ((wr.alloc o1).alloc o2)) := ⟨fun _ _ => below_alloc (below_alloc (Below.refl _ _) _) _⟩
        clear HKX
        by_cases ha : 20 < kx.size
        all_goals cases xg
        all_goals by_cases hv : 40 < xv.size
        all_goals
          first | (have n0 : (20 : Int) < (kx.size : Int) := by omega) | (have n0 : ¬ (20 : Int) < (kx.size : Int) := by omega)
          first | (have n1 : (40 : Int) < (xv.size : Int) := by omega) | (have n1 : ¬ (40 : Int) < (xv.size : Int) := by omega)
          have HA := Aside0.mk ha
          have HV := Aside0.mk hv
          clear ha hv
          go_wp2_with (first
            | ((with_reducible refine gate_builtin (b := .append) (xs := #[.tmp 44, .tmp 46]) rfl ?_); at_builtin
               refine Kd.R_append k31 (w0 := wr) 0 rfl (.tmp 44) (.tmp 46) 22 31 (.agg #[.string ⟨#[]⟩, .string ⟨#[]⟩, .bool false]) 40 rfl Try.underlying22 info31 rfl (by decide) (by decide) (.slice A3 i c3) L3 (⟨_, _, _⟩ : Wr) [.string _, .string _, .bool _] (fun k => w.heap.size ≤ k) (fun _ => False) rfl ?hx (k31_mkM _ _ _ _) (fun k h => h.elim) (fun k hk => Nat.le_trans (Nat.le_trans HB.out.size (HBW.out _ _).size) hk) (Kd.R_below HRW.out (HBW.out _ _)) ((HBW.out _ _).mono (Nat.zero_le _)) (Nat.zero_le _) (by have := HLI.out; omega) ?_
               case hx => show Value.slice _ 1 1 = Value.slice _ 1 1; simp only [World.size_setCell, World.size_alloc]
               intro v7 w7 h1 h2 h3 h4
               have H1 := Aside0.mk h1
               have H3 := Aside0.mk h3
               clear h1 h2 h3 h4))
          go_roundg (gk - 1)
          case measure => omega
          case rel =>
            refine ⟨i + 1, by go_num, by omega, by omega, by omega, ⟨?_⟩, ⟨(below_step HB.out (HBW.out _ _)).grown H3.out (below_step HB.out (HBW.out _ _)).size (fun k e => HRW.out.1 k e)⟩⟩
            rw [HTK.out, HSX.out]
            have ha := HA.out
            have hv := HV.out
            simp only [ha, hv, if_true, if_false, Bool.false_eq_true]
            exact H1.out
      · have q1 : (12 : Int) ≤ (i : Int) := by omega
        have HL12 := Aside0.mk (HT12.out (by omega))
        have HB2 := Aside0.mk (HB.out.trans (hb2.mono HB.out.size))
        have HRW2 := Aside0.mk (Kd.R_below HRW.out hb2)
        clear hb2 HT12 HTK h2 h12 hx0
        go_wp2_with (first | (go_at_call 42; refine (HSO.out _ _ _ HL12.out HB2.out.size HRW2.out).mono ?_; rintro e w5 ⟨v5, rfl, h1, h2⟩; have H1 := Aside0.mk h1; have H2 := Aside0.mk h2; clear h1 h2))
        go_ret
        exact ⟨_, rfl, H1.out, below_step HB2.out H2.out⟩
    · have hiz : i = ws.length := by omega
      subst hiz
      have HL12 : Aside0 ((ws.take ws.length).map someX = someL ws) := ⟨by unfold someL; rw [List.take_length, List.take_of_length_le h12]⟩
      clear hi hlt hn h12
      go_wp2_with (first | (go_at_call 42; refine (HSO.out _ _ _ HL12.out HB.out.size HRW.out).mono ?_; rintro e w5 ⟨v5, rfl, h1, h2⟩; have H1 := Aside0.mk h1; have H2 := Aside0.mk h2; clear h1 h2))
      go_ret
      exact ⟨_, rfl, H1.out, below_step HB.out H2.out⟩
end Go.Proofs.Ytmafibbnojdpjaa.St
end
section
set_option linter.unusedVariables false
set_option maxRecDepth 100000
set_option linter.unusedSimpArgs false
namespace Go.Proofs.Ytmafibbnojdpjaa.St
open Go.Proofs.Ytmafibbnojdpjaa.Tr Go.RowKit Go.Proofs.YtmafibbnojdpjaaW.PrintWords Go.Proofs.YtmafibbnojdpjaaW.PrintLast Go.Proofs.YtmafibbnojdpjaaW.PrintMore Go.Proofs.Ytmafibbnojdpjaa.P
attribute [local go_sem] Oper.semAt_some
def wsA (wss : List (List Wr)) (i : Nat) : List Wr := wss.getD i []
theorem wsA_eq {wss : List (List Wr)} {i : Nat} (h : i < wss.length) : wsA wss i = wss[i] := by simp [wsA, List.getD, h]
theorem rd_wsA (wss : List (List Wr)) (i : Nat) : rd_L9 wss (i : Int) = wsA wss i := by simp [rd_L9, wsA]
def cmI (first : Int) (wss : List (List Wr)) (i : Nat) : Cm := ⟨first + (i : Int), 10 * (i : Int), someW (wsA wss i)⟩
def listTo (first : Int) (wss : List (List Wr)) (n : Nat) : List Cm := (List.range n).map (cmI first wss)
def listC (first : Int) (wss : List (List Wr)) : List Cm := listTo first wss wss.length
theorem listTo_succ (first : Int) (wss : List (List Wr)) (n : Nat) : listTo first wss (n + 1) = listTo first wss n ++ [cmI first wss n] := by
  unfold listTo
  rw [List.range_succ, List.map_append]
  rfl
theorem listTo_len (first : Int) (wss : List (List Wr)) (n : Nat) : (listTo first wss n).length = n := by simp [listTo]
/-- what the rows ask of their writes -/
def okWs (ws : List Wr) : Prop := ws.length < 4611686018427387904 ∧ ∀ x ∈ ws, x.f0.size ≤ 140737488351232
set_option maxHeartbeats 16000000 in
theorem list_any (first : Int) (wss : List (List Wr)) (A : Option Addr) (c : Nat) (w : World) (hr : Kd.C (Kd.slice 31 k31) w A wss.length wss) (hn : wss.length ≤ 1000) (hok : ∀ ws ∈ wss, okWs ws) (h0 : 0 ≤ first) (h1 : first ≤ 1000000) :
    Calls Try.prog 47 #[.int .i64 first, .slice A wss.length c] w fun e w' => ∃ v, e = .returned v ∧ Kd.R k28 28 w' 0 (fun k => w.heap.size ≤ k) v (listC first wss) ∧ Below w.heap.size w w' := by
  have HR := Aside0.mk hr
  have HOK := Aside0.mk hok
  have HB0 : Aside0 (Below w.heap.size w (w.alloc (.cells #[] 28))) := ⟨below_alloc (Below.refl _ _) _⟩
  have HE0 : Aside0 (Kd.R k28 28 (w.alloc (.cells #[] 28)) 0 (fun k => w.heap.size ≤ k) (.slice (some ⟨w.heap.size, 0, none⟩) 0 0) (listTo first wss 0)) := ⟨R_empty k28 _ 28 _ _ _ (Nat.zero_le _) (Nat.le_refl _) (heap_alloc_new _ _)⟩
  clear hr hok
  go_enter Try.func47, Try.ntmps47
  go_wp2
  generalize w.alloc (.cells #[] 28) = W1 at *
  go_loopg [11, 5] (wss.length + 1) (fun kq v11 v5 wq => ∃ (i : Nat), v11 = .int .i64 (i : Int) ∧ i ≤ wss.length ∧ wss.length - i < kq ∧ Aside0 (Kd.R k28 28 wq 0 (fun k => w.heap.size ≤ k) v5 (listTo first wss i)) ∧ Aside0 (Below w.heap.size w wq))
  case atStart => exact ⟨0, rfl, Nat.zero_le _, by omega, HE0, HB0⟩
  case round =>
    clear HE0 HB0
    obtain ⟨i, rfl, hi, hk, HRW, HB⟩ := hrel
    have z0 : (0 : Int) ≤ (i : Int) := by omega
    by_cases hlt : i < wss.length
    · have z1 : (i : Int) < (wss.length : Int) := by omega
      obtain ⟨ad5, A5, c5, eA, f0, f1, f2⟩ := at_L9 (Kd.C_below HR.out HB.out) (i : Int) z0 z1
      rw [rd_wsA, Int.toNat_natCast] at f0
      rw [rd_wsA] at f1 f2
      subst eA
      have hli := listTo_len first wss i
      obtain ⟨A3, c3, ev⟩ := Kd.R_slice HRW.out
      rw [hli] at ev
      subst ev
      have hw := HOK.out _ (by rw [wsA_eq hlt]; exact List.getElem_mem hlt : wsA wss i ∈ wss)
      have HSM := Aside0.mk (some_any (wsA wss i) A5 c5 wr f2 f1 hw.1 hw.2)
      have HTK : Aside0 (listTo first wss (i + 1) = listTo first wss i ++ [(⟨first + (i : Int), 10 * (i : Int), someW (wsA wss i)⟩ : Cm)]) := ⟨listTo_succ _ _ _⟩
      have HLI := Aside0.mk hli
      have hw1 : IntKind.i64.wrap (first + (i : Int)) = first + (i : Int) := by rw [IntKind.wrap_i64]; omega
      have hw2 : wrap64 (first + (i : Int)) = first + (i : Int) := w64 (by omega) (by omega)
      have hw3 : IntKind.i64.wrap (10 * (i : Int)) = 10 * (i : Int) := by rw [IntKind.wrap_i64]; omega
      have hw4 : wrap64 (10 * (i : Int)) = 10 * (i : Int) := w64 (by omega) (by omega)
      generalize listTo first wss i = L3 at *
      generalize wsA wss i = ws at *
      clear hli f1 f2 hw
      go_wp2_with (first
        | (go_at_call 54; refine HSM.out.mono ?_; rintro e w5 ⟨v5, rfl, h5, hb5⟩; obtain ⟨A7, n7, ev7⟩ := Kd.R_slice h5; subst ev7; have H5 := Aside0.mk h5; have HB5 := Aside0.mk hb5; clear h5 hb5)
        | ((with_reducible refine gate_builtin (b := .append) (xs := #[.tmp 16, .tmp 25]) rfl ?_); at_builtin
           refine Kd.R_append k28 (w0 := w5) 0 rfl (.tmp 16) (.tmp 25) 23 28 (.agg #[.int .i64 0, .int .i64 0, .slice none 0 0]) 40 rfl Try.underlying23 info28 rfl (by decide) (by decide) (.slice A3 i c3) L3 (⟨first + (i : Int), 10 * (i : Int), someW ws⟩ : Cm) [.int .i64 (first + (i : Int)), .int .i64 (10 * (i : Int)), .slice A7 (someW ws).length n7] (fun k => w.heap.size ≤ k) (fun k => wr.heap.size ≤ k) rfl ?hx (k28_mkM _ _ _ _ H5.out) (fun k (hk : wr.heap.size ≤ k) => ⟨Nat.le_trans HB.out.size hk, fun e => by have := Kd.R_lt HRW.out k e.symm; omega⟩) (fun k hk => Nat.le_trans (Nat.le_trans HB.out.size HB5.out.size) hk) (Kd.R_below HRW.out HB5.out) (Below.refl _ _) (Nat.zero_le _) (by have := HLI.out; omega) ?_
           case hx => show Value.slice _ 1 1 = Value.slice _ 1 1; first | rfl | (rw [World.size_alloc])
           intro v7 w7 h1 h2 h3 h4
           have H1 := Aside0.mk h1
           have H3 := Aside0.mk h3
           clear h1 h2 h3 h4))
      go_roundg (gk - 1)
      case measure => omega
      case rel => exact ⟨i + 1, by go_num, by omega, by omega, ⟨by rw [HTK.out]; exact H1.out⟩, ⟨(below_step HB.out HB5.out).grown H3.out (below_step HB.out HB5.out).size (fun k e => HRW.out.1 k e)⟩⟩
    · have hiz : i = wss.length := by omega
      subst hiz
      clear hi hlt
      go_wp2
      go_ret
      exact ⟨_, rfl, HRW.out, HB.out⟩
end Go.Proofs.Ytmafibbnojdpjaa.St
end
section
set_option linter.unusedVariables false
set_option maxRecDepth 100000
set_option linter.unusedSimpArgs false
namespace Go.Proofs.Ytmafibbnojdpjaa.St
open Go.Proofs.Ytmafibbnojdpjaa.Tr Go.RowKit Go.Proofs.YtmafibbnojdpjaaW.PrintWords Go.Proofs.YtmafibbnojdpjaaW.PrintLast Go.Proofs.YtmafibbnojdpjaaW.PrintMore Go.Proofs.Ytmafibbnojdpjaa.P
theorem ins_facts (ws : List Wr) : ∀ a ∈ insAll ws, a.2.f0 = a.1 ∧ a.2 ∈ ws := by
  refine list_snoc (p := fun l => ∀ a ∈ insAll l, a.2.f0 = a.1 ∧ a.2 ∈ l) (fun a ha => by cases ha) (fun l x h => ?_) ws
  rw [insAll_snoc]
  intro a ha
  rcases mem_insK.1 ha with rfl | ⟨h1, _⟩
  · exact ⟨rfl, by simp⟩
  · exact ⟨(h a h1).1, List.mem_append_left _ (h a h1).2⟩
theorem sorted_mem {ws : List Wr} {x : Wr} (h : x ∈ sortedW ws) : x ∈ ws := by
  obtain ⟨a, ha, rfl⟩ := List.mem_map.1 h
  exact (ins_facts ws a ha).2
theorem sorted_pair (ws : List Wr) : (sortedW ws).Pairwise fun a b => kl a.f0 b.f0 := by
  unfold sortedW
  rw [List.pairwise_map]
  refine List.Pairwise.imp_of_mem (fun {a b} ha hb h => ?_) (srtK_insAll ws)
  rw [(ins_facts ws a ha).1, (ins_facts ws b hb).1]
  exact h
theorem rises_of {l : List Wr} (h1 : l.Pairwise fun a b => kl a.f0 b.f0) (h2 : ∀ x ∈ l, okW x = true) : rises l = true := by
  unfold rises
  rw [rises_iff]
  intro i hi
  unfold okAt
  rw [Bool.and_eq_true, Bool.or_eq_true, decide_eq_true_eq, decide_eq_true_eq]
  refine ⟨by rw [wA_eq hi]; exact h2 _ (List.getElem_mem hi), ?_⟩
  rcases Nat.eq_zero_or_pos i with h | h
  · exact .inl h
  · refine .inr ?_
    rw [wA_eq hi, wA_eq (show i - 1 < l.length by omega)]
    exact List.pairwise_iff_getElem.1 h1 (i - 1) i (by omega) hi (by omega)
theorem keyX_size (s : ByteArray) : 0 < (keyX s).size := by
  unfold keyX cutS
  have h : (⟨#[107]⟩ ++ s : ByteArray).size = 1 + s.size := by rw [ByteArray.size_append]; rfl
  split
  · rw [ByteArray.size_extract]; omega
  · omega
theorem someX_ok (x : Wr) : okW (someX x) = true := by
  unfold okW someX
  have h1 := keyX_size x.f0
  have h2 : (keyX x.f0).size ≤ 20 := cutS_size _ _
  have h3 : (valX x).size ≤ 40 := by
    unfold valX
    split
    · exact Nat.zero_le _
    · exact cutS_size _ _
  have h4 : (x.f2 && decide ((valX x).size ≠ 0)) = false := by
    cases hg : x.f2 with
    | false => rfl
    | true =>
      unfold valX
      rw [hg, if_pos rfl]
      rfl
  simp only [h4, Bool.not_false, Bool.and_true, Bool.and_eq_true, decide_eq_true_eq]
  omega
theorem some_len (ws : List Wr) : (someW ws).length ≤ 12 := Nat.le_trans (sortedW_len _) (someL_len ws)
theorem some_ok (ws : List Wr) : ∀ x ∈ someW ws, okW x = true := fun x hx => by
  obtain ⟨y, _, rfl⟩ := List.mem_map.1 (sorted_mem hx)
  exact someX_ok y
theorem some_right (ws : List Wr) : rightW (someW ws) = true := by
  unfold rightW
  rw [Bool.and_eq_true, decide_eq_true_eq]
  have := some_len ws
  exact ⟨by omega, rises_of (sorted_pair _) (some_ok ws)⟩
/-- commits one behind the other are taken -/
theorem list_last (first : Int) (wss : List (List Wr)) (n : Nat) : lastAt (listTo first wss n) = if n = 0 then 0 else 10 * ((n - 1 : Nat) : Int) := by
  unfold lastAt
  rcases Nat.eq_zero_or_pos n with h | h
  · subst h
    rfl
  · have hl := listTo_len first wss n
    rw [dif_neg (by omega), if_neg (by omega)]
    simp only [listTo, List.length_map, List.length_range, List.getElem_map, List.getElem_range]
    rfl
theorem list_good {M : StM} {first : Int} {wss : List (List Wr)} {n : Nat} (hq : lastM M = first - 1 + (n : Int)) (hm : first + (n : Int) ≤ maxSeq) (hn : n ≤ 1000) (hh : M.hist = listTo first wss n) : goodC M (cmI first wss n) = true := by
  rw [goodC_iff]
  refine ⟨?_, hm, ?_, ?_, some_right _, ?_⟩
  · show first + (n : Int) = _
    omega
  · show (0 : Int) ≤ 10 * (n : Int)
    omega
  · show 10 * (n : Int) ≤ maxSeq
    unfold maxSeq
    omega
  · rw [hh, listTo_len, list_last]
    rcases Nat.eq_zero_or_pos n with h | h
    · exact .inl h
    · refine .inr ?_
      rw [if_neg (by omega)]
      show 10 * ((n - 1 : Nat) : Int) ≤ 10 * (n : Int)
      omega
theorem list_run {M : StM} (hi : Inv M) {first : Int} {wss : List (List Wr)} (hq : lastM M + 1 = first) (hm : first + 1000 ≤ maxSeq) (hh : M.hist = []) (n : Nat) (hn : n ≤ 1000) :
    ∃ M', runM M (listTo first wss n) = some M' ∧ Inv M' ∧ M'.hist = listTo first wss n ∧ M'.low = M.low ∧ lastM M' = first - 1 + (n : Int) := by
  induction n with
  | zero => exact ⟨M, rfl, hi, hh, rfl, by omega⟩
  | succ n ih =>
    obtain ⟨M', h1, h2, h3, h4, h5⟩ := ih (by omega)
    have hg := list_good (M := M') (first := first) (wss := wss) (n := n) h5 (by omega) (by omega) h3
    refine ⟨comM M' (cmI first wss n), ?_, inv_com h2 hg, ?_, h4, ?_⟩
    · rw [listTo_succ, run_append, h1]
      show (if goodC M' (cmI first wss n) = true then some _ else none) = _
      rw [if_pos hg]
    · show M'.hist ++ [cmI first wss n] = _
      rw [h3, listTo_succ]
    · rw [last_com, h5]
      omega
end Go.Proofs.Ytmafibbnojdpjaa.St
end
section
set_option linter.unusedVariables false
set_option maxRecDepth 100000
set_option linter.unusedSimpArgs false
namespace Go.Proofs.Ytmafibbnojdpjaa.St
open Go.Proofs.Ytmafibbnojdpjaa.Tr Go.RowKit Go.Proofs.YtmafibbnojdpjaaW.PrintWords Go.Proofs.YtmafibbnojdpjaaW.PrintLast Go.Proofs.YtmafibbnojdpjaaW.PrintMore Go.Proofs.Ytmafibbnojdpjaa.P
/-- the store of the lists' commits -/
theorem list_state (wss : List (List Wr)) (hn : wss.length ≤ 1000) : ∃ M, runM hM0 (listC 1 wss) = some M ∧ Inv M ∧ M.hist = listC 1 wss ∧ M.low = 0 ∧ lastM M = (wss.length : Int) := by
  obtain ⟨M, h1, h2, h3, h4, h5⟩ := list_run hI0 (first := 1) (wss := wss) rfl (by decide) rfl wss.length hn
  exact ⟨M, h1, h2, h3, h4, by rw [h5]; omega⟩
theorem run_lens : ∀ (cs : List Cm) (M M' : StM), runM M cs = some M' → M'.K.length ≤ M.K.length + 200 * cs.length ∧ M'.hist.length = M.hist.length + cs.length ∧ (KeyOk M.K → KeyOk M'.K)
  | [], M, M', h => by cases h; exact ⟨by simp, by simp, fun h => h⟩
  | c :: cs, M, M', h => by
    have h0 : (if goodC M c = true then runM (comM M c) cs else none) = some M' := h
    by_cases hg : goodC M c = true
    · rw [if_pos hg] at h0
      obtain ⟨h1, h2, h3⟩ := run_lens cs _ _ h0
      have h4 : (comM M c).K.length ≤ M.K.length + c.f2.length := putAll_length _ _
      have h5 : c.f2.length ≤ 200 := by
        have := (goodC_iff.1 hg).2.2.2.2.1
        unfold rightW at this
        rw [Bool.and_eq_true, decide_eq_true_eq] at this
        exact this.1
      refine ⟨?_, ?_, fun hk => h3 (keyOk_com hk hg)⟩
      · rw [List.length_cons]; omega
      · rw [h2]; simp [comM]; omega
    · rw [if_neg hg] at h0
      cases h0
set_option maxHeartbeats 16000000 in
theorem made17_any (wss : List (List Wr)) (A : Option Addr) (c : Nat) (q : Int) (w : World) (hr : Kd.C (Kd.slice 31 k31) w A wss.length wss) (hn : wss.length ≤ 30) (hok : ∀ ws ∈ wss, okWs ws) (h0 : 0 ≤ q) (h1 : q ≤ (wss.length : Int)) (MM : StM) (hrun : runM hM0 (listC 1 wss) = some MM) :
    Calls Try.prog 56 #[.slice A wss.length c, .int .i64 q] w fun e w' => ∃ s v G, e = .returned (.tuple #[.pointer (some ⟨s, 0, none⟩), v]) ∧ StoreAt G w' s (vacM MM q) ∧ (∀ k, G k → w.heap.size ≤ k) ∧ (∀ k, w'.heap.size ≤ k → G k) ∧ Kd.R k28 28 w' 0 (fun k => w.heap.size ≤ k ∧ ¬ G k) v (listC 1 wss) ∧ Below w.heap.size w w' := by
  have HNW := Aside0.mk (new_any 0 [] none 0 w (Kd.C_nil _ _) (Nat.le_refl _) (by decide))
  have HRUN := Aside0.mk hrun
  have HLS : Aside0 (∀ W, Below w.heap.size w W → Calls Try.prog 47 #[.int .i64 1, .slice A wss.length c] W fun e w' => ∃ v, e = .returned v ∧ Kd.R k28 28 w' 0 (fun k => W.heap.size ≤ k) v (listC 1 wss) ∧ Below W.heap.size W w') := ⟨fun W hW => list_any 1 wss A c W (Kd.C_below hr hW) (by omega) hok (by decide) (by decide)⟩
  have HLL : Aside0 ((listC 1 wss).length = wss.length) := ⟨listTo_len _ _ _⟩
  have HWL : Aside0 (∀ i, i < (listC 1 wss).length → (cA (listC 1 wss) i).f2.length ≤ 12) := ⟨fun i hi => by
    rw [cA_eq hi]
    obtain ⟨j, _, e⟩ := List.mem_map.1 (show (listC 1 wss)[i] ∈ (List.range wss.length).map (cmI 1 wss) from List.getElem_mem hi)
    rw [← e]
    exact some_len _⟩
  have HVA : Aside0 (∀ (G : Nat → Prop) (W : World) (s : Nat), (∀ k, W.heap.size ≤ k → G k) → StoreAt G W s MM → Calls Try.prog 44 #[.pointer (some ⟨s, 0, none⟩), .int .i64 q] W fun e w' => e = .returned (.int .i64 0) ∧ StoreAt G w' s (vacM MM q) ∧ Fr G W w') := ⟨fun G W s hG hs => by
    obtain ⟨col, H, L, hs⟩ := hs
    obtain ⟨M1, g1, g2, g3, g4, g5⟩ := list_state wss (by omega)
    have e : M1 = MM := by have h2 := HRUN.out; rw [g1] at h2; injection h2
    subst e
    obtain ⟨l1, l2, l3⟩ := run_lens _ _ _ g1
    have hl := HLL.out
    have hk0 : hM0.K.length = 0 := rfl
    have hh0 : hM0.hist.length = 0 := rfl
    exact vac_good hs hG g2 (by omega) (by omega) (fun b hb => by have := l3 (keyOk_new hN0) b hb; unfold maxLen; omega) q (by rw [g4]; exact h0) (by rw [g5]; exact h1)⟩
  clear hr hok hrun
  go_enter Try.func56, Try.ntmps56
  go_wp2_with (first
    | (go_at_call 35; refine HNW.out.mono ?_; rintro e w1 ⟨hb, _, h1⟩; obtain ⟨s, rfl, hs⟩ := h1 hN0; have HB1 := Aside0.mk hb; have HS1 := Aside0.mk hs; clear hb h1 hs)
    | (go_at_call 47; refine (HLS.out _ HB1.out).mono ?_; rintro e w2 ⟨v2, rfl, hr2, hb2⟩; obtain ⟨A2, c2, ev2⟩ := Kd.R_slice hr2; rw [HLL.out] at ev2; subst ev2; have HR2 := Aside0.mk (Kd.R_bound hr2); have HB2 := Aside0.mk hb2; clear hr2 hb2))
  have HSG : Aside0 (StoreAt (fun k => (w.heap.size ≤ k ∧ k < w1.heap.size) ∨ w2.heap.size ≤ k) w2 s hM0) := ⟨(HS1.out.turn (fun k hk h => .inl ⟨h, hk⟩)).below HB2.out⟩
  have HSZ0 : Aside0 (w.heap.size ≤ w1.heap.size ∧ w1.heap.size ≤ w2.heap.size) := ⟨HB1.out.size, HB2.out.size⟩
  clear HNW HLS HS1
  obtain ⟨G, hG⟩ : ∃ G : Nat → Prop, G = (fun k => (w.heap.size ≤ k ∧ k < w1.heap.size) ∨ w2.heap.size ≤ k) := ⟨_, rfl⟩
  rw [← hG] at HSG
  have HGX : Aside0 (∀ k, G k ↔ (w.heap.size ≤ k ∧ k < w1.heap.size) ∨ w2.heap.size ≤ k) := ⟨fun k => by rw [hG]⟩
  clear hG
  obtain ⟨cs, hcs⟩ : ∃ cs, cs = listC 1 wss := ⟨_, rfl⟩
  rw [← hcs] at HRUN HLL HWL HR2
  have HCS := Aside0.mk hcs
  clear hcs
  go_loopg [19] (wss.length + 1) (fun kq v19 wq => ∃ (i : Nat) (M : StM), v19 = .int .i64 (i : Int) ∧ i ≤ wss.length ∧ wss.length - i < kq ∧ Aside0 (runM hM0 (cs.take i) = some M) ∧ Aside0 (StoreAt G wq s M) ∧ Aside0 (Inv M) ∧ Aside0 (M.hist.length = i ∧ M.K.length ≤ 200 * i) ∧ Aside0 (Fr G w2 wq))
  case atStart => exact ⟨0, hM0, rfl, Nat.zero_le _, by omega, ⟨rfl⟩, HSG, ⟨hI0⟩, ⟨rfl, Nat.le_refl _⟩, ⟨Fr.refl _ _⟩⟩
  case round =>
    clear HSG
    obtain ⟨i, M, rfl, hi, hk, HRN, HS, HI, HSZ, HF⟩ := hrel
    have z0 : (0 : Int) ≤ (i : Int) := by omega
    have hG2 : ∀ k, wr.heap.size ≤ k → G k := fun k hk => (HGX.out k).2 (.inr (Nat.le_trans HF.out.size hk))
    have HRW : Kd.R k28 28 wr 0 (fun k => w1.heap.size ≤ k ∧ k < w2.heap.size) (.slice A2 wss.length c2) cs := Kd.R_mono (Kd.R_step HR2.out (fun k hk hl => HF.out.block k hl (fun hg => by
      have h1 : w1.heap.size ≤ k := hk.1
      rcases (HGX.out k).1 hg with h | h <;> omega))) (fun k hk => ⟨hk.1, hk.2.2.1⟩)
    by_cases hlt : i < wss.length
    · have z1 : (i : Int) < (wss.length : Int) := by omega
      have hlc : i < cs.length := by rw [HLL.out]; exact hlt
      obtain ⟨A9, c9, e9, hc9, hC9⟩ := Kd.R_reads HRW
      injection e9 with e9 e9b e9c
      clear e9b
      subst e9 e9c
      rw [HLL.out] at hC9
      obtain ⟨ad5, A5, c5, eA, f0, f1, f2, f3, f4⟩ := at_T28 hC9 (i : Int) z0 z1
      rw [rd_cA, Int.toNat_natCast] at f0 f1 f2
      rw [rd_cA] at f3 f4
      subst eA
      have hb2 : Below wr.heap.size wr (wr.alloc (.cells #[.int .i64 (cA cs i).f0, .int .i64 (cA cs i).f1, .slice A5 (cA cs i).f2.length c5] 28)) := below_alloc (Below.refl _ _) _
      have HCM := Aside0.mk (com_any (HS.out.below hb2) HI.out (fun k hk => hG2 k (Nat.le_trans hb2.size hk)) ⟨by have := HSZ.out.1; omega, by have := HSZ.out.2; omega⟩ (cA cs i) A5 c5 (Kd.C_below f4 hb2) f3 (by have := HWL.out i hlc; omega))
      have HRT := Aside0.mk (run_take hlc HRN.out)
      rw [← cA_eq hlc] at HRT
      have HB2 := Aside0.mk hb2
      have HW12 := Aside0.mk (HWL.out i hlc)
      clear f3 f4 hb2 hC9 HRW
      obtain ⟨d0, d1, d2⟩ := three_new wr 28 (.int .i64 (cA cs i).f0) (.int .i64 (cA cs i).f1) (.slice A5 (cA cs i).f2.length c5)
      have hg : goodC M (cA cs i) = true := by
        cases h : goodC M (cA cs i) with
        | true => rfl
        | false =>
          have h1 := HRT.out
          rw [h, if_neg (by decide)] at h1
          have h2 := HRUN.out
          rw [run_none h1] at h2
          cases h2
      have HI2 := Aside0.mk (inv_com HI.out hg)
      rw [hg, if_pos rfl] at HRT
      have HK2 : Aside0 ((comM M (cA cs i)).hist.length = i + 1 ∧ (comM M (cA cs i)).K.length ≤ 200 * (i + 1)) := ⟨by
        have h1 := putAll_length (s := (cA cs i).f0) (cA cs i).f2 M.K
        refine ⟨by simp [comM, HSZ.out.1], ?_⟩
        show (putAll (cA cs i).f0 M.K (cA cs i).f2).length ≤ _
        have := HSZ.out.2
        have := HW12.out
        omega⟩
      unfold errC stepM at HCM
      rw [hg, if_pos rfl, if_pos rfl] at HCM
      generalize comM M (cA cs i) = M2 at *
      clear hg hlc
      generalize cA cs i = x at *
      clear hG2
      go_wp2_with (first | (go_at_call 36; refine HCM.out.mono ?_; rintro e w5 ⟨rfl, hs5, hf5⟩; have HS5 := Aside0.mk hs5; have HF5 := Aside0.mk (HF.out.trans ((Fr.below HB2.out).trans hf5)); clear hs5 hf5))
      go_roundg (gk - 1)
      case measure => omega
      case rel => exact ⟨i + 1, M2, by go_num, by omega, by omega, HRT, HS5, HI2, HK2, HF5⟩
    · have hiz : i = wss.length := by omega
      subst hiz
      have h1 := HRN.out
      rw [← HLL.out, List.take_length] at h1
      have h2 := HRUN.out
      rw [h1] at h2
      have e : M = MM := by injection h2
      subst e
      have HRW2 := Aside0.mk HRW
      have HV := Aside0.mk (HVA.out G wr s hG2 HS.out)
      clear hi hlt hk h1 h2 HRW hG2
      go_wp2_with (first | (go_at_call 44; refine HV.out.mono ?_; rintro e w5 ⟨rfl, hs5, hf5⟩; have HS5 := Aside0.mk hs5; have HF5 := Aside0.mk hf5; clear hs5 hf5))
      go_ret2
      have hf := HF.out.trans HF5.out
      have hz := HSZ0.out
      refine ⟨s, _, G, rfl, HS5.out, fun k hk => ?_, fun k hk => (HGX.out k).2 (.inr (Nat.le_trans hf.size hk)), ?_, ?_⟩
      · rcases (HGX.out k).1 hk with h | h <;> omega
      · rw [← HCS.out]
        refine Kd.R_mono (Kd.R_step HRW2.out (fun k hk hl => HF5.out.block k hl (fun hg => ?_))) (fun k hk => ⟨by omega, fun hg => ?_⟩)
        · rcases (HGX.out k).1 hg with h | h <;> omega
        · rcases (HGX.out k).1 hg with h | h <;> omega
      · exact (HB1.out.trans (HB2.out.mono HB1.out.size)).trans ⟨hf.os, hf.tape, hf.output, hf.size, fun k hk => hf.block k (by omega) (fun hg => by rcases (HGX.out k).1 hg with h | h <;> omega)⟩
end Go.Proofs.Ytmafibbnojdpjaa.St
end
section
set_option linter.unusedVariables false
set_option maxRecDepth 100000
set_option linter.unusedSimpArgs false
namespace Go.Proofs.Ytmafibbnojdpjaa.St
open Go.Proofs.Ytmafibbnojdpjaa.Tr Go.RowKit Go.Proofs.YtmafibbnojdpjaaW.PrintWords Go.Proofs.YtmafibbnojdpjaaW.PrintLast Go.Proofs.YtmafibbnojdpjaaW.PrintMore Go.Proofs.Ytmafibbnojdpjaa.P
def lastSeq : List Cm → Int → Int
  | [], m => m
  | c :: cs, _ => lastSeq cs c.f0
theorem onlyL_cons (p : ByteArray) (c : Cm) (cs : List Cm) : onlyL p (c :: cs) = (if (onlyW p c.f2).length = 0 then [] else [onlyC p c]) ++ onlyL p cs := by
  unfold onlyL
  rw [List.map_cons, List.filter_cons]
  by_cases h : (onlyW p c.f2).length = 0
  · rw [if_pos h, if_neg (by simpa [onlyC] using h)]
    rfl
  · rw [if_neg h, if_pos (by simpa [onlyC] using h)]
    rfl
theorem onlyL_len (p : ByteArray) (cs : List Cm) : (onlyL p cs).length ≤ cs.length := by
  unfold onlyL
  refine Nat.le_trans (List.length_filter_le _ _) ?_
  rw [List.length_map]
  exact Nat.le_refl _
/-- the lists' store, with what is behind q -/
structure LSt (wss : List (List Wr)) (q : Int) (M : StM) : Prop where
  inv : Inv M
  low : M.low = q
  hist : M.hist = (listC 1 wss).drop q.toNat
  len : lastM M = (wss.length : Int)
theorem listC_len (first : Int) (wss : List (List Wr)) : (listC first wss).length = wss.length := listTo_len _ _ _
theorem lst_of {wss : List (List Wr)} {MM : StM} (hrun : runM hM0 (listC 1 wss) = some MM) (hn : wss.length ≤ 1000) {q : Int} (h0 : 0 ≤ q) (h1 : q ≤ (wss.length : Int)) : LSt wss q (vacM MM q) := by
  obtain ⟨M1, g1, g2, g3, g4, g5⟩ := list_state wss hn
  have e : M1 = MM := by rw [g1] at hrun; injection hrun
  subst e
  refine ⟨inv_vac g2 q (by rw [g4]; exact h0) (by rw [g5]; exact h1), rfl, ?_, by rw [last_vac (by rw [g4]; exact h0) (by rw [g5]; exact h1)]; exact g5⟩
  show M1.hist.drop (q - M1.low).toNat = _
  rw [g3, g4, Int.sub_zero]
theorem list_ws (first : Int) (wss : List (List Wr)) : ∀ c ∈ listC first wss, c.f2.length ≤ 12 := fun c hc => by
  obtain ⟨j, _, e⟩ := List.mem_map.1 (show c ∈ (List.range wss.length).map (cmI first wss) from hc)
  rw [← e]
  exact some_len _
/-- a poll from k commits behind q -/
theorem poll_lst {G : Nat → Prop} {w : World} {s : Nat} {wss : List (List Wr)} {q : Int} {M : StM} (h : StoreAt G w s M) (hl : LSt wss q M) (hn : wss.length ≤ 1000) (h0 : 0 ≤ q) (k : Nat) (hk : k ≤ M.hist.length) (p : ByteArray) (m : Nat) (h1 : 1 ≤ m) (h2 : m ≤ 100) (h3 : p.size ≤ 400) :
    Calls Try.prog 57 #[.pointer (some ⟨s, 0, none⟩), .int .i64 (q + k), .string p, .int .i64 (m : Int)] w fun e w' => ∃ v, e = .returned (.tuple #[.agg #[v, .int .i64 (pollF p m (M.hist.drop k) [] (q + k)).2], .int .i64 0]) ∧ Kd.R k28 28 w' w.heap.size (fun _ => True) v (pollF p m (M.hist.drop k) [] (q + k)).1 ∧ Below w.heap.size w w' := by
  obtain ⟨col, H, L, hs⟩ := h
  have hlen : M.hist.length ≤ 1000 := by rw [hl.hist, List.length_drop, listC_len]; omega
  have := poll_good hs hl.inv.low hl.inv.last k hk (by omega) (fun c hc => by rw [hl.hist] at hc; have := list_ws 1 wss c (List.mem_of_mem_drop hc); omega) p m h1 h2 h3
  rw [hl.low] at this
  refine this.mono ?_
  rintro e w' ⟨v, mk, rfl, hr, rfl, hb⟩
  exact ⟨v, rfl, hr, hb⟩
theorem onlyL_lens {p : ByteArray} {cs : List Cm} {n : Nat} (h : ∀ c ∈ cs, c.f2.length ≤ n) : ∀ c ∈ onlyL p cs, c.f2.length ≤ n := fun c hc => by
  obtain ⟨d, hd, e⟩ := List.mem_map.1 (List.mem_filter.1 hc).1
  rw [← e]
  exact Nat.le_trans (List.length_filter_le _ _) (h d hd)
end Go.Proofs.Ytmafibbnojdpjaa.St
end
section
set_option linter.unusedVariables false
set_option maxRecDepth 100000
set_option linter.unusedSimpArgs false
namespace Go.Proofs.Ytmafibbnojdpjaa.St
open Go.Proofs.Ytmafibbnojdpjaa.Tr Go.RowKit Go.Proofs.YtmafibbnojdpjaaW.PrintWords Go.Proofs.YtmafibbnojdpjaaW.PrintLast Go.Proofs.YtmafibbnojdpjaaW.PrintMore Go.Proofs.Ytmafibbnojdpjaa.P
attribute [local go_sem] Oper.semAt_some
theorem onlyL_take {p : ByteArray} {cs : List Cm} {i : Nat} (h : i < cs.length) : onlyL p (cs.take (i + 1)) = onlyL p (cs.take i) ++ (if (onlyW p (cA cs i).f2).length = 0 then [] else [onlyC p (cA cs i)]) := by
  have happ : ∀ a b : List Cm, onlyL p (a ++ b) = onlyL p a ++ onlyL p b := fun a b => by unfold onlyL; rw [List.map_append, List.filter_append]
  rw [List.take_succ_eq_append_getElem h, happ, cA_eq h, onlyL_cons]
  simp [onlyL]
set_option maxHeartbeats 16000000 in
theorem only17_any (cs : List Cm) (p : ByteArray) (A : Option Addr) (c : Nat) (w : World) (hr : Kd.C k28 w A cs.length cs) (hn : cs.length ≤ 1000) (hws : ∀ i, i < cs.length → (cA cs i).f2.length ≤ 1000) :
    Calls Try.prog 58 #[.slice A cs.length c, .string p] w fun e w' => ∃ v, e = .returned v ∧ Kd.R k28 28 w' 0 (fun k => w.heap.size ≤ k) v (onlyL p cs) ∧ Below w.heap.size w w' := by
  have HR := Aside0.mk hr
  have HWS := Aside0.mk hws
  have HB0 : Aside0 (Below w.heap.size w (w.alloc (.cells #[] 28))) := ⟨below_alloc (Below.refl _ _) _⟩
  have HE0 : Aside0 (Kd.R k28 28 (w.alloc (.cells #[] 28)) 0 (fun k => w.heap.size ≤ k) (.slice (some ⟨w.heap.size, 0, none⟩) 0 0) (onlyL p (cs.take 0))) := ⟨R_empty k28 _ 28 _ _ _ (Nat.zero_le _) (Nat.le_refl _) (heap_alloc_new _ _)⟩
  clear hr hws
  go_enter Try.func58, Try.ntmps58
  go_wp2
  generalize w.alloc (.cells #[] 28) = W1 at *
  go_loopg [14, 5] (cs.length + 1) (fun kq v14 v5 wq => ∃ (i : Nat), v14 = .int .i64 (i : Int) ∧ i ≤ cs.length ∧ cs.length - i < kq ∧ Aside0 (Kd.R k28 28 wq 0 (fun k => w.heap.size ≤ k) v5 (onlyL p (cs.take i))) ∧ Aside0 (Below w.heap.size w wq))
  case atStart => exact ⟨0, rfl, Nat.zero_le _, by omega, HE0, HB0⟩
  case round =>
    clear HE0 HB0
    obtain ⟨i, rfl, hi, hk, HRW, HB⟩ := hrel
    have z0 : (0 : Int) ≤ (i : Int) := by omega
    by_cases hlt : i < cs.length
    · have z1 : (i : Int) < (cs.length : Int) := by omega
      obtain ⟨ad5, A5, c5, eA, f0, f1, f2, f3, f4⟩ := at_T28 (Kd.C_below HR.out HB.out) (i : Int) z0 z1
      rw [rd_cA, Int.toNat_natCast] at f0 f1 f2
      rw [rd_cA] at f3 f4
      subst eA
      obtain ⟨A3, c3, ev⟩ := Kd.R_slice HRW.out
      subst ev
      have HTK := Aside0.mk (onlyL_take (p := p) hlt)
      have HLI : Aside0 ((onlyL p (cs.take i)).length ≤ 1000) := ⟨by have := onlyL_len p (cs.take i); rw [List.length_take] at this; omega⟩
      have hwl := HWS.out i hlt
      generalize onlyL p (cs.take i) = L3 at *
      generalize cA cs i = x at *
      obtain ⟨d0, d1, d2⟩ := three_new wr 28 (.int .i64 x.f0) (.int .i64 x.f1) (.slice A5 x.f2.length c5)
      obtain ⟨e0, e1, e2⟩ := three_new (wr.alloc (.cells #[.int .i64 x.f0, .int .i64 x.f1, .slice A5 x.f2.length c5] 28)) 28 (.int .i64 x.f0) (.int .i64 x.f1) (.slice none 0 0)
      have hb2 : Below wr.heap.size wr ((wr.alloc (.cells #[.int .i64 x.f0, .int .i64 x.f1, .slice A5 x.f2.length c5] 28)).alloc (.cells #[.int .i64 x.f0, .int .i64 x.f1, .slice none 0 0] 28)) := below_alloc (below_alloc (Below.refl _ _) _) _
      have hd2 := up (below_alloc (Below.refl _ _) (.cells #[.int .i64 x.f0, .int .i64 x.f1, .slice none 0 0] 28)) d2
      have HNW := Aside0.mk (heap_alloc_new (wr.alloc (.cells #[.int .i64 x.f0, .int .i64 x.f1, .slice A5 x.f2.length c5] 28)) (.cells #[.int .i64 x.f0, .int .i64 x.f1, .slice none 0 0] 28))
      have HWR := Aside0.mk f4
      have HB2 := Aside0.mk hb2
      rw [World.size_alloc] at e0 e1 e2
      clear f3 f4 hb2
      obtain ⟨db, hdb⟩ : ∃ db, db = wr.heap.size + 1 := ⟨_, rfl⟩
      have HW0 := HNW.out
      rw [World.size_alloc, ← hdb] at HW0
      have HN2 := Aside0.mk HW0
      have HDB : Aside0 (wr.heap.size < db) := ⟨by omega⟩
      clear HW0 HNW
      go_wp2
      rw [← hdb]
      clear hdb
      generalize (wr.alloc (.cells #[.int .i64 x.f0, .int .i64 x.f1, .slice A5 x.f2.length c5] 28)).alloc (.cells #[.int .i64 x.f0, .int .i64 x.f1, .slice none 0 0] 28) = W2 at *
      have HZ2 : Aside0 (db < W2.heap.size) := ⟨(Array.getElem?_eq_some_iff.1 HN2.out).1⟩
      obtain ⟨g0, hg0⟩ : ∃ g0, g0 = gk := ⟨_, rfl⟩
      have HG0 := Aside0.mk hg0
      obtain ⟨w0, hw0⟩ : ∃ w0, w0 = wr := ⟨_, rfl⟩
      rw [← hw0] at HRW HB HWR HB2 HDB
      clear hg0 hw0
      go_loopg [26] (x.f2.length + 1) (fun kq v26 wq => ∃ (j : Nat) (v : Value), v26 = .int .i64 (j : Int) ∧ j ≤ x.f2.length ∧ x.f2.length - j < kq ∧ Aside0 (wq.heap[db]? = some (.cells #[.int .i64 x.f0, .int .i64 x.f1, v] 28 (0, 0))) ∧ Aside0 (Kd.R k31 31 wq 0 (fun k => db < k) v (onlyW p (x.f2.take j))) ∧ Aside0 (Below w0.heap.size w0 wq))
      case atStart => exact ⟨0, _, rfl, Nat.zero_le _, by omega, HN2, ⟨Kd.R_nil _ _ _ _ _⟩, HB2⟩
      case round =>
        obtain ⟨j, v, rfl, hj, hkj, HDV, HRV, HBJ⟩ := hrel
        have y0 : (0 : Int) ≤ (j : Int) := by omega
        have hdb0 := HDB.out
        have b0 := (cell_of_row _ _ 0 _ _ _ HDV.out).trans rfl
        have b1 := (cell_of_row _ _ 1 _ _ _ HDV.out).trans rfl
        have b2 := (cell_of_row _ _ 2 _ _ _ HDV.out).trans rfl
        obtain ⟨Av, cv, ev⟩ := Kd.R_slice HRV.out
        subst ev
        by_cases hjl : j < x.f2.length
        · have y1 : (j : Int) < (x.f2.length : Int) := by omega
          obtain ⟨ad6, eB, g0', g1, g2⟩ := at_T31 (Kd.C_below HWR.out HBJ.out) (j : Int) y0 y1
          rw [rd_wA, Int.toNat_natCast] at g0' g1 g2
          subst eB
          have HSN := Aside0.mk (onlyW_snoc (p := p) hjl)
          have HLV : Aside0 ((onlyW p (x.f2.take j)).length ≤ 1000) := ⟨by have := onlyW_len p (x.f2.take j); rw [List.length_take] at this; omega⟩
          generalize onlyW p (x.f2.take j) = Lv at *
          generalize wA x.f2 j = y at *
          obtain ⟨d0, d1, d2⟩ := three_new wr 31 (.string y.f0) (.string y.f1) (.bool y.f2)
          have hbx : Below wr.heap.size wr (wr.alloc (.cells #[.string y.f0, .string y.f1, .bool y.f2] 31)) := below_alloc (Below.refl _ _) _
          have hdl : db < wr.heap.size := (Array.getElem?_eq_some_iff.1 HDV.out).1
          have HDX := Aside0.mk ((hbx.block db hdl).trans HDV.out)
          have HRX := Aside0.mk (Kd.R_below HRV.out hbx)
          have HBX : Aside0 (Below w0.heap.size w0 (wr.alloc (.cells #[.string y.f0, .string y.f1, .bool y.f2] 31))) := ⟨below_step HBJ.out hbx⟩
          have b2 := up hbx b2
          have z2 : (wr.alloc (.cells #[.string y.f0, .string y.f1, .bool y.f2] 31)).frozen? ⟨db, 2, none⟩ = false := by simp [World.frozen?, HDX.out]
          have HSZ : Aside0 (db < (wr.alloc (.cells #[.string y.f0, .string y.f1, .bool y.f2] 31)).heap.size) := ⟨Nat.lt_of_lt_of_le hdl hbx.size⟩
          clear hbx hdl b0 b1
          by_cases hps : p.size ≤ y.f0.size
          · have q1 : (p.size : Int) ≤ (y.f0.size : Int) := by omega
            have q0 : (0 : Int) ≤ (p.size : Int) := by omega
            cases hpe : ((y.f0.extract 0 p.size).toList == p.toList) with
            | true =>
              have hpre : hasPre p y.f0 = true := by unfold hasPre; rw [decide_eq_true hps, hpe]; rfl
              rw [if_pos hpre] at HSN
              clear hpre
              go_wp2_with (first
                | ((with_reducible refine gate_builtin (b := .append) (xs := #[.tmp 46, .tmp 48]) rfl ?_); at_builtin
                   refine Kd.R_append k31 (w0 := wr.alloc (.cells #[.string y.f0, .string y.f1, .bool y.f2] 31)) 0 rfl (.tmp 46) (.tmp 48) 22 31 (.agg #[.string ⟨#[]⟩, .string ⟨#[]⟩, .bool false]) 40 rfl Try.underlying22 info31 rfl (by decide) (by decide) (.slice Av Lv.length cv) Lv y [.string y.f0, .string y.f1, .bool y.f2] (fun k => db < k) (fun _ => False) rfl ?hx (k31_mkM _ _ _ y) (fun k h => h.elim) (fun k hk => Nat.lt_of_lt_of_le HSZ.out hk) HRX.out (Below.refl _ _) (Nat.zero_le _) (by have := HLV.out; omega) ?_
                   case hx => show Value.slice _ 1 1 = Value.slice _ 1 1; first | rfl | (rw [World.size_alloc])
                   intro v7 w7 h1 h2 h3 h4
                   obtain ⟨A8, c8, ev8⟩ := Kd.R_slice h1
                   rw [List.length_append, List.length_singleton] at ev8
                   subst ev8
                   have hd7 := (h3.block db HSZ.out (fun e => by have := HRX.out.1 db e.symm; omega)).trans HDX.out
                   have b7 := (cell_of_row _ _ 2 _ _ _ hd7).trans rfl
                   have z7 : w7.frozen? ⟨db, 2, none⟩ = false := by simp [World.frozen?, hd7]
                   have H1 := Aside0.mk h1
                   have H3 := Aside0.mk h3
                   have HD7 := Aside0.mk hd7
                   clear h1 h2 h3 h4 hd7))
              go_roundg (gk - 1)
              case measure => omega
              case rel =>
                refine ⟨j + 1, .slice A8 (Lv.length + 1) c8, by go_num, by omega, by omega, ⟨(heap_setCell_at w7 db 2 _ _ _ _ HD7.out).trans rfl⟩, ⟨?_⟩, ⟨?_⟩⟩
                · rw [HSN.out]
                  exact Kd.R_far H1.out (fun k hk e => by have e' : k = db := e; have hk' : db < k := hk; omega) _
                · exact (HBX.out.grown H3.out HBX.out.size (fun k e => by have := HRX.out.1 k e; have := HDB.out; omega)).setCell (p := ⟨db, 2, none⟩) (Nat.le_of_lt HDB.out) _
            | false =>
              have hpre : ¬ hasPre p y.f0 = true := by unfold hasPre; rw [hpe, Bool.and_false]; decide
              rw [if_neg hpre, List.append_nil] at HSN
              clear hpre
              go_wp2
              go_roundg (gk - 1)
              case measure => omega
              case rel => exact ⟨j + 1, _, by go_num, by omega, by omega, HDX, ⟨by rw [HSN.out]; exact HRX.out⟩, HBX⟩
          · have q1 : ¬ (p.size : Int) ≤ (y.f0.size : Int) := by omega
            have hpre : ¬ hasPre p y.f0 = true := by unfold hasPre; rw [decide_eq_false hps, Bool.false_and]; decide
            rw [if_neg hpre, List.append_nil] at HSN
            clear hpre
            go_wp2
            go_roundg (gk - 1)
            case measure => omega
            case rel => exact ⟨j + 1, _, by go_num, by omega, by omega, HDX, ⟨by rw [HSN.out]; exact HRX.out⟩, HBX⟩
        · have hjz : j = x.f2.length := by omega
          subst hjz
          rw [List.take_length] at HRV b2 HDV
          have HBE : Aside0 (Below w.heap.size w wr) := ⟨below_step HB.out HBJ.out⟩
          have HRE := Aside0.mk (Kd.R_below HRW.out HBJ.out)
          have hdl : db < wr.heap.size := (Array.getElem?_eq_some_iff.1 HDV.out).1
          have HWZ : Aside0 (w0.heap.size < db ∧ db < wr.heap.size ∧ w.heap.size ≤ w0.heap.size) := ⟨hdb0, hdl, HB.out.size⟩
          have HOC : Aside0 (onlyC p x = ⟨x.f0, x.f1, onlyW p x.f2⟩) := ⟨rfl⟩
          obtain ⟨Ls, hLs⟩ : ∃ Ls, Ls = onlyW p x.f2 := ⟨_, rfl⟩
          rw [← hLs] at HRV b2 HDV HTK HOC
          clear hLs hdl hj hjl hkj hdb0
          by_cases hl0 : Ls.length = 0
          · have q1 : ¬ (0 : Int) < (Ls.length : Int) := by omega
            have m1 : ¬ 0 < Ls.length := by omega
            rw [if_pos hl0, List.append_nil] at HTK
            clear hl0
            go_wp2
            go_roundg (g0 - 1)
            case measure => have := HG0.out; omega
            case rel => exact ⟨i + 1, by go_num, by omega, by have := HG0.out; omega, ⟨by rw [HTK.out]; exact HRE.out⟩, HBE⟩
          · have q1 : (0 : Int) < (Ls.length : Int) := by omega
            have m1 : 0 < Ls.length := by omega
            rw [if_neg hl0, HOC.out] at HTK
            clear hl0
            go_wp2_with (first
              | ((with_reducible refine gate_builtin (b := .append) (xs := #[.tmp 56, .tmp 58]) rfl ?_); at_builtin
                 refine Kd.R_append k28 (w0 := wr) 0 rfl (.tmp 56) (.tmp 58) 23 28 (.agg #[.int .i64 0, .int .i64 0, .slice none 0 0]) 40 rfl Try.underlying23 info28 rfl (by decide) (by decide) (.slice A3 L3.length c3) L3 (⟨x.f0, x.f1, Ls⟩ : Cm) [.int .i64 x.f0, .int .i64 x.f1, .slice Av Ls.length cv] (fun k => w.heap.size ≤ k) (fun k => db < k) rfl ?hx (k28_mkM _ _ _ _ HRV.out) (fun k (hk : db < k) => ⟨by have := HWZ.out; omega, fun e => by have := Kd.R_lt HRW.out k e.symm; have := HWZ.out; omega⟩) (fun k hk => by have := HWZ.out; omega) HRE.out (Below.refl _ _) (Nat.zero_le _) (by have := HLI.out; omega) ?_
                 case hx => show Value.slice _ 1 1 = Value.slice _ 1 1; first | rfl | (rw [World.size_alloc])
                 intro v7 w7 h1 h2 h3 h4
                 have H1 := Aside0.mk h1
                 have H3 := Aside0.mk h3
                 clear h1 h2 h3 h4))
            go_roundg (g0 - 1)
            case measure => have := HG0.out; omega
            case rel => exact ⟨i + 1, by go_num, by omega, by have := HG0.out; omega, ⟨by rw [HTK.out]; exact H1.out⟩, ⟨HBE.out.grown H3.out HBE.out.size (fun k e => HRW.out.1 k e)⟩⟩
    · have hiz : i = cs.length := by omega
      subst hiz
      rw [List.take_length] at HRW
      clear hi hlt
      go_wp2
      go_ret
      exact ⟨_, rfl, HRW.out, HB.out⟩
end Go.Proofs.Ytmafibbnojdpjaa.St
end
section
set_option linter.unusedVariables false
set_option maxRecDepth 100000
set_option linter.unusedSimpArgs false
namespace Go.Proofs.Ytmafibbnojdpjaa.St
open Go.Proofs.Ytmafibbnojdpjaa.Tr Go.RowKit Go.Proofs.YtmafibbnojdpjaaW.PrintWords Go.Proofs.YtmafibbnojdpjaaW.PrintLast Go.Proofs.YtmafibbnojdpjaaW.PrintMore Go.Proofs.Ytmafibbnojdpjaa.P
theorem poll_first (p : ByteArray) (most : Nat) : ∀ (cs acc : List Cm) (m : Int), acc.length ≤ most → (pollF p most cs acc m).1 = (acc ++ onlyL p cs).take most
  | [], acc, m, h => by rw [pollF_nil]; simp [onlyL, List.take_of_length_le h]
  | c :: cs, acc, m, h => by
    by_cases hf : acc.length = most
    · rw [pollF_full hf, ← hf, List.take_left']
      rfl
    · by_cases h0 : (onlyW p c.f2).length = 0
      · rw [pollF_skip hf h0, poll_first p most cs acc c.f0 h, onlyL_cons, if_pos h0]
        rfl
      · rw [pollF_take hf h0, poll_first p most cs _ c.f0 (by rw [List.length_append, List.length_singleton]; omega), onlyL_cons, if_neg h0, List.append_assoc]
theorem poll_mark (p : ByteArray) (most : Nat) : ∀ (cs acc : List Cm) (m : Int), acc.length < most → (pollF p most cs acc m).1.length = most → (pollF p most cs acc m).1.getLast?.map (·.f0) = some (pollF p most cs acc m).2
  | [], acc, m, h, h2 => by rw [pollF_nil] at h2; dsimp only at h2; omega
  | c :: cs, acc, m, h, h2 => by
    have hf : ¬ acc.length = most := by omega
    by_cases h0 : (onlyW p c.f2).length = 0
    · rw [pollF_skip hf h0] at h2 ⊢
      exact poll_mark p most cs acc c.f0 h h2
    · rw [pollF_take hf h0] at h2 ⊢
      by_cases hl : (acc ++ [onlyC p c]).length = most
      · have : pollF p most cs (acc ++ [onlyC p c]) c.f0 = (acc ++ [onlyC p c], c.f0) := by
          cases cs with
          | nil => rfl
          | cons b cs => rw [pollF_full hl]
        rw [this]
        simp [onlyC]
      · exact poll_mark p most cs _ c.f0 (by rw [List.length_append, List.length_singleton] at *; omega) h2
theorem poll_end (p : ByteArray) (most : Nat) : ∀ (cs acc : List Cm) (m : Int), acc.length ≤ most → (pollF p most cs acc m).1.length < most → (pollF p most cs acc m).2 = lastSeq cs m
  | [], acc, m, h, h2 => by rw [pollF_nil]; rfl
  | c :: cs, acc, m, h, h2 => by
    by_cases hf : acc.length = most
    · rw [pollF_full hf] at h2; dsimp only at h2; omega
    · by_cases h0 : (onlyW p c.f2).length = 0
      · rw [pollF_skip hf h0] at h2 ⊢
        exact poll_end p most cs acc c.f0 h h2
      · rw [pollF_take hf h0] at h2 ⊢
        exact poll_end p most cs _ c.f0 (by rw [List.length_append, List.length_singleton]; omega) h2
/-- the lists' commits are numbered -/
theorem seq_list {wss : List (List Wr)} {k j : Nat} (h : k + j ≤ wss.length) (m : Int) (hm : j = 0 → m = (k : Int)) : lastSeq (((listC 1 wss).drop k).take j) m = ((k + j : Nat) : Int) := by
  induction j generalizing m with
  | zero => rw [List.take_zero]; show m = _; rw [hm rfl]; rfl
  | succ j ih =>
    have hl : ∀ (l : List Cm) (c : Cm) (m : Int), lastSeq (l ++ [c]) m = c.f0 := by
      intro l
      induction l with
      | nil => intro c m; rfl
      | cons a l ih => intro c m; exact ih c a.f0
    have hlt : j < ((listC 1 wss).drop k).length := by rw [List.length_drop, listC_len]; omega
    rw [List.take_succ_eq_append_getElem hlt, hl]
    rw [List.getElem_drop]
    simp only [listC, listTo, List.getElem_map, List.getElem_range]
    show (1 : Int) + ((k + j : Nat) : Int) = _
    omega
end Go.Proofs.Ytmafibbnojdpjaa.St
end
section
set_option linter.unusedVariables false
set_option maxRecDepth 100000
set_option linter.unusedSimpArgs false
namespace Go.Proofs.Ytmafibbnojdpjaa.St
open Go.Proofs.Ytmafibbnojdpjaa.Tr Go.RowKit Go.Proofs.YtmafibbnojdpjaaW.PrintWords Go.Proofs.YtmafibbnojdpjaaW.PrintLast Go.Proofs.YtmafibbnojdpjaaW.PrintMore Go.Proofs.Ytmafibbnojdpjaa.P
theorem polls_law (p : ByteArray) (wss : List (List Wr)) (m k : Nat) (hk : k ≤ wss.length) (h1 : 1 ≤ m) :
    (pollF p m ((listC 1 wss).drop k) [] (k : Int)).1 = (onlyL p ((listC 1 wss).drop k)).take m ∧
    (m ≤ (onlyL p ((listC 1 wss).drop k)).length → (pollF p m ((listC 1 wss).drop k) [] (k : Int)).2 = (cA (onlyL p ((listC 1 wss).drop k)) (m - 1)).f0) ∧
    ((onlyL p ((listC 1 wss).drop k)).length < m → (pollF p m ((listC 1 wss).drop k) [] (k : Int)).2 = (wss.length : Int)) := by
  have hf := poll_first p m ((listC 1 wss).drop k) [] (k : Int) (Nat.zero_le _)
  rw [List.nil_append] at hf
  refine ⟨hf, fun hm => ?_, fun hm => ?_⟩
  · have hl : (pollF p m ((listC 1 wss).drop k) [] (k : Int)).1.length = m := by rw [hf, List.length_take]; omega
    have := poll_mark p m ((listC 1 wss).drop k) [] (k : Int) (by simp; omega) hl
    rw [hf, List.getLast?_eq_getElem?, List.length_take, show min m (onlyL p ((listC 1 wss).drop k)).length - 1 = m - 1 from by omega, List.getElem?_take, if_pos (by omega), List.getElem?_eq_getElem (by omega)] at this
    rw [cA_eq (by omega)]
    injection this with this
    exact this.symm
  · have := poll_end p m ((listC 1 wss).drop k) [] (k : Int) (Nat.zero_le _) (by rw [hf, List.length_take]; omega)
    rw [this]
    have hll := listC_len 1 wss
    have e4 := seq_list (wss := wss) (k := k) (j := wss.length - k) (by omega) (k : Int) (fun _ => rfl)
    rw [List.take_of_length_le (by rw [List.length_drop, hll]; exact Nat.le_refl _)] at e4
    rw [e4]
    omega
end Go.Proofs.Ytmafibbnojdpjaa.St
end
section
set_option linter.unusedVariables false
set_option maxRecDepth 100000
set_option linter.unusedSimpArgs false
namespace Go.Proofs.Ytmafibbnojdpjaa.St
open Go.Proofs.Ytmafibbnojdpjaa.Tr Go.RowKit Go.Proofs.YtmafibbnojdpjaaW.PrintWords Go.Proofs.YtmafibbnojdpjaaW.PrintLast Go.Proofs.YtmafibbnojdpjaaW.PrintMore Go.Proofs.Ytmafibbnojdpjaa.P
attribute [local go_sem] Oper.semAt_some
theorem same_lp (q a : Int) (l : List Wr) (hn : l.length < 4611686018427387904) : ∀ (d i : Nat), i + d = l.length → mailbaglaw11_Same.l0 (d + 1) (l.length : Int) (i : Int) q a l q a l = some true
  | 0, i, h => by
    unfold mailbaglaw11_Same.l0
    rw [if_neg (by omega)]
  | d + 1, i, h => by
    unfold mailbaglaw11_Same.l0
    rw [if_pos (by omega), if_pos (by omega), if_pos (by omega), if_pos (by omega), if_neg (by simp), show wrap64 ((i : Int) + 1) = ((i + 1 : Nat) : Int) from by rw [w64 (by omega) (by omega)]; rfl]
    exact same_lp q a l hn d (i + 1) (by omega)
theorem same_me (q a : Int) (l : List Wr) (hn : l.length < 4611686018427387904) : mailbaglaw11_Same.f (l.length + 2) q a l q a l = some true := by
  unfold mailbaglaw11_Same.f
  rw [if_pos rfl, if_pos rfl, show ((l.length : Int) != (l.length : Int)) = false from by simp]
  simp only [mailbaglaw11_Same.j0]
  rw [if_neg (by decide)]
  exact same_lp q a l hn l.length 0 (by omega)
theorem w64_succ (t : Nat) (h : t < 100) : Value.int IntKind.i64 (wrap64 ((t : Int) + 1)) = Value.int IntKind.i64 ((t + 1 : Nat) : Int) := by
  rw [w64 (by omega) (by omega)]
  rfl
end Go.Proofs.Ytmafibbnojdpjaa.St
end
section
set_option linter.unusedVariables false
set_option maxRecDepth 100000
set_option linter.unusedSimpArgs false
namespace Go.Proofs.Ytmafibbnojdpjaa.St
open Go.Proofs.Ytmafibbnojdpjaa.Tr Go.RowKit Go.Proofs.YtmafibbnojdpjaaW.PrintWords Go.Proofs.YtmafibbnojdpjaaW.PrintLast Go.Proofs.YtmafibbnojdpjaaW.PrintMore Go.Proofs.Ytmafibbnojdpjaa.P
attribute [local go_sem] Oper.semAt_some
/-- x & 255 % (n + 1) -/
theorem rem_facts {low : Int} {n q : Nat} (hn : n ≤ 1000) (hq : (low % 256) % ((n : Int) + 1) = (q : Int)) : ∃ a N1 : Nat, bits .and .i64 low 255 = (a : Int) ∧ IntKind.i64.wrap ((n : Int) + 1) = (N1 : Int) ∧ wrap64 ((n : Int) + 1) = (N1 : Int) ∧ Int.tmod (a : Int) (N1 : Int) = (q : Int) ∧ ¬ (N1 : Int) = 0 ∧ ¬ N1 = 0 ∧ ((N1 : Int) == 0) = false ∧ q ≤ n := by
  have e0 : 0 ≤ low % 256 := by omega
  have m1 : bits .and .i64 low 255 = ((low % 256).toNat : Int) := by
    clear hq
    rw [Tr.low_bits low 255 8 (by decide), IntKind.wrap_i64]; omega
  have w1 : IntKind.i64.wrap ((n : Int) + 1) = ((n + 1 : Nat) : Int) := by clear hq; rw [IntKind.wrap_i64]; omega
  have w2 : wrap64 ((n : Int) + 1) = ((n + 1 : Nat) : Int) := by clear hq w1; rw [w64 (by omega) (by omega)]; rfl
  have hN : ((n + 1 : Nat) : Int) = (n : Int) + 1 := rfl
  have ha : ((low % 256).toNat : Int) = low % 256 := Int.toNat_of_nonneg e0
  have hlt : (q : Int) < (n : Int) + 1 := by rw [← hq]; exact Int.emod_lt_of_pos _ (by clear hq; omega)
  refine ⟨(low % 256).toNat, n + 1, m1, w1, w2, ?_, ?_, Nat.succ_ne_zero n, ?_, ?_⟩
  · rw [Int.tmod_eq_emod_of_nonneg (Int.natCast_nonneg _), ha, hN]; exact hq
  · clear hq; omega
  · exact beq_eq_false_iff_ne.2 (by clear hq; omega)
  · clear hq; omega
set_option maxHeartbeats 4000000 in
theorem polls_big1 (wss : List (List Wr)) (A : Option Addr) (c : Nat) (low mark most : Int) (p : ByteArray) (w : World) (h1 : ¬ wss.length ≤ 30) :
    Calls Try.prog 15 #[.slice A wss.length c, .int .i64 low, .int .i64 mark, .string p, .int .i64 most] w fun e w' => e = .returned (.bool true) ∧ Below w.heap.size w w' := by
  have n1 : (30 : Int) < (wss.length : Int) := by omega
  have HHD := Aside0.mk (head17_any w)
  go_enter Try.func15, Try.ntmps15
  go_wp2_with (first
    | (go_at_call 25; refine HHD.out.mono ?_; rintro e w1 ⟨rfl, hb⟩; have HB1 := Aside0.mk hb; clear hb))
  go_ret
  exact ⟨rfl, HB1.out⟩
set_option maxHeartbeats 4000000 in
theorem polls_big2 (wss : List (List Wr)) (A : Option Addr) (c : Nat) (low mark most : Int) (p : ByteArray) (w : World) (h1 : wss.length ≤ 30) (h2 : ¬ p.size ≤ 500) :
    Calls Try.prog 15 #[.slice A wss.length c, .int .i64 low, .int .i64 mark, .string p, .int .i64 most] w fun e w' => e = .returned (.bool true) ∧ Below w.heap.size w w' := by
  have n1 : ¬ (30 : Int) < (wss.length : Int) := by omega
  have n2 : (500 : Int) < (p.size : Int) := by omega
  have HHD := Aside0.mk (head17_any w)
  go_enter Try.func15, Try.ntmps15
  go_wp2_with (first
    | (go_at_call 25; refine HHD.out.mono ?_; rintro e w1 ⟨rfl, hb⟩; have HB1 := Aside0.mk hb; clear hb))
  go_ret
  exact ⟨rfl, HB1.out⟩
set_option maxHeartbeats 16000000 in
theorem polls_err (wss : List (List Wr)) (A : Option Addr) (c : Nat) (low mark most : Int) (p : ByteArray) (w : World) (hr : Kd.C (Kd.slice 31 k31) w A wss.length wss) (hn : wss.length ≤ 30) (hok : ∀ ws ∈ wss, okWs ws) (hp : p.size ≤ 500) (q : Nat) (hq : (low % 256) % ((wss.length : Int) + 1) = (q : Int)) (er : Int)
    (hc : (most < 1 ∧ er = 1) ∨ (¬ most < 1 ∧ 100 < most ∧ er = 1) ∨ (¬ most < 1 ∧ ¬ 100 < most ∧ (400 : Int) < (p.size : Int) ∧ er = 1) ∨ (¬ most < 1 ∧ ¬ 100 < most ∧ ¬ (400 : Int) < (p.size : Int) ∧ mark < (q : Int) ∧ er = 12) ∨ (¬ most < 1 ∧ ¬ 100 < most ∧ ¬ (400 : Int) < (p.size : Int) ∧ ¬ mark < (q : Int) ∧ (wss.length : Int) < mark ∧ er = 13)) :
    Calls Try.prog 15 #[.slice A wss.length c, .int .i64 low, .int .i64 mark, .string p, .int .i64 most] w fun e w' => e = .returned (.bool true) ∧ Below w.heap.size w w' := by
  have HCC := Aside0.mk hc
  clear hc
  have n1 : ¬ (30 : Int) < (wss.length : Int) := by omega
  have n2 : ¬ (500 : Int) < (p.size : Int) := by omega
  obtain ⟨a, N1, m1, wr1, wr2, hrem, hnz, hnz2, hnb, hql⟩ := rem_facts (show wss.length ≤ 1000 by omega) hq
  clear hq
  have HHD := Aside0.mk (head17_any w)
  obtain ⟨MM, hrun, _⟩ := list_state wss (by omega)
  have HMD : Aside0 (∀ W, Below w.heap.size w W → Calls Try.prog 56 #[.slice A wss.length c, .int .i64 (q : Int)] W fun e w' => ∃ s v G, e = .returned (.tuple #[.pointer (some ⟨s, 0, none⟩), v]) ∧ StoreAt G w' s (vacM MM q) ∧ (∀ k, G k → W.heap.size ≤ k) ∧ (∀ k, w'.heap.size ≤ k → G k) ∧ Kd.R k28 28 w' 0 (fun k => W.heap.size ≤ k ∧ ¬ G k) v (listC 1 wss) ∧ Below W.heap.size W w') := ⟨fun W hW => made17_any wss A c q W (Kd.C_below hr hW) hn hok (by omega) (by omega) MM hrun⟩
  have hls := lst_of hrun (by omega) (q := q) (by omega) (by omega)
  have HLL : Aside0 ((listC 1 wss).length = wss.length) := ⟨listC_len 1 wss⟩
  have HPE : Aside0 (∀ (G : Nat → Prop) (W : World) (s : Nat), StoreAt G W s (vacM MM q) → Calls Try.prog 57 #[.pointer (some ⟨s, 0, none⟩), .int .i64 mark, .string p, .int .i64 most] W fun e w' => e = .returned (.tuple #[.agg #[.slice none 0 0, .int .i64 0], .int .i64 er]) ∧ Below W.heap.size W w') := ⟨fun G W s hs => by
    obtain ⟨col, H, L, hs⟩ := hs
    have hlo : (vacM MM q).low = (q : Int) := hls.low
    have hla := hls.len
    have hi0 : 0 ≤ (vacM MM q).low := by rw [hlo]; omega
    have hc := HCC.out
    rcases hc with ⟨g1, rfl⟩ | ⟨g1, g2, rfl⟩ | ⟨g1, g2, g3, rfl⟩ | ⟨g1, g2, g3, g4, rfl⟩ | ⟨g1, g2, g3, g4, g5, rfl⟩
    · exact poll_arg _ _ _ _ _ (.inl g1)
    · exact poll_arg _ _ _ _ _ (.inr (.inl g2))
    · exact poll_arg _ _ _ _ _ (.inr (.inr (by omega)))
    · exact poll_err hs hi0 hls.inv.last _ _ _ (by omega) (by omega) (by omega) 12 (by decide) (fun W hW => since_old (hs.below hW) _ (by rw [hlo]; exact g4))
    · exact poll_err hs hi0 hls.inv.last _ _ _ (by omega) (by omega) (by omega) 13 (by decide) (fun W hW => since_mark (hs.below hW) hi0 hls.inv.last _ (by rw [hla]; exact g5))⟩
  clear hr hok hrun hls hp
  have hc := HCC.out
  clear HCC
  rcases hc with ⟨g1, rfl⟩ | ⟨g1, g2, rfl⟩ | ⟨g1, g2, g3, rfl⟩ | ⟨g1, g2, g3, g4, rfl⟩ | ⟨g1, g2, g3, g4, g5, rfl⟩
  all_goals
    go_enter Try.func15, Try.ntmps15
    go_wp2_with (first
      | (go_at_call 25; refine HHD.out.mono ?_; rintro e w1 ⟨rfl, hb⟩; have HB1 := Aside0.mk hb; clear hb)
      | (go_at_call 56; refine (HMD.out _ HB1.out).mono ?_; rintro e w2 ⟨s, v, G, rfl, h1, h2, h3, h4, h5⟩; obtain ⟨A2, c2, ev⟩ := Kd.R_slice h4; rw [HLL.out] at ev; subst ev
         have HP2 := Aside0.mk (HPE.out _ _ _ h1)
         have HB2 := Aside0.mk (below_step HB1.out h5)
         clear h1 h2 h3 h4 h5)
      | (go_at_call 57; refine HP2.out.mono ?_; rintro e w3 ⟨rfl, h2⟩
         have hnew := heap_alloc_new w3 (.cells #[.slice none 0 0, .int .i64 0] 92)
         have x0 := (cell_of_row _ _ 0 _ _ _ hnew).trans rfl
         have x1 := (cell_of_row _ _ 1 _ _ _ hnew).trans rfl
         have HB3 := Aside0.mk (below_step (below_step HB2.out h2) (below_alloc (Below.refl _ _) (.cells #[.slice none 0 0, .int .i64 0] 92)))
         clear h2 hnew))
    go_ret
    exact ⟨by simp, HB3.out⟩
set_option maxHeartbeats 32000000 in
theorem polls_in (wss : List (List Wr)) (A : Option Addr) (c : Nat) (low : Int) (p : ByteArray) (w : World) (hr : Kd.C (Kd.slice 31 k31) w A wss.length wss) (hn : wss.length ≤ 30) (hok : ∀ ws ∈ wss, okWs ws) (hp : p.size ≤ 400) (q k m : Nat) (hq : (low % 256) % ((wss.length : Int) + 1) = (q : Int)) (hqk : q ≤ k) (hkn : k ≤ wss.length) (hm1 : 1 ≤ m) (hm2 : m ≤ 100) :
    Calls Try.prog 15 #[.slice A wss.length c, .int .i64 low, .int .i64 (k : Int), .string p, .int .i64 (m : Int)] w fun e w' => e = .returned (.bool true) ∧ Below w.heap.size w w' := by
  have n1 : ¬ (30 : Int) < (wss.length : Int) := by omega
  have n2 : ¬ (500 : Int) < (p.size : Int) := by omega
  have n3 : ¬ (m : Int) < 1 := by omega
  have n4 : ¬ (100 : Int) < (m : Int) := by omega
  have n5 : ¬ (400 : Int) < (p.size : Int) := by omega
  have n6 : ¬ (k : Int) < (q : Int) := by omega
  have n7 : ¬ (wss.length : Int) < (k : Int) := by omega
  obtain ⟨a, N1, m1, wr1, wr2, hrem, hnz, hnz2, hnb, hql⟩ := rem_facts (show wss.length ≤ 1000 by omega) hq
  clear hq
  have HHD := Aside0.mk (head17_any w)
  obtain ⟨MM, hrun, _⟩ := list_state wss (by omega)
  have HMD : Aside0 (∀ W, Below w.heap.size w W → Calls Try.prog 56 #[.slice A wss.length c, .int .i64 (q : Int)] W fun e w' => ∃ s v G, e = .returned (.tuple #[.pointer (some ⟨s, 0, none⟩), v]) ∧ StoreAt G w' s (vacM MM q) ∧ (∀ k, G k → W.heap.size ≤ k) ∧ (∀ k, w'.heap.size ≤ k → G k) ∧ Kd.R k28 28 w' 0 (fun k => W.heap.size ≤ k ∧ ¬ G k) v (listC 1 wss) ∧ Below W.heap.size W w') := ⟨fun W hW => made17_any wss A c q W (Kd.C_below hr hW) hn hok (by omega) (by omega) MM hrun⟩
  have hls := lst_of hrun (by omega) (q := q) (by omega) (by omega)
  have hll := listC_len 1 wss
  obtain ⟨PF, hPF⟩ : ∃ PF, PF = pollF p m ((listC 1 wss).drop k) [] (k : Int) := ⟨_, rfl⟩
  obtain ⟨ALL, hALL⟩ : ∃ ALL, ALL = onlyL p ((listC 1 wss).drop k) := ⟨_, rfl⟩
  obtain ⟨l1, l2, l3⟩ := polls_law p wss m k hkn hm1
  rw [← hPF, ← hALL] at l1 l2 l3
  have HPL : Aside0 (∀ (G : Nat → Prop) (W : World) (s : Nat), StoreAt G W s (vacM MM q) → Calls Try.prog 57 #[.pointer (some ⟨s, 0, none⟩), .int .i64 (k : Int), .string p, .int .i64 (m : Int)] W fun e w' => ∃ v, e = .returned (.tuple #[.agg #[v, .int .i64 PF.2], .int .i64 0]) ∧ Kd.R k28 28 w' W.heap.size (fun _ => True) v PF.1 ∧ Below W.heap.size W w') := ⟨fun G W s hs => by
    have hh : (vacM MM q).hist.drop (k - q) = (listC 1 wss).drop k := by
      rw [hls.hist, List.drop_drop]
      congr 1
      omega
    have := poll_lst hs hls (by omega) (by omega) (k - q) (by rw [hls.hist, List.length_drop, hll]; omega) p m hm1 hm2 hp
    rw [hh, show ((q : Int) + ((k - q : Nat) : Int)) = (k : Int) from by omega, ← hPF] at this
    exact this⟩
  have HON : Aside0 (∀ (W : World) (A1 : Option Addr) (c1 : Nat), Kd.C k28 W A1 (wss.length - k) ((listC 1 wss).drop k) → Calls Try.prog 58 #[.slice A1 (wss.length - k) c1, .string p] W fun e w' => ∃ v, e = .returned v ∧ Kd.R k28 28 w' 0 (fun k => W.heap.size ≤ k) v ALL ∧ Below W.heap.size W w') := ⟨fun W A1 c1 hC => by
    have hl : ((listC 1 wss).drop k).length = wss.length - k := by rw [List.length_drop, hll]
    rw [← hl] at hC ⊢
    rw [hALL]
    exact only17_any _ p A1 c1 W hC (by omega) (fun i hi => by rw [cA_eq hi]; have := list_ws 1 wss _ (List.mem_of_mem_drop (List.getElem_mem hi)); omega)⟩
  have HWL : Aside0 (∀ i, i < ALL.length → (cA ALL i).f2.length ≤ 12) := ⟨fun i hi => by rw [cA_eq hi]; exact onlyL_lens (fun c hc => list_ws 1 wss c (List.mem_of_mem_drop hc)) _ (by rw [← hALL]; exact List.getElem_mem hi)⟩
  have HLL : Aside0 ((listC 1 wss).length = wss.length) := ⟨hll⟩
  have HAL : Aside0 (ALL.length ≤ 30) := ⟨by have := onlyL_len p ((listC 1 wss).drop k); rw [← hALL, List.length_drop] at this; omega⟩
  have e4 : (0 : Int) ≤ (k : Int) := by omega
  have e5 : (k : Int) ≤ (wss.length : Int) := by omega
  obtain ⟨L, hL⟩ : ∃ L, L = PF.1 := ⟨_, rfl⟩
  obtain ⟨mk, hmk⟩ : ∃ mk, mk = PF.2 := ⟨_, rfl⟩
  rw [← hL, ← hmk] at HPL
  rw [← hL] at l1
  rw [← hmk] at l2 l3
  have HLT : Aside0 (∀ i, i < L.length → i < ALL.length ∧ cA ALL i = cA L i) := ⟨fun i hi => by
    have hi2 : i < ALL.length := by rw [l1, List.length_take] at hi; omega
    refine ⟨hi2, ?_⟩
    rw [cA_eq hi, cA_eq hi2]
    simp only [l1, List.getElem_take]⟩
  have hmin : ∀ (ats : Array TypeId) (ty : TypeId) (wx : World), (Builtin.min_ ats ty #[.int .i64 (m : Int), .int .i64 (ALL.length : Int)]).run Try.prog wx = .ok (.int .i64 (L.length : Int)) wx := fun ats ty wx => by
    rw [run_min]
    have : mnI (m : Int) (ALL.length : Int) = (L.length : Int) := by unfold mnI; rw [l1, List.length_take]; split <;> omega
    rw [this]
  have HLA : Aside0 (L.length = min m ALL.length) := ⟨by rw [l1, List.length_take]⟩
  have HMK : Aside0 ((m ≤ ALL.length → mk = (cA ALL (m - 1)).f0) ∧ (ALL.length < m → mk = (wss.length : Int))) := ⟨l2, l3⟩
  clear hr hok hrun hls hll hp hPF hALL l1 l2 l3 hL hmk
  go_enter Try.func15, Try.ntmps15
  go_wp2_with (first
    | (go_at_call 25; refine HHD.out.mono ?_; rintro e w1 ⟨rfl, hb⟩; have HB1 := Aside0.mk hb; clear hb)
    | (go_at_call 56; refine (HMD.out _ HB1.out).mono ?_; rintro e w2 ⟨s, v, G, rfl, h1, h2, h3, h4, h5⟩; obtain ⟨A2, c2, e2, hc2, hC2⟩ := Kd.R_reads h4; rw [HLL.out] at e2; subst e2
       have HP2 := Aside0.mk (HPL.out _ _ _ h1)
       have HB2 := Aside0.mk (below_step HB1.out h5)
       have hCD := Kd.C_drop hC2 (m := k) (by rw [HLL.out]; exact hkn) hc2
       have hc3 : wss.length ≤ c2 := by rw [← HLL.out]; exact hc2
       have hc4 : k ≤ c2 := by omega
       have hc5 : (wss.length : Int) ≤ (c2 : Int) := by omega
       obtain ⟨A1, hA1⟩ : ∃ A1, (if c2 = k then A2 else A2.map (·.add (k * k28.sz))) = A1 := ⟨_, rfl⟩
       rw [hA1, List.length_drop, HLL.out] at hCD
       have hA2 : (if c2 = k then A2 else A2.map (·.add (k * 3))) = A1 := hA1
       have HCD := Aside0.mk hCD
       clear h1 h2 h3 h4 h5 hC2 hCD hA1 hc2)
    | (go_at_call 57; refine HP2.out.mono ?_; rintro e w3 ⟨v3, rfl, h1, h2⟩; obtain ⟨AA, cA', ev⟩ := Kd.R_slice h1; subst ev
       have hnew := heap_alloc_new w3 (.cells #[.slice AA L.length cA', .int .i64 mk] 92)
       have hb3 : Below w3.heap.size w3 (w3.alloc (.cells #[.slice AA L.length cA', .int .i64 mk] 92)) := below_alloc (Below.refl _ _) _
       have HR3 := Aside0.mk (Kd.R_below h1 hb3)
       have HO3 := Aside0.mk (HON.out _ A1 (c2 - k) (Kd.C_below HCD.out (below_step h2 hb3)))
       have HB3 := Aside0.mk (below_step (below_step HB2.out h2) hb3)
       have HNW := Aside0.mk hnew
       clear h1 h2 hnew hb3)
    | (go_at_call 58; refine HO3.out.mono ?_; rintro e w4 ⟨v4, rfl, h1, h2⟩; obtain ⟨AB, cB', ev⟩ := Kd.R_slice h1; subst ev
       have x0 := up h2 ((cell_of_row _ _ 0 _ _ _ HNW.out).trans rfl)
       have HN4 := Aside0.mk ((h2.block _ (by rw [World.size_alloc]; omega)).trans HNW.out)
       have HR4 := Aside0.mk (Kd.R_below HR3.out h2)
       have HA4 := Aside0.mk h1
       have HB4 := Aside0.mk (below_step HB3.out h2)
       clear h1 h2))
  clear HHD HMD HPL HON HP2 HCD HO3 HR3 HB1 HB2 HB3 HNW x0
  generalize w3.heap.size = ba at *
  go_loopg [18] (L.length + 1) (fun kq v18 wq => ∃ i : Nat, v18 = .int .i64 (i : Int) ∧ i ≤ L.length ∧ L.length - i < kq ∧ Aside0 (Below w4.heap.size w4 wq))
  case atStart => exact ⟨0, rfl, Nat.zero_le _, by omega, ⟨Below.refl _ _⟩⟩
  case round =>
    obtain ⟨i, rfl, hi, hk, HBQ⟩ := hrel
    have z0 : (0 : Int) ≤ (i : Int) := by omega
    have hnb4 : wr.heap[ba]? = some (.cells #[.slice AA L.length cA', .int .i64 mk] 92 (0, 0)) := (HBQ.out.block ba (Array.getElem?_eq_some_iff.1 HN4.out).1).trans HN4.out
    have x0 := (cell_of_row _ _ 0 _ _ _ hnb4).trans rfl
    have x1 := (cell_of_row _ _ 1 _ _ _ hnb4).trans rfl
    have hal := HAL.out
    have hla := HLA.out
    clear hnb4
    by_cases hlt : i < L.length
    · have z1 : (i : Int) < (L.length : Int) := by omega
      obtain ⟨hi2, HEQ⟩ := HLT.out i hlt
      have z2 : (i : Int) < (ALL.length : Int) := by omega
      obtain ⟨A9, c9, e9, hc9, hC9⟩ := Kd.R_reads (Kd.R_below HR4.out HBQ.out)
      injection e9 with e9 e9b e9c
      clear e9b
      subst e9 e9c
      obtain ⟨ad5, A7, c7, eA, f0, f1, f2, f3, f4⟩ := at_T28 hC9 (i : Int) z0 z1
      obtain ⟨A8, c8, e8, hc8, hC8⟩ := Kd.R_reads (Kd.R_below HA4.out HBQ.out)
      injection e8 with e8 e8b e8c
      clear e8b
      subst e8 e8c
      obtain ⟨ad6, A6, c6, eB2, g0, g1, g2, g3, g4⟩ := at_T28 hC8 (i : Int) z0 z2
      rw [rd_cA, Int.toNat_natCast] at f0 f1 f2 g0 g1 g2
      rw [rd_cA] at f3 f4 g3 g4
      rw [HEQ] at g0 g1 g2 g3 g4
      have hx12 := HWL.out i hi2
      rw [HEQ] at hx12
      subst eA eB2
      generalize cA L i = x at *
      have HSM : Aside0 (∀ W, Below wr.heap.size wr W → Calls Try.prog 33 #[.agg #[.int .i64 x.f0, .int .i64 x.f1, .slice A7 x.f2.length c7], .agg #[.int .i64 x.f0, .int .i64 x.f1, .slice A6 x.f2.length c6]] W fun e w' => e = .returned (.bool true) ∧ Below W.heap.size W w') := ⟨fun W hW => mailbaglaw11_Same.calls (x.f2.length + 2) x.f0 x.f1 A7 c7 x.f2 x.f0 x.f1 A6 c6 x.f2 true W (Kd.C_below f4 hW) f3 (Kd.C_below g4 hW) g3 (same_me x.f0 x.f1 x.f2 (by omega))⟩
      have SD : Aside0 (∀ W, Below wr.heap.size wr W → (fun W : World => W.cell? ⟨ba, 0, none⟩ = some (.slice (some ad5) L.length cA') ∧ W.cell? (ad5.add (i * 3)) = some (.int .i64 x.f0) ∧ W.cell? ⟨(ad5.add (i * 3)).block, (ad5.add (i * 3)).off + 1, none⟩ = some (.int .i64 x.f1) ∧ W.cell? ⟨(ad5.add (i * 3)).block, (ad5.add (i * 3)).off + 2, none⟩ = some (.slice A7 x.f2.length c7) ∧ W.cell? (ad6.add (i * 3)) = some (.int .i64 x.f0) ∧ W.cell? ⟨(ad6.add (i * 3)).block, (ad6.add (i * 3)).off + 1, none⟩ = some (.int .i64 x.f1) ∧ W.cell? ⟨(ad6.add (i * 3)).block, (ad6.add (i * 3)).off + 2, none⟩ = some (.slice A6 x.f2.length c6)) W) := ⟨fun W hW => ⟨Tr.up hW x0, Tr.up hW f0, Tr.up hW f1, Tr.up hW f2, Tr.up hW g0, Tr.up hW g1, Tr.up hW g2⟩⟩
      have S0 := SD.out wr.drew (below_drew1 (Below.refl _ _))
      have HUB : Aside0 (i < 100) := ⟨by omega⟩
      clear f3 f4 g3 g4 hC9 hc9 hC8 hc8 HEQ x1 x0 f0 f1 f2 g0 g1 g2 hla hal
      go_wp2
      go_region_held3 (fun W : World => W.cell? ⟨ba, 0, none⟩ = some (.slice (some ad5) L.length cA') ∧ W.cell? (ad5.add (i * 3)) = some (.int .i64 x.f0) ∧ W.cell? ⟨(ad5.add (i * 3)).block, (ad5.add (i * 3)).off + 1, none⟩ = some (.int .i64 x.f1) ∧ W.cell? ⟨(ad5.add (i * 3)).block, (ad5.add (i * 3)).off + 2, none⟩ = some (.slice A7 x.f2.length c7) ∧ W.cell? (ad6.add (i * 3)) = some (.int .i64 x.f0) ∧ W.cell? ⟨(ad6.add (i * 3)).block, (ad6.add (i * 3)).off + 1, none⟩ = some (.int .i64 x.f1) ∧ W.cell? ⟨(ad6.add (i * 3)).block, (ad6.add (i * 3)).off + 2, none⟩ = some (.slice A6 x.f2.length c6)) (first | exact S0 | exact S8) (first
        | (go_at_call 33; refine (HSM.out _ (by repeat (first | apply pw_below_drewN | apply below_drew1 | exact Below.refl _ _))).mono ?_; rintro e w8 ⟨rfl, hb8⟩
           have S8 := SD.out w8 (below_step (by repeat (first | apply pw_below_drewN | apply below_drew1 | exact Below.refl _ _)) hb8)
           have HB8 : Aside0 (Below w4.heap.size w4 w8) := ⟨below_step HBQ.out (below_step (by repeat (first | apply pw_below_drewN | apply below_drew1 | exact Below.refl _ _)) hb8)⟩
           clear hb8))
      go_wp2
      go_roundg (gk - 1)
      case measure => omega
      case rel => exact ⟨i + 1, by first | exact w64_succ i HUB.out | rfl, by omega, by omega, HB8⟩
    · have hiz : i = L.length := by omega
      subst hiz
      by_cases hml : m ≤ ALL.length
      · have hLm : L.length = m := by omega
        have hmk := HMK.out.1 hml
        obtain ⟨A8, c8, e8, hc8, hC8⟩ := Kd.R_reads (Kd.R_below HA4.out HBQ.out)
        injection e8 with e8 e8b e8c
        clear e8b
        subst e8 e8c
        obtain ⟨j, hj⟩ : ∃ j, j = m - 1 := ⟨_, rfl⟩
        have y0 : (0 : Int) ≤ (j : Int) := by omega
        have y1 : (j : Int) < (ALL.length : Int) := by omega
        obtain ⟨ad6, A6, c6, eB2, g0, g1, g2, g3, g4⟩ := at_T28 hC8 (j : Int) y0 y1
        rw [rd_cA, Int.toNat_natCast, hj, ← hmk, ← hj] at g0
        subst eB2
        have hw1 : IntKind.i64.wrap ((L.length : Int) - 1) = (j : Int) := by rw [IntKind.wrap_i64]; omega
        have hw2 : wrap64 ((L.length : Int) - 1) = (j : Int) := by rw [w64 (by omega) (by omega)]; omega
        have heq : ((L.length : Int) == (m : Int)) = true := by rw [hLm]; exact beq_self_eq_true _
        have heq2 : (L.length == m) = true := by rw [hLm]; exact beq_self_eq_true _
        have HLm := Aside0.mk hLm
        clear g1 g2 g3 g4 hC8 hc8 hmk hi hlt hk hla hal hml hj hLm
        go_wp2
        go_quiet (fail)
        go_wp2
        go_ret
        exact ⟨by simp, below_step HB4.out (pw_below_drewN HBQ.out _)⟩
      · have hmk := HMK.out.2 (by omega)
        subst hmk
        have heq : ((L.length : Int) == (m : Int)) = false := beq_eq_false_iff_ne.2 (by omega)
        have heq2 : (L.length == m) = false := beq_eq_false_iff_ne.2 (by omega)
        clear hi hlt hk hla hal hml
        go_wp2
        go_ret
        exact ⟨by simp, below_step HB4.out HBQ.out⟩
theorem watchPolls_walk (l0 : List (List Wr)) (A : Option Addr) (c : Nat) (low mark : Int) (p : ByteArray) (most : Int) (w : World) (hr : Kd.C (Kd.slice 31 k31) w A l0.length l0) (_ : l0.length ≤ c) (ho : l0.length ≤ maxLen ∧ l0.length * 24 ≤ 140737488351232 ∧ ∀ y ∈ l0, (y.length ≤ maxLen ∧ y.length * 40 ≤ 140737488351232 ∧ ∀ z ∈ y, (z.f0.size ≤ 140737488351232 ∧ z.f1.size ≤ 140737488351232 ∧ True)))
    (_ : (Lit.int .i64 low).wf = true) (_ : (Lit.int .i64 mark).wf = true) (_ : p.size ≤ 140737488351232) (_ : (Lit.int .i64 most).wf = true) :
    Calls Try.prog 15 #[.slice A l0.length c, .int .i64 low, .int .i64 mark, .string p, .int .i64 most] w fun e w' => e = .returned (.bool true) ∧ Below w.heap.size w w' := by
  by_cases h1 : l0.length ≤ 30
  · by_cases h2 : p.size ≤ 500
    · have hok : ∀ ws ∈ l0, okWs ws := fun ws hw => ⟨by have := (ho.2.2 ws hw).2.1; omega, fun x hx => ((ho.2.2 ws hw).2.2 x hx).1⟩
      obtain ⟨q, hq⟩ : ∃ q : Nat, (low % 256) % ((l0.length : Int) + 1) = (q : Int) := ⟨((low % 256) % ((l0.length : Int) + 1)).toNat, (Int.toNat_of_nonneg (Int.emod_nonneg _ (by omega))).symm⟩
      by_cases c1 : most < 1
      · exact polls_err l0 A c low mark most p w hr h1 hok h2 q hq 1 (.inl ⟨c1, rfl⟩)
      · by_cases c2 : 100 < most
        · exact polls_err l0 A c low mark most p w hr h1 hok h2 q hq 1 (.inr (.inl ⟨c1, c2, rfl⟩))
        · by_cases c3 : (400 : Int) < (p.size : Int)
          · exact polls_err l0 A c low mark most p w hr h1 hok h2 q hq 1 (.inr (.inr (.inl ⟨c1, c2, c3, rfl⟩)))
          · by_cases c4 : mark < (q : Int)
            · exact polls_err l0 A c low mark most p w hr h1 hok h2 q hq 12 (.inr (.inr (.inr (.inl ⟨c1, c2, c3, c4, rfl⟩))))
            · by_cases c5 : (l0.length : Int) < mark
              · exact polls_err l0 A c low mark most p w hr h1 hok h2 q hq 13 (.inr (.inr (.inr (.inr ⟨c1, c2, c3, c4, c5, rfl⟩))))
              · have HQ := Aside0.mk hq
                clear hq
                obtain ⟨k, rfl⟩ : ∃ k : Nat, mark = (k : Int) := ⟨mark.toNat, by omega⟩
                obtain ⟨m, rfl⟩ : ∃ m : Nat, most = (m : Int) := ⟨most.toNat, by omega⟩
                exact polls_in l0 A c low p w hr h1 hok (by omega) q k m HQ.out (by omega) (by omega) (by omega) (by omega)
    · exact polls_big2 l0 A c low mark most p w h1 h2
  · exact polls_big1 l0 A c low mark most p w h1
end Go.Proofs.Ytmafibbnojdpjaa.St
end
