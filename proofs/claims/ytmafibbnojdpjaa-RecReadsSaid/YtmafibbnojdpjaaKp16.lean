/- Lemmas that the proof needs, part 16. -/
import Derived.Shelf.Small.Strs
import Derived.Shelf.SlSortCmp.NoneTotal
import Derived.RangeFuncBox
import Derived.Test.YtmafibbnojdpjaaProg
import Derived.RangeFuncNested
import Derived.RangeFuncBound
import Derived.RangeFuncCalls
import Derived.RangeFuncLeaves
import Derived.Shelf.Abstract
import Derived.Shelf.RegionOpen
import Derived.WalkKit
import Derived.OwnWalkIn
import Derived.TacticsInMore
import Derived.LoopNIn
import Derived.LoopIn
import Derived.Scope
import Derived.Maps.OwnIn
import Derived.RangeFuncFrom
import Derived.StringKeys
import Derived.Deep.RegionLaw
import Derived.Deep.RegionHeld3
import Derived.Test.YtmafibbnojdpjaaWWords
import Derived.Test.YtmafibbnojdpjaaWN
import Derived.Test.YtmafibbnojdpjaaWLast
import Derived.Laws.IdiomStrings
import Derived.Laws.AppendOwn
import Derived.Test.YtmafibbnojdpjaaKp1
import Derived.Test.YtmafibbnojdpjaaKp2
import Derived.Test.YtmafibbnojdpjaaKp3
import Derived.Test.YtmafibbnojdpjaaKp4
import Derived.Test.YtmafibbnojdpjaaKp5
import Derived.Test.YtmafibbnojdpjaaKp6
import Derived.Test.YtmafibbnojdpjaaKp7
import Derived.Test.YtmafibbnojdpjaaKp8
import Derived.Test.YtmafibbnojdpjaaKp9
import Derived.Test.YtmafibbnojdpjaaKp10
import Derived.Test.YtmafibbnojdpjaaKp11
import Derived.Test.YtmafibbnojdpjaaKp12
import Derived.Test.YtmafibbnojdpjaaKp13
import Derived.Test.YtmafibbnojdpjaaKp14
import Derived.Test.YtmafibbnojdpjaaKp15
section
set_option linter.unusedVariables false
set_option maxRecDepth 100000
set_option linter.unusedSimpArgs false
namespace Go.Proofs.Ytmafibbnojdpjaa.St
open Go.Proofs.Ytmafibbnojdpjaa.Tr Go.RowKit Go.Proofs.YtmafibbnojdpjaaW.PrintWords Go.Proofs.YtmafibbnojdpjaaW.PrintLast Go.Proofs.YtmafibbnojdpjaaW.PrintMore Go.Proofs.Ytmafibbnojdpjaa.P
variable {w w' : World} {r : Nat} {st : RecP.St}
/-- a write out of what was read -/
def fromR (x : RecP.Wr) : Wr := ⟨bS x.key, bS x.val, x.gone⟩
theorem toR_from (x : RecP.Wr) : toR (fromR x) = x := by
  cases x
  simp [toR, fromR, bS]
theorem sz_num (m : Nat) (st : RecP.St) : (sB (RecP.numR m st).2).size ≤ (sB st).size := by
  cases h : RecP.numR m st with
  | mk n o =>
    cases o with
    | none => exact Nat.zero_le _
    | some q =>
      obtain ⟨s, rfl, h1, _⟩ := RecP.numR_some (s := q) h
      show (bS q).size ≤ (bS s).size
      rw [bS_size, bS_size, h1, List.length_append]
      omega
theorem sz_text (m : Nat) (st : RecP.St) : (sB (RecP.textR m st).2).size ≤ (sB st).size := by
  cases h : RecP.textR m st with
  | mk n o =>
    cases o with
    | none => exact Nat.zero_le _
    | some q =>
      obtain ⟨s, rfl, h1, _⟩ := RecP.textR_some h
      show (bS q).size ≤ (bS s).size
      rw [bS_size, bS_size, h1, List.length_append]
      omega
theorem sz_flag (st : RecP.St) : (sB (RecP.flagR st).2).size ≤ (sB st).size := by
  cases h : RecP.flagR st with
  | mk n o =>
    cases o with
    | none => exact Nat.zero_le _
    | some q =>
      obtain ⟨s, rfl, h1⟩ := RecP.flagR_some h
      show (bS q).size ≤ (bS s).size
      rw [bS_size, bS_size, h1, List.length_append]
      omega
theorem sz_write (st : RecP.St) : (sB (RecP.writeR st).2).size ≤ (sB st).size :=
  Nat.le_trans (sz_text 4096 _) (Nat.le_trans (sz_flag _) (sz_text 400 st))
theorem write_none : (RecP.writeR none).2 = none := rfl
theorem sz_times {α : Type} {f : RecP.St → α × RecP.St} (hf : ∀ st, (sB (f st).2).size ≤ (sB st).size) (n : Nat) : ∀ st, (sB (RecP.timesR f n st).2).size ≤ (sB st).size := by
  induction n with
  | zero => intro st; exact Nat.le_refl _
  | succ n ih => intro st; exact Nat.le_trans (ih (f st).2) (hf st)
theorem times_none {α : Type} {f : RecP.St → α × RecP.St} (hf : (f none).2 = none) {i n : Nat} (h : i ≤ n) {st : RecP.St} (hi : (RecP.timesR f i st).2 = none) : (RecP.timesR f n st).2 = none := by
  obtain ⟨d, rfl⟩ : ∃ d, n = i + d := ⟨n - i, by omega⟩
  clear h
  induction d with
  | zero => exact hi
  | succ d ih =>
    rw [show i + (d + 1) = (i + d) + 1 by omega, RecP.timesR_succ]
    show (f (RecP.timesR f (i + d) st).2).2 = none
    rw [ih, hf]
set_option maxHeartbeats 16000000 in
theorem rd_writes (h : RdAt w r st) (hl : (sB st).size ≤ 100000000) (most : Int) (hm0 : 0 ≤ most) (hm : most ≤ 100000000) :
    Calls Try.prog 74 #[.pointer (some ⟨r, 0, none⟩), .int .i64 most] w fun e w' => ∃ v ws, e = .returned v ∧ Kd.R k31 31 w' 0 (fun k => w.heap.size ≤ k) v ws ∧ RdAt w' r (RecP.writesR most.toNat st).2 ∧ Fr (oneB r) w w' ∧ (∀ s, (RecP.writesR most.toNat st).2 = some s → ws = (RecP.writesR most.toNat st).1.map fromR) ∧ ws.length ≤ most.toNat := by
  have HN := Aside0.mk (rd_num h hl most (by omega))
  have HRL : Aside0 (r < w.heap.size) := ⟨h.lt⟩
  unfold RecP.writesR
  have HS1 : Aside0 ((sB (RecP.numR most.toNat st).2).size ≤ 100000000) := ⟨Nat.le_trans (sz_num _ _) hl⟩
  have HNL : Aside0 ((RecP.numR most.toNat st).1 ≤ most.toNat) := ⟨RecP.numR_le _ _⟩
  generalize (RecP.numR most.toNat st).2 = st1 at *
  generalize (RecP.numR most.toNat st).1 = n at *
  have HMT : Aside0 (most.toNat ≤ 100000000) := ⟨by omega⟩
  clear h hl hm hm0
  generalize most.toNat = mt at *
  go_enter Try.func74, Try.ntmps74
  go_wp2_with (go_at_call 73; refine HN.out.mono ?_; rintro e w1 ⟨rfl, h1, h2⟩; have H1 := Aside0.mk h1; have H2 := Aside0.mk h2; clear h1 h2)
  go_loopg [9, 5] (n + 1) (fun kq v9 v5 wq => ∃ (i : Nat) (ws : List Wr), v9 = .int .i64 (i : Int) ∧ i ≤ n ∧ n - i < kq ∧ Aside0 (Kd.R k31 31 wq 0 (fun k => w.heap.size ≤ k) v5 ws) ∧ Aside0 (RdAt wq r (RecP.timesR RecP.writeR i st1).2) ∧ Aside0 (Fr (oneB r) w wq) ∧ Aside0 (∀ s, (RecP.timesR RecP.writeR i st1).2 = some s → ws = (RecP.timesR RecP.writeR i st1).1.map fromR) ∧ Aside0 (ws.length = i))
  case atStart => exact ⟨0, [], rfl, Nat.zero_le _, by omega, ⟨Kd.R_nil _ _ _ _ _⟩, H1, H2, ⟨fun s hs => rfl⟩, ⟨rfl⟩⟩
  case round =>
    clear H1 H2
    obtain ⟨i, ws, rfl, hi, hk, HRW, HRD, HFR, HEQ, HLN⟩ := hrel
    have hnl := HNL.out
    have hmt := HMT.out
    by_cases hlt : i < n
    · have z0 : (0 : Int) ≤ (i : Int) := by omega
      have z1 : (i : Int) < (n : Int) := by omega
      have HER := Aside0.mk (rd_err HRD.out)
      have hsc := RecP.timesR_succ RecP.writeR i st1
      have HSZ := Nat.le_trans (sz_times sz_write i st1) HS1.out
      have HNN : Aside0 ((RecP.timesR RecP.writeR i st1).2 = none → (RecP.timesR RecP.writeR n st1).2 = none) := ⟨times_none write_none hi⟩
      cases hsi : (RecP.timesR RecP.writeR i st1).2 with
      | none =>
        rw [hsi] at HER HRD HNN
        have hnn := HNN.out rfl
        have HNX := Aside0.mk hnn
        have HW0 : Aside0 (Kd.R k31 31 wr 0 (fun k => w.heap.size ≤ k) (.slice none 0 0) []) := ⟨Kd.R_nil _ _ _ _ _⟩
        clear hsi hsc hnn
        go_wp2_with (go_at_call 75; refine HER.out.mono ?_; rintro e w2 ⟨rfl, rfl⟩)
        go_ret
        exact ⟨_, [], rfl, HW0.out, (by rw [HNX.out]; exact HRD.out), HFR.out, (by rw [HNX.out]; intro s hs; cases hs), Nat.zero_le _⟩
      | some si =>
        rw [hsi] at HER HRD HSZ hsc
        have HEQ2 := Aside0.mk (HEQ.out si hsi)
        have HTX := Aside0.mk (rd_text HRD.out HSZ 400 (by decide))
        have HSZ1 := Aside0.mk (Nat.le_trans (sz_text 400 (some si)) HSZ)
        have hwr : RecP.writeR (some si) = (⟨(RecP.textR 400 (some si)).1, (RecP.textR 4096 (RecP.flagR (RecP.textR 400 (some si)).2).2).1, (RecP.flagR (RecP.textR 400 (some si)).2).1⟩, (RecP.textR 4096 (RecP.flagR (RecP.textR 400 (some si)).2).2).2) := rfl
        rw [hwr] at hsc
        have HSF := Aside0.mk (sz_flag (RecP.textR 400 (some si)).2)
        change Aside0 (Calls Try.prog 98 #[.pointer (some ⟨r, 0, none⟩), .int .i64 400] wr (RdPost wr r (RecP.textR 400 (some si)).2 (.string (bS (RecP.textR 400 (some si)).1)))) at HTX
        generalize RecP.textR 400 (some si) = p1 at *
        obtain ⟨x1, s1⟩ := p1
        simp only at hsc HTX HSZ1 HSF
        obtain ⟨p2, hp2⟩ : ∃ p2, p2 = RecP.flagR s1 := ⟨_, rfl⟩
        rw [← hp2] at hsc HSF
        have HP2 := Aside0.mk hp2
        obtain ⟨x2, s2⟩ := p2
        simp only at hsc HSF
        obtain ⟨p3, hp3⟩ : ∃ p3, p3 = RecP.textR 4096 s2 := ⟨_, rfl⟩
        rw [← hp3] at hsc
        have HP3 := Aside0.mk hp3
        obtain ⟨x3, s3⟩ := p3
        simp only at hsc
        have HSC := Aside0.mk hsc
        have HSF2 : Aside0 ((sB s2).size ≤ 100000000) := ⟨Nat.le_trans HSF.out HSZ1.out⟩
        obtain ⟨y, hy⟩ : ∃ y : Wr, y = ⟨bS x1, bS x3, x2⟩ := ⟨_, rfl⟩
        have HY := Aside0.mk hy
        have y0 : bS x1 = y.f0 := by rw [hy]
        have y1 : bS x3 = y.f1 := by rw [hy]
        have y2 : x2 = y.f2 := by rw [hy]
        have HLB : Aside0 ((ws.length + 1) * 40 ≤ 140737488355328) := ⟨by rw [HLN.out]; omega⟩
        have HY0 := Aside0.mk y0
        have HY1 := Aside0.mk y1
        have HY2 := Aside0.mk y2
        have HSI := Aside0.mk hsi
        obtain ⟨A5, c5, e5⟩ := Kd.R_slice HRW.out
        subst e5
        clear hsi hsc hwr hp2 hp3 hy y0 y1 y2 HSZ hnl hmt
        go_wp2_with (first
          | (go_at_call 75; refine HER.out.mono ?_; rintro e w2 ⟨rfl, rfl⟩)
          | (go_at_call 98; refine HTX.out.mono ?_; rintro e w3 ⟨rfl, h1, h2⟩
             rw [HY0.out]
             have HF3 := Aside0.mk h2
             have HFL := Aside0.mk (rd_flag h1)
             rw [← HP2.out] at HFL
             clear h1 h2 HTX)
          | (go_at_call 99; refine HFL.out.mono ?_; rintro e w4 ⟨rfl, h1, h2⟩
             rw [HY2.out]
             have HF4 := Aside0.mk (HF3.out.trans h2)
             have HTY := Aside0.mk (rd_text h1 HSF2.out 4096 (by decide))
             change Aside0 (Calls Try.prog 98 #[.pointer (some ⟨r, 0, none⟩), .int .i64 4096] w4 (RdPost w4 r (RecP.textR 4096 s2).2 (.string (bS (RecP.textR 4096 s2).1)))) at HTY
             rw [← HP3.out] at HTY
             clear h1 h2 HFL HF3)
          | (go_at_call 98; refine HTY.out.mono ?_; rintro e w5 ⟨rfl, h1, h2⟩
             rw [HY1.out]
             have HF5 := Aside0.mk (HF4.out.trans h2)
             have HR5 := Aside0.mk h1
             have HRW5 : Aside0 (Kd.R k31 31 w5 0 (fun k => w.heap.size ≤ k) (.slice A5 ws.length c5) ws) := ⟨Kd.R_step HRW.out (fun k hk hl => HF5.out.block k hl (fun e => by have := HRL.out; have e' : k = r := e; omega))⟩
             have HSG : Aside0 (w.heap.size ≤ w5.heap.size) := ⟨Nat.le_trans HFR.out.size HF5.out.size⟩
             clear h1 h2 HTY HF4)
          | ((with_reducible refine gate_builtin (b := .append) (xs := #[.tmp 14, .tmp 22]) rfl ?_); at_builtin
             refine Kd.R_append k31 (w0 := w5) 0 rfl (.tmp 14) (.tmp 22) 22 31 (.agg #[.string ⟨#[]⟩, .string ⟨#[]⟩, .bool false]) 40 rfl Try.underlying22 info31 rfl (by decide) (by decide) (.slice A5 ws.length c5) ws y [.string y.f0, .string y.f1, .bool y.f2] (fun k => w.heap.size ≤ k) (fun _ => False) rfl ?hx (k31_mkM _ _ _ y) (fun k h => h.elim) (fun k hk => Nat.le_trans HSG.out hk) HRW5.out (Below.refl _ _) (Nat.zero_le _) HLB.out ?_
             case hx => show Value.slice _ 1 1 = Value.slice _ 1 1; first | rfl | (rw [World.size_alloc])
             intro v9 w9 g1 g2 g3 g4
             have G1 := Aside0.mk g1
             have HFR9 : Aside0 (Fr (oneB r) w w9) := ⟨by
               have hf := HFR.out.trans HF5.out
               exact ⟨g3.os.trans hf.os, g3.tape.trans hf.tape, g3.output.trans hf.output, Nat.le_trans hf.size g3.size, fun k hk hn => (g3.block k (Nat.lt_of_lt_of_le hk hf.size) (fun e => by have h1 : w.heap.size ≤ k := HRW5.out.1 k e.symm; omega)).trans (hf.block k hk hn)⟩⟩
             have HR9 : Aside0 (RdAt w9 r s3) := ⟨⟨(g3.block r HR5.out.lt (fun e => by have h1 : w.heap.size ≤ r := HRW5.out.1 r e.symm; have := HRL.out; omega)).trans HR5.out.head⟩⟩
             clear g1 g2 g3 g4))
        go_roundg (gk - 1)
        case measure => omega
        case rel =>
          have hnl := HNL.out
          have hmt := HMT.out
          refine ⟨i + 1, ws ++ [y], congrArg (Value.int .i64) ((w64 (by omega) (by omega)).trans (by omega)), by omega, by omega, G1, ⟨?_⟩, HFR9, ⟨?_⟩, ⟨?_⟩⟩
          · rw [HSC.out]
            exact HR9.out
          · intro s hs
            rw [HSC.out]
            show ws ++ [y] = List.map fromR ((RecP.timesR RecP.writeR i st1).1 ++ [⟨x1, x3, x2⟩])
            rw [List.map_append, ← HEQ2.out, HY.out]
            rfl
          · rw [List.length_append, HLN.out]
            rfl
    · have hiz : i = n := by omega
      subst hiz
      go_wp2
      go_ret
      exact ⟨_, ws, rfl, HRW.out, HRD.out, HFR.out, HEQ.out, by rw [HLN.out]; omega⟩
end Go.Proofs.Ytmafibbnojdpjaa.St
end
section
set_option linter.unusedVariables false
set_option maxRecDepth 100000
set_option linter.unusedSimpArgs false
namespace Go.Proofs.Ytmafibbnojdpjaa.St
open Go.Proofs.Ytmafibbnojdpjaa.Tr Go.RowKit Go.Proofs.YtmafibbnojdpjaaW.PrintWords Go.Proofs.YtmafibbnojdpjaaW.PrintLast Go.Proofs.YtmafibbnojdpjaaW.PrintMore Go.Proofs.Ytmafibbnojdpjaa.P
variable {w w' : World} {r : Nat} {st : RecP.St}
theorem fr_setNew {F : Nat → Prop} (h : Fr F w w') {g : Nat} (hg : w.heap.size ≤ g) (i : Nat) (v : Value) : Fr F w (w'.setCell ⟨g, i, none⟩ v) := ⟨h.os, h.tape, h.output, by rw [World.size_setCell]; exact h.size, fun k hk hn => (heap_setCell_other _ _ _ _ (by show k ≠ g; omega)).trans (h.block k hk hn)⟩
theorem fr_other {F : Nat → Prop} {i : Nat} {o : Obj} (hF : Fr F w w') (h : w.heap[i]? = some o) (hi : ¬ F i) : w'.heap[i]? = some o := (hF.block i (blk_lt h) hi).trans h
set_option maxHeartbeats 16000000 in
theorem rd_commit (h : RdAt w r st) (hl : (sB st).size ≤ 100000000) :
    Calls Try.prog 70 #[.pointer (some ⟨r, 0, none⟩)] w fun e w' => ∃ v ws, e = .returned (.agg #[.int .i64 ((RecP.commitR st).1.q : Int), .int .i64 ((RecP.commitR st).1.t : Int), v]) ∧ Kd.R k31 31 w' 0 (fun k => w.heap.size ≤ k) v ws ∧ RdAt w' r (RecP.commitR st).2 ∧ Fr (oneB r) w w' ∧ (∀ s, (RecP.commitR st).2 = some s → ws = (RecP.commitR st).1.ws.map fromR) ∧ ws.length ≤ 200 := by
  have hb0 : Below w.heap.size w (w.alloc (.cells #[.int .i64 0, .int .i64 0, .slice none 0 0] 28)) := below_alloc (Below.refl _ _) _
  have H0 := Aside0.mk (h.below hb0)
  have HRL : Aside0 (r < w.heap.size) := ⟨h.lt⟩
  have HN := Aside0.mk (rd_num (h.below hb0) hl 1099511627776 (by decide))
  have HX := Aside0.mk (heap_alloc_new w (.cells #[.int .i64 0, .int .i64 0, .slice none 0 0] 28))
  have HF0 : Aside0 (Fr (oneB r) w (w.alloc (.cells #[.int .i64 0, .int .i64 0, .slice none 0 0] 28))) := ⟨Fr.below hb0⟩
  unfold RecP.commitR
  rw [show (1099511627776 : Int).toNat = 1099511627776 from rfl] at HN
  have HS1 : Aside0 ((sB (RecP.numR 1099511627776 st).2).size ≤ 100000000) := ⟨Nat.le_trans (sz_num _ _) hl⟩
  generalize RecP.numR 1099511627776 st = p1 at *
  obtain ⟨n1, st1⟩ := p1
  have HS2 : Aside0 ((sB (RecP.numR 1099511627776 st1).2).size ≤ 100000000) := ⟨Nat.le_trans (sz_num _ _) HS1.out⟩
  obtain ⟨p2, hp2⟩ : ∃ p2, p2 = RecP.numR 1099511627776 st1 := ⟨_, rfl⟩
  have HP2 := Aside0.mk hp2
  dsimp only at *
  rw [← hp2] at HS2 ⊢
  obtain ⟨n2, st2⟩ := p2
  dsimp only at *
  clear h hl hb0 hp2
  go_enter Try.func70, Try.ntmps70
  go_wp2_with (first
    | (go_at_call 73; refine HN.out.mono ?_; rintro e w1 ⟨rfl, h1, h2⟩
       have HM := rd_num h1 HS1.out 1099511627776 (by decide)
       rw [show (1099511627776 : Int).toNat = 1099511627776 from rfl, ← HP2.out] at HM
       have HM := Aside0.mk HM
       have HX1 := Aside0.mk (fr_other h2 HX.out (fun e => by have := HRL.out; have e' : w.heap.size = r := e; omega))
       have HF1 := Aside0.mk (HF0.out.trans h2)
       clear h1 h2 HN)
    | (go_at_call 73; refine HM.out.mono ?_; rintro e w2 ⟨rfl, h1, h2⟩
       have HX2 := Aside0.mk (fr_other h2 HX1.out (fun e => by have := HRL.out; have e' : w.heap.size = r := e; omega))
       have HF2 := Aside0.mk (HF1.out.trans h2)
       have hb2 : Below w2.heap.size w2 (w2.alloc (.cells #[.int .i64 (n1 : Int), .int .i64 (n2 : Int), .slice none 0 0] 28)) := below_alloc (Below.refl _ _) _
       have HW := Aside0.mk (rd_writes (h1.below hb2) HS2.out 200 (by decide) (by decide))
       have HX3 := Aside0.mk (blk_below HX2.out hb2)
       have HC3 := Aside0.mk (heap_alloc_new w2 (.cells #[.int .i64 (n1 : Int), .int .i64 (n2 : Int), .slice none 0 0] 28))
       have HF3 := Aside0.mk (HF2.out.trans (Fr.below hb2))
       clear h1 h2 HM hb2)
    | (go_at_call 74; refine HW.out.mono ?_; rintro e w4 ⟨v, ws, rfl, h1, h2, h3, h4, h5⟩
       obtain ⟨A, c, ev⟩ := Kd.R_slice h1
       have H6 := Aside0.mk h5
       generalize ws.length = nw at ev h5
       subst ev
       have hwl : w.heap.size < w2.heap.size := blk_lt HX2.out
       have x0 := fr_other h3 HX3.out (fun e => by have := HRL.out; have e' : w.heap.size = r := e; omega)
       have x1 := fr_other h3 HC3.out (fun e => by have := HRL.out; have e' : w2.heap.size = r := e; omega)
       have t0 : w4.cell? ⟨w2.heap.size, 0, none⟩ = some (.int .i64 (n1 : Int)) := (cell_of_row _ _ _ _ _ _ x1).trans rfl
       have t1 : w4.cell? ⟨w2.heap.size, 1, none⟩ = some (.int .i64 (n2 : Int)) := (cell_of_row _ _ _ _ _ _ x1).trans rfl
       have t2 : w4.cell? ⟨w2.heap.size, 2, none⟩ = some (.slice none 0 0) := (cell_of_row _ _ _ _ _ _ x1).trans rfl
       have z2 : w4.frozen? ⟨w2.heap.size, 2, none⟩ = false := by simp [World.frozen?, x1]
       have x3 : (w4.setCell ⟨w2.heap.size, 2, none⟩ (.slice A nw c)).heap[w.heap.size]? = some (.cells #[.int .i64 0, .int .i64 0, .slice none 0 0] 28) := (heap_setCell_other _ _ _ _ (by show w.heap.size ≠ w2.heap.size; omega)).trans x0
       have X3 := Aside0.mk x3
       have s0 : (w4.setCell ⟨w2.heap.size, 2, none⟩ (.slice A nw c)).cell? ⟨w.heap.size, 0, none⟩ = some (.int .i64 0) := (cell_of_row _ _ _ _ _ _ x3).trans rfl
       have s1 : (w4.setCell ⟨w2.heap.size, 2, none⟩ (.slice A nw c)).cell? ⟨w.heap.size, 1, none⟩ = some (.int .i64 0) := (cell_of_row _ _ _ _ _ _ x3).trans rfl
       have s2 : (w4.setCell ⟨w2.heap.size, 2, none⟩ (.slice A nw c)).cell? ⟨w.heap.size, 2, none⟩ = some (.slice none 0 0) := (cell_of_row _ _ _ _ _ _ x3).trans rfl
       have y0 : (w4.setCell ⟨w2.heap.size, 2, none⟩ (.slice A nw c)).frozen? ⟨w.heap.size, 0, none⟩ = false := by simp [World.frozen?, x3]
       have y1 : (w4.setCell ⟨w2.heap.size, 2, none⟩ (.slice A nw c)).frozen? ⟨w.heap.size, 1, none⟩ = false := by simp [World.frozen?, x3]
       have y2 : (w4.setCell ⟨w2.heap.size, 2, none⟩ (.slice A nw c)).frozen? ⟨w.heap.size, 2, none⟩ = false := by simp [World.frozen?, x3]
       have H1 := Aside0.mk h1
       have H2 := Aside0.mk h2
       have H3 := Aside0.mk (HF3.out.trans h3)
       have H4 := Aside0.mk h4
       have H5 := Aside0.mk h5
       have HWL := Aside0.mk hwl
       clear h1 h2 h3 h4 h5 x0 x1 x3 hwl HW))
  have far : ∀ {W : World} (g i : Nat) (u : Value), w.heap.size < g + 1 → (∀ k, (w2.alloc (.cells #[.int .i64 (n1 : Int), .int .i64 (n2 : Int), .slice none 0 0] 28)).heap.size ≤ k → k ≠ g) → Kd.R k31 31 W 0 (fun k => (w2.alloc (.cells #[.int .i64 (n1 : Int), .int .i64 (n2 : Int), .slice none 0 0] 28)).heap.size ≤ k) (.slice A nw c) ws → Kd.R k31 31 (W.setCell ⟨g, i, none⟩ u) 0 (fun k => (w2.alloc (.cells #[.int .i64 (n1 : Int), .int .i64 (n2 : Int), .slice none 0 0] 28)).heap.size ≤ k) (.slice A nw c) ws := fun g i u _ hg h => Kd.R_far h hg u
  have hsz : (w2.alloc (.cells #[.int .i64 (n1 : Int), .int .i64 (n2 : Int), .slice none 0 0] 28)).heap.size = w2.heap.size + 1 := World.size_alloc _ _
  have hwl := HWL.out
  have e1 : ∀ k, (w2.alloc (.cells #[.int .i64 (n1 : Int), .int .i64 (n2 : Int), .slice none 0 0] 28)).heap.size ≤ k → k ≠ w2.heap.size := fun k hk => by omega
  have e2 : ∀ k, (w2.alloc (.cells #[.int .i64 (n1 : Int), .int .i64 (n2 : Int), .slice none 0 0] 28)).heap.size ≤ k → k ≠ w.heap.size := fun k hk => by omega
  refine bodyPost_ret (results_cell_row rfl _ _ w.heap.size 28 #[.int .i64 (n1 : Int), .int .i64 (n2 : Int), .slice A nw c] (0, 0) _ rfl ?_ Try.underlying28 rfl (by kernel_rfl)) rfl ⟨_, ws, rfl, ?_, ?_, ?_, ?_, ?_⟩
  · exact (heap_setCell_at _ w.heap.size 2 _ _ _ _ (heap_setCell_at _ w.heap.size 1 _ _ _ _ (heap_setCell_at _ w.heap.size 0 _ _ _ (.int .i64 (n1 : Int)) X3.out))).trans rfl
  · exact Kd.R_mono (Kd.R_far (Kd.R_far (Kd.R_far (Kd.R_far H1.out e1 _) e2 _) e2 _) e2 _) (fun k hk => by have hk' := Nat.le_trans (Nat.le_of_eq hsz.symm) hk; omega)
  · have hr := HRL.out
    exact ⟨(heap_setCell_other _ _ _ _ (by show r ≠ w.heap.size; omega)).trans ((heap_setCell_other _ _ _ _ (by show r ≠ w.heap.size; omega)).trans ((heap_setCell_other _ _ _ _ (by show r ≠ w.heap.size; omega)).trans ((heap_setCell_other _ _ _ _ (by show r ≠ w2.heap.size; omega)).trans H2.out.head)))⟩
  · exact fr_setNew (fr_setNew (fr_setNew (fr_setNew H3.out (by omega) _ _) (Nat.le_refl _) _ _) (Nat.le_refl _) _ _) (Nat.le_refl _) _ _
  · exact H4.out
  · exact H6.out
end Go.Proofs.Ytmafibbnojdpjaa.St
end
section
set_option linter.unusedVariables false
set_option maxRecDepth 100000
set_option linter.unusedSimpArgs false
namespace Go.Proofs.Ytmafibbnojdpjaa.St
open Go.Proofs.Ytmafibbnojdpjaa.Tr Go.RowKit Go.Proofs.YtmafibbnojdpjaaW.PrintWords Go.Proofs.YtmafibbnojdpjaaW.PrintLast Go.Proofs.YtmafibbnojdpjaaW.PrintMore Go.Proofs.Ytmafibbnojdpjaa.P
open Go.Proofs.Ytmafibbnojdpjaa.FrEv (ev_pos ev_neg ev_bind)
variable {w w' : World} {r : Nat} {st : RecP.St}
/-- what rec.Commit answers -/
def commitA (q t : Int) (ws : List RecP.Wr) : ByteArray × Int := if RecEv.rightC q t ws then (FrEv.B (RecP.commitE q.toNat t.toNat ws), 0) else (FrEv.B [], 1)
theorem rises_small (lt : List UInt8 → List UInt8 → Bool) : ∀ (ws : List RecP.Wr) (p : Option (List UInt8)), RecP.risesFrom lt p ws = true → ∀ w ∈ ws, w.key.length ≤ 400 ∧ w.val.length ≤ 4096
  | [], _, _, w, hw => by simp at hw
  | x :: ws, p, h, w, hw => by
    simp only [RecP.risesFrom, Bool.and_eq_true, decide_eq_true_eq] at h
    rcases List.mem_cons.1 hw with rfl | hw
    · exact ⟨h.1.1.1.1.2, h.1.1.1.2⟩
    · exact rises_small lt ws _ h.2 w hw
theorem bulk_small (ws : List RecP.Wr) (h : ∀ w ∈ ws, w.key.length ≤ 400 ∧ w.val.length ≤ 4096) : RecEv.bulk ws ≤ 5000 * ws.length := by
  induction ws with
  | nil => simp [RecEv.bulk]
  | cons w ws ih =>
    have := h w List.mem_cons_self
    have := ih (fun x hx => h x (List.mem_cons_of_mem _ hx))
    rw [RecEv.bulk_cons, List.length_cons]
    omega
theorem right_facts (q t : Int) (ws : List RecP.Wr) (h : RecEv.rightC q t ws = true) : 1 ≤ q ∧ q ≤ 1099511627776 ∧ 0 ≤ t ∧ t ≤ 1099511627776 ∧ ws.length ≤ 200 ∧ (∀ w ∈ ws, w.key.length ≤ 400 ∧ w.val.length ≤ 4096) ∧ RecEv.bulk ws ≤ 5000 * ws.length := by
  simp only [RecEv.rightC, RecEv.rightW, Bool.and_eq_true, decide_eq_true_eq] at h
  have hs := rises_small _ ws none h.2.2
  exact ⟨h.1.1.1.1, h.1.1.1.2, h.1.1.2, h.1.2, h.2.1, hs, bulk_small ws hs⟩
theorem commitA_ev (q t : Int) (ws : List RecP.Wr) (hn : ws.length < 4611686018427387904) : Ev (fun k => rec_Commit.f k q t (ws.map RecEv.toS)) (commitA q t ws) := by
  unfold rec_Commit.f commitA
  refine ev_bind (RecEv.rightC_ev q t ws hn) ?_
  cases h : RecEv.rightC q t ws with
  | false => exact ev_neg (by simp) (Ev.now _)
  | true =>
    obtain ⟨h1, h2, h3, h4, h5, _, h7⟩ := right_facts q t ws h
    obtain ⟨q, rfl⟩ := Int.eq_ofNat_of_zero_le (show 0 ≤ q by omega)
    obtain ⟨t, rfl⟩ := Int.eq_ofNat_of_zero_le h3
    refine ev_pos rfl ?_
    have := RecEv.commit_ev [] q t ws (by simp; omega) (by omega) (by omega) (by omega)
    refine ev_bind this ?_
    rw [List.nil_append, RecEv.I_str]
    exact Ev.now _
/-- rec.Commit -/
theorem commit_call (q t : Int) (ws : List RecP.Wr) (A : Option Addr) (c : Nat) (hr : Kd.C k31 w A ws.length (ws.map fromR)) (hc : ws.length ≤ c) (hn : ws.length < 4611686018427387904) :
    Calls Try.prog 40 #[.agg #[.int .i64 q, .int .i64 t, .slice A ws.length c]] w fun e w' => e = .returned (.tuple #[.string (commitA q t ws).1, .int .i64 (commitA q t ws).2]) ∧ Below w.heap.size w w' := by
  obtain ⟨k, hk⟩ := (commitA_ev q t ws hn).rounds
  have := rec_Commit.calls k q t A c (ws.map fromR) (commitA q t ws).1 (commitA q t ws).2 w (by rw [List.length_map]; exact hr) (by rw [List.length_map]; exact hc) hk
  rw [List.length_map] at this
  exact this
/-- rec.right -/
theorem right_call (q t : Int) (ws : List RecP.Wr) (A : Option Addr) (c : Nat) (hr : Kd.C k31 w A ws.length (ws.map fromR)) (hc : ws.length ≤ c) (hn : ws.length < 4611686018427387904) :
    Calls Try.prog 72 #[.agg #[.int .i64 q, .int .i64 t, .slice A ws.length c]] w fun e w' => e = .returned (.bool (RecEv.rightC q t ws)) ∧ Below w.heap.size w w' := by
  obtain ⟨k, hk⟩ := (RecEv.rightC_ev q t ws hn).rounds
  have := rec_right.calls k q t A c (ws.map fromR) (RecEv.rightC q t ws) w (by rw [List.length_map]; exact hr) (by rw [List.length_map]; exact hc) hk
  rw [List.length_map] at this
  exact this
/-- octet.Read -/
theorem rd_new (s : List UInt8) (w : World) : Calls Try.prog 69 #[.string (bS s)] w fun e w' => ∃ g : Nat, e = .returned (.pointer (some ⟨g, 0, none⟩)) ∧ w.heap.size ≤ g ∧ RdAt w' g (some s) ∧ Below w.heap.size w w' := by
  refine (octet_Read.calls (bS s) (bS s) false w w (Below.refl _ _) rfl).mono ?_
  rintro e w' ⟨g, rfl, ⟨h1, h2⟩, h3, _⟩
  exact ⟨g, rfl, h2, ⟨h1⟩, h3⟩
/-- what ReadCommit answers -/
def readC (s : List UInt8) : Option RecP.Ct := if endO (RecP.commitR (some s)).2 && RecEv.rightC (RecP.commitR (some s)).1.q (RecP.commitR (some s)).1.t (RecP.commitR (some s)).1.ws then some (RecP.commitR (some s)).1 else none
end Go.Proofs.Ytmafibbnojdpjaa.St
end
section
set_option linter.unusedVariables false
set_option maxRecDepth 100000
set_option linter.unusedSimpArgs false
namespace Go.Proofs.Ytmafibbnojdpjaa.St
open Go.Proofs.Ytmafibbnojdpjaa.Tr Go.RowKit Go.Proofs.YtmafibbnojdpjaaW.PrintWords Go.Proofs.YtmafibbnojdpjaaW.PrintLast Go.Proofs.YtmafibbnojdpjaaW.PrintMore Go.Proofs.Ytmafibbnojdpjaa.P
variable {w w' : World} {r : Nat} {st : RecP.St}
theorem fr_one_below {g : Nat} {W : World} (h : Below w.heap.size w W) (hg : w.heap.size ≤ g) (h2 : Fr (oneB g) W w') : Below w.heap.size w w' :=
  h.trans ⟨h2.os, h2.tape, h2.output, h2.size, fun k hk => h2.block k (Nat.lt_of_lt_of_le hk h.size) (fun e => by have e' : k = g := e; omega)⟩
set_option maxHeartbeats 16000000 in
theorem readCommit_call (s : List UInt8) (hl : s.length ≤ 100000000) :
    Calls Try.prog 39 #[.string (bS s)] w fun e w' => Below w.heap.size w w' ∧ ((readC s = none ∧ e = .returned (.tuple #[.agg #[.int .i64 0, .int .i64 0, .slice none 0 0], .int .i64 2])) ∨ ∃ c A cap, readC s = some c ∧ e = .returned (.tuple #[.agg #[.int .i64 (c.q : Int), .int .i64 (c.t : Int), .slice A c.ws.length cap], .int .i64 0]) ∧ Kd.C k31 w' A c.ws.length (c.ws.map fromR) ∧ c.ws.length ≤ cap) := by
  have hb0 : Below w.heap.size w (w.alloc (.cells #[.int .i64 0, .int .i64 0, .slice none 0 0] 28)) := below_alloc (Below.refl _ _) _
  have HB0 := Aside0.mk hb0
  have HN := Aside0.mk (rd_new s (w.alloc (.cells #[.int .i64 0, .int .i64 0, .slice none 0 0] 28)))
  have HX := Aside0.mk (heap_alloc_new w (.cells #[.int .i64 0, .int .i64 0, .slice none 0 0] 28))
  have HLS : Aside0 ((sB (some s)).size ≤ 100000000) := ⟨by show (bS s).size ≤ _; rw [bS_size]; exact hl⟩
  have HM : Aside0 (∀ g W, RdAt W g (some s) → Calls Try.prog 70 #[.pointer (some ⟨g, 0, none⟩)] W fun e w' => ∃ v ws, e = .returned (.agg #[.int .i64 ((RecP.commitR (some s)).1.q : Int), .int .i64 ((RecP.commitR (some s)).1.t : Int), v]) ∧ Kd.R k31 31 w' 0 (fun k => W.heap.size ≤ k) v ws ∧ RdAt w' g (RecP.commitR (some s)).2 ∧ Fr (oneB g) W w' ∧ (∀ s', (RecP.commitR (some s)).2 = some s' → ws = (RecP.commitR (some s)).1.ws.map fromR) ∧ ws.length ≤ 200) := ⟨fun g W h => rd_commit h HLS.out⟩
  unfold readC
  clear hl hb0
  generalize RecP.commitR (some s) = p at *
  obtain ⟨c, sr⟩ := p
  dsimp only at *
  generalize ho : (if (endO sr && RecEv.rightC (c.q : Int) (c.t : Int) c.ws) = true then some c else none) = o
  cases hen : endO sr with
  | false =>
    have HO : Aside0 (o = none) := ⟨by rw [← ho, hen]; rfl⟩
    clear ho
    go_enter Try.func39, Try.ntmps39
    go_wp2_with (first
      | (go_at_call 69; refine HN.out.mono ?_; rintro e w1 ⟨g, rfl, h1, h2, h3⟩
         have HG : Aside0 (w.heap.size < g) := ⟨by have := World.size_alloc w (.cells #[.int .i64 0, .int .i64 0, .slice none 0 0] 28); omega⟩
         have HC := Aside0.mk (HM.out g w1 h2)
         have HX1 := Aside0.mk (blk_below HX.out h3)
         have HB1 := Aside0.mk (below_step HB0.out h3)
         clear h1 h2 h3 HN)
      | (go_at_call 70; refine HC.out.mono ?_; rintro e w2 ⟨v, ws, rfl, h1, h2, h3, h4, h5⟩
         obtain ⟨A, cp, ev⟩ := Kd.R_slice h1
         have HB2 := Aside0.mk (fr_one_below HB1.out (Nat.le_of_lt HG.out) h3)
         have HX2 := Aside0.mk (fr_other h3 HX1.out (fun e => by have := HG.out; have e' : w.heap.size = g := e; omega))
         rw [ev]
         generalize ws.length = nw at *
         have HB3 := Aside0.mk (below_alloc (Below.refl w2.heap.size w2) (.cells #[.int .i64 (c.q : Int), .int .i64 (c.t : Int), .slice A nw cp] 28))
         have HE := Aside0.mk (rd_end (h2.below HB3.out))
         rw [hen] at HE
         have x2 := blk_below HX2.out HB3.out
         have s0 : (w2.alloc (.cells #[.int .i64 (c.q : Int), .int .i64 (c.t : Int), .slice A nw cp] 28)).cell? ⟨w.heap.size, 0, none⟩ = some (.int .i64 0) := (cell_of_row _ _ _ _ _ _ x2).trans rfl
         have s1 : (w2.alloc (.cells #[.int .i64 (c.q : Int), .int .i64 (c.t : Int), .slice A nw cp] 28)).cell? ⟨w.heap.size, 1, none⟩ = some (.int .i64 0) := (cell_of_row _ _ _ _ _ _ x2).trans rfl
         have s2 : (w2.alloc (.cells #[.int .i64 (c.q : Int), .int .i64 (c.t : Int), .slice A nw cp] 28)).cell? ⟨w.heap.size, 2, none⟩ = some (.slice none 0 0) := (cell_of_row _ _ _ _ _ _ x2).trans rfl
         have y0 : (w2.alloc (.cells #[.int .i64 (c.q : Int), .int .i64 (c.t : Int), .slice A nw cp] 28)).frozen? ⟨w.heap.size, 0, none⟩ = false := by simp only [World.frozen?, x2]; rfl
         have y1 : (w2.alloc (.cells #[.int .i64 (c.q : Int), .int .i64 (c.t : Int), .slice A nw cp] 28)).frozen? ⟨w.heap.size, 1, none⟩ = false := by simp only [World.frozen?, x2]; rfl
         have y2 : (w2.alloc (.cells #[.int .i64 (c.q : Int), .int .i64 (c.t : Int), .slice A nw cp] 28)).frozen? ⟨w.heap.size, 2, none⟩ = false := by simp only [World.frozen?, x2]; rfl
         have X2 := Aside0.mk x2
         clear h1 h2 h3 h4 h5 ev HC x2)
      | (go_at_call 71; refine HE.out.mono ?_; rintro e w3 ⟨rfl, rfl⟩))
    have hs := HB2.out.size
    refine bodyPost_ret (results_ct rfl _ _ w.heap.size 28 #[.int .i64 0, .int .i64 0, .slice none 0 0] (0, 0) _ rfl ?_ Try.underlying28 rfl (by kernel_rfl)) rfl ⟨?_, .inl ⟨HO.out, rfl⟩⟩
    · exact (heap_setCell_at _ w.heap.size 2 _ _ _ _ (heap_setCell_at _ w.heap.size 1 _ _ _ _ (heap_setCell_at _ w.heap.size 0 _ _ _ (.int .i64 0) X2.out))).trans rfl
    · exact (((below_step HB2.out HB3.out).setCell (p := ⟨w.heap.size, 0, none⟩) (Nat.le_refl _) _).setCell (p := ⟨w.heap.size, 1, none⟩) (Nat.le_refl _) _).setCell (p := ⟨w.heap.size, 2, none⟩) (Nat.le_refl _) _
  | true =>
    have hsr : sr = some [] := by simpa [endO] using hen
    have HRT := Aside0.mk (fun (W : World) A cap hr hc hn => @right_call W (c.q : Int) (c.t : Int) c.ws A cap hr hc hn)
    have HO : Aside0 (o = if RecEv.rightC (c.q : Int) (c.t : Int) c.ws = true then some c else none) := ⟨by rw [← ho, hen, Bool.true_and]⟩
    clear ho
    generalize RecEv.rightC (c.q : Int) (c.t : Int) c.ws = rc at *
    rcases rc with _ | _
    case' false => rw [if_neg Bool.false_ne_true] at HO
    case' true => rw [if_pos rfl] at HO
    all_goals
      go_enter Try.func39, Try.ntmps39
      go_wp2_with (first
        | (go_at_call 69; refine HN.out.mono ?_; rintro e w1 ⟨g, rfl, h1, h2, h3⟩
           have HG : Aside0 (w.heap.size < g) := ⟨by have := World.size_alloc w (.cells #[.int .i64 0, .int .i64 0, .slice none 0 0] 28); omega⟩
           have HC := Aside0.mk (HM.out g w1 h2)
           have HX1 := Aside0.mk (blk_below HX.out h3)
           have HB1 := Aside0.mk (below_step HB0.out h3)
           clear h1 h2 h3 HN)
        | (go_at_call 70; refine HC.out.mono ?_; rintro e w2 ⟨v, ws, rfl, h1, h2, h3, h4, h5⟩
           have hws := h4 [] hsr
           subst hws
           obtain ⟨A, cp, ev, hcp, hC⟩ := Kd.R_reads h1
           rw [List.length_map] at ev hC hcp h5
           have HB2 := Aside0.mk (fr_one_below HB1.out (Nat.le_of_lt HG.out) h3)
           have HX2 := Aside0.mk (fr_other h3 HX1.out (fun e => by have := HG.out; have e' : w.heap.size = g := e; omega))
           have HEV := Aside0.mk ev
           rw [ev]
           have HB3 := Aside0.mk (below_alloc (Below.refl w2.heap.size w2) (.cells #[.int .i64 (c.q : Int), .int .i64 (c.t : Int), .slice A c.ws.length cp] 28))
           have HE := Aside0.mk (rd_end (h2.below HB3.out))
           rw [hen] at HE
           have HRC := Aside0.mk (HRT.out _ A cp (Kd.C_below hC HB3.out) hcp (by omega))
           have HCP := Aside0.mk hcp
           have HC9 := Aside0.mk (Kd.R_below h1 HB3.out)
           have HW1 : Aside0 (w.heap.size < w1.heap.size) := ⟨blk_lt HX1.out⟩
           have x3 := heap_alloc_new w2 (.cells #[.int .i64 (c.q : Int), .int .i64 (c.t : Int), .slice A c.ws.length cp] 28)
           have c0 : (w2.alloc (.cells #[.int .i64 (c.q : Int), .int .i64 (c.t : Int), .slice A c.ws.length cp] 28)).cell? ⟨w2.heap.size, 0, none⟩ = some (.int .i64 (c.q : Int)) := (cell_of_row _ _ _ _ _ _ x3).trans rfl
           have c1 : (w2.alloc (.cells #[.int .i64 (c.q : Int), .int .i64 (c.t : Int), .slice A c.ws.length cp] 28)).cell? ⟨w2.heap.size, 1, none⟩ = some (.int .i64 (c.t : Int)) := (cell_of_row _ _ _ _ _ _ x3).trans rfl
           have c2 : (w2.alloc (.cells #[.int .i64 (c.q : Int), .int .i64 (c.t : Int), .slice A c.ws.length cp] 28)).cell? ⟨w2.heap.size, 2, none⟩ = some (.slice A c.ws.length cp) := (cell_of_row _ _ _ _ _ _ x3).trans rfl
           have X2 := Aside0.mk (blk_below HX2.out HB3.out)
           have X3 := Aside0.mk x3
           clear h1 h2 h3 h4 h5 ev HC x3 hcp hC)
        | (go_at_call 71; refine HE.out.mono ?_; rintro e w3 ⟨rfl, rfl⟩)
        | (go_at_call 72; refine HRC.out.mono ?_; rintro e w4 ⟨rfl, hb4⟩
           have x2 := blk_below X2.out hb4
           have x4 := blk_below X3.out hb4
           have s0 : w4.cell? ⟨w.heap.size, 0, none⟩ = some (.int .i64 0) := (cell_of_row _ _ _ _ _ _ x2).trans rfl
           have s1 : w4.cell? ⟨w.heap.size, 1, none⟩ = some (.int .i64 0) := (cell_of_row _ _ _ _ _ _ x2).trans rfl
           have s2 : w4.cell? ⟨w.heap.size, 2, none⟩ = some (.slice none 0 0) := (cell_of_row _ _ _ _ _ _ x2).trans rfl
           have y0 : w4.frozen? ⟨w.heap.size, 0, none⟩ = false := by simp only [World.frozen?, x2]; rfl
           have y1 : w4.frozen? ⟨w.heap.size, 1, none⟩ = false := by simp only [World.frozen?, x2]; rfl
           have y2 : w4.frozen? ⟨w.heap.size, 2, none⟩ = false := by simp only [World.frozen?, x2]; rfl
           have d0 : w4.cell? ⟨w2.heap.size, 0, none⟩ = some (.int .i64 (c.q : Int)) := (cell_of_row _ _ _ _ _ _ x4).trans rfl
           have d1 : w4.cell? ⟨w2.heap.size, 1, none⟩ = some (.int .i64 (c.t : Int)) := (cell_of_row _ _ _ _ _ _ x4).trans rfl
           have d2 : w4.cell? ⟨w2.heap.size, 2, none⟩ = some (.slice A c.ws.length cp) := (cell_of_row _ _ _ _ _ _ x4).trans rfl
           have X4 := Aside0.mk x2
           have HB4 := Aside0.mk (below_step HB2.out (HB3.out.trans (hb4.mono HB3.out.size)))
           have HC4 := Aside0.mk (Kd.R_below HC9.out hb4)
           clear x2 x4 hb4))
    · have far : ∀ {W : World} (i : Nat) (u : Value), Kd.R k31 31 W 0 (fun k => w1.heap.size ≤ k) v (c.ws.map fromR) → Kd.R k31 31 (W.setCell ⟨w.heap.size, i, none⟩ u) 0 (fun k => w1.heap.size ≤ k) v (c.ws.map fromR) := fun i u h => Kd.R_far h (fun k hk e => by have e' : k = w.heap.size := e; have := HW1.out; omega) u
      refine bodyPost_ret (results_ct rfl _ _ w.heap.size 28 #[.int .i64 (c.q : Int), .int .i64 (c.t : Int), .slice A c.ws.length cp] (0, 0) _ rfl ?_ Try.underlying28 rfl (by kernel_rfl)) rfl ⟨?_, .inr ⟨c, A, cp, HO.out, rfl, ?_, HCP.out⟩⟩
      · exact (heap_setCell_at _ w.heap.size 2 _ _ _ _ (heap_setCell_at _ w.heap.size 1 _ _ _ _ (heap_setCell_at _ w.heap.size 0 _ _ _ (.int .i64 (c.q : Int)) X4.out))).trans rfl
      · exact ((HB4.out.setCell (p := ⟨w.heap.size, 0, none⟩) (Nat.le_refl _) _).setCell (p := ⟨w.heap.size, 1, none⟩) (Nat.le_refl _) _).setCell (p := ⟨w.heap.size, 2, none⟩) (Nat.le_refl _) _
      · obtain ⟨A', c', e', hc', hC'⟩ := Kd.R_reads (far 2 (.slice A c.ws.length cp) (far 1 (.int .i64 (c.t : Int)) (far 0 (.int .i64 (c.q : Int)) HC4.out)))
        rw [HEV.out] at e'
        injection e' with e1 e2 e3
        subst e1
        rw [List.length_map] at hC'
        exact hC'
    · refine bodyPost_ret (results_ct rfl _ _ w.heap.size 28 #[.int .i64 0, .int .i64 0, .slice none 0 0] (0, 0) _ rfl ?_ Try.underlying28 rfl (by kernel_rfl)) rfl ⟨?_, .inl ⟨HO.out, rfl⟩⟩
      · exact (heap_setCell_at _ w.heap.size 2 _ _ _ _ (heap_setCell_at _ w.heap.size 1 _ _ _ _ (heap_setCell_at _ w.heap.size 0 _ _ _ (.int .i64 0) X4.out))).trans rfl
      · exact ((HB4.out.setCell (p := ⟨w.heap.size, 0, none⟩) (Nat.le_refl _) _).setCell (p := ⟨w.heap.size, 1, none⟩) (Nat.le_refl _) _).setCell (p := ⟨w.heap.size, 2, none⟩) (Nat.le_refl _) _
end Go.Proofs.Ytmafibbnojdpjaa.St
end
section
set_option linter.unusedVariables false
set_option linter.unusedSimpArgs false
namespace Go.Proofs.Ytmafibbnojdpjaa.RecP
/-- what Decode reads -/
structure Dec where
  q : Nat
  ws : List Wr
  n : Nat
  cs : List Ct
def decR (m : Nat) (s : St) : Dec × St :=
  let q := numR 1099511627776 s
  let ws := writesR m q.2
  let n := numR m ws.2
  let cs := timesR commitR n.1 n.2
  (⟨q.1, ws.1, n.1, cs.1⟩, cs.2)
theorem decR_some {m : Nat} {d : Dec} {r : List UInt8} {st : St} (h : decR m st = (d, some r)) : ∃ s, st = some s ∧ s = numE d.q ++ writesE d.ws ++ numE d.cs.length ++ d.cs.flatMap ctE ++ r ∧ d.cs.length = d.n := by
  unfold decR at h
  have e1 := congrArg Prod.fst h
  have e2 := congrArg Prod.snd h
  simp only at e1 e2
  obtain ⟨s3, a1, a2, a3⟩ := timesR_some (e := ctE) (fun st a r => commitR_some) _ (l := (timesR commitR (numR m (writesR m (numR 1099511627776 st).2).2).1 (numR m (writesR m (numR 1099511627776 st).2).2).2).1) (r := r) (by rw [← e2])
  obtain ⟨s2, b1, b2, _⟩ := numR_some (s := s3) (n := (numR m (writesR m (numR 1099511627776 st).2).2).1) (r := s3) (by rw [← a1])
  obtain ⟨s1, c1, c2, _⟩ := writesR_some (ws := (writesR m (numR 1099511627776 st).2).1) (r := s2) (by rw [← b1])
  obtain ⟨s0, d1, d2, _⟩ := numR_some (s := s1) (n := (numR 1099511627776 st).1) (r := s1) (by rw [← c1])
  refine ⟨s0, d1, ?_, ?_⟩
  · rw [← e1]
    simp only
    rw [a3, d2, c2, b2, a2]
    simp [List.append_assoc]
  · rw [← e1]
    exact a3
end Go.Proofs.Ytmafibbnojdpjaa.RecP
namespace Go.Proofs.Ytmafibbnojdpjaa.St
open Go.Proofs.Ytmafibbnojdpjaa.Tr Go.RowKit Go.Proofs.YtmafibbnojdpjaaW.PrintWords Go.Proofs.YtmafibbnojdpjaaW.PrintLast Go.Proofs.YtmafibbnojdpjaaW.PrintMore Go.Proofs.Ytmafibbnojdpjaa.P
/-- a commit out of what was read -/
def fromC (c : RecP.Ct) : Cm := ⟨(c.q : Int), (c.t : Int), c.ws.map fromR⟩
theorem toR_map (ws : List RecP.Wr) : (ws.map fromR).map toR = ws := by
  rw [List.map_map]
  have : ∀ x ∈ ws, (toR ∘ fromR) x = x := fun x _ => toR_from x
  rw [List.map_congr_left this, List.map_id']
theorem encC_from (c : RecP.Ct) : encC (fromC c) = RecP.ctE c := by
  show RecP.commitE ((c.q : Int).toNat) ((c.t : Int).toNat) ((c.ws.map fromR).map toR) = _
  rw [toR_map]
  rfl
theorem encW_from (ws : List RecP.Wr) : encW (ws.map fromR) = RecP.writesE ws := by
  unfold encW
  rw [toR_map]
theorem sz_writes (m : Nat) (st : RecP.St) : (sB (RecP.writesR m st).2).size ≤ (sB st).size := by
  unfold RecP.writesR
  exact Nat.le_trans (sz_times sz_write _ _) (sz_num _ _)
theorem sz_commit (st : RecP.St) : (sB (RecP.commitR st).2).size ≤ (sB st).size := by
  unfold RecP.commitR
  exact Nat.le_trans (sz_writes _ _) (Nat.le_trans (sz_num _ _) (sz_num _ _))
theorem writes_none (m : Nat) : (RecP.writesR m none).2 = none := by
  unfold RecP.writesR
  rw [RecP.numR_none]
  rfl
theorem commit_none : (RecP.commitR none).2 = none := by
  unfold RecP.commitR
  rw [RecP.numR_none]
  show (RecP.writesR 200 (RecP.numR 1099511627776 none).2).2 = none
  rw [RecP.numR_none]
  exact writes_none _
/-- what Decode answers -/
def decC (s : List UInt8) : Option (Int × List Wr × List Cm) :=
  if endO (RecP.decR s.length (some s)).2 && (stateM ((RecP.decR s.length (some s)).1.q : Int) ((RecP.decR s.length (some s)).1.ws.map fromR) ((RecP.decR s.length (some s)).1.cs.map fromC)).isSome then some (((RecP.decR s.length (some s)).1.q : Int), (RecP.decR s.length (some s)).1.ws.map fromR, (RecP.decR s.length (some s)).1.cs.map fromC) else none
theorem end_some {st : RecP.St} (h : endO st = true) : st = some [] := by simpa [endO] using h
theorem decC_enc {s : List UInt8} {q : Int} {ws : List Wr} {cs : List Cm} (h : decC s = some (q, ws, cs)) : encS q ws cs = s ∧ ∃ M, stateM q ws cs = some M := by
  unfold decC at h
  split at h
  case isTrue hc =>
    rw [Bool.and_eq_true] at hc
    have he := end_some hc.1
    obtain ⟨M, hM⟩ := Option.isSome_iff_exists.1 hc.2
    injection h with h
    injection h with h1 h2
    injection h2 with h2 h3
    obtain ⟨s', e1, e2, _⟩ := RecP.decR_some (m := s.length) (st := some s) (d := (RecP.decR s.length (some s)).1) (r := []) (by rw [← he])
    injection e1 with e1
    rw [← h1, ← h2, ← h3]
    refine ⟨?_, M, hM⟩
    unfold encS
    rw [encW_from, List.length_map, List.flatMap_map]
    rw [show (fun a => encC (fromC a)) = RecP.ctE from funext encC_from]
    rw [List.append_nil] at e2
    exact (e1.trans e2).symm
  case isFalse => cases h
theorem readC_enc {s : List UInt8} {c : RecP.Ct} (h : readC s = some c) : commitA (c.q : Int) (c.t : Int) c.ws = (FrEv.B s, 0) := by
  unfold readC at h
  split at h
  case isTrue hc =>
    rw [Bool.and_eq_true] at hc
    have he := end_some hc.1
    injection h with h
    obtain ⟨s', e1, e2⟩ := RecP.commitR_some (c := (RecP.commitR (some s)).1) (r := []) (st := some s) (by rw [← he])
    injection e1 with e1
    rw [h] at e2 hc
    unfold commitA
    rw [if_pos hc.2]
    rw [List.append_nil] at e2
    show (FrEv.B (RecP.ctE c), 0) = _
    rw [← e2, e1]
  case isFalse => cases h
end Go.Proofs.Ytmafibbnojdpjaa.St
end
section
set_option linter.unusedVariables false
set_option maxRecDepth 100000
set_option linter.unusedSimpArgs false
namespace Go.Proofs.Ytmafibbnojdpjaa.St
open Go.Proofs.Ytmafibbnojdpjaa.Tr Go.RowKit Go.Proofs.YtmafibbnojdpjaaW.PrintWords Go.Proofs.YtmafibbnojdpjaaW.PrintLast Go.Proofs.YtmafibbnojdpjaaW.PrintMore Go.Proofs.Ytmafibbnojdpjaa.P
variable {w w' : World} {r : Nat} {st : RecP.St}
theorem dec_none {s : List UInt8} {d : RecP.Dec} {sr : RecP.St} (h : RecP.decR s.length (some s) = (d, sr)) (he : endO sr = false) : decC s = none := by
  unfold decC
  rw [h]
  simp only
  rw [he, Bool.false_and]
  rfl
theorem dec_none2 {s : List UInt8} {d : RecP.Dec} {sr : RecP.St} (h : RecP.decR s.length (some s) = (d, sr)) (he : stateM (d.q : Int) (d.ws.map fromR) (d.cs.map fromC) = none) : decC s = none := by
  unfold decC
  rw [h]
  simp only
  rw [he]
  simp
theorem dec_some {s : List UInt8} {d : RecP.Dec} {sr : RecP.St} {M : StM} (h : RecP.decR s.length (some s) = (d, sr)) (he : endO sr = true) (hM : stateM (d.q : Int) (d.ws.map fromR) (d.cs.map fromC) = some M) : decC s = some ((d.q : Int), d.ws.map fromR, d.cs.map fromC) := by
  unfold decC
  rw [h]
  simp only
  rw [he, hM]
  rfl
def DecPost (w : World) (s : List UInt8) (e : Ending) (w' : World) : Prop :=
  Below w.heap.size w w' ∧ ((decC s = none ∧ e = .returned (.tuple #[.agg #[.int .i64 0, .slice none 0 0, .slice none 0 0], .int .i64 2])) ∨
    ∃ q ws cs A1 c1 A2 c2, decC s = some (q, ws, cs) ∧ e = .returned (.tuple #[.agg #[.int .i64 q, .slice A1 ws.length c1, .slice A2 cs.length c2], .int .i64 0]) ∧
      Kd.C k31 w' A1 ws.length ws ∧ ws.length ≤ c1 ∧ ws.length ≤ 1000 ∧ Kd.C k28 w' A2 cs.length cs ∧ cs.length ≤ c2 ∧ cs.length ≤ 1000 ∧ ∀ i, i < cs.length → (cA cs i).f2.length ≤ 200)
set_option maxHeartbeats 32000000 in
theorem decode_call (s : List UInt8) (hl : s.length ≤ 1000) : Calls Try.prog 41 #[.string (bS s)] w (DecPost w s) := by
  have hb0 : Below w.heap.size w (w.alloc (.cells #[.int .i64 0, .slice none 0 0, .slice none 0 0] 25)) := below_alloc (Below.refl _ _) _
  have HB0 := Aside0.mk hb0
  have HN := Aside0.mk (rd_new s (w.alloc (.cells #[.int .i64 0, .slice none 0 0, .slice none 0 0] 25)))
  have HX := Aside0.mk (heap_alloc_new w (.cells #[.int .i64 0, .slice none 0 0, .slice none 0 0] 25))
  have HSL : Aside0 (s.length ≤ 1000) := ⟨hl⟩
  have hbs : ((bS s).size : Int) = (s.length : Int) := by rw [bS_size]
  have HBS : Aside0 (((bS s).size : Int) = (s.length : Int)) := ⟨hbs⟩
  have HLS : Aside0 ((sB (some s)).size ≤ 1000) := ⟨by show (bS s).size ≤ _; rw [bS_size]; exact hl⟩
  have HM1 : Aside0 (∀ g W, RdAt W g (some s) → Calls Try.prog 73 #[.pointer (some ⟨g, 0, none⟩), .int .i64 1099511627776] W (RdPost W g (RecP.numR 1099511627776 (some s)).2 (.int .i64 ((RecP.numR 1099511627776 (some s)).1 : Int)))) := ⟨fun g W h => rd_num h (by have := HLS.out; omega) 1099511627776 (by decide)⟩
  have hS1 := Nat.le_trans (sz_num 1099511627776 (some s)) HLS.out
  obtain ⟨p1, hp1⟩ : ∃ p, p = RecP.numR 1099511627776 (some s) := ⟨_, rfl⟩
  rw [← hp1] at HM1 hS1
  obtain ⟨n1, st1⟩ := p1
  have HM2 : Aside0 (∀ g W, RdAt W g st1 → Calls Try.prog 74 #[.pointer (some ⟨g, 0, none⟩), .int .i64 ((bS s).size : Int)] W fun e w' => ∃ v ws, e = .returned v ∧ Kd.R k31 31 w' 0 (fun k => W.heap.size ≤ k) v ws ∧ RdAt w' g (RecP.writesR s.length st1).2 ∧ Fr (oneB g) W w' ∧ (∀ s', (RecP.writesR s.length st1).2 = some s' → ws = (RecP.writesR s.length st1).1.map fromR) ∧ ws.length ≤ s.length) := ⟨fun g W h => by
    have := rd_writes h (by have h1 : (sB st1).size ≤ 1000 := hS1; omega) ((bS s).size : Int) (by omega) (by omega)
    rw [Int.toNat_natCast, bS_size] at this
    rw [bS_size]
    exact this⟩
  have hS2 := Nat.le_trans (sz_writes s.length st1) hS1
  obtain ⟨p2, hp2⟩ : ∃ p, p = RecP.writesR s.length st1 := ⟨_, rfl⟩
  rw [← hp2] at HM2 hS2
  obtain ⟨rws, st2⟩ := p2
  have HM3 : Aside0 (∀ g W, RdAt W g st2 → Calls Try.prog 73 #[.pointer (some ⟨g, 0, none⟩), .int .i64 ((bS s).size : Int)] W (RdPost W g (RecP.numR s.length st2).2 (.int .i64 ((RecP.numR s.length st2).1 : Int)))) := ⟨fun g W h => by
    have := rd_num h (by have h1 : (sB st2).size ≤ 1000 := hS2; omega) ((bS s).size : Int) (by omega)
    rw [Int.toNat_natCast, bS_size] at this
    rw [bS_size]
    exact this⟩
  have hS3 := Nat.le_trans (sz_num s.length st2) hS2
  have hnl := RecP.numR_le s.length st2
  obtain ⟨p3, hp3⟩ : ∃ p, p = RecP.numR s.length st2 := ⟨_, rfl⟩
  rw [← hp3] at HM3 hS3 hnl
  obtain ⟨n, st3⟩ := p3
  have HD : Aside0 (RecP.decR s.length (some s) = (⟨n1, rws, n, (RecP.timesR RecP.commitR n st3).1⟩, (RecP.timesR RecP.commitR n st3).2)) := ⟨by
    unfold RecP.decR
    simp only
    rw [← hp1]
    simp only
    rw [← hp2]
    simp only
    rw [← hp3]⟩
  have HST2 : Aside0 (∀ s', st3 = some s' → ∃ s2, st2 = some s2) := ⟨fun s' e => by
    subst e
    obtain ⟨s2, e2, _⟩ := RecP.numR_some (s := []) hp3.symm
    exact ⟨s2, e2⟩⟩
  have HNL : Aside0 (n ≤ 1000) := ⟨Nat.le_trans hnl hl⟩
  have HS3 : Aside0 ((sB st3).size ≤ 1000) := ⟨hS3⟩
  dsimp only at HM1 HM2 HM3
  clear hl hb0 hp1 hp2 hp3 hS1 hS2 hS3 hnl hbs
  unfold DecPost
  generalize hdc : decC s = o
  have HDC := Aside0.mk hdc
  clear hdc
  go_enter Try.func41, Try.ntmps41
  go_wp2_with (first
    | (go_at_call 69; refine HN.out.mono ?_; rintro e w1 ⟨g, rfl, h1, h2, h3⟩
       have HG : Aside0 (w.heap.size < g) := ⟨by have := World.size_alloc w (.cells #[.int .i64 0, .slice none 0 0, .slice none 0 0] 25); omega⟩
       have HC1 := Aside0.mk (HM1.out g w1 h2)
       have HX1 := Aside0.mk (blk_below HX.out h3)
       have HB1 := Aside0.mk (below_step HB0.out h3)
       clear h1 h2 h3 HN)
    | (go_at_call 73; refine HC1.out.mono ?_; rintro e w2 ⟨rfl, h2, h3⟩
       have HX2 := Aside0.mk (fr_other h3 HX1.out (fun e => by have := HG.out; have e' : w.heap.size = g := e; omega))
       have HB2 := Aside0.mk (fr_one_below HB1.out (Nat.le_of_lt HG.out) h3)
       have HGE : Aside0 (g < w2.heap.size) := ⟨h2.lt⟩
       have HB3 := Aside0.mk (below_alloc (Below.refl w2.heap.size w2) (.cells #[.int .i64 (n1 : Int), .slice none 0 0, .slice none 0 0] 25))
       have HC2 := Aside0.mk (HM2.out g _ (h2.below HB3.out))
       have HX3 := Aside0.mk (blk_below HX2.out HB3.out)
       have HE3 := Aside0.mk (heap_alloc_new w2 (.cells #[.int .i64 (n1 : Int), .slice none 0 0, .slice none 0 0] 25))
       have HB3w := Aside0.mk (below_step HB2.out HB3.out)
       clear h2 h3 HC1)
    | (go_at_call 74; refine HC2.out.mono ?_; rintro e w4 ⟨v, wl, rfl, h1, h2, h3, h4, h5⟩
       obtain ⟨A1, c1, ev⟩ := Kd.R_slice h1
       subst ev
       have HWE := Aside0.mk h4
       have HWL := Aside0.mk h5
       have hsz : (w2.alloc (.cells #[.int .i64 (n1 : Int), .slice none 0 0, .slice none 0 0] 25)).heap.size = w2.heap.size + 1 := World.size_alloc _ _
       have hg1 := HG.out
       have hg2 := HGE.out
       have x0 := fr_other h3 HX3.out (fun e => by have e' : w.heap.size = g := e; omega)
       have x1 := fr_other h3 HE3.out (fun e => by have e' : w2.heap.size = g := e; omega)
       have t1 : w4.cell? ⟨w2.heap.size, 1, none⟩ = some (.slice none 0 0) := (cell_of_row _ _ _ _ _ _ x1).trans rfl
       have z1 : w4.frozen? ⟨w2.heap.size, 1, none⟩ = false := by simp only [World.frozen?, x1]; rfl
       have HR4 : Aside0 (Kd.R k31 31 (w4.setCell ⟨w2.heap.size, 1, none⟩ (.slice A1 wl.length c1)) 0 (fun k => w2.heap.size < k ∧ k < w4.heap.size) (.slice A1 wl.length c1) wl) := ⟨Kd.R_far (Kd.R_mono (Kd.R_bound h1) (fun k hk => ⟨by have := Nat.le_trans (Nat.le_of_eq hsz.symm) hk.1; omega, hk.2.2.1⟩)) (fun k hk e => Nat.ne_of_gt hk.1 e) _⟩
       have HB4 : Aside0 (Below w.heap.size w (w4.setCell ⟨w2.heap.size, 1, none⟩ (.slice A1 wl.length c1))) := ⟨(fr_one_below HB3w.out (Nat.le_of_lt hg1) h3).setCell (p := ⟨w2.heap.size, 1, none⟩) (by show w.heap.size ≤ w2.heap.size; omega) _⟩
       have HX4 : Aside0 ((w4.setCell ⟨w2.heap.size, 1, none⟩ (.slice A1 wl.length c1)).heap[w.heap.size]? = some (.cells #[.int .i64 0, .slice none 0 0, .slice none 0 0] 25)) := ⟨(heap_setCell_other _ _ _ _ (by show w.heap.size ≠ w2.heap.size; omega)).trans x0⟩
       have HE4 : Aside0 ((w4.setCell ⟨w2.heap.size, 1, none⟩ (.slice A1 wl.length c1)).heap[w2.heap.size]? = some (.cells #[.int .i64 (n1 : Int), .slice A1 wl.length c1, .slice none 0 0] 25)) := ⟨(heap_setCell_at w4 w2.heap.size 1 _ _ _ (.slice A1 wl.length c1) x1).trans rfl⟩
       have h2' : RdAt (w4.setCell ⟨w2.heap.size, 1, none⟩ (.slice A1 wl.length c1)) g st2 := ⟨(heap_setCell_other _ _ _ _ (by show g ≠ w2.heap.size; omega)).trans h2.head⟩
       have HC3 := Aside0.mk (HM3.out g _ h2')
       clear h1 h2 h3 h4 h5 hsz hg1 hg2 x0 x1 h2' HC2)
    | (go_at_call 73; refine HC3.out.mono ?_; rintro e w5 ⟨rfl, h2, h3⟩
       have HRD := Aside0.mk h2
       have HX5 := Aside0.mk (fr_other h3 HX4.out (fun e => by have := HG.out; have e' : w.heap.size = g := e; omega))
       have HE5 := Aside0.mk (fr_other h3 HE4.out (fun e => by have := HGE.out; have e' : w2.heap.size = g := e; omega))
       have HB5 := Aside0.mk (fr_one_below HB4.out (Nat.le_of_lt HG.out) h3)
       have HR5 : Aside0 (Kd.R k31 31 w5 0 (fun k => w2.heap.size < k ∧ k < w5.heap.size) (.slice A1 wl.length c1) wl) := ⟨Kd.R_mono (Kd.R_step HR4.out (fun k hk hl => h3.block k hl (fun e => by have e' : k = g := e; have := HGE.out; omega))) (fun k hk => ⟨hk.1, Nat.lt_of_lt_of_le hk.2 (by have := h3.size; rw [World.size_setCell] at this; exact this)⟩)⟩
       have HW25 : Aside0 (w2.heap.size < w5.heap.size) := ⟨blk_lt HE5.out⟩
       clear h2 h3 HC3))
  have HSZ3 := HS3
  have HR0 : Aside0 (Kd.R k28 28 w5 0 (fun k => w5.heap.size ≤ k) (.slice none 0 0) []) := ⟨Kd.R_nil _ _ _ _ _⟩
  go_loopg [22] (n + 1) (fun kq v22 wq => ∃ (i : Nat) (cl : List Cm) (v : Value), v22 = .int .i64 (i : Int) ∧ i ≤ n ∧ n - i < kq ∧ Aside0 (RdAt wq g (RecP.timesR RecP.commitR i st3).2) ∧ Aside0 (wq.heap[w.heap.size]? = some (.cells #[.int .i64 0, .slice none 0 0, .slice none 0 0] 25)) ∧ Aside0 (wq.heap[w2.heap.size]? = some (.cells #[.int .i64 (n1 : Int), .slice A1 wl.length c1, v] 25)) ∧ Aside0 (Kd.R k31 31 wq 0 (fun k => w2.heap.size < k ∧ k < w5.heap.size) (.slice A1 wl.length c1) wl) ∧ Aside0 (Kd.R k28 28 wq 0 (fun k => w5.heap.size ≤ k) v cl) ∧ Aside0 (Below w.heap.size w wq) ∧ Aside0 (w5.heap.size ≤ wq.heap.size) ∧ Aside0 (∀ s', (RecP.timesR RecP.commitR i st3).2 = some s' → cl = (RecP.timesR RecP.commitR i st3).1.map fromC) ∧ Aside0 (cl.length = i ∧ ∀ x ∈ cl, x.f2.length ≤ 200))
  case atStart => exact ⟨0, [], _, rfl, Nat.zero_le _, by omega, HRD, HX5, HE5, HR5, HR0, HB5, ⟨Nat.le_refl _⟩, ⟨fun s' e => rfl⟩, ⟨rfl, fun x hx => by cases hx⟩⟩
  case round =>
    clear HRD HX5 HE5 HR5 HR0 HB5
    obtain ⟨i, cl, v, rfl, hi, hk, HRD, HX, HE, HR1, HR2, HB, HSZ, HEQ, HCL⟩ := hrel
    have hnl := HNL.out
    have hx := HX.out
    have s0 : wr.cell? ⟨w.heap.size, 0, none⟩ = some (.int .i64 0) := (cell_of_row _ _ _ _ _ _ hx).trans rfl
    have s1 : wr.cell? ⟨w.heap.size, 1, none⟩ = some (.slice none 0 0) := (cell_of_row _ _ _ _ _ _ hx).trans rfl
    have s2 : wr.cell? ⟨w.heap.size, 2, none⟩ = some (.slice none 0 0) := (cell_of_row _ _ _ _ _ _ hx).trans rfl
    have y0 : wr.frozen? ⟨w.heap.size, 0, none⟩ = false := by simp only [World.frozen?, hx]; rfl
    have y1 : wr.frozen? ⟨w.heap.size, 1, none⟩ = false := by simp only [World.frozen?, hx]; rfl
    have y2 : wr.frozen? ⟨w.heap.size, 2, none⟩ = false := by simp only [World.frozen?, hx]; rfl
    by_cases hlt : i < n
    · have z0 : (0 : Int) ≤ (i : Int) := by omega
      have z1 : (i : Int) < (n : Int) := by omega
      have HER := Aside0.mk (rd_err HRD.out)
      have hsc := RecP.timesR_succ RecP.commitR i st3
      have hszi := Nat.le_trans (sz_times sz_commit i st3) HS3.out
      have HNN : Aside0 ((RecP.timesR RecP.commitR i st3).2 = none → (RecP.timesR RecP.commitR n st3).2 = none) := ⟨times_none commit_none hi⟩
      cases hsi : (RecP.timesR RecP.commitR i st3).2 with
      | none =>
        have HON : Aside0 (o = none) := ⟨HDC.out.symm.trans (dec_none HD.out (by rw [HNN.out hsi]; rfl))⟩
        rw [hsi] at HER HRD
        have HEN := Aside0.mk (rd_end HRD.out)
        rw [show endO none = false from rfl] at HEN
        clear hsi hsc hszi hx HNN
        go_wp2_with (first
          | (go_at_call 75; refine HER.out.mono ?_; rintro e w6 ⟨rfl, rfl⟩)
          | (go_at_call 71; refine HEN.out.mono ?_; rintro e w6 ⟨rfl, rfl⟩))
        refine bodyPost_ret (results_ct rfl _ _ w.heap.size 25 #[.int .i64 0, .slice none 0 0, .slice none 0 0] (0, 0) _ rfl ?_ Try.underlying25 rfl (by kernel_rfl)) rfl ⟨?_, .inl ⟨HON.out, rfl⟩⟩
        · exact (heap_setCell_at _ w.heap.size 2 _ _ _ _ (heap_setCell_at _ w.heap.size 1 _ _ _ _ (heap_setCell_at _ w.heap.size 0 _ _ _ (.int .i64 0) HX.out))).trans rfl
        · exact ((HB.out.setCell (p := ⟨w.heap.size, 0, none⟩) (Nat.le_refl _) _).setCell (p := ⟨w.heap.size, 1, none⟩) (Nat.le_refl _) _).setCell (p := ⟨w.heap.size, 2, none⟩) (Nat.le_refl _) _
      | some si =>
        rw [hsi] at HER HRD hsc hszi
        have HQ := Aside0.mk (HEQ.out si hsi)
        have hsl : (sB (some si)).size ≤ 100000000 := by omega
        have HC := Aside0.mk (rd_commit (HRD.out.below (below_drew1 (Below.refl _ _))) hsl)
        have HHI : Aside0 ((RecP.timesR RecP.commitR i st3).2 = some si) := ⟨hsi⟩
        generalize RecP.commitR (some si) = pc at *
        obtain ⟨ct, sr⟩ := pc
        dsimp only at *
        have HSC := Aside0.mk hsc
        obtain ⟨A2, c2, ev⟩ := Kd.R_slice HR2.out
        subst ev
        have he := HE.out
        have t2 : wr.drew.cell? ⟨w2.heap.size, 2, none⟩ = some (.slice A2 cl.length c2) := (cell_of_row _ _ _ _ _ _ (show wr.drew.heap[w2.heap.size]? = _ from he)).trans rfl
        have hlc := HCL.out.1
        have HLE : Aside0 ((cl.length + 1) * 40 ≤ 140737488355328) := ⟨by omega⟩
        have HI1000 : Aside0 (i ≤ 1000) := ⟨by omega⟩
        clear hsi hsc hszi hx he hsl hlc s0 s1 s2 y0 y1 y2
        go_wp2_with (go_at_call 75; refine HER.out.mono ?_; rintro e w6 ⟨rfl, h0⟩; have h1 := h0.symm; clear h0; subst h1)
        go_region_law (first
          | (rw [if_pos (by rfl)]; go_simp; refine HC.out.mono ?_; rintro e w6 ⟨vv, wsl, rfl, h1, h2, h3, h4, h5⟩
             obtain ⟨A6, c6, ev6⟩ := Kd.R_slice h1
             subst ev6
             have hg1 := HG.out
             have hg2 := HGE.out
             have hg5 := HSZ.out
             have hg4 : w2.heap.size < w5.heap.size := HW25.out
             have HX6 := Aside0.mk (fr_other h3 (show wr.drew.heap[w.heap.size]? = _ from HX.out) (fun e => by have e' : w.heap.size = g := e; omega))
             have x1 := fr_other h3 (show wr.drew.heap[w2.heap.size]? = _ from HE.out) (fun e => by have e' : w2.heap.size = g := e; omega)
             have HE6 := Aside0.mk x1
             have q2 : w6.cell? ⟨w2.heap.size, 2, none⟩ = some (.slice A2 cl.length c2) := (cell_of_row _ _ _ _ _ _ x1).trans rfl
             have q3 : (w6.alloc (.cells #[.int .i64 (ct.q : Int), .int .i64 (ct.t : Int), .slice A6 wsl.length c6] 28)).cell? ⟨w2.heap.size, 2, none⟩ = some (.slice A2 cl.length c2) := up (below_alloc (Below.refl _ _) _) q2
             have HR1b : Aside0 (Kd.R k31 31 w6 0 (fun k => w2.heap.size < k ∧ k < w5.heap.size) (.slice A1 wl.length c1) wl) := ⟨Kd.R_step HR1.out (fun k hk hl => h3.block k hl (fun e => by have e' : k = g := e; omega))⟩
             have HR2b : Aside0 (Kd.R k28 28 w6 0 (fun k => w5.heap.size ≤ k) (.slice A2 cl.length c2) cl) := ⟨Kd.R_step HR2.out (fun k hk hl => h3.block k hl (fun e => by have e' : k = g := e; omega))⟩
             have HP : Aside0 (k28.M w6 0 (fun k => wr.heap.size ≤ k) (⟨(ct.q : Int), (ct.t : Int), wsl⟩ : Cm) [.int .i64 (ct.q : Int), .int .i64 (ct.t : Int), .slice A6 wsl.length c6]) := ⟨k28_mkM w6 0 _ (⟨(ct.q : Int), (ct.t : Int), wsl⟩ : Cm) h1⟩
             have HOKP : Aside0 (∀ k, wr.heap.size ≤ k → w5.heap.size ≤ k ∧ some k ≠ (Value.slice A2 cl.length c2).ownBlock) := ⟨fun k hk => ⟨Nat.le_trans hg5 hk, fun e => by have := Kd.R_lt HR2.out k e.symm; omega⟩⟩
             have HFRS : Aside0 (∀ k, w6.heap.size ≤ k → w5.heap.size ≤ k) := ⟨fun k hk => Nat.le_trans hg5 (Nat.le_trans h3.size hk)⟩
             have HB6 := Aside0.mk (fr_one_below (HB.out.drew) (Nat.le_of_lt hg1) h3)
             have HSZ6 : Aside0 (w5.heap.size ≤ w6.heap.size) := ⟨Nat.le_trans hg5 h3.size⟩
             have HRD6 := Aside0.mk h2
             have HW6 := Aside0.mk h4
             have HW66 := Aside0.mk h5
             clear h1 h2 h3 h4 h5 x1 hg1 hg2 hg4 hg5)
          | (refine R_append_at k28 (W := w6) 28 [.int .i64 (ct.q : Int), .int .i64 (ct.t : Int), .slice A6 wsl.length c6] (by rfl) 0 (by rfl) (.tmp 28) (.tmp 31) 23 (.agg #[.int .i64 0, .int .i64 0, .slice none 0 0]) 40 (by rfl) Try.underlying23 info28 (by rfl) (by decide) (by decide) (.slice A2 cl.length c2) cl (⟨(ct.q : Int), (ct.t : Int), wsl⟩ : Cm) (fun k => w5.heap.size ≤ k) (fun k => wr.heap.size ≤ k) (by rfl) (by rfl) HP.out HOKP.out HFRS.out HR2b.out (Nat.zero_le _) HLE.out ?_
             intro v9 w9 g1 g3
             have G1 := Aside0.mk g1
             have G3 := Aside0.mk g3
             obtain ⟨A9, c9, ev9⟩ := Kd.R_slice g1
             subst ev9
             have hown : ∀ k, some k = (Value.slice A2 cl.length c2).ownBlock → w5.heap.size ≤ k := fun k e => HR2b.out.1 k e.symm
             have x1 := (g3.block w2.heap.size (blk_lt HE6.out) (fun e => by have := hown _ e; have := HW25.out; omega)).trans HE6.out
             have p2 : w9.cell? ⟨w2.heap.size, 2, none⟩ = some (.slice A2 cl.length c2) := (cell_of_row _ _ _ _ _ _ x1).trans rfl
             have u2 : w9.frozen? ⟨w2.heap.size, 2, none⟩ = false := by simp only [World.frozen?, x1]; rfl
             have HE9 := Aside0.mk x1
             clear g1 g3 hown x1))
        all_goals
          have hown : ∀ k, some k = (Value.slice A2 cl.length c2).ownBlock → w5.heap.size ≤ k := fun k e => HR2b.out.1 k e.symm
          have hg1 := HG.out
          have hg2 := HGE.out
          have hg4 := HW25.out
          have HX10 : Aside0 ((w9.setCell ⟨w2.heap.size, 2, none⟩ (.slice A9 (cl.length + 1) c9)).heap[w.heap.size]? = some (.cells #[.int .i64 0, .slice none 0 0, .slice none 0 0] 25)) := ⟨(heap_setCell_other _ _ _ _ (by show w.heap.size ≠ w2.heap.size; omega)).trans ((G3.out.block w.heap.size (blk_lt HX6.out) (fun e => by have := hown _ e; omega)).trans HX6.out)⟩
          have HE10 : Aside0 ((w9.setCell ⟨w2.heap.size, 2, none⟩ (.slice A9 (cl.length + 1) c9)).heap[w2.heap.size]? = some (.cells #[.int .i64 (n1 : Int), .slice A1 wl.length c1, .slice A9 (cl.length + 1) c9] 25)) := ⟨(heap_setCell_at w9 w2.heap.size 2 _ _ _ (.slice A9 (cl.length + 1) c9) HE9.out).trans rfl⟩
          have HRD10 : Aside0 (RdAt (w9.setCell ⟨w2.heap.size, 2, none⟩ (.slice A9 (cl.length + 1) c9)) g sr) := ⟨⟨(heap_setCell_other _ _ _ _ (by show g ≠ w2.heap.size; omega)).trans ((G3.out.block g HRD6.out.lt (fun e => by have := hown _ e; omega)).trans HRD6.out.head)⟩⟩
          have HR10 : Aside0 (Kd.R k31 31 (w9.setCell ⟨w2.heap.size, 2, none⟩ (.slice A9 (cl.length + 1) c9)) 0 (fun k => w2.heap.size < k ∧ k < w5.heap.size) (.slice A1 wl.length c1) wl) := ⟨Kd.R_far (Kd.R_step HR1b.out (fun k hk hl => G3.out.block k hl (fun e => by have := hown _ e; omega))) (fun k hk e => Nat.ne_of_gt hk.1 e) _⟩
          have HR11 : Aside0 (Kd.R k28 28 (w9.setCell ⟨w2.heap.size, 2, none⟩ (.slice A9 (cl.length + 1) c9)) 0 (fun k => w5.heap.size ≤ k) (.slice A9 (cl.length + 1) c9) (cl ++ [(⟨(ct.q : Int), (ct.t : Int), wsl⟩ : Cm)])) := ⟨Kd.R_far (by have := G1.out; rw [List.length_append, List.length_singleton] at this; exact this) (fun k (hk : w5.heap.size ≤ k) e => by have e' : k = w2.heap.size := e; omega) _⟩
          have HB10 : Aside0 (Below w.heap.size w (w9.setCell ⟨w2.heap.size, 2, none⟩ (.slice A9 (cl.length + 1) c9))) := ⟨(HB6.out.trans ⟨G3.out.os, G3.out.tape, G3.out.output, G3.out.size, fun k hk => G3.out.block k (Nat.lt_of_lt_of_le hk HB6.out.size) (fun e => by have := hown _ e; omega)⟩).setCell (p := ⟨w2.heap.size, 2, none⟩) (by show w.heap.size ≤ w2.heap.size; omega) _⟩
          have HSZ10 : Aside0 (w5.heap.size ≤ (w9.setCell ⟨w2.heap.size, 2, none⟩ (.slice A9 (cl.length + 1) c9)).heap.size) := ⟨by rw [World.size_setCell]; exact Nat.le_trans HSZ6.out G3.out.size⟩
          clear hown hg1 hg2 hg4 G3 G1
          generalize w9.setCell ⟨w2.heap.size, 2, none⟩ (.slice A9 (cl.length + 1) c9) = w10 at *
          go_wp2
          go_roundg (gk - 1)
          case measure => omega
          case rel =>
            have hi1 := HI1000.out
            refine ⟨i + 1, cl ++ [(⟨(ct.q : Int), (ct.t : Int), wsl⟩ : Cm)], _, congrArg (Value.int .i64) (by omega), by omega, by omega, ⟨?_⟩, HX10, HE10, HR10, HR11, HB10, HSZ10, ⟨?_⟩, ⟨?_, ?_⟩⟩
            · rw [HSC.out]
              exact HRD10.out
            · intro s' hs'
              rw [HSC.out] at hs' ⊢
              show cl ++ [_] = List.map fromC ((RecP.timesR RecP.commitR i st3).1 ++ [ct])
              rw [List.map_append, ← HQ.out, HW6.out s' hs']
              rfl
            · rw [List.length_append, HCL.out.1]
              rfl
            · intro x hx
              rcases List.mem_append.1 hx with hx | hx
              · exact HCL.out.2 x hx
              · rw [List.mem_singleton] at hx
                rw [hx]
                exact HW66.out
    · have hin : i = n := by omega
      subst hin
      cases hen : endO (RecP.timesR RecP.commitR i st3).2 with
      | false =>
        have HON : Aside0 (o = none) := ⟨HDC.out.symm.trans (dec_none HD.out hen)⟩
        have HEN := Aside0.mk (rd_end HRD.out)
        rw [hen] at HEN
        clear hen hx
        go_wp2_with (first
          | (go_at_call 71; refine HEN.out.mono ?_; rintro e w6 ⟨rfl, rfl⟩))
        refine bodyPost_ret (results_ct rfl _ _ w.heap.size 25 #[.int .i64 0, .slice none 0 0, .slice none 0 0] (0, 0) _ rfl ?_ Try.underlying25 rfl (by kernel_rfl)) rfl ⟨?_, .inl ⟨HON.out, rfl⟩⟩
        · exact (heap_setCell_at _ w.heap.size 2 _ _ _ _ (heap_setCell_at _ w.heap.size 1 _ _ _ _ (heap_setCell_at _ w.heap.size 0 _ _ _ (.int .i64 0) HX.out))).trans rfl
        · exact ((HB.out.setCell (p := ⟨w.heap.size, 0, none⟩) (Nat.le_refl _) _).setCell (p := ⟨w.heap.size, 1, none⟩) (Nat.le_refl _) _).setCell (p := ⟨w.heap.size, 2, none⟩) (Nat.le_refl _) _
      | true =>
        have hsr := end_some hen
        have HEN := Aside0.mk (rd_end HRD.out)
        rw [hen] at HEN
        have hcl := HEQ.out [] hsr
        obtain ⟨A2, c2, ev⟩ := Kd.R_slice HR2.out
        subst ev
        have hwl : wl = rws.map fromR := by
          obtain ⟨s3, e3, _⟩ := RecP.timesR_some (e := RecP.ctE) (fun st a r => RecP.commitR_some) i (l := (RecP.timesR RecP.commitR i st3).1) (r := []) (by rw [← hsr])
          obtain ⟨s2, e2⟩ := HST2.out s3 e3
          exact HWE.out s2 e2
        obtain ⟨A1', c1', e1, hc1, hC1⟩ := Kd.R_reads HR1.out
        injection e1 with e1 _ e2
        subst e1 e2
        obtain ⟨A2', c2', e1, hc2, hC2⟩ := Kd.R_reads HR2.out
        injection e1 with e1 _ e2
        subst e1 e2
        have hws9 := HWL.out
        have hsl9 := HSL.out
        have hcl9 := HCL.out
        have h200 : ∀ j, j < cl.length → (cA cl j).f2.length ≤ 200 := fun j hj => by rw [cA_eq hj]; exact hcl9.2 _ (List.getElem_mem hj)
        have HST := Aside0.mk (state_any (n1 : Int) wl cl A1 A2 c1 c2 wr hC1 hc1 (by omega) hC2 hc2 (by omega) (fun j hj => by have := h200 j hj; omega))
        unfold statePost at HST
        have H200 := Aside0.mk h200
        have HNUM : Aside0 (wl.length ≤ 1000 ∧ wl.length ≤ c1 ∧ cl.length ≤ 1000 ∧ cl.length ≤ c2) := ⟨by omega, hc1, by omega, hc2⟩
        have he := HE.out
        have c0 : wr.cell? ⟨w2.heap.size, 0, none⟩ = some (.int .i64 (n1 : Int)) := (cell_of_row _ _ _ _ _ _ he).trans rfl
        have c1' : wr.cell? ⟨w2.heap.size, 1, none⟩ = some (.slice A1 wl.length c1) := (cell_of_row _ _ _ _ _ _ he).trans rfl
        have c2' : wr.cell? ⟨w2.heap.size, 2, none⟩ = some (.slice A2 cl.length c2) := (cell_of_row _ _ _ _ _ _ he).trans rfl
        cases hM : stateM (n1 : Int) wl cl with
        | none =>
          have HON : Aside0 (o = none) := ⟨HDC.out.symm.trans (dec_none2 HD.out (by simp only; rw [← hwl, ← hcl]; exact hM))⟩
          rw [hM] at HST
          clear hen hsr hcl hwl hC1 hC2 hws9 hsl9 hcl9 h200 hM hx he s0 s1 s2 y0 y1 y2 hc1 hc2
          go_wp2_with (first
            | (go_at_call 71; refine HEN.out.mono ?_; rintro e w6 ⟨rfl, h0⟩; have h1 := h0.symm; clear h0; subst h1)
            | (go_at_call 23; refine HST.out.mono ?_; rintro e w7 ⟨hb7, h7, _⟩
               have e7 := h7 (by first | rfl | trivial)
               subst e7
               have hx := blk_below HX.out hb7
               have s0 : w7.cell? ⟨w.heap.size, 0, none⟩ = some (.int .i64 0) := (cell_of_row _ _ _ _ _ _ hx).trans rfl
               have s1 : w7.cell? ⟨w.heap.size, 1, none⟩ = some (.slice none 0 0) := (cell_of_row _ _ _ _ _ _ hx).trans rfl
               have s2 : w7.cell? ⟨w.heap.size, 2, none⟩ = some (.slice none 0 0) := (cell_of_row _ _ _ _ _ _ hx).trans rfl
               have y0 : w7.frozen? ⟨w.heap.size, 0, none⟩ = false := by simp only [World.frozen?, hx]; rfl
               have y1 : w7.frozen? ⟨w.heap.size, 1, none⟩ = false := by simp only [World.frozen?, hx]; rfl
               have y2 : w7.frozen? ⟨w.heap.size, 2, none⟩ = false := by simp only [World.frozen?, hx]; rfl
               have HX7 := Aside0.mk hx
               have HB7 := Aside0.mk (below_step HB.out hb7)
               clear hb7 h7 hx))
          refine bodyPost_ret (results_ct rfl _ _ w.heap.size 25 #[.int .i64 0, .slice none 0 0, .slice none 0 0] (0, 0) _ rfl ?_ Try.underlying25 rfl (by kernel_rfl)) rfl ⟨?_, .inl ⟨HON.out, rfl⟩⟩
          · exact (heap_setCell_at _ w.heap.size 2 _ _ _ _ (heap_setCell_at _ w.heap.size 1 _ _ _ _ (heap_setCell_at _ w.heap.size 0 _ _ _ (.int .i64 0) HX7.out))).trans rfl
          · exact ((HB7.out.setCell (p := ⟨w.heap.size, 0, none⟩) (Nat.le_refl _) _).setCell (p := ⟨w.heap.size, 1, none⟩) (Nat.le_refl _) _).setCell (p := ⟨w.heap.size, 2, none⟩) (Nat.le_refl _) _
        | some M =>
          have HOS : Aside0 (o = some ((n1 : Int), wl, cl)) := ⟨by
            have := dec_some (M := M) HD.out hen (by simp only; rw [← hwl, ← hcl]; exact hM)
            simp only at this
            rw [← hwl, ← hcl] at this
            exact HDC.out.symm.trans this⟩
          rw [hM] at HST
          clear hen hsr hcl hwl hC1 hC2 hws9 hsl9 hcl9 h200 hM hx he s0 s1 s2 y0 y1 y2 hc1 hc2
          go_wp2_with (first
            | (go_at_call 71; refine HEN.out.mono ?_; rintro e w6 ⟨rfl, h0⟩; have h1 := h0.symm; clear h0; subst h1)
            | (go_at_call 23; refine HST.out.mono ?_; rintro e w7 ⟨hb7, _, h7⟩
               obtain ⟨sb, e7, _⟩ := h7 M rfl
               subst e7
               have hx := blk_below HX.out hb7
               have he := blk_below HE.out hb7
               have s0 : w7.cell? ⟨w.heap.size, 0, none⟩ = some (.int .i64 0) := (cell_of_row _ _ _ _ _ _ hx).trans rfl
               have s1 : w7.cell? ⟨w.heap.size, 1, none⟩ = some (.slice none 0 0) := (cell_of_row _ _ _ _ _ _ hx).trans rfl
               have s2 : w7.cell? ⟨w.heap.size, 2, none⟩ = some (.slice none 0 0) := (cell_of_row _ _ _ _ _ _ hx).trans rfl
               have y0 : w7.frozen? ⟨w.heap.size, 0, none⟩ = false := by simp only [World.frozen?, hx]; rfl
               have y1 : w7.frozen? ⟨w.heap.size, 1, none⟩ = false := by simp only [World.frozen?, hx]; rfl
               have y2 : w7.frozen? ⟨w.heap.size, 2, none⟩ = false := by simp only [World.frozen?, hx]; rfl
               have c0 : w7.cell? ⟨w2.heap.size, 0, none⟩ = some (.int .i64 (n1 : Int)) := (cell_of_row _ _ _ _ _ _ he).trans rfl
               have c1' : w7.cell? ⟨w2.heap.size, 1, none⟩ = some (.slice A1 wl.length c1) := (cell_of_row _ _ _ _ _ _ he).trans rfl
               have c2' : w7.cell? ⟨w2.heap.size, 2, none⟩ = some (.slice A2 cl.length c2) := (cell_of_row _ _ _ _ _ _ he).trans rfl
               have HX7 := Aside0.mk hx
               have HB7 := Aside0.mk (below_step HB.out hb7)
               have HR7 := Aside0.mk (Kd.R_below HR1.out hb7)
               have HR8 := Aside0.mk (Kd.R_below HR2.out hb7)
               clear hb7 h7 hx he))
          have hg1 := HG.out
          have hg2 := HGE.out
          have hg4 := HW25.out
          obtain ⟨A1', c1', e1, hc1, hC1⟩ := Kd.R_reads (Kd.R_far (Kd.R_far (Kd.R_far HR7.out (p := ⟨w.heap.size, 0, none⟩) (fun k hk e => by have e' : k = w.heap.size := e; omega) (.int .i64 (n1 : Int))) (p := ⟨w.heap.size, 1, none⟩) (fun k hk e => by have e' : k = w.heap.size := e; omega) (.slice A1 wl.length c1)) (p := ⟨w.heap.size, 2, none⟩) (fun k hk e => by have e' : k = w.heap.size := e; omega) (.slice A2 cl.length c2))
          injection e1 with e1 _ e2
          subst e1 e2
          obtain ⟨A2', c2', e1, hc2, hC2⟩ := Kd.R_reads (Kd.R_far (Kd.R_far (Kd.R_far HR8.out (p := ⟨w.heap.size, 0, none⟩) (fun k (hk : w5.heap.size ≤ k) e => by have e' : k = w.heap.size := e; omega) (.int .i64 (n1 : Int))) (p := ⟨w.heap.size, 1, none⟩) (fun k (hk : w5.heap.size ≤ k) e => by have e' : k = w.heap.size := e; omega) (.slice A1 wl.length c1)) (p := ⟨w.heap.size, 2, none⟩) (fun k (hk : w5.heap.size ≤ k) e => by have e' : k = w.heap.size := e; omega) (.slice A2 cl.length c2))
          injection e1 with e1 _ e2
          subst e1 e2
          refine bodyPost_ret (results_ct rfl _ _ w.heap.size 25 #[.int .i64 (n1 : Int), .slice A1 wl.length c1, .slice A2 cl.length c2] (0, 0) _ rfl ?_ Try.underlying25 rfl (by kernel_rfl)) rfl ⟨?_, .inr ⟨_, wl, cl, A1, c1, A2, c2, HOS.out, rfl, hC1, HNUM.out.2.1, HNUM.out.1, hC2, HNUM.out.2.2.2, HNUM.out.2.2.1, H200.out⟩⟩
          · exact (heap_setCell_at _ w.heap.size 2 _ _ _ _ (heap_setCell_at _ w.heap.size 1 _ _ _ _ (heap_setCell_at _ w.heap.size 0 _ _ _ (.int .i64 (n1 : Int)) HX7.out))).trans rfl
          · exact ((HB7.out.setCell (p := ⟨w.heap.size, 0, none⟩) (Nat.le_refl _) _).setCell (p := ⟨w.heap.size, 1, none⟩) (Nat.le_refl _) _).setCell (p := ⟨w.heap.size, 2, none⟩) (Nat.le_refl _) _
end Go.Proofs.Ytmafibbnojdpjaa.St
end
section
set_option linter.unusedVariables false
set_option maxRecDepth 100000
set_option linter.unusedSimpArgs false
namespace Go.Proofs.Ytmafibbnojdpjaa.St
open Go.Proofs.Ytmafibbnojdpjaa.Tr Go.RowKit Go.Proofs.YtmafibbnojdpjaaW.PrintWords Go.Proofs.YtmafibbnojdpjaaW.PrintLast Go.Proofs.YtmafibbnojdpjaaW.PrintMore Go.Proofs.Ytmafibbnojdpjaa.P
variable {w w' : World}
set_option maxHeartbeats 4000000 in
theorem reads_big (s : ByteArray) (w : World) (h : ¬ s.size ≤ 1000) : Calls Try.prog 9 #[.string s] w fun e w' => e = .returned (.bool true) ∧ Below w.heap.size w w' := by
  have n1 : decide ((1000 : Int) < (s.size : Int)) = true := decide_eq_true (by omega)
  have n2 : (1000 : Int) < (s.size : Int) := by omega
  clear h
  go_enter Try.func9, Try.ntmps9
  go_wp2_with (go_at_call 21; refine (head_any _).mono ?_; rintro e w1 ⟨rfl, hb⟩; have HB1 := Aside0.mk hb; clear hb)
  go_ret
  exact ⟨rfl, HB1.out⟩
theorem readC_len {l : List UInt8} {c : RecP.Ct} (h : readC l = some c) : c.ws.length ≤ 200 := by
  unfold readC at h
  split at h
  case isTrue hc =>
    rw [Bool.and_eq_true] at hc
    injection h with h
    rw [h] at hc
    exact (right_facts _ _ _ hc.2).2.2.2.2.1
  case isFalse => cases h
set_option maxHeartbeats 16000000 in
theorem reads_nn (l : List UInt8) (w : World) (hl : l.length ≤ 1000) (hr : readC l = none) (hd : decC l = none) : Calls Try.prog 9 #[.string (bS l)] w fun e w' => e = .returned (.bool true) ∧ Below w.heap.size w w' := by
  have n1 : decide ((1000 : Int) < ((bS l).size : Int)) = false := decide_eq_false (by rw [bS_size]; omega)
  have n2 : ¬ (1000 : Int) < ((bS l).size : Int) := by rw [bS_size]; omega
  have n3 : ((bS l).toList == (bS l).toList) = true := beq_self_eq_true _
  have HRC : Aside0 (∀ W, Calls Try.prog 39 #[.string (bS l)] W fun e w' => e = .returned (.tuple #[.agg #[.int .i64 0, .int .i64 0, .slice none 0 0], .int .i64 2]) ∧ Below W.heap.size W w') := ⟨fun W => by
    refine (readCommit_call (w := W) l (by omega)).mono ?_
    rintro e w' ⟨hb, ⟨_, rfl⟩ | ⟨c, _, _, h, _⟩⟩
    · exact ⟨rfl, hb⟩
    · rw [hr] at h
      cases h⟩
  have HDE : Aside0 (∀ W, Calls Try.prog 41 #[.string (bS l)] W fun e w' => e = .returned (.tuple #[.agg #[.int .i64 0, .slice none 0 0, .slice none 0 0], .int .i64 2]) ∧ Below W.heap.size W w') := ⟨fun W => by
    refine (decode_call (w := W) l hl).mono ?_
    rintro e w' ⟨hb, ⟨_, rfl⟩ | ⟨q, ws, cs, _, _, _, _, h, _⟩⟩
    · exact ⟨rfl, hb⟩
    · rw [hd] at h
      cases h⟩
  clear hr hd hl
  generalize bS l = sl at *
  go_enter Try.func9, Try.ntmps9
  go_wp2_with (first
    | (go_at_call 21; refine (head_any _).mono ?_; rintro e w1 ⟨rfl, hb⟩; have HB1 := Aside0.mk hb; clear hb)
    | (go_at_call 39; refine (HRC.out w1).mono ?_; rintro e w2 ⟨rfl, hb⟩
       have HB2 := Aside0.mk (below_step HB1.out hb)
       obtain ⟨d0, d1, d2⟩ := three_new w2 28 (.int .i64 0) (.int .i64 0) (.slice none 0 0)
       have HB3 := Aside0.mk (below_step HB2.out (below_alloc (Below.refl w2.heap.size w2) (.cells #[.int .i64 0, .int .i64 0, .slice none 0 0] 28)))
       have HB4 := HB3
       clear hb)
    | (go_at_call 41; refine (HDE.out _).mono ?_; rintro e w5 ⟨rfl, hb⟩
       have HB5 := Aside0.mk (below_step HB4.out hb)
       obtain ⟨x0, x1, x2⟩ := three_new w5 25 (.int .i64 0) (.slice none 0 0) (.slice none 0 0)
       have HB6 := Aside0.mk (below_step HB5.out (below_alloc (Below.refl w5.heap.size w5) (.cells #[.int .i64 0, .slice none 0 0, .slice none 0 0] 25)))
       clear hb))
  go_ret
  exact ⟨rfl, HB6.out⟩
set_option maxHeartbeats 16000000 in
theorem reads_ns (l : List UInt8) (w : World) (hl : l.length ≤ 1000) (hr : readC l = none) (q : Int) (ws : List Wr) (cs : List Cm) (hd : decC l = some (q, ws, cs)) : Calls Try.prog 9 #[.string (bS l)] w fun e w' => e = .returned (.bool true) ∧ Below w.heap.size w w' := by
  have n1 : decide ((1000 : Int) < ((bS l).size : Int)) = false := decide_eq_false (by rw [bS_size]; omega)
  have n2 : ¬ (1000 : Int) < ((bS l).size : Int) := by rw [bS_size]; omega
  have n3 : ((bS l).toList == (bS l).toList) = true := beq_self_eq_true _
  have HRC : Aside0 (∀ W, Calls Try.prog 39 #[.string (bS l)] W fun e w' => e = .returned (.tuple #[.agg #[.int .i64 0, .int .i64 0, .slice none 0 0], .int .i64 2]) ∧ Below W.heap.size W w') := ⟨fun W => by
    refine (readCommit_call (w := W) l (by omega)).mono ?_
    rintro e w' ⟨hb, ⟨_, rfl⟩ | ⟨c, _, _, h, _⟩⟩
    · exact ⟨rfl, hb⟩
    · rw [hr] at h
      cases h⟩
  have HDE : Aside0 (∀ W, Calls Try.prog 41 #[.string (bS l)] W fun e w' => ∃ A1 c1 A2 c2, e = .returned (.tuple #[.agg #[.int .i64 q, .slice A1 ws.length c1, .slice A2 cs.length c2], .int .i64 0]) ∧ Kd.C k31 w' A1 ws.length ws ∧ ws.length ≤ c1 ∧ ws.length ≤ 1000 ∧ Kd.C k28 w' A2 cs.length cs ∧ cs.length ≤ c2 ∧ cs.length ≤ 1000 ∧ (∀ i, i < cs.length → (cA cs i).f2.length ≤ 200) ∧ Below W.heap.size W w') := ⟨fun W => by
    refine (decode_call (w := W) l hl).mono ?_
    rintro e w' ⟨hb, ⟨h, _⟩ | ⟨q', ws', cs', A1, c1, A2, c2, h, rfl, h1, h2, h3, h4, h5, h6, h7⟩⟩
    · rw [hd] at h
      cases h
    · rw [hd] at h
      injection h with h
      injection h with e1 h
      injection h with e2 e3
      subst e1 e2 e3
      exact ⟨A1, c1, A2, c2, rfl, h1, h2, h3, h4, h5, h6, h7, hb⟩⟩
  obtain ⟨hes, M, hM⟩ := decC_enc hd
  have HM := Aside0.mk hM
  have HES : Aside0 (FrEv.B (encS q ws cs) = bS l) := ⟨by rw [hes]; rfl⟩
  clear hes hM
  clear hr hd hl
  generalize bS l = sl at *
  go_enter Try.func9, Try.ntmps9
  go_wp2_with (first
    | (go_at_call 21; refine (head_any _).mono ?_; rintro e w1 ⟨rfl, hb⟩; have HB1 := Aside0.mk hb; clear hb)
    | (go_at_call 39; refine (HRC.out w1).mono ?_; rintro e w2 ⟨rfl, hb⟩
       have HB2 := Aside0.mk (below_step HB1.out hb)
       obtain ⟨d0, d1, d2⟩ := three_new w2 28 (.int .i64 0) (.int .i64 0) (.slice none 0 0)
       have HB3 := Aside0.mk (below_step HB2.out (below_alloc (Below.refl w2.heap.size w2) (.cells #[.int .i64 0, .int .i64 0, .slice none 0 0] 28)))
       have HB4 := HB3
       clear hb)
    | (go_at_call 41; refine (HDE.out _).mono ?_; rintro e w5 ⟨A1, c1, A2, c2, rfl, hC1, hc1, hn1, hC2, hc2, hn2, h200, hb⟩
       have HB5 := Aside0.mk (below_step HB4.out hb)
       obtain ⟨x0, x1, x2⟩ := three_new w5 25 (.int .i64 q) (.slice A1 ws.length c1) (.slice A2 cs.length c2)
       have hba := below_alloc (Below.refl w5.heap.size w5) (.cells #[.int .i64 q, .slice A1 ws.length c1, .slice A2 cs.length c2] 25)
       have HB6 := Aside0.mk (below_step HB5.out hba)
       have HEC := Aside0.mk (enc_good q ws cs A1 A2 c1 c2 _ (Kd.C_below hC1 hba) hc1 hn1 (Kd.C_below hC2 hba) hc2 hn2 (fun i hi => by have := h200 i hi; omega) M HM.out)
       rw [HES.out] at HEC
       have HST := Aside0.mk (fun W hW => state_any q ws cs A1 A2 c1 c2 W (Kd.C_below hC1 (below_step hba hW)) hc1 hn1 (Kd.C_below hC2 (below_step hba hW)) hc2 hn2 (fun i hi => by have := h200 i hi; omega))
       clear hb hC1 hc1 hn1 hC2 hc2 hn2 h200 hba)
    | (go_at_call 24; refine HEC.out.mono ?_; rintro e w7 ⟨rfl, hb⟩
       have HB7 := Aside0.mk (below_step HB6.out hb)
       have HSA := Aside0.mk (HST.out w7 hb)
       rw [HM.out] at HSA
       have x0 := up hb x0
       have x1 := up hb x1
       have x2 := up hb x2
       clear hb HST HEC)
    | (go_at_call 23; refine HSA.out.mono ?_; rintro e w8 ⟨hb, _, h8⟩
       obtain ⟨sb, e8, _⟩ := h8 M rfl
       subst e8
       have HB8 := Aside0.mk (below_step HB7.out hb)
       clear hb h8 HSA))
  go_ret
  exact ⟨rfl, HB8.out⟩
set_option maxHeartbeats 16000000 in
theorem reads_sn (l : List UInt8) (w : World) (hl : l.length ≤ 1000) (c : RecP.Ct) (hr : readC l = some c) (hd : decC l = none) : Calls Try.prog 9 #[.string (bS l)] w fun e w' => e = .returned (.bool true) ∧ Below w.heap.size w w' := by
  have n1 : decide ((1000 : Int) < ((bS l).size : Int)) = false := decide_eq_false (by rw [bS_size]; omega)
  have n2 : ¬ (1000 : Int) < ((bS l).size : Int) := by rw [bS_size]; omega
  have n3 : ((bS l).toList == (bS l).toList) = true := beq_self_eq_true _
  have HRC : Aside0 (∀ W, Calls Try.prog 39 #[.string (bS l)] W fun e w' => ∃ A cap, e = .returned (.tuple #[.agg #[.int .i64 (c.q : Int), .int .i64 (c.t : Int), .slice A c.ws.length cap], .int .i64 0]) ∧ Kd.C k31 w' A c.ws.length (c.ws.map fromR) ∧ c.ws.length ≤ cap ∧ Below W.heap.size W w') := ⟨fun W => by
    refine (readCommit_call (w := W) l (by omega)).mono ?_
    rintro e w' ⟨hb, ⟨h, _⟩ | ⟨c', A, cap, h, rfl, h1, h2⟩⟩
    · rw [hr] at h
      cases h
    · rw [hr] at h
      injection h with h
      subst h
      exact ⟨A, cap, rfl, h1, h2, hb⟩⟩
  have HEN : Aside0 (commitA (c.q : Int) (c.t : Int) c.ws = (bS l, 0)) := ⟨readC_enc hr⟩
  have HN4 : Aside0 (c.ws.length < 4611686018427387904) := ⟨by have := readC_len hr; omega⟩
  have HDE : Aside0 (∀ W, Calls Try.prog 41 #[.string (bS l)] W fun e w' => e = .returned (.tuple #[.agg #[.int .i64 0, .slice none 0 0, .slice none 0 0], .int .i64 2]) ∧ Below W.heap.size W w') := ⟨fun W => by
    refine (decode_call (w := W) l hl).mono ?_
    rintro e w' ⟨hb, ⟨_, rfl⟩ | ⟨q, ws, cs, _, _, _, _, h, _⟩⟩
    · exact ⟨rfl, hb⟩
    · rw [hd] at h
      cases h⟩
  clear hr hd hl
  generalize bS l = sl at *
  go_enter Try.func9, Try.ntmps9
  go_wp2_with (first
    | (go_at_call 21; refine (head_any _).mono ?_; rintro e w1 ⟨rfl, hb⟩; have HB1 := Aside0.mk hb; clear hb)
    | (go_at_call 39; refine (HRC.out w1).mono ?_; rintro e w2 ⟨A, cap, rfl, hC, hcap, hb⟩
       have HB2 := Aside0.mk (below_step HB1.out hb)
       obtain ⟨d0, d1, d2⟩ := three_new w2 28 (.int .i64 (c.q : Int)) (.int .i64 (c.t : Int)) (.slice A c.ws.length cap)
       have hba := below_alloc (Below.refl w2.heap.size w2) (.cells #[.int .i64 (c.q : Int), .int .i64 (c.t : Int), .slice A c.ws.length cap] 28)
       have HB3 := Aside0.mk (below_step HB2.out hba)
       have HCM := Aside0.mk (commit_call (c.q : Int) (c.t : Int) c.ws A cap (Kd.C_below hC hba) hcap HN4.out)
       rw [HEN.out] at HCM
       clear hb hC hcap hba)
    | (go_at_call 40; refine HCM.out.mono ?_; rintro e w4 ⟨rfl, hb⟩
       have HB4 := Aside0.mk (below_step HB3.out hb)
       clear hb HCM)
    | (go_at_call 41; refine (HDE.out _).mono ?_; rintro e w5 ⟨rfl, hb⟩
       have HB5 := Aside0.mk (below_step HB4.out hb)
       obtain ⟨x0, x1, x2⟩ := three_new w5 25 (.int .i64 0) (.slice none 0 0) (.slice none 0 0)
       have HB6 := Aside0.mk (below_step HB5.out (below_alloc (Below.refl w5.heap.size w5) (.cells #[.int .i64 0, .slice none 0 0, .slice none 0 0] 25)))
       clear hb))
  go_ret
  exact ⟨rfl, HB6.out⟩
set_option maxHeartbeats 16000000 in
theorem reads_ss (l : List UInt8) (w : World) (hl : l.length ≤ 1000) (c : RecP.Ct) (hr : readC l = some c) (q : Int) (ws : List Wr) (cs : List Cm) (hd : decC l = some (q, ws, cs)) : Calls Try.prog 9 #[.string (bS l)] w fun e w' => e = .returned (.bool true) ∧ Below w.heap.size w w' := by
  have n1 : decide ((1000 : Int) < ((bS l).size : Int)) = false := decide_eq_false (by rw [bS_size]; omega)
  have n2 : ¬ (1000 : Int) < ((bS l).size : Int) := by rw [bS_size]; omega
  have n3 : ((bS l).toList == (bS l).toList) = true := beq_self_eq_true _
  have HRC : Aside0 (∀ W, Calls Try.prog 39 #[.string (bS l)] W fun e w' => ∃ A cap, e = .returned (.tuple #[.agg #[.int .i64 (c.q : Int), .int .i64 (c.t : Int), .slice A c.ws.length cap], .int .i64 0]) ∧ Kd.C k31 w' A c.ws.length (c.ws.map fromR) ∧ c.ws.length ≤ cap ∧ Below W.heap.size W w') := ⟨fun W => by
    refine (readCommit_call (w := W) l (by omega)).mono ?_
    rintro e w' ⟨hb, ⟨h, _⟩ | ⟨c', A, cap, h, rfl, h1, h2⟩⟩
    · rw [hr] at h
      cases h
    · rw [hr] at h
      injection h with h
      subst h
      exact ⟨A, cap, rfl, h1, h2, hb⟩⟩
  have HEN : Aside0 (commitA (c.q : Int) (c.t : Int) c.ws = (bS l, 0)) := ⟨readC_enc hr⟩
  have HN4 : Aside0 (c.ws.length < 4611686018427387904) := ⟨by have := readC_len hr; omega⟩
  have HDE : Aside0 (∀ W, Calls Try.prog 41 #[.string (bS l)] W fun e w' => ∃ A1 c1 A2 c2, e = .returned (.tuple #[.agg #[.int .i64 q, .slice A1 ws.length c1, .slice A2 cs.length c2], .int .i64 0]) ∧ Kd.C k31 w' A1 ws.length ws ∧ ws.length ≤ c1 ∧ ws.length ≤ 1000 ∧ Kd.C k28 w' A2 cs.length cs ∧ cs.length ≤ c2 ∧ cs.length ≤ 1000 ∧ (∀ i, i < cs.length → (cA cs i).f2.length ≤ 200) ∧ Below W.heap.size W w') := ⟨fun W => by
    refine (decode_call (w := W) l hl).mono ?_
    rintro e w' ⟨hb, ⟨h, _⟩ | ⟨q', ws', cs', A1, c1, A2, c2, h, rfl, h1, h2, h3, h4, h5, h6, h7⟩⟩
    · rw [hd] at h
      cases h
    · rw [hd] at h
      injection h with h
      injection h with e1 h
      injection h with e2 e3
      subst e1 e2 e3
      exact ⟨A1, c1, A2, c2, rfl, h1, h2, h3, h4, h5, h6, h7, hb⟩⟩
  obtain ⟨hes, M, hM⟩ := decC_enc hd
  have HM := Aside0.mk hM
  have HES : Aside0 (FrEv.B (encS q ws cs) = bS l) := ⟨by rw [hes]; rfl⟩
  clear hes hM
  clear hr hd hl
  generalize bS l = sl at *
  go_enter Try.func9, Try.ntmps9
  go_wp2_with (first
    | (go_at_call 21; refine (head_any _).mono ?_; rintro e w1 ⟨rfl, hb⟩; have HB1 := Aside0.mk hb; clear hb)
    | (go_at_call 39; refine (HRC.out w1).mono ?_; rintro e w2 ⟨A, cap, rfl, hC, hcap, hb⟩
       have HB2 := Aside0.mk (below_step HB1.out hb)
       obtain ⟨d0, d1, d2⟩ := three_new w2 28 (.int .i64 (c.q : Int)) (.int .i64 (c.t : Int)) (.slice A c.ws.length cap)
       have hba := below_alloc (Below.refl w2.heap.size w2) (.cells #[.int .i64 (c.q : Int), .int .i64 (c.t : Int), .slice A c.ws.length cap] 28)
       have HB3 := Aside0.mk (below_step HB2.out hba)
       have HCM := Aside0.mk (commit_call (c.q : Int) (c.t : Int) c.ws A cap (Kd.C_below hC hba) hcap HN4.out)
       rw [HEN.out] at HCM
       clear hb hC hcap hba)
    | (go_at_call 40; refine HCM.out.mono ?_; rintro e w4 ⟨rfl, hb⟩
       have HB4 := Aside0.mk (below_step HB3.out hb)
       clear hb HCM)
    | (go_at_call 41; refine (HDE.out _).mono ?_; rintro e w5 ⟨A1, c1, A2, c2, rfl, hC1, hc1, hn1, hC2, hc2, hn2, h200, hb⟩
       have HB5 := Aside0.mk (below_step HB4.out hb)
       obtain ⟨x0, x1, x2⟩ := three_new w5 25 (.int .i64 q) (.slice A1 ws.length c1) (.slice A2 cs.length c2)
       have hba := below_alloc (Below.refl w5.heap.size w5) (.cells #[.int .i64 q, .slice A1 ws.length c1, .slice A2 cs.length c2] 25)
       have HB6 := Aside0.mk (below_step HB5.out hba)
       have HEC := Aside0.mk (enc_good q ws cs A1 A2 c1 c2 _ (Kd.C_below hC1 hba) hc1 hn1 (Kd.C_below hC2 hba) hc2 hn2 (fun i hi => by have := h200 i hi; omega) M HM.out)
       rw [HES.out] at HEC
       have HST := Aside0.mk (fun W hW => state_any q ws cs A1 A2 c1 c2 W (Kd.C_below hC1 (below_step hba hW)) hc1 hn1 (Kd.C_below hC2 (below_step hba hW)) hc2 hn2 (fun i hi => by have := h200 i hi; omega))
       clear hb hC1 hc1 hn1 hC2 hc2 hn2 h200 hba)
    | (go_at_call 24; refine HEC.out.mono ?_; rintro e w7 ⟨rfl, hb⟩
       have HB7 := Aside0.mk (below_step HB6.out hb)
       have HSA := Aside0.mk (HST.out w7 hb)
       rw [HM.out] at HSA
       have x0 := up hb x0
       have x1 := up hb x1
       have x2 := up hb x2
       clear hb HST HEC)
    | (go_at_call 23; refine HSA.out.mono ?_; rintro e w8 ⟨hb, _, h8⟩
       obtain ⟨sb, e8, _⟩ := h8 M rfl
       subst e8
       have HB8 := Aside0.mk (below_step HB7.out hb)
       clear hb h8 HSA))
  go_ret
  exact ⟨rfl, HB8.out⟩
theorem recReads_walk (s : ByteArray) (w : World) (_ : s.size ≤ 140737488351232) : Calls Try.prog 9 #[.string s] w fun e w' => e = .returned (.bool true) ∧ Below w.heap.size w w' := by
  by_cases h : s.size ≤ 1000
  · obtain ⟨l, rfl⟩ : ∃ l, s = bS l := ⟨s.data.toList, FrEv.B_of s⟩
    rw [bS_size] at h
    cases hr : readC l with
    | none =>
      cases hd : decC l with
      | none => exact reads_nn l w h hr hd
      | some x => exact reads_ns l w h hr x.1 x.2.1 x.2.2 hd
    | some c =>
      cases hd : decC l with
      | none => exact reads_sn l w h c hr hd
      | some x => exact reads_ss l w h c hr x.1 x.2.1 x.2.2 hd
  · exact reads_big s w h
end Go.Proofs.Ytmafibbnojdpjaa.St
end
