/- Lemmas that the proof needs, part 6. -/
import Derived.Test.YtmafibbnojdpjaaProg
import Derived.WalkLawsBesides
import Derived.Below
import Derived.Deep.Draws
import Derived.Deep.AppendLies
import Derived.Maps.AppendAt
import Derived.OwnWalk
import Derived.Laws.BytesArg
import Derived.Laws.MakeOwn
import Derived.Laws.OwnMore
import Derived.Deep.OwnRows
import Derived.Tactics
import Derived.Lib.ConvBytes
import Derived.Laws.Slices
import Derived.WalkKit
import Derived.KernelRfl
import Derived.RowKit3
import Derived.Deep.LoopGhost
import Derived.Deep.QuietTactic
import Derived.BigQuiet
import Derived.WideLaws
import Derived.Deep.DeepCutAuto
import Derived.Deep.CutBlock
import Derived.Deep.RegionHeld3
import Derived.Laws.Rows
import Derived.Lib.AppendStr
import Derived.ArgAppend
import Derived.Laws.IdiomCopy
import Derived.OrdersHeld
import Derived.Laws.BitsLemmas
import Derived.RowKit
import Derived.Test.YtmafibbnojdpjaaWWords
import Derived.Test.YtmafibbnojdpjaaWLast
import Derived.Test.YtmafibbnojdpjaaWQPut
import Derived.Test.YtmafibbnojdpjaaWApart
import Derived.Test.YtmafibbnojdpjaaWArr
import Derived.Test.YtmafibbnojdpjaaWZeros
import Derived.Test.YtmafibbnojdpjaaWFoot
import Derived.Test.YtmafibbnojdpjaaWKept
import Derived.Test.YtmafibbnojdpjaaWShare
import Derived.Test.YtmafibbnojdpjaaWN
import Derived.Test.YtmafibbnojdpjaaWEqStruct
import Derived.Test.YtmafibbnojdpjaaWRepsOne
import Derived.Test.YtmafibbnojdpjaaWGuard
import Derived.Test.YtmafibbnojdpjaaWNEv
import Derived.Test.YtmafibbnojdpjaaWMore
import Derived.Outline
section
namespace Go.Proofs.Ytmafibbnojdpjaa.P
open Go.RowKit Go.Proofs.YtmafibbnojdpjaaW.PrintWords Go.Proofs.YtmafibbnojdpjaaW.PrintLast Go.Proofs.YtmafibbnojdpjaaW.PrintMore
attribute [local go_sem] max2_int min2_int max_two min_two max_three min_three max_four min_four   -- for this text's walks alone
set_option linter.unusedVariables false
set_option linter.unusedSimpArgs false
def errW : Option Int → Value
  | none => .nilIface
  | some c => .iface 0 (.int .i64 c)
theorem errW_none : errW none = .nilIface := rfl
theorem errW_some (c : Int) : errW (some c) = .iface 0 (.int .i64 c) := rfl
theorem info28 : (Try.prog.info? 28).map (fun i => (i.zero, i.size, i.bytes)) = some (some (.agg #[(.int .i64 0), (.int .i64 0), (.slice none 0 0)]), 3, 40) := by kernel_rfl
theorem info31 : (Try.prog.info? 31).map (fun i => (i.zero, i.size, i.bytes)) = some (some (.agg #[(.string ⟨#[]⟩), (.string ⟨#[]⟩), (.bool false)]), 3, 40) := by kernel_rfl
-- the values' own types
structure S31 where
  f0 : ByteArray
  f1 : ByteArray
  f2 : Bool
def z31 : S31 := ⟨(⟨#[]⟩ : ByteArray), (⟨#[]⟩ : ByteArray), false⟩
def k31 : Kd S31 := Kd.iso (Kd.pair Kd.string (Kd.pair Kd.string Kd.bool)) (fun x : S31 => (x.f0, x.f1, x.f2))
theorem k31_open {w : World} {x : S31} {cs : List Value} (h : k31.K w x cs) : cs = [.string x.f0, .string x.f1, .bool x.f2] := by
  obtain ⟨_, _, rfl, rfl, ⟨_, _, rfl, rfl, rfl⟩⟩ := h
  exact rfl
theorem k31_openM {w : World} {base : Nat} {ok : Nat → Prop} {x : S31} {cs : List Value} (h : k31.M w base ok x cs) : cs = [.string x.f0, .string x.f1, .bool x.f2] := by
  obtain ⟨_, _, rfl, rfl, ⟨_, _, rfl, rfl, rfl⟩⟩ := h
  exact rfl
theorem k31_mkM (w : World) (base : Nat) (ok : Nat → Prop) (x : S31)  : k31.M w base ok x [.string x.f0, .string x.f1, .bool x.f2] := ⟨[.string x.f0], [.string x.f1, .bool x.f2], rfl, rfl, ⟨[.string x.f1], [.bool x.f2], rfl, rfl, rfl⟩⟩
def rd_T31 (xs : List S31) (i : Int) : S31 := xs.getD i.toNat z31
theorem at_T31 {w : World} {A : Option Addr} {n : Nat} {xs : List S31} (h : Kd.C k31 w A n xs) (i : Int) (h0 : 0 ≤ i) (h1 : i < n) : ∃ ad , A = some ad ∧ w.cell? (ad.add (i.toNat * 3)) = some (.string (rd_T31 xs i).f0) ∧ w.cell? ⟨(ad.add (i.toNat * 3)).block, (ad.add (i.toNat * 3)).off + 1, none⟩ = some (.string (rd_T31 xs i).f1) ∧ w.cell? ⟨(ad.add (i.toNat * 3)).block, (ad.add (i.toNat * 3)).off + 2, none⟩ = some (.bool (rd_T31 xs i).f2) := by
  obtain ⟨ad, c, e, _, hK, hc0⟩ := Kd.C_get h z31 i h0 h1
  have hc : ∀ j u, c[j]? = some u → w.cell? (ad.add (i.toNat * 3 + j)) = some u := hc0
  obtain rfl := k31_open hK
  exact ⟨ad, e, hc 0 _ rfl, by rw [← add_field _ _ 1 (by omega)]; exact hc 1 _ rfl, by rw [← add_field _ _ 2 (by omega)]; exact hc 2 _ rfl⟩
structure S118 where
  f0 : Int
  f1 : ByteArray
  f2 : Bool
def z118 : S118 := ⟨(0 : Int), (⟨#[]⟩ : ByteArray), false⟩
def k118 : Kd S118 := Kd.iso (Kd.pair (Kd.int .i64) (Kd.pair Kd.string Kd.bool)) (fun x : S118 => (x.f0, x.f1, x.f2))
theorem k118_open {w : World} {x : S118} {cs : List Value} (h : k118.K w x cs) : cs = [.int .i64 x.f0, .string x.f1, .bool x.f2] := by
  obtain ⟨_, _, rfl, rfl, ⟨_, _, rfl, rfl, rfl⟩⟩ := h
  exact rfl
theorem k118_mkM (w : World) (base : Nat) (ok : Nat → Prop) (x : S118)  : k118.M w base ok x [.int .i64 x.f0, .string x.f1, .bool x.f2] := ⟨[.int .i64 x.f0], [.string x.f1, .bool x.f2], rfl, rfl, ⟨[.string x.f1], [.bool x.f2], rfl, rfl, rfl⟩⟩
def rd_T118 (xs : List S118) (i : Int) : S118 := xs.getD i.toNat z118
theorem at_T118 {w : World} {A : Option Addr} {n : Nat} {xs : List S118} (h : Kd.C k118 w A n xs) (i : Int) (h0 : 0 ≤ i) (h1 : i < n) : ∃ ad , A = some ad ∧ w.cell? (ad.add (i.toNat * 3)) = some (.int .i64 (rd_T118 xs i).f0) ∧ w.cell? ⟨(ad.add (i.toNat * 3)).block, (ad.add (i.toNat * 3)).off + 1, none⟩ = some (.string (rd_T118 xs i).f1) ∧ w.cell? ⟨(ad.add (i.toNat * 3)).block, (ad.add (i.toNat * 3)).off + 2, none⟩ = some (.bool (rd_T118 xs i).f2) := by
  obtain ⟨ad, c, e, _, hK, hc0⟩ := Kd.C_get h z118 i h0 h1
  have hc : ∀ j u, c[j]? = some u → w.cell? (ad.add (i.toNat * 3 + j)) = some u := hc0
  obtain rfl := k118_open hK
  exact ⟨ad, e, hc 0 _ rfl, by rw [← add_field _ _ 1 (by omega)]; exact hc 1 _ rfl, by rw [← add_field _ _ 2 (by omega)]; exact hc 2 _ rfl⟩
def rd_L9 (xs : List (List S31)) (i : Int) : (List S31) := xs.getD i.toNat ([] : List S31)
theorem at_L9 {w : World} {A : Option Addr} {n : Nat} {xs : List (List S31)} (h : Kd.C (Kd.slice 31 k31) w A n xs) (i : Int) (h0 : 0 ≤ i) (h1 : i < n) : ∃ ad A0 c0, A = some ad ∧ w.cell? (ad.add i.toNat) = some (.slice A0 (rd_L9 xs i).length c0) ∧ (rd_L9 xs i).length ≤ c0 ∧ k31.C w A0 (rd_L9 xs i).length (rd_L9 xs i) := by
  obtain ⟨ad, c, e, _, hK, hc0⟩ := Kd.C_get h ([] : List S31) i h0 h1
  have hc : ∀ j u, c[j]? = some u → w.cell? (ad.add (i.toNat * 1 + j)) = some u := hc0
  obtain ⟨A0, c0, rfl, l0, g0⟩ := hK
  exact ⟨ad, A0, c0, e, by have hq := hc 0 _ rfl; rwa [Nat.mul_one, Nat.add_zero] at hq, l0, g0⟩
structure S28 where
  f0 : Int
  f1 : Int
  f2 : (List S31)
def z28 : S28 := ⟨(0 : Int), (0 : Int), ([] : List S31)⟩
def k28 : Kd S28 := Kd.iso (Kd.pair (Kd.int .i64) (Kd.pair (Kd.int .i64) (Kd.slice 31 k31))) (fun x : S28 => (x.f0, x.f1, x.f2))
theorem k28_open {w : World} {x : S28} {cs : List Value} (h : k28.K w x cs) : ∃ A2 c2, cs = [.int .i64 x.f0, .int .i64 x.f1, .slice A2 x.f2.length c2] ∧ x.f2.length ≤ c2 ∧ k31.C w A2 x.f2.length x.f2 := by
  obtain ⟨_, _, rfl, rfl, ⟨_, _, rfl, rfl, ⟨A2, c2, rfl, l2, g2⟩⟩⟩ := h
  exact ⟨A2, c2, rfl, l2, g2⟩
theorem k28_mkM (w : World) (base : Nat) (ok : Nat → Prop) (x : S28) {v2 : Value} (g2 : k31.R 31 w base ok v2 x.f2) : k28.M w base ok x [.int .i64 x.f0, .int .i64 x.f1, v2] := ⟨[.int .i64 x.f0], [.int .i64 x.f1, v2], rfl, rfl, ⟨[.int .i64 x.f1], [v2], rfl, rfl, ⟨v2, rfl, g2⟩⟩⟩
def rd_T28 (xs : List S28) (i : Int) : S28 := xs.getD i.toNat z28
theorem at_T28 {w : World} {A : Option Addr} {n : Nat} {xs : List S28} (h : Kd.C k28 w A n xs) (i : Int) (h0 : 0 ≤ i) (h1 : i < n) : ∃ ad A2 c2, A = some ad ∧ w.cell? (ad.add (i.toNat * 3)) = some (.int .i64 (rd_T28 xs i).f0) ∧ w.cell? ⟨(ad.add (i.toNat * 3)).block, (ad.add (i.toNat * 3)).off + 1, none⟩ = some (.int .i64 (rd_T28 xs i).f1) ∧ w.cell? ⟨(ad.add (i.toNat * 3)).block, (ad.add (i.toNat * 3)).off + 2, none⟩ = some (.slice A2 (rd_T28 xs i).f2.length c2) ∧ (rd_T28 xs i).f2.length ≤ c2 ∧ k31.C w A2 (rd_T28 xs i).f2.length (rd_T28 xs i).f2 := by
  obtain ⟨ad, c, e, _, hK, hc0⟩ := Kd.C_get h z28 i h0 h1
  have hc : ∀ j u, c[j]? = some u → w.cell? (ad.add (i.toNat * 3 + j)) = some u := hc0
  obtain ⟨A2, c2, rfl, l2, g2⟩ := k28_open hK
  exact ⟨ad, A2, c2, e, hc 0 _ rfl, by rw [← add_field _ _ 1 (by omega)]; exact hc 1 _ rfl, by rw [← add_field _ _ 2 (by omega)]; exact hc 2 _ rfl, l2, g2⟩
end Go.Proofs.Ytmafibbnojdpjaa.P
end
section
namespace Go.Proofs.Ytmafibbnojdpjaa.P
open Go.RowKit Go.Proofs.YtmafibbnojdpjaaW.PrintWords Go.Proofs.YtmafibbnojdpjaaW.PrintLast Go.Proofs.YtmafibbnojdpjaaW.PrintMore
attribute [local go_sem] max2_int min2_int max_two min_two max_three min_three max_four min_four   -- for this text's walks alone
set_option linter.unusedVariables false
set_option linter.unusedSimpArgs false
def store_rises.l0 : Nat → List (S31) → List (S31) → Int → Int → Option (Bool)
  | 0, _, _, _, _ => none
  | k + 1, x0, x5, x6, x7 => if x7 < x6 then (if 0 ≤ x7 then (if x7 < (x5.length : Int) then (if ((rd_T31 x5 x7).f0).toList = ([] : List UInt8) then (some false) else (if (((rd_T31 x5 x7).f0).size : Int) > 400 then (some false) else (if (((rd_T31 x5 x7).f1).size : Int) > 4096 then (some false) else (if (rd_T31 x5 x7).f2 = true then (if ((rd_T31 x5 x7).f1).toList = ([] : List UInt8) then (if x7 > 0 then (if 0 ≤ (wrap64 (x7 - 1)) then (if (wrap64 (x7 - 1)) < (x0.length : Int) then (if ((Op.bytesLess (((rd_T31 x0 (wrap64 (x7 - 1))).f0).toList) (((rd_T31 x5 x7).f0).toList)) = true) then (store_rises.l0 k x0 x5 x6 (wrap64 (x7 + 1))) else (some false)) else (none)) else (none)) else (store_rises.l0 k x0 x5 x6 (wrap64 (x7 + 1)))) else (some false)) else (if x7 > 0 then (if 0 ≤ (wrap64 (x7 - 1)) then (if (wrap64 (x7 - 1)) < (x0.length : Int) then (if ((Op.bytesLess (((rd_T31 x0 (wrap64 (x7 - 1))).f0).toList) (((rd_T31 x5 x7).f0).toList)) = true) then (store_rises.l0 k x0 x5 x6 (wrap64 (x7 + 1))) else (some false)) else (none)) else (none)) else (store_rises.l0 k x0 x5 x6 (wrap64 (x7 + 1)))))))) else (none)) else (none)) else (some true)
def store_rises.f (k : Nat) (l0 : List (S31)) : Option (Bool) := store_rises.l0 k l0 l0 (l0.length : Int) 0
theorem store_rises.mono_l : ∀ k, (∀ y0 y1 y2 y3, LeO (store_rises.l0 k y0 y1 y2 y3) (store_rises.l0 (k + 1) y0 y1 y2 y3))
  | 0 => fun _ _ _ _ r h => by simp [store_rises.l0] at h
  | k + 1 => by
    have ih0 := store_rises.mono_l k
    · intro y0 y1 y2 y3
      unfold store_rises.l0
      repeat' first
      | (with_reducible exact ih0 _ _ _ _)
      | (with_reducible exact LeO.refl _)
      | (with_reducible exact LeO.none _)
      | (with_reducible refine LeO.ite ?_ ?_)
      | (with_reducible refine LeO.bind ?_ (fun _ => ?_))
      | exact ih0 _ _ _ _
      | exact LeO.none _
      | refine LeO.ite ?_ ?_
      | refine LeO.bind ?_ (fun _ => ?_)
theorem store_rises.mono : ∀ a0 k, LeO (store_rises.f k a0) (store_rises.f (k + 1) a0) := by
  intro a0 k
  have ih0 := store_rises.mono_l k
  unfold store_rises.f
  repeat' first
      | (with_reducible exact ih0 _ _ _ _)
      | (with_reducible exact LeO.refl _)
      | (with_reducible exact LeO.none _)
      | (with_reducible refine LeO.ite ?_ ?_)
      | (with_reducible refine LeO.bind ?_ (fun _ => ?_))
      | exact ih0 _ _ _ _
      | exact LeO.none _
      | refine LeO.ite ?_ ?_
      | refine LeO.bind ?_ (fun _ => ?_)
set_option maxHeartbeats 8000000 in
set_option maxRecDepth 100000 in
theorem store_rises.calls (k : Nat) (A0 : Option Addr) (c0 : Nat) (l0 : List (S31)) (r : Bool) (w : World) (hr0 : Kd.C k31 w A0 l0.length l0) (hc0 : l0.length ≤ c0) (h : store_rises.f k l0 = some r) :
    Calls Try.prog 64 #[.slice A0 l0.length c0] w fun e w' => e = .returned (.bool r) ∧ Below w.heap.size w w' := by
  have hu31 := Try.underlying31
  have HR0 := Aside0.mk hr0
  have HC0 := Aside0.mk hc0
  clear hr0 hc0
  have HB := Aside0.mk (Below.refl w.heap.size w)
  have H : (store_rises.l0 k l0 l0 (l0.length : Int) 0) = some r := h
  clear h
  have H' := Aside0.mk H
  clear H
  go_enter Try.func64, Try.ntmps64
  go_wp2
  repeat (go_quiet (fail); try go_wp2)
  go_loopg [7] k (fun kq v7 w' => ∃ (x7_1 : Int), v7 = .int .i64 x7_1 ∧ Aside0 (store_rises.l0 kq l0 l0 (l0.length : Int) x7_1 = some r) ∧ Aside0 (kq ≤ k) ∧ Aside0 (Below w.heap.size w w'))
  case atStart => exact ⟨(0), (by first | rfl | (simp; done) | (simp [*]; done)), H', ⟨Nat.le_refl _⟩, ⟨by repeat (first | (with_reducible first | exact HB.out | apply below_alloc | apply pw_below_drewN | apply below_drew1) | exact HB.out)⟩⟩
  case round =>
    clear H'
    obtain ⟨x7_1, rfl, HA, HK1, HB⟩ := hrel
    cases gk with
    | zero => exact absurd HA.out (by simp [store_rises.l0])
    | succ k1 =>
      have H := HA.out
      clear HA
      simp only [store_rises.l0] at H
      by_cases c2 : x7_1 < (l0.length : Int)
      · rw [if_pos c2] at H
        have c2b0 : decide (x7_1 < (l0.length : Int)) = true := decide_eq_true c2
        clear c2
        by_cases c3 : 0 ≤ x7_1
        · rw [if_pos c3] at H
          have c3b0 : decide (0 ≤ x7_1) = true := decide_eq_true c3
          clear c3
          by_cases c4 : x7_1 < (l0.length : Int)
          · rw [if_pos c4] at H
            have c4b0 : decide (x7_1 < (l0.length : Int)) = true := decide_eq_true c4
            clear c4
            by_cases c5 : ((rd_T31 l0 x7_1).f0).toList = ([] : List UInt8)
            · rw [if_pos c5] at H
              have c5b0 : (((rd_T31 l0 x7_1).f0).toList == ([] : List UInt8)) = true := beq_iff_eq.mpr c5
              have c5b1 : (((rd_T31 l0 x7_1).f0).toList != ([] : List UInt8)) = false := bne_eq_false_iff_eq.mpr c5
              clear c5
              obtain rfl := Option.some.inj H
              have p143 : 0 ≤ (x7_1 : Int) := of_decide_eq_true (by first | (with_reducible assumption) | assumption)
              have q143 : x7_1 < (l0.length : Int) := of_decide_eq_true (by first | (with_reducible assumption) | assumption)
              obtain ⟨ad143, e143, hx143_0, hx143_1, hx143_2⟩ := at_T31 HR0.out x7_1 p143 q143
              cases e143
              replace hx143_0 := (HB.out.cell (World.block_lt_of_cell? w _ hx143_0)).trans hx143_0
              replace hx143_1 := (HB.out.cell (World.block_lt_of_cell? w _ hx143_1)).trans hx143_1
              replace hx143_2 := (HB.out.cell (World.block_lt_of_cell? w _ hx143_2)).trans hx143_2
              replace p143 := eq_true p143
              replace q143 := eq_true q143
              go_wp2_with (first | ((with_reducible refine gate_dst (N := 4) rfl ?_); (try (refine gate_guard (by rfl) ?_; dsimp only)); refine box_event ?hg (N := 4) ?hd (cs := #[.string (⟨#[]⟩ : ByteArray), .string (⟨#[]⟩ : ByteArray), .bool false]) (t := 31) ?hr ?_; (case hd => rfl); (case hg => rfl); (case hr => first | (go_simp; done) | (go_simp; rfl)); intro gb144 hg w6 hbox hb; have n0_ := Aside0.mk (below_step (by repeat (first | (with_reducible first | exact HB.out | apply below_alloc | apply pw_below_drewN | apply below_drew1) | exact HB.out)) hb); have n1_ := Aside0.mk (hbox); have n2_ := Aside0.mk ((by rw [hg]; exact (below_size (by repeat (first | (with_reducible first | exact HB.out | apply below_alloc | apply pw_below_drewN | apply below_drew1) | exact HB.out))) : w.heap.size ≤ gb144)); have n3_ := Aside0.mk ((by rw [hg]; exact (below_size (by repeat (first | (with_reducible first | exact HB.out | apply below_alloc | apply pw_below_drewN | apply below_drew1) | exact HB.out))) : w.heap.size ≤ gb144)); clear HB; have HB := n0_; have BK144 := n1_; have GW144 := n2_; have GE144 := n3_; clear n0_ n1_ n2_ n3_; clear hb hbox hg; have hcz7_0 : w6.cell? ⟨gb144, 0, none⟩ = some (.string (⟨#[]⟩ : ByteArray)) := (blk_cell BK144.out 0).trans rfl; have hcz7_1 : w6.cell? ⟨gb144, 1, none⟩ = some (.string (⟨#[]⟩ : ByteArray)) := (blk_cell BK144.out 1).trans rfl; have hcz7_2 : w6.cell? ⟨gb144, 2, none⟩ = some (.bool false) := (blk_cell BK144.out 2).trans rfl; have hfz7_0 := blk_frozen BK144.out 0; have hfz7_1 := blk_frozen BK144.out 1; have hfz7_2 := blk_frozen BK144.out 2))
              repeat (go_quiet (first | ((with_reducible refine gate_dst (N := 4) rfl ?_); (try (refine gate_guard (by rfl) ?_; dsimp only)); refine box_event ?hg (N := 4) ?hd (cs := #[.string (⟨#[]⟩ : ByteArray), .string (⟨#[]⟩ : ByteArray), .bool false]) (t := 31) ?hr ?_; (case hd => rfl); (case hg => rfl); (case hr => first | (go_simp; done) | (go_simp; rfl)); intro gb144 hg w6 hbox hb; have n0_ := Aside0.mk (below_step (by repeat (first | (with_reducible first | exact HB.out | apply below_alloc | apply pw_below_drewN | apply below_drew1) | exact HB.out)) hb); have n1_ := Aside0.mk (hbox); have n2_ := Aside0.mk ((by rw [hg]; exact (below_size (by repeat (first | (with_reducible first | exact HB.out | apply below_alloc | apply pw_below_drewN | apply below_drew1) | exact HB.out))) : w.heap.size ≤ gb144)); have n3_ := Aside0.mk ((by rw [hg]; exact (below_size (by repeat (first | (with_reducible first | exact HB.out | apply below_alloc | apply pw_below_drewN | apply below_drew1) | exact HB.out))) : w.heap.size ≤ gb144)); clear HB; have HB := n0_; have BK144 := n1_; have GW144 := n2_; have GE144 := n3_; clear n0_ n1_ n2_ n3_; clear hb hbox hg; have hcz7_0 : w6.cell? ⟨gb144, 0, none⟩ = some (.string (⟨#[]⟩ : ByteArray)) := (blk_cell BK144.out 0).trans rfl; have hcz7_1 : w6.cell? ⟨gb144, 1, none⟩ = some (.string (⟨#[]⟩ : ByteArray)) := (blk_cell BK144.out 1).trans rfl; have hcz7_2 : w6.cell? ⟨gb144, 2, none⟩ = some (.bool false) := (blk_cell BK144.out 2).trans rfl; have hfz7_0 := blk_frozen BK144.out 0; have hfz7_1 := blk_frozen BK144.out 1; have hfz7_2 := blk_frozen BK144.out 2)); try go_wp2_with (first | ((with_reducible refine gate_dst (N := 4) rfl ?_); (try (refine gate_guard (by rfl) ?_; dsimp only)); refine box_event ?hg (N := 4) ?hd (cs := #[.string (⟨#[]⟩ : ByteArray), .string (⟨#[]⟩ : ByteArray), .bool false]) (t := 31) ?hr ?_; (case hd => rfl); (case hg => rfl); (case hr => first | (go_simp; done) | (go_simp; rfl)); intro gb144 hg w6 hbox hb; have n0_ := Aside0.mk (below_step (by repeat (first | (with_reducible first | exact HB.out | apply below_alloc | apply pw_below_drewN | apply below_drew1) | exact HB.out)) hb); have n1_ := Aside0.mk (hbox); have n2_ := Aside0.mk ((by rw [hg]; exact (below_size (by repeat (first | (with_reducible first | exact HB.out | apply below_alloc | apply pw_below_drewN | apply below_drew1) | exact HB.out))) : w.heap.size ≤ gb144)); have n3_ := Aside0.mk ((by rw [hg]; exact (below_size (by repeat (first | (with_reducible first | exact HB.out | apply below_alloc | apply pw_below_drewN | apply below_drew1) | exact HB.out))) : w.heap.size ≤ gb144)); clear HB; have HB := n0_; have BK144 := n1_; have GW144 := n2_; have GE144 := n3_; clear n0_ n1_ n2_ n3_; clear hb hbox hg; have hcz7_0 : w6.cell? ⟨gb144, 0, none⟩ = some (.string (⟨#[]⟩ : ByteArray)) := (blk_cell BK144.out 0).trans rfl; have hcz7_1 : w6.cell? ⟨gb144, 1, none⟩ = some (.string (⟨#[]⟩ : ByteArray)) := (blk_cell BK144.out 1).trans rfl; have hcz7_2 : w6.cell? ⟨gb144, 2, none⟩ = some (.bool false) := (blk_cell BK144.out 2).trans rfl; have hfz7_0 := blk_frozen BK144.out 0; have hfz7_1 := blk_frozen BK144.out 1; have hfz7_2 := blk_frozen BK144.out 2)))
              go_ret
              exact ⟨by first | rfl | (simp [errW_none, errW_some] <;> rfl) | (simp [*, errW_none, errW_some] <;> rfl), by repeat (first | (with_reducible first | exact HB.out | apply below_alloc | apply pw_below_drewN | apply below_drew1 | refine below_set ?_ GE144.out) | exact HB.out)⟩
            · rw [if_neg c5] at H
              have c5b0 : (((rd_T31 l0 x7_1).f0).toList == ([] : List UInt8)) = false := beq_eq_false_iff_ne.mpr c5
              have c5b1 : (((rd_T31 l0 x7_1).f0).toList != ([] : List UInt8)) = true := bne_iff_ne.mpr c5
              by_cases c8 : (((rd_T31 l0 x7_1).f0).size : Int) > 400
              · rw [if_pos c8] at H
                have c8b0 : decide (400 < (((rd_T31 l0 x7_1).f0).size : Int)) = true := decide_eq_true c8
                have c8b1 : decide (400 < ((rd_T31 l0 x7_1).f0).size) = true := decide_eq_true (by omega)
                clear c8
                obtain rfl := Option.some.inj H
                have p143 : 0 ≤ (x7_1 : Int) := of_decide_eq_true (by first | (with_reducible assumption) | assumption)
                have q143 : x7_1 < (l0.length : Int) := of_decide_eq_true (by first | (with_reducible assumption) | assumption)
                obtain ⟨ad143, e143, hx143_0, hx143_1, hx143_2⟩ := at_T31 HR0.out x7_1 p143 q143
                cases e143
                replace hx143_0 := (HB.out.cell (World.block_lt_of_cell? w _ hx143_0)).trans hx143_0
                replace hx143_1 := (HB.out.cell (World.block_lt_of_cell? w _ hx143_1)).trans hx143_1
                replace hx143_2 := (HB.out.cell (World.block_lt_of_cell? w _ hx143_2)).trans hx143_2
                replace p143 := eq_true p143
                replace q143 := eq_true q143
                go_wp2_with (first | ((with_reducible refine gate_dst (N := 4) rfl ?_); (try (refine gate_guard (by rfl) ?_; dsimp only)); refine box_event ?hg (N := 4) ?hd (cs := #[.string (⟨#[]⟩ : ByteArray), .string (⟨#[]⟩ : ByteArray), .bool false]) (t := 31) ?hr ?_; (case hd => rfl); (case hg => rfl); (case hr => first | (go_simp; done) | (go_simp; rfl)); intro gb144 hg w9 hbox hb; have n0_ := Aside0.mk (below_step (by repeat (first | (with_reducible first | exact HB.out | apply below_alloc | apply pw_below_drewN | apply below_drew1) | exact HB.out)) hb); have n1_ := Aside0.mk (hbox); have n2_ := Aside0.mk ((by rw [hg]; exact (below_size (by repeat (first | (with_reducible first | exact HB.out | apply below_alloc | apply pw_below_drewN | apply below_drew1) | exact HB.out))) : w.heap.size ≤ gb144)); have n3_ := Aside0.mk ((by rw [hg]; exact (below_size (by repeat (first | (with_reducible first | exact HB.out | apply below_alloc | apply pw_below_drewN | apply below_drew1) | exact HB.out))) : w.heap.size ≤ gb144)); clear HB; have HB := n0_; have BK144 := n1_; have GW144 := n2_; have GE144 := n3_; clear n0_ n1_ n2_ n3_; clear hb hbox hg; have hcz10_0 : w9.cell? ⟨gb144, 0, none⟩ = some (.string (⟨#[]⟩ : ByteArray)) := (blk_cell BK144.out 0).trans rfl; have hcz10_1 : w9.cell? ⟨gb144, 1, none⟩ = some (.string (⟨#[]⟩ : ByteArray)) := (blk_cell BK144.out 1).trans rfl; have hcz10_2 : w9.cell? ⟨gb144, 2, none⟩ = some (.bool false) := (blk_cell BK144.out 2).trans rfl; have hfz10_0 := blk_frozen BK144.out 0; have hfz10_1 := blk_frozen BK144.out 1; have hfz10_2 := blk_frozen BK144.out 2))
                repeat (go_quiet (first | ((with_reducible refine gate_dst (N := 4) rfl ?_); (try (refine gate_guard (by rfl) ?_; dsimp only)); refine box_event ?hg (N := 4) ?hd (cs := #[.string (⟨#[]⟩ : ByteArray), .string (⟨#[]⟩ : ByteArray), .bool false]) (t := 31) ?hr ?_; (case hd => rfl); (case hg => rfl); (case hr => first | (go_simp; done) | (go_simp; rfl)); intro gb144 hg w9 hbox hb; have n0_ := Aside0.mk (below_step (by repeat (first | (with_reducible first | exact HB.out | apply below_alloc | apply pw_below_drewN | apply below_drew1) | exact HB.out)) hb); have n1_ := Aside0.mk (hbox); have n2_ := Aside0.mk ((by rw [hg]; exact (below_size (by repeat (first | (with_reducible first | exact HB.out | apply below_alloc | apply pw_below_drewN | apply below_drew1) | exact HB.out))) : w.heap.size ≤ gb144)); have n3_ := Aside0.mk ((by rw [hg]; exact (below_size (by repeat (first | (with_reducible first | exact HB.out | apply below_alloc | apply pw_below_drewN | apply below_drew1) | exact HB.out))) : w.heap.size ≤ gb144)); clear HB; have HB := n0_; have BK144 := n1_; have GW144 := n2_; have GE144 := n3_; clear n0_ n1_ n2_ n3_; clear hb hbox hg; have hcz10_0 : w9.cell? ⟨gb144, 0, none⟩ = some (.string (⟨#[]⟩ : ByteArray)) := (blk_cell BK144.out 0).trans rfl; have hcz10_1 : w9.cell? ⟨gb144, 1, none⟩ = some (.string (⟨#[]⟩ : ByteArray)) := (blk_cell BK144.out 1).trans rfl; have hcz10_2 : w9.cell? ⟨gb144, 2, none⟩ = some (.bool false) := (blk_cell BK144.out 2).trans rfl; have hfz10_0 := blk_frozen BK144.out 0; have hfz10_1 := blk_frozen BK144.out 1; have hfz10_2 := blk_frozen BK144.out 2)); try go_wp2_with (first | ((with_reducible refine gate_dst (N := 4) rfl ?_); (try (refine gate_guard (by rfl) ?_; dsimp only)); refine box_event ?hg (N := 4) ?hd (cs := #[.string (⟨#[]⟩ : ByteArray), .string (⟨#[]⟩ : ByteArray), .bool false]) (t := 31) ?hr ?_; (case hd => rfl); (case hg => rfl); (case hr => first | (go_simp; done) | (go_simp; rfl)); intro gb144 hg w9 hbox hb; have n0_ := Aside0.mk (below_step (by repeat (first | (with_reducible first | exact HB.out | apply below_alloc | apply pw_below_drewN | apply below_drew1) | exact HB.out)) hb); have n1_ := Aside0.mk (hbox); have n2_ := Aside0.mk ((by rw [hg]; exact (below_size (by repeat (first | (with_reducible first | exact HB.out | apply below_alloc | apply pw_below_drewN | apply below_drew1) | exact HB.out))) : w.heap.size ≤ gb144)); have n3_ := Aside0.mk ((by rw [hg]; exact (below_size (by repeat (first | (with_reducible first | exact HB.out | apply below_alloc | apply pw_below_drewN | apply below_drew1) | exact HB.out))) : w.heap.size ≤ gb144)); clear HB; have HB := n0_; have BK144 := n1_; have GW144 := n2_; have GE144 := n3_; clear n0_ n1_ n2_ n3_; clear hb hbox hg; have hcz10_0 : w9.cell? ⟨gb144, 0, none⟩ = some (.string (⟨#[]⟩ : ByteArray)) := (blk_cell BK144.out 0).trans rfl; have hcz10_1 : w9.cell? ⟨gb144, 1, none⟩ = some (.string (⟨#[]⟩ : ByteArray)) := (blk_cell BK144.out 1).trans rfl; have hcz10_2 : w9.cell? ⟨gb144, 2, none⟩ = some (.bool false) := (blk_cell BK144.out 2).trans rfl; have hfz10_0 := blk_frozen BK144.out 0; have hfz10_1 := blk_frozen BK144.out 1; have hfz10_2 := blk_frozen BK144.out 2)))
                go_ret
                exact ⟨by first | rfl | (simp [errW_none, errW_some] <;> rfl) | (simp [*, errW_none, errW_some] <;> rfl), by repeat (first | (with_reducible first | exact HB.out | apply below_alloc | apply pw_below_drewN | apply below_drew1 | refine below_set ?_ GE144.out) | exact HB.out)⟩
              · rw [if_neg c8] at H
                have c8b0 : decide (400 < (((rd_T31 l0 x7_1).f0).size : Int)) = false := decide_eq_false c8
                have c8b1 : decide (400 < ((rd_T31 l0 x7_1).f0).size) = false := decide_eq_false (by omega)
                clear c8
                by_cases c11 : (((rd_T31 l0 x7_1).f1).size : Int) > 4096
                · rw [if_pos c11] at H
                  have c11b0 : decide (4096 < (((rd_T31 l0 x7_1).f1).size : Int)) = true := decide_eq_true c11
                  have c11b1 : decide (4096 < ((rd_T31 l0 x7_1).f1).size) = true := decide_eq_true (by omega)
                  clear c11
                  obtain rfl := Option.some.inj H
                  have p143 : 0 ≤ (x7_1 : Int) := of_decide_eq_true (by first | (with_reducible assumption) | assumption)
                  have q143 : x7_1 < (l0.length : Int) := of_decide_eq_true (by first | (with_reducible assumption) | assumption)
                  obtain ⟨ad143, e143, hx143_0, hx143_1, hx143_2⟩ := at_T31 HR0.out x7_1 p143 q143
                  cases e143
                  replace hx143_0 := (HB.out.cell (World.block_lt_of_cell? w _ hx143_0)).trans hx143_0
                  replace hx143_1 := (HB.out.cell (World.block_lt_of_cell? w _ hx143_1)).trans hx143_1
                  replace hx143_2 := (HB.out.cell (World.block_lt_of_cell? w _ hx143_2)).trans hx143_2
                  replace p143 := eq_true p143
                  replace q143 := eq_true q143
                  go_wp2_with (first | ((with_reducible refine gate_dst (N := 4) rfl ?_); (try (refine gate_guard (by rfl) ?_; dsimp only)); refine box_event ?hg (N := 4) ?hd (cs := #[.string (⟨#[]⟩ : ByteArray), .string (⟨#[]⟩ : ByteArray), .bool false]) (t := 31) ?hr ?_; (case hd => rfl); (case hg => rfl); (case hr => first | (go_simp; done) | (go_simp; rfl)); intro gb144 hg w12 hbox hb; have n0_ := Aside0.mk (below_step (by repeat (first | (with_reducible first | exact HB.out | apply below_alloc | apply pw_below_drewN | apply below_drew1) | exact HB.out)) hb); have n1_ := Aside0.mk (hbox); have n2_ := Aside0.mk ((by rw [hg]; exact (below_size (by repeat (first | (with_reducible first | exact HB.out | apply below_alloc | apply pw_below_drewN | apply below_drew1) | exact HB.out))) : w.heap.size ≤ gb144)); have n3_ := Aside0.mk ((by rw [hg]; exact (below_size (by repeat (first | (with_reducible first | exact HB.out | apply below_alloc | apply pw_below_drewN | apply below_drew1) | exact HB.out))) : w.heap.size ≤ gb144)); clear HB; have HB := n0_; have BK144 := n1_; have GW144 := n2_; have GE144 := n3_; clear n0_ n1_ n2_ n3_; clear hb hbox hg; have hcz13_0 : w12.cell? ⟨gb144, 0, none⟩ = some (.string (⟨#[]⟩ : ByteArray)) := (blk_cell BK144.out 0).trans rfl; have hcz13_1 : w12.cell? ⟨gb144, 1, none⟩ = some (.string (⟨#[]⟩ : ByteArray)) := (blk_cell BK144.out 1).trans rfl; have hcz13_2 : w12.cell? ⟨gb144, 2, none⟩ = some (.bool false) := (blk_cell BK144.out 2).trans rfl; have hfz13_0 := blk_frozen BK144.out 0; have hfz13_1 := blk_frozen BK144.out 1; have hfz13_2 := blk_frozen BK144.out 2))
                  repeat (go_quiet (first | ((with_reducible refine gate_dst (N := 4) rfl ?_); (try (refine gate_guard (by rfl) ?_; dsimp only)); refine box_event ?hg (N := 4) ?hd (cs := #[.string (⟨#[]⟩ : ByteArray), .string (⟨#[]⟩ : ByteArray), .bool false]) (t := 31) ?hr ?_; (case hd => rfl); (case hg => rfl); (case hr => first | (go_simp; done) | (go_simp; rfl)); intro gb144 hg w12 hbox hb; have n0_ := Aside0.mk (below_step (by repeat (first | (with_reducible first | exact HB.out | apply below_alloc | apply pw_below_drewN | apply below_drew1) | exact HB.out)) hb); have n1_ := Aside0.mk (hbox); have n2_ := Aside0.mk ((by rw [hg]; exact (below_size (by repeat (first | (with_reducible first | exact HB.out | apply below_alloc | apply pw_below_drewN | apply below_drew1) | exact HB.out))) : w.heap.size ≤ gb144)); have n3_ := Aside0.mk ((by rw [hg]; exact (below_size (by repeat (first | (with_reducible first | exact HB.out | apply below_alloc | apply pw_below_drewN | apply below_drew1) | exact HB.out))) : w.heap.size ≤ gb144)); clear HB; have HB := n0_; have BK144 := n1_; have GW144 := n2_; have GE144 := n3_; clear n0_ n1_ n2_ n3_; clear hb hbox hg; have hcz13_0 : w12.cell? ⟨gb144, 0, none⟩ = some (.string (⟨#[]⟩ : ByteArray)) := (blk_cell BK144.out 0).trans rfl; have hcz13_1 : w12.cell? ⟨gb144, 1, none⟩ = some (.string (⟨#[]⟩ : ByteArray)) := (blk_cell BK144.out 1).trans rfl; have hcz13_2 : w12.cell? ⟨gb144, 2, none⟩ = some (.bool false) := (blk_cell BK144.out 2).trans rfl; have hfz13_0 := blk_frozen BK144.out 0; have hfz13_1 := blk_frozen BK144.out 1; have hfz13_2 := blk_frozen BK144.out 2)); try go_wp2_with (first | ((with_reducible refine gate_dst (N := 4) rfl ?_); (try (refine gate_guard (by rfl) ?_; dsimp only)); refine box_event ?hg (N := 4) ?hd (cs := #[.string (⟨#[]⟩ : ByteArray), .string (⟨#[]⟩ : ByteArray), .bool false]) (t := 31) ?hr ?_; (case hd => rfl); (case hg => rfl); (case hr => first | (go_simp; done) | (go_simp; rfl)); intro gb144 hg w12 hbox hb; have n0_ := Aside0.mk (below_step (by repeat (first | (with_reducible first | exact HB.out | apply below_alloc | apply pw_below_drewN | apply below_drew1) | exact HB.out)) hb); have n1_ := Aside0.mk (hbox); have n2_ := Aside0.mk ((by rw [hg]; exact (below_size (by repeat (first | (with_reducible first | exact HB.out | apply below_alloc | apply pw_below_drewN | apply below_drew1) | exact HB.out))) : w.heap.size ≤ gb144)); have n3_ := Aside0.mk ((by rw [hg]; exact (below_size (by repeat (first | (with_reducible first | exact HB.out | apply below_alloc | apply pw_below_drewN | apply below_drew1) | exact HB.out))) : w.heap.size ≤ gb144)); clear HB; have HB := n0_; have BK144 := n1_; have GW144 := n2_; have GE144 := n3_; clear n0_ n1_ n2_ n3_; clear hb hbox hg; have hcz13_0 : w12.cell? ⟨gb144, 0, none⟩ = some (.string (⟨#[]⟩ : ByteArray)) := (blk_cell BK144.out 0).trans rfl; have hcz13_1 : w12.cell? ⟨gb144, 1, none⟩ = some (.string (⟨#[]⟩ : ByteArray)) := (blk_cell BK144.out 1).trans rfl; have hcz13_2 : w12.cell? ⟨gb144, 2, none⟩ = some (.bool false) := (blk_cell BK144.out 2).trans rfl; have hfz13_0 := blk_frozen BK144.out 0; have hfz13_1 := blk_frozen BK144.out 1; have hfz13_2 := blk_frozen BK144.out 2)))
                  go_ret
                  exact ⟨by first | rfl | (simp [errW_none, errW_some] <;> rfl) | (simp [*, errW_none, errW_some] <;> rfl), by repeat (first | (with_reducible first | exact HB.out | apply below_alloc | apply pw_below_drewN | apply below_drew1 | refine below_set ?_ GE144.out) | exact HB.out)⟩
                · rw [if_neg c11] at H
                  have c11b0 : decide (4096 < (((rd_T31 l0 x7_1).f1).size : Int)) = false := decide_eq_false c11
                  have c11b1 : decide (4096 < ((rd_T31 l0 x7_1).f1).size) = false := decide_eq_false (by omega)
                  clear c11
                  obtain ⟨bq14, hbq14⟩ : ∃ b_ : Bool, b_ = ((rd_T31 l0 x7_1).f2) := ⟨_, rfl⟩
                  replace H : (if bq14 = true then (if ((rd_T31 l0 x7_1).f1).toList = ([] : List UInt8) then (if x7_1 > 0 then (if 0 ≤ (wrap64 (x7_1 - 1)) then (if (wrap64 (x7_1 - 1)) < (l0.length : Int) then (if ((Op.bytesLess (((rd_T31 l0 (wrap64 (x7_1 - 1))).f0).toList) (((rd_T31 l0 x7_1).f0).toList)) = true) then (store_rises.l0 k1 l0 l0 (l0.length : Int) (wrap64 (x7_1 + 1))) else (some false)) else (none)) else (none)) else (store_rises.l0 k1 l0 l0 (l0.length : Int) (wrap64 (x7_1 + 1)))) else (some false)) else (if x7_1 > 0 then (if 0 ≤ (wrap64 (x7_1 - 1)) then (if (wrap64 (x7_1 - 1)) < (l0.length : Int) then (if ((Op.bytesLess (((rd_T31 l0 (wrap64 (x7_1 - 1))).f0).toList) (((rd_T31 l0 x7_1).f0).toList)) = true) then (store_rises.l0 k1 l0 l0 (l0.length : Int) (wrap64 (x7_1 + 1))) else (some false)) else (none)) else (none)) else (store_rises.l0 k1 l0 l0 (l0.length : Int) (wrap64 (x7_1 + 1))))) = some r := by rw [← hbq14] at H; exact H
                  have Nbq14 := Aside0.mk hbq14
                  clear hbq14
                  by_cases c15 : bq14 = true
                  · subst c15
                    have H1 : (if ((rd_T31 l0 x7_1).f1).toList = ([] : List UInt8) then (if x7_1 > 0 then (if 0 ≤ (wrap64 (x7_1 - 1)) then (if (wrap64 (x7_1 - 1)) < (l0.length : Int) then (if ((Op.bytesLess (((rd_T31 l0 (wrap64 (x7_1 - 1))).f0).toList) (((rd_T31 l0 x7_1).f0).toList)) = true) then (store_rises.l0 k1 l0 l0 (l0.length : Int) (wrap64 (x7_1 + 1))) else (some false)) else (none)) else (none)) else (store_rises.l0 k1 l0 l0 (l0.length : Int) (wrap64 (x7_1 + 1)))) else (some false)) = some r := by rw [if_pos rfl] at H; exact H
                    clear H
                    have H := H1
                    clear H1
                    by_cases c16 : ((rd_T31 l0 x7_1).f1).toList = ([] : List UInt8)
                    · rw [if_pos c16] at H
                      have c16b0 : (((rd_T31 l0 x7_1).f1).toList == ([] : List UInt8)) = true := beq_iff_eq.mpr c16
                      have c16b1 : (((rd_T31 l0 x7_1).f1).toList != ([] : List UInt8)) = false := bne_eq_false_iff_eq.mpr c16
                      clear c16
                      by_cases c17 : x7_1 > 0
                      · rw [if_pos c17] at H
                        have c17b0 : decide (0 < x7_1) = true := decide_eq_true c17
                        clear c17
                        obtain ⟨ji18, hji18⟩ : ∃ j_ : Int, (wrap64 (x7_1 - 1)) = j_ := ⟨_, rfl⟩
                        replace H : (if 0 ≤ (ji18) then (if (ji18) < (l0.length : Int) then (if ((Op.bytesLess (((rd_T31 l0 (ji18)).f0).toList) (((rd_T31 l0 x7_1).f0).toList)) = true) then (store_rises.l0 k1 l0 l0 (l0.length : Int) (wrap64 (x7_1 + 1))) else (some false)) else (none)) else (none)) = some r := by first | (rw [hji18] at H; exact H) | (simp only [hji18] at H ⊢; exact H)
                        have hji18w : (IntKind.i64.wrap (x7_1 - 1)) = ji18 := (i64_w _).trans hji18
                        by_cases c19 : 0 ≤ (ji18)
                        · rw [if_pos c19] at H
                          have c19b0 : decide (0 ≤ (ji18)) = true := decide_eq_true c19
                          clear c19
                          by_cases c20 : (ji18) < (l0.length : Int)
                          · rw [if_pos c20] at H
                            have c20b0 : decide ((ji18) < (l0.length : Int)) = true := decide_eq_true c20
                            clear c20
                            by_cases c21 : ((Op.bytesLess (((rd_T31 l0 (ji18)).f0).toList) (((rd_T31 l0 x7_1).f0).toList)) = true)
                            · rw [if_pos c21] at H
                              have c21b0 : (Op.bytesLess (((rd_T31 l0 (ji18)).f0).toList) (((rd_T31 l0 x7_1).f0).toList)) = true := c21
                              clear c21
                              have H' := Aside0.mk H
                              clear H
                              have p143 : 0 ≤ (x7_1 : Int) := of_decide_eq_true (by first | (with_reducible assumption) | assumption)
                              have q143 : x7_1 < (l0.length : Int) := of_decide_eq_true (by first | (with_reducible assumption) | assumption)
                              obtain ⟨ad143, e143, hx143_0, hx143_1, hx143_2⟩ := at_T31 HR0.out x7_1 p143 q143
                              (try rw [← Nbq14.out] at hx143_2)
                              cases e143
                              replace hx143_0 := (HB.out.cell (World.block_lt_of_cell? w _ hx143_0)).trans hx143_0
                              replace hx143_1 := (HB.out.cell (World.block_lt_of_cell? w _ hx143_1)).trans hx143_1
                              replace hx143_2 := (HB.out.cell (World.block_lt_of_cell? w _ hx143_2)).trans hx143_2
                              replace p143 := eq_true p143
                              replace q143 := eq_true q143
                              go_wp2_with (first | ((with_reducible refine gate_dst (N := 4) rfl ?_); (try (refine gate_guard (by rfl) ?_; dsimp only)); refine box_event ?hg (N := 4) ?hd (cs := #[.string (⟨#[]⟩ : ByteArray), .string (⟨#[]⟩ : ByteArray), .bool false]) (t := 31) ?hr ?_; (case hd => rfl); (case hg => rfl); (case hr => first | (go_simp; done) | (go_simp; rfl)); intro gb144 hg w22 hbox hb; have n0_ := Aside0.mk (below_step (by repeat (first | (with_reducible first | exact HB.out | apply below_alloc | apply pw_below_drewN | apply below_drew1) | exact HB.out)) hb); have n1_ := Aside0.mk (hbox); have n2_ := Aside0.mk ((by rw [hg]; exact (below_size (by repeat (first | (with_reducible first | exact HB.out | apply below_alloc | apply pw_below_drewN | apply below_drew1) | exact HB.out))) : w.heap.size ≤ gb144)); have n3_ := Aside0.mk ((by rw [hg]; exact (below_size (by repeat (first | (with_reducible first | exact HB.out | apply below_alloc | apply pw_below_drewN | apply below_drew1) | exact HB.out))) : w.heap.size ≤ gb144)); clear HB; have HB := n0_; have BK144 := n1_; have GW144 := n2_; have GE144 := n3_; clear n0_ n1_ n2_ n3_; clear hb hbox hg; have hcz23_0 : w22.cell? ⟨gb144, 0, none⟩ = some (.string (⟨#[]⟩ : ByteArray)) := (blk_cell BK144.out 0).trans rfl; have hcz23_1 : w22.cell? ⟨gb144, 1, none⟩ = some (.string (⟨#[]⟩ : ByteArray)) := (blk_cell BK144.out 1).trans rfl; have hcz23_2 : w22.cell? ⟨gb144, 2, none⟩ = some (.bool false) := (blk_cell BK144.out 2).trans rfl; have hfz23_0 := blk_frozen BK144.out 0; have hfz23_1 := blk_frozen BK144.out 1; have hfz23_2 := blk_frozen BK144.out 2; have p145 : 0 ≤ ((ji18) : Int) := of_decide_eq_true (by first | (with_reducible assumption) | assumption); have q145 : (ji18) < (l0.length : Int) := of_decide_eq_true (by first | (with_reducible assumption) | assumption); obtain ⟨ad145, e145, hx145_0, hx145_1, hx145_2⟩ := at_T31 HR0.out (ji18) p145 q145; (try rw [← Nbq14.out] at hx145_2); obtain rfl : ad143 = ad145 := (by injection e145); have hn145_0 : ad143.block ≠ gb144 := Nat.ne_of_lt (Nat.lt_of_lt_of_le (by have := World.block_lt_of_cell? _ _ hx145_0; first | rwa [add_block] at this | exact this) GW144.out); have hn145_1 : ad143.block ≠ gb144 := Nat.ne_of_lt (Nat.lt_of_lt_of_le (by have := World.block_lt_of_cell? _ _ hx145_0; first | rwa [add_block] at this | exact this) GW144.out); have hn145_2 : ad143.block ≠ gb144 := Nat.ne_of_lt (Nat.lt_of_lt_of_le (by have := World.block_lt_of_cell? _ _ hx145_0; first | rwa [add_block] at this | exact this) GW144.out); replace hx145_0 := (HB.out.cell (World.block_lt_of_cell? w _ hx145_0)).trans hx145_0; replace hx145_1 := (HB.out.cell (World.block_lt_of_cell? w _ hx145_1)).trans hx145_1; replace hx145_2 := (HB.out.cell (World.block_lt_of_cell? w _ hx145_2)).trans hx145_2; replace hx145_0 := (cell_far (p := ⟨gb144, 0, none⟩) (by first | (rw [add_block]; exact hn145_0) | (show (Addr.add _ _).block ≠ _; rw [add_block]; exact hn145_0) | exact hn145_0) (.string ((rd_T31 l0 x7_1).f0))).trans hx145_0; replace hx145_1 := (cell_far (p := ⟨gb144, 0, none⟩) (by first | (rw [add_block]; exact hn145_0) | (show (Addr.add _ _).block ≠ _; rw [add_block]; exact hn145_0) | exact hn145_0) (.string ((rd_T31 l0 x7_1).f0))).trans hx145_1; replace hx145_2 := (cell_far (p := ⟨gb144, 0, none⟩) (by first | (rw [add_block]; exact hn145_0) | (show (Addr.add _ _).block ≠ _; rw [add_block]; exact hn145_0) | exact hn145_0) (.string ((rd_T31 l0 x7_1).f0))).trans hx145_2; replace hx145_0 := (cell_far (p := ⟨gb144, 1, none⟩) (by first | (rw [add_block]; exact hn145_1) | (show (Addr.add _ _).block ≠ _; rw [add_block]; exact hn145_1) | exact hn145_1) (.string ((rd_T31 l0 x7_1).f1))).trans hx145_0; replace hx145_1 := (cell_far (p := ⟨gb144, 1, none⟩) (by first | (rw [add_block]; exact hn145_1) | (show (Addr.add _ _).block ≠ _; rw [add_block]; exact hn145_1) | exact hn145_1) (.string ((rd_T31 l0 x7_1).f1))).trans hx145_1; replace hx145_2 := (cell_far (p := ⟨gb144, 1, none⟩) (by first | (rw [add_block]; exact hn145_1) | (show (Addr.add _ _).block ≠ _; rw [add_block]; exact hn145_1) | exact hn145_1) (.string ((rd_T31 l0 x7_1).f1))).trans hx145_2; replace hx145_0 := (cell_far (p := ⟨gb144, 2, none⟩) (by first | (rw [add_block]; exact hn145_2) | (show (Addr.add _ _).block ≠ _; rw [add_block]; exact hn145_2) | exact hn145_2) (.bool true)).trans hx145_0; replace hx145_1 := (cell_far (p := ⟨gb144, 2, none⟩) (by first | (rw [add_block]; exact hn145_2) | (show (Addr.add _ _).block ≠ _; rw [add_block]; exact hn145_2) | exact hn145_2) (.bool true)).trans hx145_1; replace hx145_2 := (cell_far (p := ⟨gb144, 2, none⟩) (by first | (rw [add_block]; exact hn145_2) | (show (Addr.add _ _).block ≠ _; rw [add_block]; exact hn145_2) | exact hn145_2) (.bool true)).trans hx145_2; (try have hy145_0 := fun (n_ : Nat) => (show (((((w22.drewN n_).setCell ⟨gb144, 0, none⟩ (.string ((rd_T31 l0 x7_1).f0))).setCell ⟨gb144, 1, none⟩ (.string ((rd_T31 l0 x7_1).f1))).setCell ⟨gb144, 2, none⟩ (.bool true))).cell? _ = some _ from hx145_0)); (try have hy145_1 := fun (n_ : Nat) => (show (((((w22.drewN n_).setCell ⟨gb144, 0, none⟩ (.string ((rd_T31 l0 x7_1).f0))).setCell ⟨gb144, 1, none⟩ (.string ((rd_T31 l0 x7_1).f1))).setCell ⟨gb144, 2, none⟩ (.bool true))).cell? _ = some _ from hx145_1)); (try have hy145_2 := fun (n_ : Nat) => (show (((((w22.drewN n_).setCell ⟨gb144, 0, none⟩ (.string ((rd_T31 l0 x7_1).f0))).setCell ⟨gb144, 1, none⟩ (.string ((rd_T31 l0 x7_1).f1))).setCell ⟨gb144, 2, none⟩ (.bool true))).cell? _ = some _ from hx145_2)); clear hn145_0; clear hn145_1; clear hn145_2; replace p145 := eq_true p145; replace q145 := eq_true q145))
                              repeat (go_quiet (first | ((with_reducible refine gate_dst (N := 4) rfl ?_); (try (refine gate_guard (by rfl) ?_; dsimp only)); refine box_event ?hg (N := 4) ?hd (cs := #[.string (⟨#[]⟩ : ByteArray), .string (⟨#[]⟩ : ByteArray), .bool false]) (t := 31) ?hr ?_; (case hd => rfl); (case hg => rfl); (case hr => first | (go_simp; done) | (go_simp; rfl)); intro gb144 hg w22 hbox hb; have n0_ := Aside0.mk (below_step (by repeat (first | (with_reducible first | exact HB.out | apply below_alloc | apply pw_below_drewN | apply below_drew1) | exact HB.out)) hb); have n1_ := Aside0.mk (hbox); have n2_ := Aside0.mk ((by rw [hg]; exact (below_size (by repeat (first | (with_reducible first | exact HB.out | apply below_alloc | apply pw_below_drewN | apply below_drew1) | exact HB.out))) : w.heap.size ≤ gb144)); have n3_ := Aside0.mk ((by rw [hg]; exact (below_size (by repeat (first | (with_reducible first | exact HB.out | apply below_alloc | apply pw_below_drewN | apply below_drew1) | exact HB.out))) : w.heap.size ≤ gb144)); clear HB; have HB := n0_; have BK144 := n1_; have GW144 := n2_; have GE144 := n3_; clear n0_ n1_ n2_ n3_; clear hb hbox hg; have hcz23_0 : w22.cell? ⟨gb144, 0, none⟩ = some (.string (⟨#[]⟩ : ByteArray)) := (blk_cell BK144.out 0).trans rfl; have hcz23_1 : w22.cell? ⟨gb144, 1, none⟩ = some (.string (⟨#[]⟩ : ByteArray)) := (blk_cell BK144.out 1).trans rfl; have hcz23_2 : w22.cell? ⟨gb144, 2, none⟩ = some (.bool false) := (blk_cell BK144.out 2).trans rfl; have hfz23_0 := blk_frozen BK144.out 0; have hfz23_1 := blk_frozen BK144.out 1; have hfz23_2 := blk_frozen BK144.out 2; have p145 : 0 ≤ ((ji18) : Int) := of_decide_eq_true (by first | (with_reducible assumption) | assumption); have q145 : (ji18) < (l0.length : Int) := of_decide_eq_true (by first | (with_reducible assumption) | assumption); obtain ⟨ad145, e145, hx145_0, hx145_1, hx145_2⟩ := at_T31 HR0.out (ji18) p145 q145; (try rw [← Nbq14.out] at hx145_2); obtain rfl : ad143 = ad145 := (by injection e145); have hn145_0 : ad143.block ≠ gb144 := Nat.ne_of_lt (Nat.lt_of_lt_of_le (by have := World.block_lt_of_cell? _ _ hx145_0; first | rwa [add_block] at this | exact this) GW144.out); have hn145_1 : ad143.block ≠ gb144 := Nat.ne_of_lt (Nat.lt_of_lt_of_le (by have := World.block_lt_of_cell? _ _ hx145_0; first | rwa [add_block] at this | exact this) GW144.out); have hn145_2 : ad143.block ≠ gb144 := Nat.ne_of_lt (Nat.lt_of_lt_of_le (by have := World.block_lt_of_cell? _ _ hx145_0; first | rwa [add_block] at this | exact this) GW144.out); replace hx145_0 := (HB.out.cell (World.block_lt_of_cell? w _ hx145_0)).trans hx145_0; replace hx145_1 := (HB.out.cell (World.block_lt_of_cell? w _ hx145_1)).trans hx145_1; replace hx145_2 := (HB.out.cell (World.block_lt_of_cell? w _ hx145_2)).trans hx145_2; replace hx145_0 := (cell_far (p := ⟨gb144, 0, none⟩) (by first | (rw [add_block]; exact hn145_0) | (show (Addr.add _ _).block ≠ _; rw [add_block]; exact hn145_0) | exact hn145_0) (.string ((rd_T31 l0 x7_1).f0))).trans hx145_0; replace hx145_1 := (cell_far (p := ⟨gb144, 0, none⟩) (by first | (rw [add_block]; exact hn145_0) | (show (Addr.add _ _).block ≠ _; rw [add_block]; exact hn145_0) | exact hn145_0) (.string ((rd_T31 l0 x7_1).f0))).trans hx145_1; replace hx145_2 := (cell_far (p := ⟨gb144, 0, none⟩) (by first | (rw [add_block]; exact hn145_0) | (show (Addr.add _ _).block ≠ _; rw [add_block]; exact hn145_0) | exact hn145_0) (.string ((rd_T31 l0 x7_1).f0))).trans hx145_2; replace hx145_0 := (cell_far (p := ⟨gb144, 1, none⟩) (by first | (rw [add_block]; exact hn145_1) | (show (Addr.add _ _).block ≠ _; rw [add_block]; exact hn145_1) | exact hn145_1) (.string ((rd_T31 l0 x7_1).f1))).trans hx145_0; replace hx145_1 := (cell_far (p := ⟨gb144, 1, none⟩) (by first | (rw [add_block]; exact hn145_1) | (show (Addr.add _ _).block ≠ _; rw [add_block]; exact hn145_1) | exact hn145_1) (.string ((rd_T31 l0 x7_1).f1))).trans hx145_1; replace hx145_2 := (cell_far (p := ⟨gb144, 1, none⟩) (by first | (rw [add_block]; exact hn145_1) | (show (Addr.add _ _).block ≠ _; rw [add_block]; exact hn145_1) | exact hn145_1) (.string ((rd_T31 l0 x7_1).f1))).trans hx145_2; replace hx145_0 := (cell_far (p := ⟨gb144, 2, none⟩) (by first | (rw [add_block]; exact hn145_2) | (show (Addr.add _ _).block ≠ _; rw [add_block]; exact hn145_2) | exact hn145_2) (.bool true)).trans hx145_0; replace hx145_1 := (cell_far (p := ⟨gb144, 2, none⟩) (by first | (rw [add_block]; exact hn145_2) | (show (Addr.add _ _).block ≠ _; rw [add_block]; exact hn145_2) | exact hn145_2) (.bool true)).trans hx145_1; replace hx145_2 := (cell_far (p := ⟨gb144, 2, none⟩) (by first | (rw [add_block]; exact hn145_2) | (show (Addr.add _ _).block ≠ _; rw [add_block]; exact hn145_2) | exact hn145_2) (.bool true)).trans hx145_2; (try have hy145_0 := fun (n_ : Nat) => (show (((((w22.drewN n_).setCell ⟨gb144, 0, none⟩ (.string ((rd_T31 l0 x7_1).f0))).setCell ⟨gb144, 1, none⟩ (.string ((rd_T31 l0 x7_1).f1))).setCell ⟨gb144, 2, none⟩ (.bool true))).cell? _ = some _ from hx145_0)); (try have hy145_1 := fun (n_ : Nat) => (show (((((w22.drewN n_).setCell ⟨gb144, 0, none⟩ (.string ((rd_T31 l0 x7_1).f0))).setCell ⟨gb144, 1, none⟩ (.string ((rd_T31 l0 x7_1).f1))).setCell ⟨gb144, 2, none⟩ (.bool true))).cell? _ = some _ from hx145_1)); (try have hy145_2 := fun (n_ : Nat) => (show (((((w22.drewN n_).setCell ⟨gb144, 0, none⟩ (.string ((rd_T31 l0 x7_1).f0))).setCell ⟨gb144, 1, none⟩ (.string ((rd_T31 l0 x7_1).f1))).setCell ⟨gb144, 2, none⟩ (.bool true))).cell? _ = some _ from hx145_2)); clear hn145_0; clear hn145_1; clear hn145_2; replace p145 := eq_true p145; replace q145 := eq_true q145)); try go_wp2_with (first | ((with_reducible refine gate_dst (N := 4) rfl ?_); (try (refine gate_guard (by rfl) ?_; dsimp only)); refine box_event ?hg (N := 4) ?hd (cs := #[.string (⟨#[]⟩ : ByteArray), .string (⟨#[]⟩ : ByteArray), .bool false]) (t := 31) ?hr ?_; (case hd => rfl); (case hg => rfl); (case hr => first | (go_simp; done) | (go_simp; rfl)); intro gb144 hg w22 hbox hb; have n0_ := Aside0.mk (below_step (by repeat (first | (with_reducible first | exact HB.out | apply below_alloc | apply pw_below_drewN | apply below_drew1) | exact HB.out)) hb); have n1_ := Aside0.mk (hbox); have n2_ := Aside0.mk ((by rw [hg]; exact (below_size (by repeat (first | (with_reducible first | exact HB.out | apply below_alloc | apply pw_below_drewN | apply below_drew1) | exact HB.out))) : w.heap.size ≤ gb144)); have n3_ := Aside0.mk ((by rw [hg]; exact (below_size (by repeat (first | (with_reducible first | exact HB.out | apply below_alloc | apply pw_below_drewN | apply below_drew1) | exact HB.out))) : w.heap.size ≤ gb144)); clear HB; have HB := n0_; have BK144 := n1_; have GW144 := n2_; have GE144 := n3_; clear n0_ n1_ n2_ n3_; clear hb hbox hg; have hcz23_0 : w22.cell? ⟨gb144, 0, none⟩ = some (.string (⟨#[]⟩ : ByteArray)) := (blk_cell BK144.out 0).trans rfl; have hcz23_1 : w22.cell? ⟨gb144, 1, none⟩ = some (.string (⟨#[]⟩ : ByteArray)) := (blk_cell BK144.out 1).trans rfl; have hcz23_2 : w22.cell? ⟨gb144, 2, none⟩ = some (.bool false) := (blk_cell BK144.out 2).trans rfl; have hfz23_0 := blk_frozen BK144.out 0; have hfz23_1 := blk_frozen BK144.out 1; have hfz23_2 := blk_frozen BK144.out 2; have p145 : 0 ≤ ((ji18) : Int) := of_decide_eq_true (by first | (with_reducible assumption) | assumption); have q145 : (ji18) < (l0.length : Int) := of_decide_eq_true (by first | (with_reducible assumption) | assumption); obtain ⟨ad145, e145, hx145_0, hx145_1, hx145_2⟩ := at_T31 HR0.out (ji18) p145 q145; (try rw [← Nbq14.out] at hx145_2); obtain rfl : ad143 = ad145 := (by injection e145); have hn145_0 : ad143.block ≠ gb144 := Nat.ne_of_lt (Nat.lt_of_lt_of_le (by have := World.block_lt_of_cell? _ _ hx145_0; first | rwa [add_block] at this | exact this) GW144.out); have hn145_1 : ad143.block ≠ gb144 := Nat.ne_of_lt (Nat.lt_of_lt_of_le (by have := World.block_lt_of_cell? _ _ hx145_0; first | rwa [add_block] at this | exact this) GW144.out); have hn145_2 : ad143.block ≠ gb144 := Nat.ne_of_lt (Nat.lt_of_lt_of_le (by have := World.block_lt_of_cell? _ _ hx145_0; first | rwa [add_block] at this | exact this) GW144.out); replace hx145_0 := (HB.out.cell (World.block_lt_of_cell? w _ hx145_0)).trans hx145_0; replace hx145_1 := (HB.out.cell (World.block_lt_of_cell? w _ hx145_1)).trans hx145_1; replace hx145_2 := (HB.out.cell (World.block_lt_of_cell? w _ hx145_2)).trans hx145_2; replace hx145_0 := (cell_far (p := ⟨gb144, 0, none⟩) (by first | (rw [add_block]; exact hn145_0) | (show (Addr.add _ _).block ≠ _; rw [add_block]; exact hn145_0) | exact hn145_0) (.string ((rd_T31 l0 x7_1).f0))).trans hx145_0; replace hx145_1 := (cell_far (p := ⟨gb144, 0, none⟩) (by first | (rw [add_block]; exact hn145_0) | (show (Addr.add _ _).block ≠ _; rw [add_block]; exact hn145_0) | exact hn145_0) (.string ((rd_T31 l0 x7_1).f0))).trans hx145_1; replace hx145_2 := (cell_far (p := ⟨gb144, 0, none⟩) (by first | (rw [add_block]; exact hn145_0) | (show (Addr.add _ _).block ≠ _; rw [add_block]; exact hn145_0) | exact hn145_0) (.string ((rd_T31 l0 x7_1).f0))).trans hx145_2; replace hx145_0 := (cell_far (p := ⟨gb144, 1, none⟩) (by first | (rw [add_block]; exact hn145_1) | (show (Addr.add _ _).block ≠ _; rw [add_block]; exact hn145_1) | exact hn145_1) (.string ((rd_T31 l0 x7_1).f1))).trans hx145_0; replace hx145_1 := (cell_far (p := ⟨gb144, 1, none⟩) (by first | (rw [add_block]; exact hn145_1) | (show (Addr.add _ _).block ≠ _; rw [add_block]; exact hn145_1) | exact hn145_1) (.string ((rd_T31 l0 x7_1).f1))).trans hx145_1; replace hx145_2 := (cell_far (p := ⟨gb144, 1, none⟩) (by first | (rw [add_block]; exact hn145_1) | (show (Addr.add _ _).block ≠ _; rw [add_block]; exact hn145_1) | exact hn145_1) (.string ((rd_T31 l0 x7_1).f1))).trans hx145_2; replace hx145_0 := (cell_far (p := ⟨gb144, 2, none⟩) (by first | (rw [add_block]; exact hn145_2) | (show (Addr.add _ _).block ≠ _; rw [add_block]; exact hn145_2) | exact hn145_2) (.bool true)).trans hx145_0; replace hx145_1 := (cell_far (p := ⟨gb144, 2, none⟩) (by first | (rw [add_block]; exact hn145_2) | (show (Addr.add _ _).block ≠ _; rw [add_block]; exact hn145_2) | exact hn145_2) (.bool true)).trans hx145_1; replace hx145_2 := (cell_far (p := ⟨gb144, 2, none⟩) (by first | (rw [add_block]; exact hn145_2) | (show (Addr.add _ _).block ≠ _; rw [add_block]; exact hn145_2) | exact hn145_2) (.bool true)).trans hx145_2; (try have hy145_0 := fun (n_ : Nat) => (show (((((w22.drewN n_).setCell ⟨gb144, 0, none⟩ (.string ((rd_T31 l0 x7_1).f0))).setCell ⟨gb144, 1, none⟩ (.string ((rd_T31 l0 x7_1).f1))).setCell ⟨gb144, 2, none⟩ (.bool true))).cell? _ = some _ from hx145_0)); (try have hy145_1 := fun (n_ : Nat) => (show (((((w22.drewN n_).setCell ⟨gb144, 0, none⟩ (.string ((rd_T31 l0 x7_1).f0))).setCell ⟨gb144, 1, none⟩ (.string ((rd_T31 l0 x7_1).f1))).setCell ⟨gb144, 2, none⟩ (.bool true))).cell? _ = some _ from hx145_1)); (try have hy145_2 := fun (n_ : Nat) => (show (((((w22.drewN n_).setCell ⟨gb144, 0, none⟩ (.string ((rd_T31 l0 x7_1).f0))).setCell ⟨gb144, 1, none⟩ (.string ((rd_T31 l0 x7_1).f1))).setCell ⟨gb144, 2, none⟩ (.bool true))).cell? _ = some _ from hx145_2)); clear hn145_0; clear hn145_1; clear hn145_2; replace p145 := eq_true p145; replace q145 := eq_true q145)))
                              go_roundg k1
                              case measure => have := HK1.out; omega
                              case rel => exact ⟨(wrap64 (x7_1 + 1)), (by first | rfl | (simp; done) | (simp [*]; done)), H', ⟨by have := HK1.out; omega⟩, ⟨by repeat (first | (with_reducible first | exact HB.out | apply below_alloc | apply pw_below_drewN | apply below_drew1 | refine below_set ?_ GE144.out) | exact HB.out)⟩⟩
                            · rw [if_neg c21] at H
                              have c21b0 : (Op.bytesLess (((rd_T31 l0 (ji18)).f0).toList) (((rd_T31 l0 x7_1).f0).toList)) = false := by simpa using c21
                              clear c21
                              obtain rfl := Option.some.inj H
                              have p143 : 0 ≤ (x7_1 : Int) := of_decide_eq_true (by first | (with_reducible assumption) | assumption)
                              have q143 : x7_1 < (l0.length : Int) := of_decide_eq_true (by first | (with_reducible assumption) | assumption)
                              obtain ⟨ad143, e143, hx143_0, hx143_1, hx143_2⟩ := at_T31 HR0.out x7_1 p143 q143
                              (try rw [← Nbq14.out] at hx143_2)
                              cases e143
                              replace hx143_0 := (HB.out.cell (World.block_lt_of_cell? w _ hx143_0)).trans hx143_0
                              replace hx143_1 := (HB.out.cell (World.block_lt_of_cell? w _ hx143_1)).trans hx143_1
                              replace hx143_2 := (HB.out.cell (World.block_lt_of_cell? w _ hx143_2)).trans hx143_2
                              replace p143 := eq_true p143
                              replace q143 := eq_true q143
                              go_wp2_with (first | ((with_reducible refine gate_dst (N := 4) rfl ?_); (try (refine gate_guard (by rfl) ?_; dsimp only)); refine box_event ?hg (N := 4) ?hd (cs := #[.string (⟨#[]⟩ : ByteArray), .string (⟨#[]⟩ : ByteArray), .bool false]) (t := 31) ?hr ?_; (case hd => rfl); (case hg => rfl); (case hr => first | (go_simp; done) | (go_simp; rfl)); intro gb144 hg w24 hbox hb; have n0_ := Aside0.mk (below_step (by repeat (first | (with_reducible first | exact HB.out | apply below_alloc | apply pw_below_drewN | apply below_drew1) | exact HB.out)) hb); have n1_ := Aside0.mk (hbox); have n2_ := Aside0.mk ((by rw [hg]; exact (below_size (by repeat (first | (with_reducible first | exact HB.out | apply below_alloc | apply pw_below_drewN | apply below_drew1) | exact HB.out))) : w.heap.size ≤ gb144)); have n3_ := Aside0.mk ((by rw [hg]; exact (below_size (by repeat (first | (with_reducible first | exact HB.out | apply below_alloc | apply pw_below_drewN | apply below_drew1) | exact HB.out))) : w.heap.size ≤ gb144)); clear HB; have HB := n0_; have BK144 := n1_; have GW144 := n2_; have GE144 := n3_; clear n0_ n1_ n2_ n3_; clear hb hbox hg; have hcz25_0 : w24.cell? ⟨gb144, 0, none⟩ = some (.string (⟨#[]⟩ : ByteArray)) := (blk_cell BK144.out 0).trans rfl; have hcz25_1 : w24.cell? ⟨gb144, 1, none⟩ = some (.string (⟨#[]⟩ : ByteArray)) := (blk_cell BK144.out 1).trans rfl; have hcz25_2 : w24.cell? ⟨gb144, 2, none⟩ = some (.bool false) := (blk_cell BK144.out 2).trans rfl; have hfz25_0 := blk_frozen BK144.out 0; have hfz25_1 := blk_frozen BK144.out 1; have hfz25_2 := blk_frozen BK144.out 2; have p145 : 0 ≤ ((ji18) : Int) := of_decide_eq_true (by first | (with_reducible assumption) | assumption); have q145 : (ji18) < (l0.length : Int) := of_decide_eq_true (by first | (with_reducible assumption) | assumption); obtain ⟨ad145, e145, hx145_0, hx145_1, hx145_2⟩ := at_T31 HR0.out (ji18) p145 q145; (try rw [← Nbq14.out] at hx145_2); obtain rfl : ad143 = ad145 := (by injection e145); have hn145_0 : ad143.block ≠ gb144 := Nat.ne_of_lt (Nat.lt_of_lt_of_le (by have := World.block_lt_of_cell? _ _ hx145_0; first | rwa [add_block] at this | exact this) GW144.out); have hn145_1 : ad143.block ≠ gb144 := Nat.ne_of_lt (Nat.lt_of_lt_of_le (by have := World.block_lt_of_cell? _ _ hx145_0; first | rwa [add_block] at this | exact this) GW144.out); have hn145_2 : ad143.block ≠ gb144 := Nat.ne_of_lt (Nat.lt_of_lt_of_le (by have := World.block_lt_of_cell? _ _ hx145_0; first | rwa [add_block] at this | exact this) GW144.out); replace hx145_0 := (HB.out.cell (World.block_lt_of_cell? w _ hx145_0)).trans hx145_0; replace hx145_1 := (HB.out.cell (World.block_lt_of_cell? w _ hx145_1)).trans hx145_1; replace hx145_2 := (HB.out.cell (World.block_lt_of_cell? w _ hx145_2)).trans hx145_2; replace hx145_0 := (cell_far (p := ⟨gb144, 0, none⟩) (by first | (rw [add_block]; exact hn145_0) | (show (Addr.add _ _).block ≠ _; rw [add_block]; exact hn145_0) | exact hn145_0) (.string ((rd_T31 l0 x7_1).f0))).trans hx145_0; replace hx145_1 := (cell_far (p := ⟨gb144, 0, none⟩) (by first | (rw [add_block]; exact hn145_0) | (show (Addr.add _ _).block ≠ _; rw [add_block]; exact hn145_0) | exact hn145_0) (.string ((rd_T31 l0 x7_1).f0))).trans hx145_1; replace hx145_2 := (cell_far (p := ⟨gb144, 0, none⟩) (by first | (rw [add_block]; exact hn145_0) | (show (Addr.add _ _).block ≠ _; rw [add_block]; exact hn145_0) | exact hn145_0) (.string ((rd_T31 l0 x7_1).f0))).trans hx145_2; replace hx145_0 := (cell_far (p := ⟨gb144, 1, none⟩) (by first | (rw [add_block]; exact hn145_1) | (show (Addr.add _ _).block ≠ _; rw [add_block]; exact hn145_1) | exact hn145_1) (.string ((rd_T31 l0 x7_1).f1))).trans hx145_0; replace hx145_1 := (cell_far (p := ⟨gb144, 1, none⟩) (by first | (rw [add_block]; exact hn145_1) | (show (Addr.add _ _).block ≠ _; rw [add_block]; exact hn145_1) | exact hn145_1) (.string ((rd_T31 l0 x7_1).f1))).trans hx145_1; replace hx145_2 := (cell_far (p := ⟨gb144, 1, none⟩) (by first | (rw [add_block]; exact hn145_1) | (show (Addr.add _ _).block ≠ _; rw [add_block]; exact hn145_1) | exact hn145_1) (.string ((rd_T31 l0 x7_1).f1))).trans hx145_2; replace hx145_0 := (cell_far (p := ⟨gb144, 2, none⟩) (by first | (rw [add_block]; exact hn145_2) | (show (Addr.add _ _).block ≠ _; rw [add_block]; exact hn145_2) | exact hn145_2) (.bool true)).trans hx145_0; replace hx145_1 := (cell_far (p := ⟨gb144, 2, none⟩) (by first | (rw [add_block]; exact hn145_2) | (show (Addr.add _ _).block ≠ _; rw [add_block]; exact hn145_2) | exact hn145_2) (.bool true)).trans hx145_1; replace hx145_2 := (cell_far (p := ⟨gb144, 2, none⟩) (by first | (rw [add_block]; exact hn145_2) | (show (Addr.add _ _).block ≠ _; rw [add_block]; exact hn145_2) | exact hn145_2) (.bool true)).trans hx145_2; (try have hy145_0 := fun (n_ : Nat) => (show (((((w24.drewN n_).setCell ⟨gb144, 0, none⟩ (.string ((rd_T31 l0 x7_1).f0))).setCell ⟨gb144, 1, none⟩ (.string ((rd_T31 l0 x7_1).f1))).setCell ⟨gb144, 2, none⟩ (.bool true))).cell? _ = some _ from hx145_0)); (try have hy145_1 := fun (n_ : Nat) => (show (((((w24.drewN n_).setCell ⟨gb144, 0, none⟩ (.string ((rd_T31 l0 x7_1).f0))).setCell ⟨gb144, 1, none⟩ (.string ((rd_T31 l0 x7_1).f1))).setCell ⟨gb144, 2, none⟩ (.bool true))).cell? _ = some _ from hx145_1)); (try have hy145_2 := fun (n_ : Nat) => (show (((((w24.drewN n_).setCell ⟨gb144, 0, none⟩ (.string ((rd_T31 l0 x7_1).f0))).setCell ⟨gb144, 1, none⟩ (.string ((rd_T31 l0 x7_1).f1))).setCell ⟨gb144, 2, none⟩ (.bool true))).cell? _ = some _ from hx145_2)); clear hn145_0; clear hn145_1; clear hn145_2; replace p145 := eq_true p145; replace q145 := eq_true q145))
                              repeat (go_quiet (first | ((with_reducible refine gate_dst (N := 4) rfl ?_); (try (refine gate_guard (by rfl) ?_; dsimp only)); refine box_event ?hg (N := 4) ?hd (cs := #[.string (⟨#[]⟩ : ByteArray), .string (⟨#[]⟩ : ByteArray), .bool false]) (t := 31) ?hr ?_; (case hd => rfl); (case hg => rfl); (case hr => first | (go_simp; done) | (go_simp; rfl)); intro gb144 hg w24 hbox hb; have n0_ := Aside0.mk (below_step (by repeat (first | (with_reducible first | exact HB.out | apply below_alloc | apply pw_below_drewN | apply below_drew1) | exact HB.out)) hb); have n1_ := Aside0.mk (hbox); have n2_ := Aside0.mk ((by rw [hg]; exact (below_size (by repeat (first | (with_reducible first | exact HB.out | apply below_alloc | apply pw_below_drewN | apply below_drew1) | exact HB.out))) : w.heap.size ≤ gb144)); have n3_ := Aside0.mk ((by rw [hg]; exact (below_size (by repeat (first | (with_reducible first | exact HB.out | apply below_alloc | apply pw_below_drewN | apply below_drew1) | exact HB.out))) : w.heap.size ≤ gb144)); clear HB; have HB := n0_; have BK144 := n1_; have GW144 := n2_; have GE144 := n3_; clear n0_ n1_ n2_ n3_; clear hb hbox hg; have hcz25_0 : w24.cell? ⟨gb144, 0, none⟩ = some (.string (⟨#[]⟩ : ByteArray)) := (blk_cell BK144.out 0).trans rfl; have hcz25_1 : w24.cell? ⟨gb144, 1, none⟩ = some (.string (⟨#[]⟩ : ByteArray)) := (blk_cell BK144.out 1).trans rfl; have hcz25_2 : w24.cell? ⟨gb144, 2, none⟩ = some (.bool false) := (blk_cell BK144.out 2).trans rfl; have hfz25_0 := blk_frozen BK144.out 0; have hfz25_1 := blk_frozen BK144.out 1; have hfz25_2 := blk_frozen BK144.out 2; have p145 : 0 ≤ ((ji18) : Int) := of_decide_eq_true (by first | (with_reducible assumption) | assumption); have q145 : (ji18) < (l0.length : Int) := of_decide_eq_true (by first | (with_reducible assumption) | assumption); obtain ⟨ad145, e145, hx145_0, hx145_1, hx145_2⟩ := at_T31 HR0.out (ji18) p145 q145; (try rw [← Nbq14.out] at hx145_2); obtain rfl : ad143 = ad145 := (by injection e145); have hn145_0 : ad143.block ≠ gb144 := Nat.ne_of_lt (Nat.lt_of_lt_of_le (by have := World.block_lt_of_cell? _ _ hx145_0; first | rwa [add_block] at this | exact this) GW144.out); have hn145_1 : ad143.block ≠ gb144 := Nat.ne_of_lt (Nat.lt_of_lt_of_le (by have := World.block_lt_of_cell? _ _ hx145_0; first | rwa [add_block] at this | exact this) GW144.out); have hn145_2 : ad143.block ≠ gb144 := Nat.ne_of_lt (Nat.lt_of_lt_of_le (by have := World.block_lt_of_cell? _ _ hx145_0; first | rwa [add_block] at this | exact this) GW144.out); replace hx145_0 := (HB.out.cell (World.block_lt_of_cell? w _ hx145_0)).trans hx145_0; replace hx145_1 := (HB.out.cell (World.block_lt_of_cell? w _ hx145_1)).trans hx145_1; replace hx145_2 := (HB.out.cell (World.block_lt_of_cell? w _ hx145_2)).trans hx145_2; replace hx145_0 := (cell_far (p := ⟨gb144, 0, none⟩) (by first | (rw [add_block]; exact hn145_0) | (show (Addr.add _ _).block ≠ _; rw [add_block]; exact hn145_0) | exact hn145_0) (.string ((rd_T31 l0 x7_1).f0))).trans hx145_0; replace hx145_1 := (cell_far (p := ⟨gb144, 0, none⟩) (by first | (rw [add_block]; exact hn145_0) | (show (Addr.add _ _).block ≠ _; rw [add_block]; exact hn145_0) | exact hn145_0) (.string ((rd_T31 l0 x7_1).f0))).trans hx145_1; replace hx145_2 := (cell_far (p := ⟨gb144, 0, none⟩) (by first | (rw [add_block]; exact hn145_0) | (show (Addr.add _ _).block ≠ _; rw [add_block]; exact hn145_0) | exact hn145_0) (.string ((rd_T31 l0 x7_1).f0))).trans hx145_2; replace hx145_0 := (cell_far (p := ⟨gb144, 1, none⟩) (by first | (rw [add_block]; exact hn145_1) | (show (Addr.add _ _).block ≠ _; rw [add_block]; exact hn145_1) | exact hn145_1) (.string ((rd_T31 l0 x7_1).f1))).trans hx145_0; replace hx145_1 := (cell_far (p := ⟨gb144, 1, none⟩) (by first | (rw [add_block]; exact hn145_1) | (show (Addr.add _ _).block ≠ _; rw [add_block]; exact hn145_1) | exact hn145_1) (.string ((rd_T31 l0 x7_1).f1))).trans hx145_1; replace hx145_2 := (cell_far (p := ⟨gb144, 1, none⟩) (by first | (rw [add_block]; exact hn145_1) | (show (Addr.add _ _).block ≠ _; rw [add_block]; exact hn145_1) | exact hn145_1) (.string ((rd_T31 l0 x7_1).f1))).trans hx145_2; replace hx145_0 := (cell_far (p := ⟨gb144, 2, none⟩) (by first | (rw [add_block]; exact hn145_2) | (show (Addr.add _ _).block ≠ _; rw [add_block]; exact hn145_2) | exact hn145_2) (.bool true)).trans hx145_0; replace hx145_1 := (cell_far (p := ⟨gb144, 2, none⟩) (by first | (rw [add_block]; exact hn145_2) | (show (Addr.add _ _).block ≠ _; rw [add_block]; exact hn145_2) | exact hn145_2) (.bool true)).trans hx145_1; replace hx145_2 := (cell_far (p := ⟨gb144, 2, none⟩) (by first | (rw [add_block]; exact hn145_2) | (show (Addr.add _ _).block ≠ _; rw [add_block]; exact hn145_2) | exact hn145_2) (.bool true)).trans hx145_2; (try have hy145_0 := fun (n_ : Nat) => (show (((((w24.drewN n_).setCell ⟨gb144, 0, none⟩ (.string ((rd_T31 l0 x7_1).f0))).setCell ⟨gb144, 1, none⟩ (.string ((rd_T31 l0 x7_1).f1))).setCell ⟨gb144, 2, none⟩ (.bool true))).cell? _ = some _ from hx145_0)); (try have hy145_1 := fun (n_ : Nat) => (show (((((w24.drewN n_).setCell ⟨gb144, 0, none⟩ (.string ((rd_T31 l0 x7_1).f0))).setCell ⟨gb144, 1, none⟩ (.string ((rd_T31 l0 x7_1).f1))).setCell ⟨gb144, 2, none⟩ (.bool true))).cell? _ = some _ from hx145_1)); (try have hy145_2 := fun (n_ : Nat) => (show (((((w24.drewN n_).setCell ⟨gb144, 0, none⟩ (.string ((rd_T31 l0 x7_1).f0))).setCell ⟨gb144, 1, none⟩ (.string ((rd_T31 l0 x7_1).f1))).setCell ⟨gb144, 2, none⟩ (.bool true))).cell? _ = some _ from hx145_2)); clear hn145_0; clear hn145_1; clear hn145_2; replace p145 := eq_true p145; replace q145 := eq_true q145)); try go_wp2_with (first | ((with_reducible refine gate_dst (N := 4) rfl ?_); (try (refine gate_guard (by rfl) ?_; dsimp only)); refine box_event ?hg (N := 4) ?hd (cs := #[.string (⟨#[]⟩ : ByteArray), .string (⟨#[]⟩ : ByteArray), .bool false]) (t := 31) ?hr ?_; (case hd => rfl); (case hg => rfl); (case hr => first | (go_simp; done) | (go_simp; rfl)); intro gb144 hg w24 hbox hb; have n0_ := Aside0.mk (below_step (by repeat (first | (with_reducible first | exact HB.out | apply below_alloc | apply pw_below_drewN | apply below_drew1) | exact HB.out)) hb); have n1_ := Aside0.mk (hbox); have n2_ := Aside0.mk ((by rw [hg]; exact (below_size (by repeat (first | (with_reducible first | exact HB.out | apply below_alloc | apply pw_below_drewN | apply below_drew1) | exact HB.out))) : w.heap.size ≤ gb144)); have n3_ := Aside0.mk ((by rw [hg]; exact (below_size (by repeat (first | (with_reducible first | exact HB.out | apply below_alloc | apply pw_below_drewN | apply below_drew1) | exact HB.out))) : w.heap.size ≤ gb144)); clear HB; have HB := n0_; have BK144 := n1_; have GW144 := n2_; have GE144 := n3_; clear n0_ n1_ n2_ n3_; clear hb hbox hg; have hcz25_0 : w24.cell? ⟨gb144, 0, none⟩ = some (.string (⟨#[]⟩ : ByteArray)) := (blk_cell BK144.out 0).trans rfl; have hcz25_1 : w24.cell? ⟨gb144, 1, none⟩ = some (.string (⟨#[]⟩ : ByteArray)) := (blk_cell BK144.out 1).trans rfl; have hcz25_2 : w24.cell? ⟨gb144, 2, none⟩ = some (.bool false) := (blk_cell BK144.out 2).trans rfl; have hfz25_0 := blk_frozen BK144.out 0; have hfz25_1 := blk_frozen BK144.out 1; have hfz25_2 := blk_frozen BK144.out 2; have p145 : 0 ≤ ((ji18) : Int) := of_decide_eq_true (by first | (with_reducible assumption) | assumption); have q145 : (ji18) < (l0.length : Int) := of_decide_eq_true (by first | (with_reducible assumption) | assumption); obtain ⟨ad145, e145, hx145_0, hx145_1, hx145_2⟩ := at_T31 HR0.out (ji18) p145 q145; (try rw [← Nbq14.out] at hx145_2); obtain rfl : ad143 = ad145 := (by injection e145); have hn145_0 : ad143.block ≠ gb144 := Nat.ne_of_lt (Nat.lt_of_lt_of_le (by have := World.block_lt_of_cell? _ _ hx145_0; first | rwa [add_block] at this | exact this) GW144.out); have hn145_1 : ad143.block ≠ gb144 := Nat.ne_of_lt (Nat.lt_of_lt_of_le (by have := World.block_lt_of_cell? _ _ hx145_0; first | rwa [add_block] at this | exact this) GW144.out); have hn145_2 : ad143.block ≠ gb144 := Nat.ne_of_lt (Nat.lt_of_lt_of_le (by have := World.block_lt_of_cell? _ _ hx145_0; first | rwa [add_block] at this | exact this) GW144.out); replace hx145_0 := (HB.out.cell (World.block_lt_of_cell? w _ hx145_0)).trans hx145_0; replace hx145_1 := (HB.out.cell (World.block_lt_of_cell? w _ hx145_1)).trans hx145_1; replace hx145_2 := (HB.out.cell (World.block_lt_of_cell? w _ hx145_2)).trans hx145_2; replace hx145_0 := (cell_far (p := ⟨gb144, 0, none⟩) (by first | (rw [add_block]; exact hn145_0) | (show (Addr.add _ _).block ≠ _; rw [add_block]; exact hn145_0) | exact hn145_0) (.string ((rd_T31 l0 x7_1).f0))).trans hx145_0; replace hx145_1 := (cell_far (p := ⟨gb144, 0, none⟩) (by first | (rw [add_block]; exact hn145_0) | (show (Addr.add _ _).block ≠ _; rw [add_block]; exact hn145_0) | exact hn145_0) (.string ((rd_T31 l0 x7_1).f0))).trans hx145_1; replace hx145_2 := (cell_far (p := ⟨gb144, 0, none⟩) (by first | (rw [add_block]; exact hn145_0) | (show (Addr.add _ _).block ≠ _; rw [add_block]; exact hn145_0) | exact hn145_0) (.string ((rd_T31 l0 x7_1).f0))).trans hx145_2; replace hx145_0 := (cell_far (p := ⟨gb144, 1, none⟩) (by first | (rw [add_block]; exact hn145_1) | (show (Addr.add _ _).block ≠ _; rw [add_block]; exact hn145_1) | exact hn145_1) (.string ((rd_T31 l0 x7_1).f1))).trans hx145_0; replace hx145_1 := (cell_far (p := ⟨gb144, 1, none⟩) (by first | (rw [add_block]; exact hn145_1) | (show (Addr.add _ _).block ≠ _; rw [add_block]; exact hn145_1) | exact hn145_1) (.string ((rd_T31 l0 x7_1).f1))).trans hx145_1; replace hx145_2 := (cell_far (p := ⟨gb144, 1, none⟩) (by first | (rw [add_block]; exact hn145_1) | (show (Addr.add _ _).block ≠ _; rw [add_block]; exact hn145_1) | exact hn145_1) (.string ((rd_T31 l0 x7_1).f1))).trans hx145_2; replace hx145_0 := (cell_far (p := ⟨gb144, 2, none⟩) (by first | (rw [add_block]; exact hn145_2) | (show (Addr.add _ _).block ≠ _; rw [add_block]; exact hn145_2) | exact hn145_2) (.bool true)).trans hx145_0; replace hx145_1 := (cell_far (p := ⟨gb144, 2, none⟩) (by first | (rw [add_block]; exact hn145_2) | (show (Addr.add _ _).block ≠ _; rw [add_block]; exact hn145_2) | exact hn145_2) (.bool true)).trans hx145_1; replace hx145_2 := (cell_far (p := ⟨gb144, 2, none⟩) (by first | (rw [add_block]; exact hn145_2) | (show (Addr.add _ _).block ≠ _; rw [add_block]; exact hn145_2) | exact hn145_2) (.bool true)).trans hx145_2; (try have hy145_0 := fun (n_ : Nat) => (show (((((w24.drewN n_).setCell ⟨gb144, 0, none⟩ (.string ((rd_T31 l0 x7_1).f0))).setCell ⟨gb144, 1, none⟩ (.string ((rd_T31 l0 x7_1).f1))).setCell ⟨gb144, 2, none⟩ (.bool true))).cell? _ = some _ from hx145_0)); (try have hy145_1 := fun (n_ : Nat) => (show (((((w24.drewN n_).setCell ⟨gb144, 0, none⟩ (.string ((rd_T31 l0 x7_1).f0))).setCell ⟨gb144, 1, none⟩ (.string ((rd_T31 l0 x7_1).f1))).setCell ⟨gb144, 2, none⟩ (.bool true))).cell? _ = some _ from hx145_1)); (try have hy145_2 := fun (n_ : Nat) => (show (((((w24.drewN n_).setCell ⟨gb144, 0, none⟩ (.string ((rd_T31 l0 x7_1).f0))).setCell ⟨gb144, 1, none⟩ (.string ((rd_T31 l0 x7_1).f1))).setCell ⟨gb144, 2, none⟩ (.bool true))).cell? _ = some _ from hx145_2)); clear hn145_0; clear hn145_1; clear hn145_2; replace p145 := eq_true p145; replace q145 := eq_true q145)))
                              go_ret
                              exact ⟨by first | rfl | (simp [errW_none, errW_some] <;> rfl) | (simp only [← hji18]; first | rfl | (simp [errW_none, errW_some] <;> rfl)) | (simp [*, errW_none, errW_some] <;> rfl), by repeat (first | (with_reducible first | exact HB.out | apply below_alloc | apply pw_below_drewN | apply below_drew1 | refine below_set ?_ GE144.out) | exact HB.out)⟩
                          · rw [if_neg c20] at H
                            exact absurd H (by simp)
                        · rw [if_neg c19] at H
                          exact absurd H (by simp)
                      · rw [if_neg c17] at H
                        have c17b0 : decide (0 < x7_1) = false := decide_eq_false c17
                        clear c17
                        have H' := Aside0.mk H
                        clear H
                        have p143 : 0 ≤ (x7_1 : Int) := of_decide_eq_true (by first | (with_reducible assumption) | assumption)
                        have q143 : x7_1 < (l0.length : Int) := of_decide_eq_true (by first | (with_reducible assumption) | assumption)
                        obtain ⟨ad143, e143, hx143_0, hx143_1, hx143_2⟩ := at_T31 HR0.out x7_1 p143 q143
                        (try rw [← Nbq14.out] at hx143_2)
                        cases e143
                        replace hx143_0 := (HB.out.cell (World.block_lt_of_cell? w _ hx143_0)).trans hx143_0
                        replace hx143_1 := (HB.out.cell (World.block_lt_of_cell? w _ hx143_1)).trans hx143_1
                        replace hx143_2 := (HB.out.cell (World.block_lt_of_cell? w _ hx143_2)).trans hx143_2
                        replace p143 := eq_true p143
                        replace q143 := eq_true q143
                        go_wp2_with (first | ((with_reducible refine gate_dst (N := 4) rfl ?_); (try (refine gate_guard (by rfl) ?_; dsimp only)); refine box_event ?hg (N := 4) ?hd (cs := #[.string (⟨#[]⟩ : ByteArray), .string (⟨#[]⟩ : ByteArray), .bool false]) (t := 31) ?hr ?_; (case hd => rfl); (case hg => rfl); (case hr => first | (go_simp; done) | (go_simp; rfl)); intro gb144 hg w26 hbox hb; have n0_ := Aside0.mk (below_step (by repeat (first | (with_reducible first | exact HB.out | apply below_alloc | apply pw_below_drewN | apply below_drew1) | exact HB.out)) hb); have n1_ := Aside0.mk (hbox); have n2_ := Aside0.mk ((by rw [hg]; exact (below_size (by repeat (first | (with_reducible first | exact HB.out | apply below_alloc | apply pw_below_drewN | apply below_drew1) | exact HB.out))) : w.heap.size ≤ gb144)); have n3_ := Aside0.mk ((by rw [hg]; exact (below_size (by repeat (first | (with_reducible first | exact HB.out | apply below_alloc | apply pw_below_drewN | apply below_drew1) | exact HB.out))) : w.heap.size ≤ gb144)); clear HB; have HB := n0_; have BK144 := n1_; have GW144 := n2_; have GE144 := n3_; clear n0_ n1_ n2_ n3_; clear hb hbox hg; have hcz27_0 : w26.cell? ⟨gb144, 0, none⟩ = some (.string (⟨#[]⟩ : ByteArray)) := (blk_cell BK144.out 0).trans rfl; have hcz27_1 : w26.cell? ⟨gb144, 1, none⟩ = some (.string (⟨#[]⟩ : ByteArray)) := (blk_cell BK144.out 1).trans rfl; have hcz27_2 : w26.cell? ⟨gb144, 2, none⟩ = some (.bool false) := (blk_cell BK144.out 2).trans rfl; have hfz27_0 := blk_frozen BK144.out 0; have hfz27_1 := blk_frozen BK144.out 1; have hfz27_2 := blk_frozen BK144.out 2))
                        repeat (go_quiet (first | ((with_reducible refine gate_dst (N := 4) rfl ?_); (try (refine gate_guard (by rfl) ?_; dsimp only)); refine box_event ?hg (N := 4) ?hd (cs := #[.string (⟨#[]⟩ : ByteArray), .string (⟨#[]⟩ : ByteArray), .bool false]) (t := 31) ?hr ?_; (case hd => rfl); (case hg => rfl); (case hr => first | (go_simp; done) | (go_simp; rfl)); intro gb144 hg w26 hbox hb; have n0_ := Aside0.mk (below_step (by repeat (first | (with_reducible first | exact HB.out | apply below_alloc | apply pw_below_drewN | apply below_drew1) | exact HB.out)) hb); have n1_ := Aside0.mk (hbox); have n2_ := Aside0.mk ((by rw [hg]; exact (below_size (by repeat (first | (with_reducible first | exact HB.out | apply below_alloc | apply pw_below_drewN | apply below_drew1) | exact HB.out))) : w.heap.size ≤ gb144)); have n3_ := Aside0.mk ((by rw [hg]; exact (below_size (by repeat (first | (with_reducible first | exact HB.out | apply below_alloc | apply pw_below_drewN | apply below_drew1) | exact HB.out))) : w.heap.size ≤ gb144)); clear HB; have HB := n0_; have BK144 := n1_; have GW144 := n2_; have GE144 := n3_; clear n0_ n1_ n2_ n3_; clear hb hbox hg; have hcz27_0 : w26.cell? ⟨gb144, 0, none⟩ = some (.string (⟨#[]⟩ : ByteArray)) := (blk_cell BK144.out 0).trans rfl; have hcz27_1 : w26.cell? ⟨gb144, 1, none⟩ = some (.string (⟨#[]⟩ : ByteArray)) := (blk_cell BK144.out 1).trans rfl; have hcz27_2 : w26.cell? ⟨gb144, 2, none⟩ = some (.bool false) := (blk_cell BK144.out 2).trans rfl; have hfz27_0 := blk_frozen BK144.out 0; have hfz27_1 := blk_frozen BK144.out 1; have hfz27_2 := blk_frozen BK144.out 2)); try go_wp2_with (first | ((with_reducible refine gate_dst (N := 4) rfl ?_); (try (refine gate_guard (by rfl) ?_; dsimp only)); refine box_event ?hg (N := 4) ?hd (cs := #[.string (⟨#[]⟩ : ByteArray), .string (⟨#[]⟩ : ByteArray), .bool false]) (t := 31) ?hr ?_; (case hd => rfl); (case hg => rfl); (case hr => first | (go_simp; done) | (go_simp; rfl)); intro gb144 hg w26 hbox hb; have n0_ := Aside0.mk (below_step (by repeat (first | (with_reducible first | exact HB.out | apply below_alloc | apply pw_below_drewN | apply below_drew1) | exact HB.out)) hb); have n1_ := Aside0.mk (hbox); have n2_ := Aside0.mk ((by rw [hg]; exact (below_size (by repeat (first | (with_reducible first | exact HB.out | apply below_alloc | apply pw_below_drewN | apply below_drew1) | exact HB.out))) : w.heap.size ≤ gb144)); have n3_ := Aside0.mk ((by rw [hg]; exact (below_size (by repeat (first | (with_reducible first | exact HB.out | apply below_alloc | apply pw_below_drewN | apply below_drew1) | exact HB.out))) : w.heap.size ≤ gb144)); clear HB; have HB := n0_; have BK144 := n1_; have GW144 := n2_; have GE144 := n3_; clear n0_ n1_ n2_ n3_; clear hb hbox hg; have hcz27_0 : w26.cell? ⟨gb144, 0, none⟩ = some (.string (⟨#[]⟩ : ByteArray)) := (blk_cell BK144.out 0).trans rfl; have hcz27_1 : w26.cell? ⟨gb144, 1, none⟩ = some (.string (⟨#[]⟩ : ByteArray)) := (blk_cell BK144.out 1).trans rfl; have hcz27_2 : w26.cell? ⟨gb144, 2, none⟩ = some (.bool false) := (blk_cell BK144.out 2).trans rfl; have hfz27_0 := blk_frozen BK144.out 0; have hfz27_1 := blk_frozen BK144.out 1; have hfz27_2 := blk_frozen BK144.out 2)))
                        go_roundg k1
                        case measure => have := HK1.out; omega
                        case rel => exact ⟨(wrap64 (x7_1 + 1)), (by first | rfl | (simp; done) | (simp [*]; done)), H', ⟨by have := HK1.out; omega⟩, ⟨by repeat (first | (with_reducible first | exact HB.out | apply below_alloc | apply pw_below_drewN | apply below_drew1 | refine below_set ?_ GE144.out) | exact HB.out)⟩⟩
                    · rw [if_neg c16] at H
                      have c16b0 : (((rd_T31 l0 x7_1).f1).toList == ([] : List UInt8)) = false := beq_eq_false_iff_ne.mpr c16
                      have c16b1 : (((rd_T31 l0 x7_1).f1).toList != ([] : List UInt8)) = true := bne_iff_ne.mpr c16
                      obtain rfl := Option.some.inj H
                      have p143 : 0 ≤ (x7_1 : Int) := of_decide_eq_true (by first | (with_reducible assumption) | assumption)
                      have q143 : x7_1 < (l0.length : Int) := of_decide_eq_true (by first | (with_reducible assumption) | assumption)
                      obtain ⟨ad143, e143, hx143_0, hx143_1, hx143_2⟩ := at_T31 HR0.out x7_1 p143 q143
                      (try rw [← Nbq14.out] at hx143_2)
                      cases e143
                      replace hx143_0 := (HB.out.cell (World.block_lt_of_cell? w _ hx143_0)).trans hx143_0
                      replace hx143_1 := (HB.out.cell (World.block_lt_of_cell? w _ hx143_1)).trans hx143_1
                      replace hx143_2 := (HB.out.cell (World.block_lt_of_cell? w _ hx143_2)).trans hx143_2
                      replace p143 := eq_true p143
                      replace q143 := eq_true q143
                      go_wp2_with (first | ((with_reducible refine gate_dst (N := 4) rfl ?_); (try (refine gate_guard (by rfl) ?_; dsimp only)); refine box_event ?hg (N := 4) ?hd (cs := #[.string (⟨#[]⟩ : ByteArray), .string (⟨#[]⟩ : ByteArray), .bool false]) (t := 31) ?hr ?_; (case hd => rfl); (case hg => rfl); (case hr => first | (go_simp; done) | (go_simp; rfl)); intro gb144 hg w28 hbox hb; have n0_ := Aside0.mk (below_step (by repeat (first | (with_reducible first | exact HB.out | apply below_alloc | apply pw_below_drewN | apply below_drew1) | exact HB.out)) hb); have n1_ := Aside0.mk (hbox); have n2_ := Aside0.mk ((by rw [hg]; exact (below_size (by repeat (first | (with_reducible first | exact HB.out | apply below_alloc | apply pw_below_drewN | apply below_drew1) | exact HB.out))) : w.heap.size ≤ gb144)); have n3_ := Aside0.mk ((by rw [hg]; exact (below_size (by repeat (first | (with_reducible first | exact HB.out | apply below_alloc | apply pw_below_drewN | apply below_drew1) | exact HB.out))) : w.heap.size ≤ gb144)); clear HB; have HB := n0_; have BK144 := n1_; have GW144 := n2_; have GE144 := n3_; clear n0_ n1_ n2_ n3_; clear hb hbox hg; have hcz29_0 : w28.cell? ⟨gb144, 0, none⟩ = some (.string (⟨#[]⟩ : ByteArray)) := (blk_cell BK144.out 0).trans rfl; have hcz29_1 : w28.cell? ⟨gb144, 1, none⟩ = some (.string (⟨#[]⟩ : ByteArray)) := (blk_cell BK144.out 1).trans rfl; have hcz29_2 : w28.cell? ⟨gb144, 2, none⟩ = some (.bool false) := (blk_cell BK144.out 2).trans rfl; have hfz29_0 := blk_frozen BK144.out 0; have hfz29_1 := blk_frozen BK144.out 1; have hfz29_2 := blk_frozen BK144.out 2))
                      repeat (go_quiet (first | ((with_reducible refine gate_dst (N := 4) rfl ?_); (try (refine gate_guard (by rfl) ?_; dsimp only)); refine box_event ?hg (N := 4) ?hd (cs := #[.string (⟨#[]⟩ : ByteArray), .string (⟨#[]⟩ : ByteArray), .bool false]) (t := 31) ?hr ?_; (case hd => rfl); (case hg => rfl); (case hr => first | (go_simp; done) | (go_simp; rfl)); intro gb144 hg w28 hbox hb; have n0_ := Aside0.mk (below_step (by repeat (first | (with_reducible first | exact HB.out | apply below_alloc | apply pw_below_drewN | apply below_drew1) | exact HB.out)) hb); have n1_ := Aside0.mk (hbox); have n2_ := Aside0.mk ((by rw [hg]; exact (below_size (by repeat (first | (with_reducible first | exact HB.out | apply below_alloc | apply pw_below_drewN | apply below_drew1) | exact HB.out))) : w.heap.size ≤ gb144)); have n3_ := Aside0.mk ((by rw [hg]; exact (below_size (by repeat (first | (with_reducible first | exact HB.out | apply below_alloc | apply pw_below_drewN | apply below_drew1) | exact HB.out))) : w.heap.size ≤ gb144)); clear HB; have HB := n0_; have BK144 := n1_; have GW144 := n2_; have GE144 := n3_; clear n0_ n1_ n2_ n3_; clear hb hbox hg; have hcz29_0 : w28.cell? ⟨gb144, 0, none⟩ = some (.string (⟨#[]⟩ : ByteArray)) := (blk_cell BK144.out 0).trans rfl; have hcz29_1 : w28.cell? ⟨gb144, 1, none⟩ = some (.string (⟨#[]⟩ : ByteArray)) := (blk_cell BK144.out 1).trans rfl; have hcz29_2 : w28.cell? ⟨gb144, 2, none⟩ = some (.bool false) := (blk_cell BK144.out 2).trans rfl; have hfz29_0 := blk_frozen BK144.out 0; have hfz29_1 := blk_frozen BK144.out 1; have hfz29_2 := blk_frozen BK144.out 2)); try go_wp2_with (first | ((with_reducible refine gate_dst (N := 4) rfl ?_); (try (refine gate_guard (by rfl) ?_; dsimp only)); refine box_event ?hg (N := 4) ?hd (cs := #[.string (⟨#[]⟩ : ByteArray), .string (⟨#[]⟩ : ByteArray), .bool false]) (t := 31) ?hr ?_; (case hd => rfl); (case hg => rfl); (case hr => first | (go_simp; done) | (go_simp; rfl)); intro gb144 hg w28 hbox hb; have n0_ := Aside0.mk (below_step (by repeat (first | (with_reducible first | exact HB.out | apply below_alloc | apply pw_below_drewN | apply below_drew1) | exact HB.out)) hb); have n1_ := Aside0.mk (hbox); have n2_ := Aside0.mk ((by rw [hg]; exact (below_size (by repeat (first | (with_reducible first | exact HB.out | apply below_alloc | apply pw_below_drewN | apply below_drew1) | exact HB.out))) : w.heap.size ≤ gb144)); have n3_ := Aside0.mk ((by rw [hg]; exact (below_size (by repeat (first | (with_reducible first | exact HB.out | apply below_alloc | apply pw_below_drewN | apply below_drew1) | exact HB.out))) : w.heap.size ≤ gb144)); clear HB; have HB := n0_; have BK144 := n1_; have GW144 := n2_; have GE144 := n3_; clear n0_ n1_ n2_ n3_; clear hb hbox hg; have hcz29_0 : w28.cell? ⟨gb144, 0, none⟩ = some (.string (⟨#[]⟩ : ByteArray)) := (blk_cell BK144.out 0).trans rfl; have hcz29_1 : w28.cell? ⟨gb144, 1, none⟩ = some (.string (⟨#[]⟩ : ByteArray)) := (blk_cell BK144.out 1).trans rfl; have hcz29_2 : w28.cell? ⟨gb144, 2, none⟩ = some (.bool false) := (blk_cell BK144.out 2).trans rfl; have hfz29_0 := blk_frozen BK144.out 0; have hfz29_1 := blk_frozen BK144.out 1; have hfz29_2 := blk_frozen BK144.out 2)))
                      go_ret
                      exact ⟨by first | rfl | (simp [errW_none, errW_some] <;> rfl) | (simp [*, errW_none, errW_some] <;> rfl), by repeat (first | (with_reducible first | exact HB.out | apply below_alloc | apply pw_below_drewN | apply below_drew1 | refine below_set ?_ GE144.out) | exact HB.out)⟩
                  · replace c15 := Bool.eq_false_iff.mpr c15
                    subst c15
                    have H1 : (if x7_1 > 0 then (if 0 ≤ (wrap64 (x7_1 - 1)) then (if (wrap64 (x7_1 - 1)) < (l0.length : Int) then (if ((Op.bytesLess (((rd_T31 l0 (wrap64 (x7_1 - 1))).f0).toList) (((rd_T31 l0 x7_1).f0).toList)) = true) then (store_rises.l0 k1 l0 l0 (l0.length : Int) (wrap64 (x7_1 + 1))) else (some false)) else (none)) else (none)) else (store_rises.l0 k1 l0 l0 (l0.length : Int) (wrap64 (x7_1 + 1)))) = some r := by rw [if_neg (show ¬ (false = true) by decide)] at H; exact H
                    clear H
                    have H := H1
                    clear H1
                    by_cases c30 : x7_1 > 0
                    · rw [if_pos c30] at H
                      have c30b0 : decide (0 < x7_1) = true := decide_eq_true c30
                      clear c30
                      obtain ⟨ji31, hji31⟩ : ∃ j_ : Int, (wrap64 (x7_1 - 1)) = j_ := ⟨_, rfl⟩
                      replace H : (if 0 ≤ (ji31) then (if (ji31) < (l0.length : Int) then (if ((Op.bytesLess (((rd_T31 l0 (ji31)).f0).toList) (((rd_T31 l0 x7_1).f0).toList)) = true) then (store_rises.l0 k1 l0 l0 (l0.length : Int) (wrap64 (x7_1 + 1))) else (some false)) else (none)) else (none)) = some r := by first | (rw [hji31] at H; exact H) | (simp only [hji31] at H ⊢; exact H)
                      have hji31w : (IntKind.i64.wrap (x7_1 - 1)) = ji31 := (i64_w _).trans hji31
                      by_cases c32 : 0 ≤ (ji31)
                      · rw [if_pos c32] at H
                        have c32b0 : decide (0 ≤ (ji31)) = true := decide_eq_true c32
                        clear c32
                        by_cases c33 : (ji31) < (l0.length : Int)
                        · rw [if_pos c33] at H
                          have c33b0 : decide ((ji31) < (l0.length : Int)) = true := decide_eq_true c33
                          clear c33
                          by_cases c34 : ((Op.bytesLess (((rd_T31 l0 (ji31)).f0).toList) (((rd_T31 l0 x7_1).f0).toList)) = true)
                          · rw [if_pos c34] at H
                            have c34b0 : (Op.bytesLess (((rd_T31 l0 (ji31)).f0).toList) (((rd_T31 l0 x7_1).f0).toList)) = true := c34
                            clear c34
                            have H' := Aside0.mk H
                            clear H
                            have p143 : 0 ≤ (x7_1 : Int) := of_decide_eq_true (by first | (with_reducible assumption) | assumption)
                            have q143 : x7_1 < (l0.length : Int) := of_decide_eq_true (by first | (with_reducible assumption) | assumption)
                            obtain ⟨ad143, e143, hx143_0, hx143_1, hx143_2⟩ := at_T31 HR0.out x7_1 p143 q143
                            (try rw [← Nbq14.out] at hx143_2)
                            cases e143
                            replace hx143_0 := (HB.out.cell (World.block_lt_of_cell? w _ hx143_0)).trans hx143_0
                            replace hx143_1 := (HB.out.cell (World.block_lt_of_cell? w _ hx143_1)).trans hx143_1
                            replace hx143_2 := (HB.out.cell (World.block_lt_of_cell? w _ hx143_2)).trans hx143_2
                            replace p143 := eq_true p143
                            replace q143 := eq_true q143
                            go_wp2_with (first | ((with_reducible refine gate_dst (N := 4) rfl ?_); (try (refine gate_guard (by rfl) ?_; dsimp only)); refine box_event ?hg (N := 4) ?hd (cs := #[.string (⟨#[]⟩ : ByteArray), .string (⟨#[]⟩ : ByteArray), .bool false]) (t := 31) ?hr ?_; (case hd => rfl); (case hg => rfl); (case hr => first | (go_simp; done) | (go_simp; rfl)); intro gb144 hg w35 hbox hb; have n0_ := Aside0.mk (below_step (by repeat (first | (with_reducible first | exact HB.out | apply below_alloc | apply pw_below_drewN | apply below_drew1) | exact HB.out)) hb); have n1_ := Aside0.mk (hbox); have n2_ := Aside0.mk ((by rw [hg]; exact (below_size (by repeat (first | (with_reducible first | exact HB.out | apply below_alloc | apply pw_below_drewN | apply below_drew1) | exact HB.out))) : w.heap.size ≤ gb144)); have n3_ := Aside0.mk ((by rw [hg]; exact (below_size (by repeat (first | (with_reducible first | exact HB.out | apply below_alloc | apply pw_below_drewN | apply below_drew1) | exact HB.out))) : w.heap.size ≤ gb144)); clear HB; have HB := n0_; have BK144 := n1_; have GW144 := n2_; have GE144 := n3_; clear n0_ n1_ n2_ n3_; clear hb hbox hg; have hcz36_0 : w35.cell? ⟨gb144, 0, none⟩ = some (.string (⟨#[]⟩ : ByteArray)) := (blk_cell BK144.out 0).trans rfl; have hcz36_1 : w35.cell? ⟨gb144, 1, none⟩ = some (.string (⟨#[]⟩ : ByteArray)) := (blk_cell BK144.out 1).trans rfl; have hcz36_2 : w35.cell? ⟨gb144, 2, none⟩ = some (.bool false) := (blk_cell BK144.out 2).trans rfl; have hfz36_0 := blk_frozen BK144.out 0; have hfz36_1 := blk_frozen BK144.out 1; have hfz36_2 := blk_frozen BK144.out 2; have p146 : 0 ≤ ((ji31) : Int) := of_decide_eq_true (by first | (with_reducible assumption) | assumption); have q146 : (ji31) < (l0.length : Int) := of_decide_eq_true (by first | (with_reducible assumption) | assumption); obtain ⟨ad146, e146, hx146_0, hx146_1, hx146_2⟩ := at_T31 HR0.out (ji31) p146 q146; (try rw [← Nbq14.out] at hx146_2); obtain rfl : ad143 = ad146 := (by injection e146); have hn146_0 : ad143.block ≠ gb144 := Nat.ne_of_lt (Nat.lt_of_lt_of_le (by have := World.block_lt_of_cell? _ _ hx146_0; first | rwa [add_block] at this | exact this) GW144.out); have hn146_1 : ad143.block ≠ gb144 := Nat.ne_of_lt (Nat.lt_of_lt_of_le (by have := World.block_lt_of_cell? _ _ hx146_0; first | rwa [add_block] at this | exact this) GW144.out); have hn146_2 : ad143.block ≠ gb144 := Nat.ne_of_lt (Nat.lt_of_lt_of_le (by have := World.block_lt_of_cell? _ _ hx146_0; first | rwa [add_block] at this | exact this) GW144.out); replace hx146_0 := (HB.out.cell (World.block_lt_of_cell? w _ hx146_0)).trans hx146_0; replace hx146_1 := (HB.out.cell (World.block_lt_of_cell? w _ hx146_1)).trans hx146_1; replace hx146_2 := (HB.out.cell (World.block_lt_of_cell? w _ hx146_2)).trans hx146_2; replace hx146_0 := (cell_far (p := ⟨gb144, 0, none⟩) (by first | (rw [add_block]; exact hn146_0) | (show (Addr.add _ _).block ≠ _; rw [add_block]; exact hn146_0) | exact hn146_0) (.string ((rd_T31 l0 x7_1).f0))).trans hx146_0; replace hx146_1 := (cell_far (p := ⟨gb144, 0, none⟩) (by first | (rw [add_block]; exact hn146_0) | (show (Addr.add _ _).block ≠ _; rw [add_block]; exact hn146_0) | exact hn146_0) (.string ((rd_T31 l0 x7_1).f0))).trans hx146_1; replace hx146_2 := (cell_far (p := ⟨gb144, 0, none⟩) (by first | (rw [add_block]; exact hn146_0) | (show (Addr.add _ _).block ≠ _; rw [add_block]; exact hn146_0) | exact hn146_0) (.string ((rd_T31 l0 x7_1).f0))).trans hx146_2; replace hx146_0 := (cell_far (p := ⟨gb144, 1, none⟩) (by first | (rw [add_block]; exact hn146_1) | (show (Addr.add _ _).block ≠ _; rw [add_block]; exact hn146_1) | exact hn146_1) (.string ((rd_T31 l0 x7_1).f1))).trans hx146_0; replace hx146_1 := (cell_far (p := ⟨gb144, 1, none⟩) (by first | (rw [add_block]; exact hn146_1) | (show (Addr.add _ _).block ≠ _; rw [add_block]; exact hn146_1) | exact hn146_1) (.string ((rd_T31 l0 x7_1).f1))).trans hx146_1; replace hx146_2 := (cell_far (p := ⟨gb144, 1, none⟩) (by first | (rw [add_block]; exact hn146_1) | (show (Addr.add _ _).block ≠ _; rw [add_block]; exact hn146_1) | exact hn146_1) (.string ((rd_T31 l0 x7_1).f1))).trans hx146_2; replace hx146_0 := (cell_far (p := ⟨gb144, 2, none⟩) (by first | (rw [add_block]; exact hn146_2) | (show (Addr.add _ _).block ≠ _; rw [add_block]; exact hn146_2) | exact hn146_2) (.bool false)).trans hx146_0; replace hx146_1 := (cell_far (p := ⟨gb144, 2, none⟩) (by first | (rw [add_block]; exact hn146_2) | (show (Addr.add _ _).block ≠ _; rw [add_block]; exact hn146_2) | exact hn146_2) (.bool false)).trans hx146_1; replace hx146_2 := (cell_far (p := ⟨gb144, 2, none⟩) (by first | (rw [add_block]; exact hn146_2) | (show (Addr.add _ _).block ≠ _; rw [add_block]; exact hn146_2) | exact hn146_2) (.bool false)).trans hx146_2; (try have hy146_0 := fun (n_ : Nat) => (show (((((w35.drewN n_).setCell ⟨gb144, 0, none⟩ (.string ((rd_T31 l0 x7_1).f0))).setCell ⟨gb144, 1, none⟩ (.string ((rd_T31 l0 x7_1).f1))).setCell ⟨gb144, 2, none⟩ (.bool false))).cell? _ = some _ from hx146_0)); (try have hy146_1 := fun (n_ : Nat) => (show (((((w35.drewN n_).setCell ⟨gb144, 0, none⟩ (.string ((rd_T31 l0 x7_1).f0))).setCell ⟨gb144, 1, none⟩ (.string ((rd_T31 l0 x7_1).f1))).setCell ⟨gb144, 2, none⟩ (.bool false))).cell? _ = some _ from hx146_1)); (try have hy146_2 := fun (n_ : Nat) => (show (((((w35.drewN n_).setCell ⟨gb144, 0, none⟩ (.string ((rd_T31 l0 x7_1).f0))).setCell ⟨gb144, 1, none⟩ (.string ((rd_T31 l0 x7_1).f1))).setCell ⟨gb144, 2, none⟩ (.bool false))).cell? _ = some _ from hx146_2)); clear hn146_0; clear hn146_1; clear hn146_2; replace p146 := eq_true p146; replace q146 := eq_true q146))
                            repeat (go_quiet (first | ((with_reducible refine gate_dst (N := 4) rfl ?_); (try (refine gate_guard (by rfl) ?_; dsimp only)); refine box_event ?hg (N := 4) ?hd (cs := #[.string (⟨#[]⟩ : ByteArray), .string (⟨#[]⟩ : ByteArray), .bool false]) (t := 31) ?hr ?_; (case hd => rfl); (case hg => rfl); (case hr => first | (go_simp; done) | (go_simp; rfl)); intro gb144 hg w35 hbox hb; have n0_ := Aside0.mk (below_step (by repeat (first | (with_reducible first | exact HB.out | apply below_alloc | apply pw_below_drewN | apply below_drew1) | exact HB.out)) hb); have n1_ := Aside0.mk (hbox); have n2_ := Aside0.mk ((by rw [hg]; exact (below_size (by repeat (first | (with_reducible first | exact HB.out | apply below_alloc | apply pw_below_drewN | apply below_drew1) | exact HB.out))) : w.heap.size ≤ gb144)); have n3_ := Aside0.mk ((by rw [hg]; exact (below_size (by repeat (first | (with_reducible first | exact HB.out | apply below_alloc | apply pw_below_drewN | apply below_drew1) | exact HB.out))) : w.heap.size ≤ gb144)); clear HB; have HB := n0_; have BK144 := n1_; have GW144 := n2_; have GE144 := n3_; clear n0_ n1_ n2_ n3_; clear hb hbox hg; have hcz36_0 : w35.cell? ⟨gb144, 0, none⟩ = some (.string (⟨#[]⟩ : ByteArray)) := (blk_cell BK144.out 0).trans rfl; have hcz36_1 : w35.cell? ⟨gb144, 1, none⟩ = some (.string (⟨#[]⟩ : ByteArray)) := (blk_cell BK144.out 1).trans rfl; have hcz36_2 : w35.cell? ⟨gb144, 2, none⟩ = some (.bool false) := (blk_cell BK144.out 2).trans rfl; have hfz36_0 := blk_frozen BK144.out 0; have hfz36_1 := blk_frozen BK144.out 1; have hfz36_2 := blk_frozen BK144.out 2; have p146 : 0 ≤ ((ji31) : Int) := of_decide_eq_true (by first | (with_reducible assumption) | assumption); have q146 : (ji31) < (l0.length : Int) := of_decide_eq_true (by first | (with_reducible assumption) | assumption); obtain ⟨ad146, e146, hx146_0, hx146_1, hx146_2⟩ := at_T31 HR0.out (ji31) p146 q146; (try rw [← Nbq14.out] at hx146_2); obtain rfl : ad143 = ad146 := (by injection e146); have hn146_0 : ad143.block ≠ gb144 := Nat.ne_of_lt (Nat.lt_of_lt_of_le (by have := World.block_lt_of_cell? _ _ hx146_0; first | rwa [add_block] at this | exact this) GW144.out); have hn146_1 : ad143.block ≠ gb144 := Nat.ne_of_lt (Nat.lt_of_lt_of_le (by have := World.block_lt_of_cell? _ _ hx146_0; first | rwa [add_block] at this | exact this) GW144.out); have hn146_2 : ad143.block ≠ gb144 := Nat.ne_of_lt (Nat.lt_of_lt_of_le (by have := World.block_lt_of_cell? _ _ hx146_0; first | rwa [add_block] at this | exact this) GW144.out); replace hx146_0 := (HB.out.cell (World.block_lt_of_cell? w _ hx146_0)).trans hx146_0; replace hx146_1 := (HB.out.cell (World.block_lt_of_cell? w _ hx146_1)).trans hx146_1; replace hx146_2 := (HB.out.cell (World.block_lt_of_cell? w _ hx146_2)).trans hx146_2; replace hx146_0 := (cell_far (p := ⟨gb144, 0, none⟩) (by first | (rw [add_block]; exact hn146_0) | (show (Addr.add _ _).block ≠ _; rw [add_block]; exact hn146_0) | exact hn146_0) (.string ((rd_T31 l0 x7_1).f0))).trans hx146_0; replace hx146_1 := (cell_far (p := ⟨gb144, 0, none⟩) (by first | (rw [add_block]; exact hn146_0) | (show (Addr.add _ _).block ≠ _; rw [add_block]; exact hn146_0) | exact hn146_0) (.string ((rd_T31 l0 x7_1).f0))).trans hx146_1; replace hx146_2 := (cell_far (p := ⟨gb144, 0, none⟩) (by first | (rw [add_block]; exact hn146_0) | (show (Addr.add _ _).block ≠ _; rw [add_block]; exact hn146_0) | exact hn146_0) (.string ((rd_T31 l0 x7_1).f0))).trans hx146_2; replace hx146_0 := (cell_far (p := ⟨gb144, 1, none⟩) (by first | (rw [add_block]; exact hn146_1) | (show (Addr.add _ _).block ≠ _; rw [add_block]; exact hn146_1) | exact hn146_1) (.string ((rd_T31 l0 x7_1).f1))).trans hx146_0; replace hx146_1 := (cell_far (p := ⟨gb144, 1, none⟩) (by first | (rw [add_block]; exact hn146_1) | (show (Addr.add _ _).block ≠ _; rw [add_block]; exact hn146_1) | exact hn146_1) (.string ((rd_T31 l0 x7_1).f1))).trans hx146_1; replace hx146_2 := (cell_far (p := ⟨gb144, 1, none⟩) (by first | (rw [add_block]; exact hn146_1) | (show (Addr.add _ _).block ≠ _; rw [add_block]; exact hn146_1) | exact hn146_1) (.string ((rd_T31 l0 x7_1).f1))).trans hx146_2; replace hx146_0 := (cell_far (p := ⟨gb144, 2, none⟩) (by first | (rw [add_block]; exact hn146_2) | (show (Addr.add _ _).block ≠ _; rw [add_block]; exact hn146_2) | exact hn146_2) (.bool false)).trans hx146_0; replace hx146_1 := (cell_far (p := ⟨gb144, 2, none⟩) (by first | (rw [add_block]; exact hn146_2) | (show (Addr.add _ _).block ≠ _; rw [add_block]; exact hn146_2) | exact hn146_2) (.bool false)).trans hx146_1; replace hx146_2 := (cell_far (p := ⟨gb144, 2, none⟩) (by first | (rw [add_block]; exact hn146_2) | (show (Addr.add _ _).block ≠ _; rw [add_block]; exact hn146_2) | exact hn146_2) (.bool false)).trans hx146_2; (try have hy146_0 := fun (n_ : Nat) => (show (((((w35.drewN n_).setCell ⟨gb144, 0, none⟩ (.string ((rd_T31 l0 x7_1).f0))).setCell ⟨gb144, 1, none⟩ (.string ((rd_T31 l0 x7_1).f1))).setCell ⟨gb144, 2, none⟩ (.bool false))).cell? _ = some _ from hx146_0)); (try have hy146_1 := fun (n_ : Nat) => (show (((((w35.drewN n_).setCell ⟨gb144, 0, none⟩ (.string ((rd_T31 l0 x7_1).f0))).setCell ⟨gb144, 1, none⟩ (.string ((rd_T31 l0 x7_1).f1))).setCell ⟨gb144, 2, none⟩ (.bool false))).cell? _ = some _ from hx146_1)); (try have hy146_2 := fun (n_ : Nat) => (show (((((w35.drewN n_).setCell ⟨gb144, 0, none⟩ (.string ((rd_T31 l0 x7_1).f0))).setCell ⟨gb144, 1, none⟩ (.string ((rd_T31 l0 x7_1).f1))).setCell ⟨gb144, 2, none⟩ (.bool false))).cell? _ = some _ from hx146_2)); clear hn146_0; clear hn146_1; clear hn146_2; replace p146 := eq_true p146; replace q146 := eq_true q146)); try go_wp2_with (first | ((with_reducible refine gate_dst (N := 4) rfl ?_); (try (refine gate_guard (by rfl) ?_; dsimp only)); refine box_event ?hg (N := 4) ?hd (cs := #[.string (⟨#[]⟩ : ByteArray), .string (⟨#[]⟩ : ByteArray), .bool false]) (t := 31) ?hr ?_; (case hd => rfl); (case hg => rfl); (case hr => first | (go_simp; done) | (go_simp; rfl)); intro gb144 hg w35 hbox hb; have n0_ := Aside0.mk (below_step (by repeat (first | (with_reducible first | exact HB.out | apply below_alloc | apply pw_below_drewN | apply below_drew1) | exact HB.out)) hb); have n1_ := Aside0.mk (hbox); have n2_ := Aside0.mk ((by rw [hg]; exact (below_size (by repeat (first | (with_reducible first | exact HB.out | apply below_alloc | apply pw_below_drewN | apply below_drew1) | exact HB.out))) : w.heap.size ≤ gb144)); have n3_ := Aside0.mk ((by rw [hg]; exact (below_size (by repeat (first | (with_reducible first | exact HB.out | apply below_alloc | apply pw_below_drewN | apply below_drew1) | exact HB.out))) : w.heap.size ≤ gb144)); clear HB; have HB := n0_; have BK144 := n1_; have GW144 := n2_; have GE144 := n3_; clear n0_ n1_ n2_ n3_; clear hb hbox hg; have hcz36_0 : w35.cell? ⟨gb144, 0, none⟩ = some (.string (⟨#[]⟩ : ByteArray)) := (blk_cell BK144.out 0).trans rfl; have hcz36_1 : w35.cell? ⟨gb144, 1, none⟩ = some (.string (⟨#[]⟩ : ByteArray)) := (blk_cell BK144.out 1).trans rfl; have hcz36_2 : w35.cell? ⟨gb144, 2, none⟩ = some (.bool false) := (blk_cell BK144.out 2).trans rfl; have hfz36_0 := blk_frozen BK144.out 0; have hfz36_1 := blk_frozen BK144.out 1; have hfz36_2 := blk_frozen BK144.out 2; have p146 : 0 ≤ ((ji31) : Int) := of_decide_eq_true (by first | (with_reducible assumption) | assumption); have q146 : (ji31) < (l0.length : Int) := of_decide_eq_true (by first | (with_reducible assumption) | assumption); obtain ⟨ad146, e146, hx146_0, hx146_1, hx146_2⟩ := at_T31 HR0.out (ji31) p146 q146; (try rw [← Nbq14.out] at hx146_2); obtain rfl : ad143 = ad146 := (by injection e146); have hn146_0 : ad143.block ≠ gb144 := Nat.ne_of_lt (Nat.lt_of_lt_of_le (by have := World.block_lt_of_cell? _ _ hx146_0; first | rwa [add_block] at this | exact this) GW144.out); have hn146_1 : ad143.block ≠ gb144 := Nat.ne_of_lt (Nat.lt_of_lt_of_le (by have := World.block_lt_of_cell? _ _ hx146_0; first | rwa [add_block] at this | exact this) GW144.out); have hn146_2 : ad143.block ≠ gb144 := Nat.ne_of_lt (Nat.lt_of_lt_of_le (by have := World.block_lt_of_cell? _ _ hx146_0; first | rwa [add_block] at this | exact this) GW144.out); replace hx146_0 := (HB.out.cell (World.block_lt_of_cell? w _ hx146_0)).trans hx146_0; replace hx146_1 := (HB.out.cell (World.block_lt_of_cell? w _ hx146_1)).trans hx146_1; replace hx146_2 := (HB.out.cell (World.block_lt_of_cell? w _ hx146_2)).trans hx146_2; replace hx146_0 := (cell_far (p := ⟨gb144, 0, none⟩) (by first | (rw [add_block]; exact hn146_0) | (show (Addr.add _ _).block ≠ _; rw [add_block]; exact hn146_0) | exact hn146_0) (.string ((rd_T31 l0 x7_1).f0))).trans hx146_0; replace hx146_1 := (cell_far (p := ⟨gb144, 0, none⟩) (by first | (rw [add_block]; exact hn146_0) | (show (Addr.add _ _).block ≠ _; rw [add_block]; exact hn146_0) | exact hn146_0) (.string ((rd_T31 l0 x7_1).f0))).trans hx146_1; replace hx146_2 := (cell_far (p := ⟨gb144, 0, none⟩) (by first | (rw [add_block]; exact hn146_0) | (show (Addr.add _ _).block ≠ _; rw [add_block]; exact hn146_0) | exact hn146_0) (.string ((rd_T31 l0 x7_1).f0))).trans hx146_2; replace hx146_0 := (cell_far (p := ⟨gb144, 1, none⟩) (by first | (rw [add_block]; exact hn146_1) | (show (Addr.add _ _).block ≠ _; rw [add_block]; exact hn146_1) | exact hn146_1) (.string ((rd_T31 l0 x7_1).f1))).trans hx146_0; replace hx146_1 := (cell_far (p := ⟨gb144, 1, none⟩) (by first | (rw [add_block]; exact hn146_1) | (show (Addr.add _ _).block ≠ _; rw [add_block]; exact hn146_1) | exact hn146_1) (.string ((rd_T31 l0 x7_1).f1))).trans hx146_1; replace hx146_2 := (cell_far (p := ⟨gb144, 1, none⟩) (by first | (rw [add_block]; exact hn146_1) | (show (Addr.add _ _).block ≠ _; rw [add_block]; exact hn146_1) | exact hn146_1) (.string ((rd_T31 l0 x7_1).f1))).trans hx146_2; replace hx146_0 := (cell_far (p := ⟨gb144, 2, none⟩) (by first | (rw [add_block]; exact hn146_2) | (show (Addr.add _ _).block ≠ _; rw [add_block]; exact hn146_2) | exact hn146_2) (.bool false)).trans hx146_0; replace hx146_1 := (cell_far (p := ⟨gb144, 2, none⟩) (by first | (rw [add_block]; exact hn146_2) | (show (Addr.add _ _).block ≠ _; rw [add_block]; exact hn146_2) | exact hn146_2) (.bool false)).trans hx146_1; replace hx146_2 := (cell_far (p := ⟨gb144, 2, none⟩) (by first | (rw [add_block]; exact hn146_2) | (show (Addr.add _ _).block ≠ _; rw [add_block]; exact hn146_2) | exact hn146_2) (.bool false)).trans hx146_2; (try have hy146_0 := fun (n_ : Nat) => (show (((((w35.drewN n_).setCell ⟨gb144, 0, none⟩ (.string ((rd_T31 l0 x7_1).f0))).setCell ⟨gb144, 1, none⟩ (.string ((rd_T31 l0 x7_1).f1))).setCell ⟨gb144, 2, none⟩ (.bool false))).cell? _ = some _ from hx146_0)); (try have hy146_1 := fun (n_ : Nat) => (show (((((w35.drewN n_).setCell ⟨gb144, 0, none⟩ (.string ((rd_T31 l0 x7_1).f0))).setCell ⟨gb144, 1, none⟩ (.string ((rd_T31 l0 x7_1).f1))).setCell ⟨gb144, 2, none⟩ (.bool false))).cell? _ = some _ from hx146_1)); (try have hy146_2 := fun (n_ : Nat) => (show (((((w35.drewN n_).setCell ⟨gb144, 0, none⟩ (.string ((rd_T31 l0 x7_1).f0))).setCell ⟨gb144, 1, none⟩ (.string ((rd_T31 l0 x7_1).f1))).setCell ⟨gb144, 2, none⟩ (.bool false))).cell? _ = some _ from hx146_2)); clear hn146_0; clear hn146_1; clear hn146_2; replace p146 := eq_true p146; replace q146 := eq_true q146)))
                            go_roundg k1
                            case measure => have := HK1.out; omega
                            case rel => exact ⟨(wrap64 (x7_1 + 1)), (by first | rfl | (simp; done) | (simp [*]; done)), H', ⟨by have := HK1.out; omega⟩, ⟨by repeat (first | (with_reducible first | exact HB.out | apply below_alloc | apply pw_below_drewN | apply below_drew1 | refine below_set ?_ GE144.out) | exact HB.out)⟩⟩
                          · rw [if_neg c34] at H
                            have c34b0 : (Op.bytesLess (((rd_T31 l0 (ji31)).f0).toList) (((rd_T31 l0 x7_1).f0).toList)) = false := by simpa using c34
                            clear c34
                            obtain rfl := Option.some.inj H
                            have p143 : 0 ≤ (x7_1 : Int) := of_decide_eq_true (by first | (with_reducible assumption) | assumption)
                            have q143 : x7_1 < (l0.length : Int) := of_decide_eq_true (by first | (with_reducible assumption) | assumption)
                            obtain ⟨ad143, e143, hx143_0, hx143_1, hx143_2⟩ := at_T31 HR0.out x7_1 p143 q143
                            (try rw [← Nbq14.out] at hx143_2)
                            cases e143
                            replace hx143_0 := (HB.out.cell (World.block_lt_of_cell? w _ hx143_0)).trans hx143_0
                            replace hx143_1 := (HB.out.cell (World.block_lt_of_cell? w _ hx143_1)).trans hx143_1
                            replace hx143_2 := (HB.out.cell (World.block_lt_of_cell? w _ hx143_2)).trans hx143_2
                            replace p143 := eq_true p143
                            replace q143 := eq_true q143
                            go_wp2_with (first | ((with_reducible refine gate_dst (N := 4) rfl ?_); (try (refine gate_guard (by rfl) ?_; dsimp only)); refine box_event ?hg (N := 4) ?hd (cs := #[.string (⟨#[]⟩ : ByteArray), .string (⟨#[]⟩ : ByteArray), .bool false]) (t := 31) ?hr ?_; (case hd => rfl); (case hg => rfl); (case hr => first | (go_simp; done) | (go_simp; rfl)); intro gb144 hg w37 hbox hb; have n0_ := Aside0.mk (below_step (by repeat (first | (with_reducible first | exact HB.out | apply below_alloc | apply pw_below_drewN | apply below_drew1) | exact HB.out)) hb); have n1_ := Aside0.mk (hbox); have n2_ := Aside0.mk ((by rw [hg]; exact (below_size (by repeat (first | (with_reducible first | exact HB.out | apply below_alloc | apply pw_below_drewN | apply below_drew1) | exact HB.out))) : w.heap.size ≤ gb144)); have n3_ := Aside0.mk ((by rw [hg]; exact (below_size (by repeat (first | (with_reducible first | exact HB.out | apply below_alloc | apply pw_below_drewN | apply below_drew1) | exact HB.out))) : w.heap.size ≤ gb144)); clear HB; have HB := n0_; have BK144 := n1_; have GW144 := n2_; have GE144 := n3_; clear n0_ n1_ n2_ n3_; clear hb hbox hg; have hcz38_0 : w37.cell? ⟨gb144, 0, none⟩ = some (.string (⟨#[]⟩ : ByteArray)) := (blk_cell BK144.out 0).trans rfl; have hcz38_1 : w37.cell? ⟨gb144, 1, none⟩ = some (.string (⟨#[]⟩ : ByteArray)) := (blk_cell BK144.out 1).trans rfl; have hcz38_2 : w37.cell? ⟨gb144, 2, none⟩ = some (.bool false) := (blk_cell BK144.out 2).trans rfl; have hfz38_0 := blk_frozen BK144.out 0; have hfz38_1 := blk_frozen BK144.out 1; have hfz38_2 := blk_frozen BK144.out 2; have p146 : 0 ≤ ((ji31) : Int) := of_decide_eq_true (by first | (with_reducible assumption) | assumption); have q146 : (ji31) < (l0.length : Int) := of_decide_eq_true (by first | (with_reducible assumption) | assumption); obtain ⟨ad146, e146, hx146_0, hx146_1, hx146_2⟩ := at_T31 HR0.out (ji31) p146 q146; (try rw [← Nbq14.out] at hx146_2); obtain rfl : ad143 = ad146 := (by injection e146); have hn146_0 : ad143.block ≠ gb144 := Nat.ne_of_lt (Nat.lt_of_lt_of_le (by have := World.block_lt_of_cell? _ _ hx146_0; first | rwa [add_block] at this | exact this) GW144.out); have hn146_1 : ad143.block ≠ gb144 := Nat.ne_of_lt (Nat.lt_of_lt_of_le (by have := World.block_lt_of_cell? _ _ hx146_0; first | rwa [add_block] at this | exact this) GW144.out); have hn146_2 : ad143.block ≠ gb144 := Nat.ne_of_lt (Nat.lt_of_lt_of_le (by have := World.block_lt_of_cell? _ _ hx146_0; first | rwa [add_block] at this | exact this) GW144.out); replace hx146_0 := (HB.out.cell (World.block_lt_of_cell? w _ hx146_0)).trans hx146_0; replace hx146_1 := (HB.out.cell (World.block_lt_of_cell? w _ hx146_1)).trans hx146_1; replace hx146_2 := (HB.out.cell (World.block_lt_of_cell? w _ hx146_2)).trans hx146_2; replace hx146_0 := (cell_far (p := ⟨gb144, 0, none⟩) (by first | (rw [add_block]; exact hn146_0) | (show (Addr.add _ _).block ≠ _; rw [add_block]; exact hn146_0) | exact hn146_0) (.string ((rd_T31 l0 x7_1).f0))).trans hx146_0; replace hx146_1 := (cell_far (p := ⟨gb144, 0, none⟩) (by first | (rw [add_block]; exact hn146_0) | (show (Addr.add _ _).block ≠ _; rw [add_block]; exact hn146_0) | exact hn146_0) (.string ((rd_T31 l0 x7_1).f0))).trans hx146_1; replace hx146_2 := (cell_far (p := ⟨gb144, 0, none⟩) (by first | (rw [add_block]; exact hn146_0) | (show (Addr.add _ _).block ≠ _; rw [add_block]; exact hn146_0) | exact hn146_0) (.string ((rd_T31 l0 x7_1).f0))).trans hx146_2; replace hx146_0 := (cell_far (p := ⟨gb144, 1, none⟩) (by first | (rw [add_block]; exact hn146_1) | (show (Addr.add _ _).block ≠ _; rw [add_block]; exact hn146_1) | exact hn146_1) (.string ((rd_T31 l0 x7_1).f1))).trans hx146_0; replace hx146_1 := (cell_far (p := ⟨gb144, 1, none⟩) (by first | (rw [add_block]; exact hn146_1) | (show (Addr.add _ _).block ≠ _; rw [add_block]; exact hn146_1) | exact hn146_1) (.string ((rd_T31 l0 x7_1).f1))).trans hx146_1; replace hx146_2 := (cell_far (p := ⟨gb144, 1, none⟩) (by first | (rw [add_block]; exact hn146_1) | (show (Addr.add _ _).block ≠ _; rw [add_block]; exact hn146_1) | exact hn146_1) (.string ((rd_T31 l0 x7_1).f1))).trans hx146_2; replace hx146_0 := (cell_far (p := ⟨gb144, 2, none⟩) (by first | (rw [add_block]; exact hn146_2) | (show (Addr.add _ _).block ≠ _; rw [add_block]; exact hn146_2) | exact hn146_2) (.bool false)).trans hx146_0; replace hx146_1 := (cell_far (p := ⟨gb144, 2, none⟩) (by first | (rw [add_block]; exact hn146_2) | (show (Addr.add _ _).block ≠ _; rw [add_block]; exact hn146_2) | exact hn146_2) (.bool false)).trans hx146_1; replace hx146_2 := (cell_far (p := ⟨gb144, 2, none⟩) (by first | (rw [add_block]; exact hn146_2) | (show (Addr.add _ _).block ≠ _; rw [add_block]; exact hn146_2) | exact hn146_2) (.bool false)).trans hx146_2; (try have hy146_0 := fun (n_ : Nat) => (show (((((w37.drewN n_).setCell ⟨gb144, 0, none⟩ (.string ((rd_T31 l0 x7_1).f0))).setCell ⟨gb144, 1, none⟩ (.string ((rd_T31 l0 x7_1).f1))).setCell ⟨gb144, 2, none⟩ (.bool false))).cell? _ = some _ from hx146_0)); (try have hy146_1 := fun (n_ : Nat) => (show (((((w37.drewN n_).setCell ⟨gb144, 0, none⟩ (.string ((rd_T31 l0 x7_1).f0))).setCell ⟨gb144, 1, none⟩ (.string ((rd_T31 l0 x7_1).f1))).setCell ⟨gb144, 2, none⟩ (.bool false))).cell? _ = some _ from hx146_1)); (try have hy146_2 := fun (n_ : Nat) => (show (((((w37.drewN n_).setCell ⟨gb144, 0, none⟩ (.string ((rd_T31 l0 x7_1).f0))).setCell ⟨gb144, 1, none⟩ (.string ((rd_T31 l0 x7_1).f1))).setCell ⟨gb144, 2, none⟩ (.bool false))).cell? _ = some _ from hx146_2)); clear hn146_0; clear hn146_1; clear hn146_2; replace p146 := eq_true p146; replace q146 := eq_true q146))
                            repeat (go_quiet (first | ((with_reducible refine gate_dst (N := 4) rfl ?_); (try (refine gate_guard (by rfl) ?_; dsimp only)); refine box_event ?hg (N := 4) ?hd (cs := #[.string (⟨#[]⟩ : ByteArray), .string (⟨#[]⟩ : ByteArray), .bool false]) (t := 31) ?hr ?_; (case hd => rfl); (case hg => rfl); (case hr => first | (go_simp; done) | (go_simp; rfl)); intro gb144 hg w37 hbox hb; have n0_ := Aside0.mk (below_step (by repeat (first | (with_reducible first | exact HB.out | apply below_alloc | apply pw_below_drewN | apply below_drew1) | exact HB.out)) hb); have n1_ := Aside0.mk (hbox); have n2_ := Aside0.mk ((by rw [hg]; exact (below_size (by repeat (first | (with_reducible first | exact HB.out | apply below_alloc | apply pw_below_drewN | apply below_drew1) | exact HB.out))) : w.heap.size ≤ gb144)); have n3_ := Aside0.mk ((by rw [hg]; exact (below_size (by repeat (first | (with_reducible first | exact HB.out | apply below_alloc | apply pw_below_drewN | apply below_drew1) | exact HB.out))) : w.heap.size ≤ gb144)); clear HB; have HB := n0_; have BK144 := n1_; have GW144 := n2_; have GE144 := n3_; clear n0_ n1_ n2_ n3_; clear hb hbox hg; have hcz38_0 : w37.cell? ⟨gb144, 0, none⟩ = some (.string (⟨#[]⟩ : ByteArray)) := (blk_cell BK144.out 0).trans rfl; have hcz38_1 : w37.cell? ⟨gb144, 1, none⟩ = some (.string (⟨#[]⟩ : ByteArray)) := (blk_cell BK144.out 1).trans rfl; have hcz38_2 : w37.cell? ⟨gb144, 2, none⟩ = some (.bool false) := (blk_cell BK144.out 2).trans rfl; have hfz38_0 := blk_frozen BK144.out 0; have hfz38_1 := blk_frozen BK144.out 1; have hfz38_2 := blk_frozen BK144.out 2; have p146 : 0 ≤ ((ji31) : Int) := of_decide_eq_true (by first | (with_reducible assumption) | assumption); have q146 : (ji31) < (l0.length : Int) := of_decide_eq_true (by first | (with_reducible assumption) | assumption); obtain ⟨ad146, e146, hx146_0, hx146_1, hx146_2⟩ := at_T31 HR0.out (ji31) p146 q146; (try rw [← Nbq14.out] at hx146_2); obtain rfl : ad143 = ad146 := (by injection e146); have hn146_0 : ad143.block ≠ gb144 := Nat.ne_of_lt (Nat.lt_of_lt_of_le (by have := World.block_lt_of_cell? _ _ hx146_0; first | rwa [add_block] at this | exact this) GW144.out); have hn146_1 : ad143.block ≠ gb144 := Nat.ne_of_lt (Nat.lt_of_lt_of_le (by have := World.block_lt_of_cell? _ _ hx146_0; first | rwa [add_block] at this | exact this) GW144.out); have hn146_2 : ad143.block ≠ gb144 := Nat.ne_of_lt (Nat.lt_of_lt_of_le (by have := World.block_lt_of_cell? _ _ hx146_0; first | rwa [add_block] at this | exact this) GW144.out); replace hx146_0 := (HB.out.cell (World.block_lt_of_cell? w _ hx146_0)).trans hx146_0; replace hx146_1 := (HB.out.cell (World.block_lt_of_cell? w _ hx146_1)).trans hx146_1; replace hx146_2 := (HB.out.cell (World.block_lt_of_cell? w _ hx146_2)).trans hx146_2; replace hx146_0 := (cell_far (p := ⟨gb144, 0, none⟩) (by first | (rw [add_block]; exact hn146_0) | (show (Addr.add _ _).block ≠ _; rw [add_block]; exact hn146_0) | exact hn146_0) (.string ((rd_T31 l0 x7_1).f0))).trans hx146_0; replace hx146_1 := (cell_far (p := ⟨gb144, 0, none⟩) (by first | (rw [add_block]; exact hn146_0) | (show (Addr.add _ _).block ≠ _; rw [add_block]; exact hn146_0) | exact hn146_0) (.string ((rd_T31 l0 x7_1).f0))).trans hx146_1; replace hx146_2 := (cell_far (p := ⟨gb144, 0, none⟩) (by first | (rw [add_block]; exact hn146_0) | (show (Addr.add _ _).block ≠ _; rw [add_block]; exact hn146_0) | exact hn146_0) (.string ((rd_T31 l0 x7_1).f0))).trans hx146_2; replace hx146_0 := (cell_far (p := ⟨gb144, 1, none⟩) (by first | (rw [add_block]; exact hn146_1) | (show (Addr.add _ _).block ≠ _; rw [add_block]; exact hn146_1) | exact hn146_1) (.string ((rd_T31 l0 x7_1).f1))).trans hx146_0; replace hx146_1 := (cell_far (p := ⟨gb144, 1, none⟩) (by first | (rw [add_block]; exact hn146_1) | (show (Addr.add _ _).block ≠ _; rw [add_block]; exact hn146_1) | exact hn146_1) (.string ((rd_T31 l0 x7_1).f1))).trans hx146_1; replace hx146_2 := (cell_far (p := ⟨gb144, 1, none⟩) (by first | (rw [add_block]; exact hn146_1) | (show (Addr.add _ _).block ≠ _; rw [add_block]; exact hn146_1) | exact hn146_1) (.string ((rd_T31 l0 x7_1).f1))).trans hx146_2; replace hx146_0 := (cell_far (p := ⟨gb144, 2, none⟩) (by first | (rw [add_block]; exact hn146_2) | (show (Addr.add _ _).block ≠ _; rw [add_block]; exact hn146_2) | exact hn146_2) (.bool false)).trans hx146_0; replace hx146_1 := (cell_far (p := ⟨gb144, 2, none⟩) (by first | (rw [add_block]; exact hn146_2) | (show (Addr.add _ _).block ≠ _; rw [add_block]; exact hn146_2) | exact hn146_2) (.bool false)).trans hx146_1; replace hx146_2 := (cell_far (p := ⟨gb144, 2, none⟩) (by first | (rw [add_block]; exact hn146_2) | (show (Addr.add _ _).block ≠ _; rw [add_block]; exact hn146_2) | exact hn146_2) (.bool false)).trans hx146_2; (try have hy146_0 := fun (n_ : Nat) => (show (((((w37.drewN n_).setCell ⟨gb144, 0, none⟩ (.string ((rd_T31 l0 x7_1).f0))).setCell ⟨gb144, 1, none⟩ (.string ((rd_T31 l0 x7_1).f1))).setCell ⟨gb144, 2, none⟩ (.bool false))).cell? _ = some _ from hx146_0)); (try have hy146_1 := fun (n_ : Nat) => (show (((((w37.drewN n_).setCell ⟨gb144, 0, none⟩ (.string ((rd_T31 l0 x7_1).f0))).setCell ⟨gb144, 1, none⟩ (.string ((rd_T31 l0 x7_1).f1))).setCell ⟨gb144, 2, none⟩ (.bool false))).cell? _ = some _ from hx146_1)); (try have hy146_2 := fun (n_ : Nat) => (show (((((w37.drewN n_).setCell ⟨gb144, 0, none⟩ (.string ((rd_T31 l0 x7_1).f0))).setCell ⟨gb144, 1, none⟩ (.string ((rd_T31 l0 x7_1).f1))).setCell ⟨gb144, 2, none⟩ (.bool false))).cell? _ = some _ from hx146_2)); clear hn146_0; clear hn146_1; clear hn146_2; replace p146 := eq_true p146; replace q146 := eq_true q146)); try go_wp2_with (first | ((with_reducible refine gate_dst (N := 4) rfl ?_); (try (refine gate_guard (by rfl) ?_; dsimp only)); refine box_event ?hg (N := 4) ?hd (cs := #[.string (⟨#[]⟩ : ByteArray), .string (⟨#[]⟩ : ByteArray), .bool false]) (t := 31) ?hr ?_; (case hd => rfl); (case hg => rfl); (case hr => first | (go_simp; done) | (go_simp; rfl)); intro gb144 hg w37 hbox hb; have n0_ := Aside0.mk (below_step (by repeat (first | (with_reducible first | exact HB.out | apply below_alloc | apply pw_below_drewN | apply below_drew1) | exact HB.out)) hb); have n1_ := Aside0.mk (hbox); have n2_ := Aside0.mk ((by rw [hg]; exact (below_size (by repeat (first | (with_reducible first | exact HB.out | apply below_alloc | apply pw_below_drewN | apply below_drew1) | exact HB.out))) : w.heap.size ≤ gb144)); have n3_ := Aside0.mk ((by rw [hg]; exact (below_size (by repeat (first | (with_reducible first | exact HB.out | apply below_alloc | apply pw_below_drewN | apply below_drew1) | exact HB.out))) : w.heap.size ≤ gb144)); clear HB; have HB := n0_; have BK144 := n1_; have GW144 := n2_; have GE144 := n3_; clear n0_ n1_ n2_ n3_; clear hb hbox hg; have hcz38_0 : w37.cell? ⟨gb144, 0, none⟩ = some (.string (⟨#[]⟩ : ByteArray)) := (blk_cell BK144.out 0).trans rfl; have hcz38_1 : w37.cell? ⟨gb144, 1, none⟩ = some (.string (⟨#[]⟩ : ByteArray)) := (blk_cell BK144.out 1).trans rfl; have hcz38_2 : w37.cell? ⟨gb144, 2, none⟩ = some (.bool false) := (blk_cell BK144.out 2).trans rfl; have hfz38_0 := blk_frozen BK144.out 0; have hfz38_1 := blk_frozen BK144.out 1; have hfz38_2 := blk_frozen BK144.out 2; have p146 : 0 ≤ ((ji31) : Int) := of_decide_eq_true (by first | (with_reducible assumption) | assumption); have q146 : (ji31) < (l0.length : Int) := of_decide_eq_true (by first | (with_reducible assumption) | assumption); obtain ⟨ad146, e146, hx146_0, hx146_1, hx146_2⟩ := at_T31 HR0.out (ji31) p146 q146; (try rw [← Nbq14.out] at hx146_2); obtain rfl : ad143 = ad146 := (by injection e146); have hn146_0 : ad143.block ≠ gb144 := Nat.ne_of_lt (Nat.lt_of_lt_of_le (by have := World.block_lt_of_cell? _ _ hx146_0; first | rwa [add_block] at this | exact this) GW144.out); have hn146_1 : ad143.block ≠ gb144 := Nat.ne_of_lt (Nat.lt_of_lt_of_le (by have := World.block_lt_of_cell? _ _ hx146_0; first | rwa [add_block] at this | exact this) GW144.out); have hn146_2 : ad143.block ≠ gb144 := Nat.ne_of_lt (Nat.lt_of_lt_of_le (by have := World.block_lt_of_cell? _ _ hx146_0; first | rwa [add_block] at this | exact this) GW144.out); replace hx146_0 := (HB.out.cell (World.block_lt_of_cell? w _ hx146_0)).trans hx146_0; replace hx146_1 := (HB.out.cell (World.block_lt_of_cell? w _ hx146_1)).trans hx146_1; replace hx146_2 := (HB.out.cell (World.block_lt_of_cell? w _ hx146_2)).trans hx146_2; replace hx146_0 := (cell_far (p := ⟨gb144, 0, none⟩) (by first | (rw [add_block]; exact hn146_0) | (show (Addr.add _ _).block ≠ _; rw [add_block]; exact hn146_0) | exact hn146_0) (.string ((rd_T31 l0 x7_1).f0))).trans hx146_0; replace hx146_1 := (cell_far (p := ⟨gb144, 0, none⟩) (by first | (rw [add_block]; exact hn146_0) | (show (Addr.add _ _).block ≠ _; rw [add_block]; exact hn146_0) | exact hn146_0) (.string ((rd_T31 l0 x7_1).f0))).trans hx146_1; replace hx146_2 := (cell_far (p := ⟨gb144, 0, none⟩) (by first | (rw [add_block]; exact hn146_0) | (show (Addr.add _ _).block ≠ _; rw [add_block]; exact hn146_0) | exact hn146_0) (.string ((rd_T31 l0 x7_1).f0))).trans hx146_2; replace hx146_0 := (cell_far (p := ⟨gb144, 1, none⟩) (by first | (rw [add_block]; exact hn146_1) | (show (Addr.add _ _).block ≠ _; rw [add_block]; exact hn146_1) | exact hn146_1) (.string ((rd_T31 l0 x7_1).f1))).trans hx146_0; replace hx146_1 := (cell_far (p := ⟨gb144, 1, none⟩) (by first | (rw [add_block]; exact hn146_1) | (show (Addr.add _ _).block ≠ _; rw [add_block]; exact hn146_1) | exact hn146_1) (.string ((rd_T31 l0 x7_1).f1))).trans hx146_1; replace hx146_2 := (cell_far (p := ⟨gb144, 1, none⟩) (by first | (rw [add_block]; exact hn146_1) | (show (Addr.add _ _).block ≠ _; rw [add_block]; exact hn146_1) | exact hn146_1) (.string ((rd_T31 l0 x7_1).f1))).trans hx146_2; replace hx146_0 := (cell_far (p := ⟨gb144, 2, none⟩) (by first | (rw [add_block]; exact hn146_2) | (show (Addr.add _ _).block ≠ _; rw [add_block]; exact hn146_2) | exact hn146_2) (.bool false)).trans hx146_0; replace hx146_1 := (cell_far (p := ⟨gb144, 2, none⟩) (by first | (rw [add_block]; exact hn146_2) | (show (Addr.add _ _).block ≠ _; rw [add_block]; exact hn146_2) | exact hn146_2) (.bool false)).trans hx146_1; replace hx146_2 := (cell_far (p := ⟨gb144, 2, none⟩) (by first | (rw [add_block]; exact hn146_2) | (show (Addr.add _ _).block ≠ _; rw [add_block]; exact hn146_2) | exact hn146_2) (.bool false)).trans hx146_2; (try have hy146_0 := fun (n_ : Nat) => (show (((((w37.drewN n_).setCell ⟨gb144, 0, none⟩ (.string ((rd_T31 l0 x7_1).f0))).setCell ⟨gb144, 1, none⟩ (.string ((rd_T31 l0 x7_1).f1))).setCell ⟨gb144, 2, none⟩ (.bool false))).cell? _ = some _ from hx146_0)); (try have hy146_1 := fun (n_ : Nat) => (show (((((w37.drewN n_).setCell ⟨gb144, 0, none⟩ (.string ((rd_T31 l0 x7_1).f0))).setCell ⟨gb144, 1, none⟩ (.string ((rd_T31 l0 x7_1).f1))).setCell ⟨gb144, 2, none⟩ (.bool false))).cell? _ = some _ from hx146_1)); (try have hy146_2 := fun (n_ : Nat) => (show (((((w37.drewN n_).setCell ⟨gb144, 0, none⟩ (.string ((rd_T31 l0 x7_1).f0))).setCell ⟨gb144, 1, none⟩ (.string ((rd_T31 l0 x7_1).f1))).setCell ⟨gb144, 2, none⟩ (.bool false))).cell? _ = some _ from hx146_2)); clear hn146_0; clear hn146_1; clear hn146_2; replace p146 := eq_true p146; replace q146 := eq_true q146)))
                            go_ret
                            exact ⟨by first | rfl | (simp [errW_none, errW_some] <;> rfl) | (simp only [← hji31]; first | rfl | (simp [errW_none, errW_some] <;> rfl)) | (simp [*, errW_none, errW_some] <;> rfl), by repeat (first | (with_reducible first | exact HB.out | apply below_alloc | apply pw_below_drewN | apply below_drew1 | refine below_set ?_ GE144.out) | exact HB.out)⟩
                        · rw [if_neg c33] at H
                          exact absurd H (by simp)
                      · rw [if_neg c32] at H
                        exact absurd H (by simp)
                    · rw [if_neg c30] at H
                      have c30b0 : decide (0 < x7_1) = false := decide_eq_false c30
                      clear c30
                      have H' := Aside0.mk H
                      clear H
                      have p143 : 0 ≤ (x7_1 : Int) := of_decide_eq_true (by first | (with_reducible assumption) | assumption)
                      have q143 : x7_1 < (l0.length : Int) := of_decide_eq_true (by first | (with_reducible assumption) | assumption)
                      obtain ⟨ad143, e143, hx143_0, hx143_1, hx143_2⟩ := at_T31 HR0.out x7_1 p143 q143
                      (try rw [← Nbq14.out] at hx143_2)
                      cases e143
                      replace hx143_0 := (HB.out.cell (World.block_lt_of_cell? w _ hx143_0)).trans hx143_0
                      replace hx143_1 := (HB.out.cell (World.block_lt_of_cell? w _ hx143_1)).trans hx143_1
                      replace hx143_2 := (HB.out.cell (World.block_lt_of_cell? w _ hx143_2)).trans hx143_2
                      replace p143 := eq_true p143
                      replace q143 := eq_true q143
                      go_wp2_with (first | ((with_reducible refine gate_dst (N := 4) rfl ?_); (try (refine gate_guard (by rfl) ?_; dsimp only)); refine box_event ?hg (N := 4) ?hd (cs := #[.string (⟨#[]⟩ : ByteArray), .string (⟨#[]⟩ : ByteArray), .bool false]) (t := 31) ?hr ?_; (case hd => rfl); (case hg => rfl); (case hr => first | (go_simp; done) | (go_simp; rfl)); intro gb144 hg w39 hbox hb; have n0_ := Aside0.mk (below_step (by repeat (first | (with_reducible first | exact HB.out | apply below_alloc | apply pw_below_drewN | apply below_drew1) | exact HB.out)) hb); have n1_ := Aside0.mk (hbox); have n2_ := Aside0.mk ((by rw [hg]; exact (below_size (by repeat (first | (with_reducible first | exact HB.out | apply below_alloc | apply pw_below_drewN | apply below_drew1) | exact HB.out))) : w.heap.size ≤ gb144)); have n3_ := Aside0.mk ((by rw [hg]; exact (below_size (by repeat (first | (with_reducible first | exact HB.out | apply below_alloc | apply pw_below_drewN | apply below_drew1) | exact HB.out))) : w.heap.size ≤ gb144)); clear HB; have HB := n0_; have BK144 := n1_; have GW144 := n2_; have GE144 := n3_; clear n0_ n1_ n2_ n3_; clear hb hbox hg; have hcz40_0 : w39.cell? ⟨gb144, 0, none⟩ = some (.string (⟨#[]⟩ : ByteArray)) := (blk_cell BK144.out 0).trans rfl; have hcz40_1 : w39.cell? ⟨gb144, 1, none⟩ = some (.string (⟨#[]⟩ : ByteArray)) := (blk_cell BK144.out 1).trans rfl; have hcz40_2 : w39.cell? ⟨gb144, 2, none⟩ = some (.bool false) := (blk_cell BK144.out 2).trans rfl; have hfz40_0 := blk_frozen BK144.out 0; have hfz40_1 := blk_frozen BK144.out 1; have hfz40_2 := blk_frozen BK144.out 2))
                      repeat (go_quiet (first | ((with_reducible refine gate_dst (N := 4) rfl ?_); (try (refine gate_guard (by rfl) ?_; dsimp only)); refine box_event ?hg (N := 4) ?hd (cs := #[.string (⟨#[]⟩ : ByteArray), .string (⟨#[]⟩ : ByteArray), .bool false]) (t := 31) ?hr ?_; (case hd => rfl); (case hg => rfl); (case hr => first | (go_simp; done) | (go_simp; rfl)); intro gb144 hg w39 hbox hb; have n0_ := Aside0.mk (below_step (by repeat (first | (with_reducible first | exact HB.out | apply below_alloc | apply pw_below_drewN | apply below_drew1) | exact HB.out)) hb); have n1_ := Aside0.mk (hbox); have n2_ := Aside0.mk ((by rw [hg]; exact (below_size (by repeat (first | (with_reducible first | exact HB.out | apply below_alloc | apply pw_below_drewN | apply below_drew1) | exact HB.out))) : w.heap.size ≤ gb144)); have n3_ := Aside0.mk ((by rw [hg]; exact (below_size (by repeat (first | (with_reducible first | exact HB.out | apply below_alloc | apply pw_below_drewN | apply below_drew1) | exact HB.out))) : w.heap.size ≤ gb144)); clear HB; have HB := n0_; have BK144 := n1_; have GW144 := n2_; have GE144 := n3_; clear n0_ n1_ n2_ n3_; clear hb hbox hg; have hcz40_0 : w39.cell? ⟨gb144, 0, none⟩ = some (.string (⟨#[]⟩ : ByteArray)) := (blk_cell BK144.out 0).trans rfl; have hcz40_1 : w39.cell? ⟨gb144, 1, none⟩ = some (.string (⟨#[]⟩ : ByteArray)) := (blk_cell BK144.out 1).trans rfl; have hcz40_2 : w39.cell? ⟨gb144, 2, none⟩ = some (.bool false) := (blk_cell BK144.out 2).trans rfl; have hfz40_0 := blk_frozen BK144.out 0; have hfz40_1 := blk_frozen BK144.out 1; have hfz40_2 := blk_frozen BK144.out 2)); try go_wp2_with (first | ((with_reducible refine gate_dst (N := 4) rfl ?_); (try (refine gate_guard (by rfl) ?_; dsimp only)); refine box_event ?hg (N := 4) ?hd (cs := #[.string (⟨#[]⟩ : ByteArray), .string (⟨#[]⟩ : ByteArray), .bool false]) (t := 31) ?hr ?_; (case hd => rfl); (case hg => rfl); (case hr => first | (go_simp; done) | (go_simp; rfl)); intro gb144 hg w39 hbox hb; have n0_ := Aside0.mk (below_step (by repeat (first | (with_reducible first | exact HB.out | apply below_alloc | apply pw_below_drewN | apply below_drew1) | exact HB.out)) hb); have n1_ := Aside0.mk (hbox); have n2_ := Aside0.mk ((by rw [hg]; exact (below_size (by repeat (first | (with_reducible first | exact HB.out | apply below_alloc | apply pw_below_drewN | apply below_drew1) | exact HB.out))) : w.heap.size ≤ gb144)); have n3_ := Aside0.mk ((by rw [hg]; exact (below_size (by repeat (first | (with_reducible first | exact HB.out | apply below_alloc | apply pw_below_drewN | apply below_drew1) | exact HB.out))) : w.heap.size ≤ gb144)); clear HB; have HB := n0_; have BK144 := n1_; have GW144 := n2_; have GE144 := n3_; clear n0_ n1_ n2_ n3_; clear hb hbox hg; have hcz40_0 : w39.cell? ⟨gb144, 0, none⟩ = some (.string (⟨#[]⟩ : ByteArray)) := (blk_cell BK144.out 0).trans rfl; have hcz40_1 : w39.cell? ⟨gb144, 1, none⟩ = some (.string (⟨#[]⟩ : ByteArray)) := (blk_cell BK144.out 1).trans rfl; have hcz40_2 : w39.cell? ⟨gb144, 2, none⟩ = some (.bool false) := (blk_cell BK144.out 2).trans rfl; have hfz40_0 := blk_frozen BK144.out 0; have hfz40_1 := blk_frozen BK144.out 1; have hfz40_2 := blk_frozen BK144.out 2)))
                      go_roundg k1
                      case measure => have := HK1.out; omega
                      case rel => exact ⟨(wrap64 (x7_1 + 1)), (by first | rfl | (simp; done) | (simp [*]; done)), H', ⟨by have := HK1.out; omega⟩, ⟨by repeat (first | (with_reducible first | exact HB.out | apply below_alloc | apply pw_below_drewN | apply below_drew1 | refine below_set ?_ GE144.out) | exact HB.out)⟩⟩
          · rw [if_neg c4] at H
            exact absurd H (by simp)
        · rw [if_neg c3] at H
          exact absurd H (by simp)
      · rw [if_neg c2] at H
        have c2b0 : decide (x7_1 < (l0.length : Int)) = false := decide_eq_false c2
        clear c2
        obtain rfl := Option.some.inj H
        go_wp2
        repeat (go_quiet (fail); try go_wp2)
        go_ret
        exact ⟨by first | rfl | (simp [errW_none, errW_some] <;> rfl) | (simp [*, errW_none, errW_some] <;> rfl), by repeat (first | (with_reducible first | exact HB.out | apply below_alloc | apply pw_below_drewN | apply below_drew1) | exact HB.out)⟩
def store_Right.f (k : Nat) (l0 : List (S31)) : Option (Bool) := if (l0.length : Int) ≤ 200 then ((store_rises.f k l0).bind fun t147 => (some t147)) else (some false)
theorem store_Right.mono : ∀ a0 k, LeO (store_Right.f k a0) (store_Right.f (k + 1) a0) := by
  intro a0 k
  unfold store_Right.f
  repeat' first
      | (with_reducible exact store_rises.mono _ _)
      | (with_reducible exact LeO.refl _)
      | (with_reducible exact LeO.none _)
      | (with_reducible refine LeO.ite ?_ ?_)
      | (with_reducible refine LeO.bind ?_ (fun _ => ?_))
      | exact store_rises.mono _ _
      | exact LeO.none _
      | refine LeO.ite ?_ ?_
      | refine LeO.bind ?_ (fun _ => ?_)
set_option maxHeartbeats 8000000 in
set_option maxRecDepth 100000 in
theorem store_Right.calls (k : Nat) (A0 : Option Addr) (c0 : Nat) (l0 : List (S31)) (r : Bool) (w : World) (hr0 : Kd.C k31 w A0 l0.length l0) (hc0 : l0.length ≤ c0) (h : store_Right.f k l0 = some r) :
    Calls Try.prog 38 #[.slice A0 l0.length c0] w fun e w' => e = .returned (.bool r) ∧ Below w.heap.size w w' := by
  have HR0 := Aside0.mk hr0
  have HC0 := Aside0.mk hc0
  clear hr0 hc0
  have HB := Aside0.mk (Below.refl w.heap.size w)
  have H : (if (l0.length : Int) ≤ 200 then ((store_rises.f k l0).bind fun t147 => (some t147)) else (some false)) = some r := h
  clear h
  by_cases c2 : (l0.length : Int) ≤ 200
  · rw [if_pos c2] at H
    have c2b0 : decide ((l0.length : Int) ≤ 200) = true := decide_eq_true c2
    have c2b1 : decide (l0.length ≤ 200) = true := decide_eq_true (by omega)
    clear c2
    replace H := Option.bind_eq_some_iff.mp H
    obtain ⟨t147, A30, H⟩ := H
    replace H : (some t147) = some r := H
    have A3 := Aside0.mk A30
    clear A30
    obtain rfl := Option.some.inj H
    go_enter Try.func38, Try.ntmps38
    go_wp2_with (first | (go_at_call 64; (with_reducible refine (store_rises.calls k _ _ l0 t147 _ ?side1 ?side2 A3.out).mono ?_); (case side1 => repeat (first | exact HR0.out | (with_reducible refine Kd.C_alloc ?_ _) | (with_reducible refine Kd.C_drewN ?_ _) | (with_reducible refine Kd.C_drew ?_))); (case side2 => exact HC0.out); rintro e w4 ⟨rfl, hb⟩; have n0_ := Aside0.mk (below_step (by repeat (first | (with_reducible first | exact HB.out | apply below_alloc | apply pw_below_drewN | apply below_drew1) | exact HB.out)) hb); clear HB; have HB := n0_; clear n0_; (try clear hb); (try clear hb2); (try clear hk); (try clear hi)))
    go_ret
    exact ⟨by first | rfl | (simp [errW_none, errW_some] <;> rfl) | (simp [*, errW_none, errW_some] <;> rfl), by repeat (first | (with_reducible first | exact HB.out | apply below_alloc | apply pw_below_drewN | apply below_drew1) | exact HB.out)⟩
  · rw [if_neg c2] at H
    have c2b0 : decide ((l0.length : Int) ≤ 200) = false := decide_eq_false c2
    have c2b1 : decide (l0.length ≤ 200) = false := decide_eq_false (by omega)
    clear c2
    obtain rfl := Option.some.inj H
    go_enter Try.func38, Try.ntmps38
    go_wp2
    go_ret
    exact ⟨by first | rfl | (simp [errW_none, errW_some] <;> rfl) | (simp [*, errW_none, errW_some] <;> rfl), by repeat (first | (with_reducible first | exact HB.out | apply below_alloc | apply pw_below_drewN | apply below_drew1) | exact HB.out)⟩
end Go.Proofs.Ytmafibbnojdpjaa.P
end
section
namespace Go.Proofs.Ytmafibbnojdpjaa.P
open Go.RowKit Go.Proofs.YtmafibbnojdpjaaW.PrintWords Go.Proofs.YtmafibbnojdpjaaW.PrintLast Go.Proofs.YtmafibbnojdpjaaW.PrintMore
attribute [local go_sem] max2_int min2_int max_two min_two max_three min_three max_four min_four   -- for this text's walks alone
set_option linter.unusedVariables false
set_option linter.unusedSimpArgs false
def chain_Chain_Last.f (l0 : List (S118)) : Option (Int) := if (l0.length : Int) = 0 then (some (-1)) else (if 0 ≤ (wrap64 ((l0.length : Int) - 1)) then (if (wrap64 ((l0.length : Int) - 1)) < (l0.length : Int) then (some ((rd_T118 l0 (wrap64 ((l0.length : Int) - 1))).f0)) else (none)) else (none))
set_option maxHeartbeats 8000000 in
set_option maxRecDepth 100000 in
theorem chain_Chain_Last.calls (A0 : Option Addr) (c0 : Nat) (l0 : List (S118)) (r : Int) (w : World) (hr0 : Kd.C k118 w A0 l0.length l0) (hc0 : l0.length ≤ c0) (h : chain_Chain_Last.f l0 = some r) :
    Calls Try.prog 89 #[.slice A0 l0.length c0] w fun e w' => e = .returned (.int .i64 r) ∧ Drawn0 w w' := by
  have HR0 := Aside0.mk hr0
  have HC0 := Aside0.mk hc0
  clear hr0 hc0
  have H : (if (l0.length : Int) = 0 then (some (-1)) else (if 0 ≤ (wrap64 ((l0.length : Int) - 1)) then (if (wrap64 ((l0.length : Int) - 1)) < (l0.length : Int) then (some ((rd_T118 l0 (wrap64 ((l0.length : Int) - 1))).f0)) else (none)) else (none))) = some r := h
  clear h
  by_cases c2 : (l0.length : Int) = 0
  · rw [if_pos c2] at H
    have c2b0 : ((l0.length : Int) == 0) = true := beq_iff_eq.mpr c2
    have c2b1 : ((l0.length : Int) != 0) = false := bne_eq_false_iff_eq.mpr c2
    clear c2
    obtain rfl := Option.some.inj H
    go_enter Try.func89, Try.ntmps89
    go_wp2
    go_ret
    exact ⟨by first | rfl | (simp; done) | (simp [*]; done), by repeat (first | exact Drawn0.refl _ | apply Drawn0.step)⟩
  · rw [if_neg c2] at H
    have c2b0 : ((l0.length : Int) == 0) = false := beq_eq_false_iff_ne.mpr c2
    have c2b1 : ((l0.length : Int) != 0) = true := bne_iff_ne.mpr c2
    have c2b2 : ¬ (l0 = []) := fun h_ => c2 (by rw [h_]; rfl)
    obtain ⟨ji3, hji3⟩ : ∃ j_ : Int, (wrap64 ((l0.length : Int) - 1)) = j_ := ⟨_, rfl⟩
    replace H : (if 0 ≤ (ji3) then (if (ji3) < (l0.length : Int) then (some ((rd_T118 l0 (ji3)).f0)) else (none)) else (none)) = some r := by first | (rw [hji3] at H; exact H) | (simp only [hji3] at H ⊢; exact H)
    have hji3w : (IntKind.i64.wrap ((l0.length : Int) - 1)) = ji3 := (i64_w _).trans hji3
    by_cases c4 : 0 ≤ (ji3)
    · rw [if_pos c4] at H
      have c4b0 : decide (0 ≤ (ji3)) = true := decide_eq_true c4
      clear c4
      by_cases c5 : (ji3) < (l0.length : Int)
      · rw [if_pos c5] at H
        have c5b0 : decide ((ji3) < (l0.length : Int)) = true := decide_eq_true c5
        clear c5
        obtain rfl := Option.some.inj H
        have p188 : 0 ≤ ((ji3) : Int) := of_decide_eq_true (by first | (with_reducible assumption) | assumption)
        have q188 : (ji3) < (l0.length : Int) := of_decide_eq_true (by first | (with_reducible assumption) | assumption)
        obtain ⟨ad188, e188, hx188_0, hx188_1, hx188_2⟩ := at_T118 HR0.out (ji3) p188 q188
        cases e188
        replace p188 := eq_true p188
        replace q188 := eq_true q188
        go_enter Try.func89, Try.ntmps89
        go_wp2
        go_ret
        exact ⟨by first | rfl | (simp; done) | (simp only [← hji3] <;> (first | rfl | simp)) | (simp [*]; done), by repeat (first | exact Drawn0.refl _ | apply Drawn0.step)⟩
      · rw [if_neg c5] at H
        exact absurd H (by simp)
    · rw [if_neg c4] at H
      exact absurd H (by simp)

-- NOT PRINTED: function 68 (chain_Chain_Put_68)

-- NOT PRINTED: function 36 (store_Store_Commit)

-- NOT PRINTED: function 23 (rec_State_Store)

-- NOT PRINTED: function 24 (rec_State_Encode)

-- NOT PRINTED: function 3 (mailbaglaw11_RecBad)

-- NOT PRINTED: function 43 (store_Store_Low)

-- NOT PRINTED: function 59 (store_Store_Since)
end Go.Proofs.Ytmafibbnojdpjaa.P
end
section
set_option linter.unusedVariables false
set_option maxRecDepth 100000
set_option linter.unusedSimpArgs false
namespace Go.Proofs.Ytmafibbnojdpjaa.C
open Go.Proofs.Ytmafibbnojdpjaa.P Go.RowKit Go.Proofs.YtmafibbnojdpjaaW.PrintWords Go.Proofs.YtmafibbnojdpjaaW.PrintLast Go.Proofs.YtmafibbnojdpjaaW.PrintMore
theorem isNaN_any (x : Int) (w : World) : Calls Try.prog 144 #[.int .i64 x] w fun e w' => e = .returned (.bool false) ∧ w = w' := by
  go_enter Try.func144, Try.ntmps144
  go_wp2
  go_ret
  exact ⟨by simp, rfl⟩
def cmpI (a b : Int) : Int := if a < b then -1 else if b < a then 1 else 0
set_option maxHeartbeats 400000 in
theorem compare_any (x y : Int) (w : World) : Calls Try.prog 132 #[.int .i64 x, .int .i64 y] w fun e w' => e = .returned (.int .i64 (cmpI x y)) ∧ w = w' := by
  rcases Int.lt_trichotomy x y with h | h | h
  · have e : cmpI x y = -1 := by unfold cmpI; rw [if_pos h]
    rw [e]
    clear e
    go_enter Try.func132, Try.ntmps132
    go_wp2_with (go_at_call 144; refine (isNaN_any _ _).mono ?_; rintro e w' ⟨rfl, rfl⟩)
    go_ret
    exact ⟨rfl, rfl⟩
  · subst h
    have e : cmpI x x = 0 := by unfold cmpI; rw [if_neg (by omega), if_neg (by omega)]
    rw [e]
    clear e
    go_enter Try.func132, Try.ntmps132
    go_wp2_with (go_at_call 144; refine (isNaN_any _ _).mono ?_; rintro e w' ⟨rfl, rfl⟩)
    go_ret
    exact ⟨rfl, rfl⟩
  · have e : cmpI x y = 1 := by unfold cmpI; rw [if_neg (by omega), if_pos h]
    rw [e]
    clear e
    have h2 : ¬ x < y := by omega
    go_enter Try.func132, Try.ntmps132
    go_wp2_with (go_at_call 144; refine (isNaN_any _ _).mono ?_; rintro e w' ⟨rfl, rfl⟩)
    go_ret
    exact ⟨rfl, rfl⟩
set_option maxHeartbeats 400000 in
theorem closure_any (v : S118) (x : Int) (w : World) : Calls Try.prog 131 #[.agg #[.int .i64 v.f0, .string v.f1, .bool v.f2], .int .i64 x] w fun e w' => e = .returned (.int .i64 (cmpI v.f0 x)) ∧ Below w.heap.size w w' := by
  go_enter Try.func131, Try.ntmps131
  go_wp2_with (go_at_call 132; refine (compare_any _ _ _).mono ?_; rintro e w' ⟨rfl, rfl⟩)
  go_ret
  exact ⟨rfl, (Below.refl _ _).alloc (Nat.le_refl _) _⟩
/-- Where the search between i and j ends: p says 'further on'. -/
def bs (p : Nat → Bool) (i j : Nat) : Nat := if h : i < j then (if p ((i + j) / 2) then bs p ((i + j) / 2 + 1) j else bs p i ((i + j) / 2)) else i
termination_by j - i
decreasing_by all_goals omega
theorem bs_done (p : Nat → Bool) (i j : Nat) (h : ¬ i < j) : bs p i j = i := by rw [bs]; simp [h]
theorem bs_on (p : Nat → Bool) (i j : Nat) (h : i < j) (hp : p ((i + j) / 2) = true) : bs p i j = bs p ((i + j) / 2 + 1) j := by rw [bs]; simp [h, hp]
theorem bs_back (p : Nat → Bool) (i j : Nat) (h : i < j) (hp : p ((i + j) / 2) = false) : bs p i j = bs p i ((i + j) / 2) := by rw [bs]; simp [h, hp]
theorem bs_range (p : Nat → Bool) (n : Nat) : ∀ d i j, j - i = d → i ≤ j → j ≤ n → i ≤ bs p i j ∧ bs p i j ≤ j := by
  intro d
  induction d using Nat.strongRecOn with
  | _ d ih =>
    intro i j hd hij hjn
    by_cases h : i < j
    · cases hp : p ((i + j) / 2) with
      | true =>
        rw [bs_on p i j h hp]
        have := ih (j - ((i + j) / 2 + 1)) (by omega) ((i + j) / 2 + 1) j rfl (by omega) hjn
        omega
      | false =>
        rw [bs_back p i j h hp]
        have := ih ((i + j) / 2 - i) (by omega) i ((i + j) / 2) rfl (by omega) (by omega)
        omega
    · rw [bs_done p i j h]; omega
def less (l : List S118) (x : Int) (i : Nat) : Bool := decide (cmpI (rd_T118 l (i : Int)).f0 x < 0)
def srch (l : List S118) (x : Int) : Nat := bs (less l x) 0 l.length
def fnd (l : List S118) (x : Int) : Bool := decide (srch l x < l.length ∧ cmpI (rd_T118 l (srch l x : Int)).f0 x = 0)
set_option maxHeartbeats 1000000 in
theorem search_any (A0 : Option Addr) (c0 : Nat) (l : List S118) (x : Int) (w : World) (hr0 : Kd.C k118 w A0 l.length l) (hc0 : l.length ≤ c0) (hn : l.length < 4611686018427387904) :
    Calls Try.prog 130 #[.slice A0 l.length c0, .int .i64 x, .func (.func 131) #[] #[]] w fun e w' => e = .returned (.tuple #[.int .i64 (srch l x : Int), .bool (fnd l x)]) ∧ Below w.heap.size w w' := by
  have hB := Below.refl w.heap.size w
  have HB := Aside0.mk hB
  clear hB
  have HR := Aside0.mk hr0
  have HC := Aside0.mk hc0
  clear hr0 hc0
  go_enter Try.func130, Try.ntmps130
  go_wp2
  go_loopg [9, 10] (l.length + 1) (fun kq v9 v10 w' => ∃ (i j : Nat), v9 = .int .i64 (i : Int) ∧ v10 = .int .i64 (j : Int) ∧ i ≤ j ∧ j ≤ l.length ∧ j - i < kq ∧ Aside0 (bs (less l x) i j = srch l x) ∧ Aside0 (Below w.heap.size w w'))
  case atStart => exact ⟨0, l.length, rfl, rfl, by omega, by omega, by omega, ⟨rfl⟩, HB⟩
  case round =>
    obtain ⟨i, j, rfl, rfl, hij, hjl, hk, HS, HB⟩ := hrel
    by_cases hlt : i < j
    · have hm : (i + j) / 2 < l.length := by omega
      obtain ⟨ad, e, h0, h1, h2⟩ := at_T118 HR.out (((i + j) / 2 : Nat) : Int) (by omega) (by omega)
      cases e
      simp only [Int.toNat_natCast] at h0 h1 h2
      replace h0 := (HB.out.cell (World.block_lt_of_cell? w _ h0)).trans h0
      replace h1 := (HB.out.cell (World.block_lt_of_cell? w _ h1)).trans h1
      replace h2 := (HB.out.cell (World.block_lt_of_cell? w _ h2)).trans h2
      obtain ⟨v, hv⟩ : ∃ v, v = rd_T118 l (((i + j) / 2 : Nat) : Int) := ⟨_, rfl⟩
      rw [← hv] at h0 h1 h2
      have HV := Aside0.mk hv
      clear hv
      cases hp : decide (cmpI v.f0 x < 0) with
      | true =>
        have HS' : Aside0 (bs (less l x) ((i + j) / 2 + 1) j = srch l x) := ⟨by
          rw [← HS.out, bs_on _ _ _ hlt]
          unfold less
          rw [← HV.out]
          exact hp⟩
        clear HS
        go_wp2_with (go_at_call 131; refine (closure_any v x _).mono ?_; rintro e w1 ⟨rfl, hb⟩; have HB1 := Aside0.mk (below_step HB.out hb); clear HB hb)
        go_roundg (gk - 1)
        case measure => omega
        case rel => exact ⟨(i + j) / 2 + 1, j, by go_num, rfl, by omega, by omega, by omega, HS', HB1⟩
      | false =>
        have HS' : Aside0 (bs (less l x) i ((i + j) / 2) = srch l x) := ⟨by
          rw [← HS.out, bs_back _ _ _ hlt]
          unfold less
          rw [← HV.out]
          exact hp⟩
        clear HS
        go_wp2_with (go_at_call 131; refine (closure_any v x _).mono ?_; rintro e w1 ⟨rfl, hb⟩; have HB1 := Aside0.mk (below_step HB.out hb); clear HB hb)
        go_roundg (gk - 1)
        case measure => omega
        case rel => exact ⟨i, (i + j) / 2, rfl, by go_num, by omega, by omega, by omega, HS', HB1⟩
    · obtain rfl : i = j := by omega
      have HS1 : Aside0 (srch l x = i) := ⟨by rw [← HS.out, bs_done _ _ _ hlt]⟩
      clear HS
      by_cases hn' : i < l.length
      · obtain ⟨ad, e, h0, h1, h2⟩ := at_T118 HR.out ((i : Nat) : Int) (by omega) (by omega)
        cases e
        simp only [Int.toNat_natCast] at h0 h1 h2
        replace h0 := (HB.out.cell (World.block_lt_of_cell? w _ h0)).trans h0
        replace h1 := (HB.out.cell (World.block_lt_of_cell? w _ h1)).trans h1
        replace h2 := (HB.out.cell (World.block_lt_of_cell? w _ h2)).trans h2
        obtain ⟨v, hv⟩ : ∃ v, v = rd_T118 l ((i : Nat) : Int) := ⟨_, rfl⟩
        rw [← hv] at h0 h1 h2
        have HV := Aside0.mk hv
        clear hv
        have HF : Aside0 (fnd l x = (cmpI v.f0 x == 0)) := ⟨by
          unfold fnd
          rw [HS1.out, ← HV.out, Bool.eq_iff_iff]
          simp [hn']⟩
        cases hp : (cmpI v.f0 x == 0) with
        | true =>
          have HF1 : Aside0 (fnd l x = true) := ⟨HF.out.trans hp⟩
          clear HF
          go_wp2_with (go_at_call 131; refine (closure_any v x _).mono ?_; rintro e w1 ⟨rfl, hb⟩; have HB1 := Aside0.mk (below_step HB.out hb); clear HB hb)
          go_ret2
          exact ⟨by rw [HS1.out, HF1.out]; try rfl, HB1.out⟩
        | false =>
          have HF1 : Aside0 (fnd l x = false) := ⟨HF.out.trans hp⟩
          clear HF
          go_wp2_with (go_at_call 131; refine (closure_any v x _).mono ?_; rintro e w1 ⟨rfl, hb⟩; have HB1 := Aside0.mk (below_step HB.out hb); clear HB hb)
          go_ret2
          exact ⟨by rw [HS1.out, HF1.out]; try rfl, HB1.out⟩
      · have HF1 : Aside0 (fnd l x = false) := ⟨by
          unfold fnd
          rw [HS1.out]
          simp [hn']⟩
        obtain rfl : i = l.length := by omega
        go_wp2
        go_ret2
        exact ⟨by rw [HS1.out, HF1.out]; try rfl, HB.out⟩
/-- How many versions are of a commit, or of one ahead of it. -/
def behindN (l : List S118) (x : Int) : Int := if fnd l x then (srch l x : Int) + 1 else (srch l x : Int)
def chain_Chain_behind.f (l0 : List S118) (a1 : Int) : Option Int := if l0.length < 4611686018427387904 then some (behindN l0 a1) else none
set_option maxHeartbeats 400000 in
theorem chain_Chain_behind.calls (A0 : Option Addr) (c0 : Nat) (l0 : List S118) (a1 : Int) (r : Int) (w : World) (hr0 : Kd.C k118 w A0 l0.length l0) (hc0 : l0.length ≤ c0) (h : chain_Chain_behind.f l0 a1 = some r) :
    Calls Try.prog 104 #[.slice A0 l0.length c0, .int .i64 a1] w fun e w' => e = .returned (.int .i64 r) ∧ Below w.heap.size w w' := by
  unfold chain_Chain_behind.f at h
  by_cases hn : l0.length < 4611686018427387904
  · rw [if_pos hn] at h
    obtain rfl := Option.some.inj h
    clear h
    have hr := (bs_range (less l0 a1) l0.length l0.length 0 l0.length rfl (by omega) (Nat.le_refl _)).2
    change srch l0 a1 ≤ l0.length at hr
    have HR := Aside0.mk hr0
    have HC := Aside0.mk hc0
    clear hr0 hc0
    cases hf : fnd l0 a1 with
    | true =>
      have e : behindN l0 a1 = (srch l0 a1 : Int) + 1 := by unfold behindN; rw [hf]; rfl
      rw [e]
      clear e
      have HF := Aside0.mk hf
      clear hf
      generalize hs : srch l0 a1 = s at *
      have HS := Aside0.mk hs
      clear hs
      go_enter Try.func104, Try.ntmps104
      go_wp2_with (go_at_call 130; refine (search_any A0 c0 l0 a1 _ HR.out HC.out hn).mono ?_; rintro e w1 ⟨rfl, hb⟩; rw [HF.out, HS.out]; have HB := Aside0.mk hb; clear hb)
      go_ret
      exact ⟨rfl, HB.out⟩
    | false =>
      have e : behindN l0 a1 = (srch l0 a1 : Int) := by unfold behindN; rw [hf]; rfl
      rw [e]
      clear e
      have HF := Aside0.mk hf
      clear hf
      generalize hs : srch l0 a1 = s at *
      have HS := Aside0.mk hs
      clear hs
      go_enter Try.func104, Try.ntmps104
      go_wp2_with (go_at_call 130; refine (search_any A0 c0 l0 a1 _ HR.out HC.out hn).mono ?_; rintro e w1 ⟨rfl, hb⟩; rw [HF.out, HS.out]; have HB := Aside0.mk hb; clear hb)
      go_ret
      exact ⟨rfl, HB.out⟩
  · rw [if_neg hn] at h
    cases h
end Go.Proofs.Ytmafibbnojdpjaa.C
end
section
set_option linter.unusedVariables false
set_option linter.unusedSimpArgs false
namespace Go.Proofs.Ytmafibbnojdpjaa.FrEv
open Go.RowKit Go.Proofs.Ytmafibbnojdpjaa.P Go.Proofs.YtmafibbnojdpjaaW.PrintWords Go.Proofs.YtmafibbnojdpjaaW.PrintLast
theorem ev_pos {α : Type} {c : Prop} [Decidable c] {f g : Nat → Option α} {r : α} (h : c) (k : Ev f r) : Ev (fun n => if c then f n else g n) r := by
  simp only [if_pos h]; exact k
theorem ev_neg {α : Type} {c : Prop} [Decidable c] {f g : Nat → Option α} {r : α} (h : ¬ c) (k : Ev g r) : Ev (fun n => if c then f n else g n) r := by
  simp only [if_neg h]; exact k
theorem ev_bind {α β : Type} {g : Nat → Option α} {f : Nat → α → Option β} {a : α} {r : β} (h : Ev g a) (k : Ev (fun n => f n a) r) : Ev (fun n => (g n).bind (f n)) r := h.bind k
theorem ev_some {α β : Type} {f : Nat → α → Option β} {a : α} {r : β} (k : Ev (fun n => f n a) r) : Ev (fun n => (some a).bind (f n)) r := by
  simp only [Option.bind_some]; exact k
theorem w64 {x : Int} (h0 : -9223372036854775808 ≤ x) (h1 : x < 9223372036854775808) : wrap64 x = x := by
  unfold wrap64; omega
/-- bytes, as the program has them -/
def B (l : List UInt8) : ByteArray := ⟨l.toArray⟩
theorem B_of (s : ByteArray) : s = B s.data.toList := by unfold B; rw [Array.toArray_toList]
theorem B_size (l : List UInt8) : (B l).size = l.length := by simp [B, ByteArray.size]
theorem B_toList (l : List UInt8) : (B l).toList = l := by rw [ByteArray.toList_eq]; rfl
theorem B_append (a b : List UInt8) : B a ++ B b = B (a ++ b) := by
  apply ByteArray.ext
  simp [B, ByteArray.data_append]
theorem B_extract (l : List UInt8) (i j : Nat) : (B l).extract i j = B ((l.take j).drop i) := by
  apply ByteArray.ext
  simp [B, ByteArray.data_extract, List.drop_take]
theorem B_from (l : List UInt8) (i : Nat) : (B l).extract i (B l).size = B (l.drop i) := by
  rw [B_extract, B_size, List.take_length]
theorem B_upto (l : List UInt8) (j : Nat) : (B l).extract 0 j = B (l.take j) := by
  rw [B_extract]; rfl
theorem B_bt (l : List UInt8) (i : Int) : bt (B l) i = ((l.getD i.toNat 0).toNat : Int) := by
  unfold bt
  by_cases h : i.toNat < l.length
  · have h' : i.toNat < (B l).size := by rw [B_size]; exact h
    rw [dif_pos h']
    have e : (B l)[i.toNat]'h' = l[i.toNat] := by
      rfl
    rw [e]
    simp only [List.getD, List.getElem?_eq_getElem h, Option.getD_some]
    rfl
  · have h' : ¬ i.toNat < (B l).size := by rw [B_size]; exact h
    rw [dif_neg h']
    simp [List.getD, List.getElem?_eq_none (show l.length ≤ i.toNat by omega)]
end Go.Proofs.Ytmafibbnojdpjaa.FrEv
end
section
namespace Go.Proofs.Ytmafibbnojdpjaa.P
open Go.RowKit Go.Proofs.YtmafibbnojdpjaaW.PrintWords Go.Proofs.YtmafibbnojdpjaaW.PrintLast Go.Proofs.YtmafibbnojdpjaaW.PrintMore
attribute [local go_sem] max2_int min2_int max_two min_two max_three min_three max_four min_four   -- for this text's walks alone
set_option linter.unusedVariables false
set_option linter.unusedSimpArgs false
theorem eqA31 (d : Nat) (w : World) (x0 y0 : ByteArray) (x1 y1 : ByteArray) (x2 y2 : Bool) :
    (Op.equalIn (d + 2) 31 (.agg #[.string x0, .string x1, .bool x2]) (.agg #[.string y0, .string y1, .bool y2])).run Try.prog w = .ok (x0.toList == y0.toList && (x1.toList == y1.toList && (x2 == y2))) w := by
  refine eqA_of Try.underlying31 (by kernel_rfl) ?_
  refine eqf_cons (by rfl) (by go_simp; rfl) (by go_simp; rfl) (by go_simp) ?_
  refine eqf_cons (by rfl) (by go_simp; rfl) (by go_simp; rfl) (by go_simp) ?_
  exact eqf_last (by rfl) (by go_simp; rfl) (by go_simp; rfl) (by go_simp)
end Go.Proofs.Ytmafibbnojdpjaa.P
end
