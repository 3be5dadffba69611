/- Lemmas that the proof needs, part 15. -/
import Derived.Test.YtmafibbnojdpjaaWWords
import Derived.Test.YtmafibbnojdpjaaWKept
import Derived.Deep.RegionHeld3
import Derived.Test.YtmafibbnojdpjaaWm1
import Derived.Test.YtmafibbnojdpjaaWm2
import Derived.Test.YtmafibbnojdpjaaWm3
import Derived.Test.YtmafibbnojdpjaaWm4
import Derived.Test.YtmafibbnojdpjaaWm5
import Derived.Test.YtmafibbnojdpjaaWm6
import Derived.Test.YtmafibbnojdpjaaWm7
import Derived.Test.YtmafibbnojdpjaaWm8
import Derived.Test.YtmafibbnojdpjaaWm9
import Derived.Test.YtmafibbnojdpjaaWm10
import Derived.Test.YtmafibbnojdpjaaWm11
import Derived.Test.YtmafibbnojdpjaaWm12
import Derived.Test.YtmafibbnojdpjaaWm13
import Derived.Test.YtmafibbnojdpjaaWm14
section
set_option linter.unusedVariables false
set_option maxRecDepth 100000
set_option linter.unusedSimpArgs false
namespace Go.Proofs.Ytmafibbnojdpjaa.St
open Go.Proofs.Ytmafibbnojdpjaa.Tr Go.RowKit Go.Proofs.YtmafibbnojdpjaaW.PrintWords Go.Proofs.YtmafibbnojdpjaaW.PrintLast Go.Proofs.YtmafibbnojdpjaaW.PrintMore Go.Proofs.Ytmafibbnojdpjaa.P Go.Proofs.Ytmafibbnojdpjaa.Mv
/-- the marks 0, 1, .. under the numbers 1, 2, .. -/
def hC (i : Nat) : List (Int × Int) := (List.range i).map fun j : Nat => ((j : Int) + 1, (j : Int))
theorem below_fr {G : Nat → Prop} {w a b : World} (h : Below w.heap.size w a) (hf : Fr G a b) (hG : ∀ k, G k → w.heap.size ≤ k) : Below w.heap.size w b := fr_below hG h hf
end Go.Proofs.Ytmafibbnojdpjaa.St
end
section
set_option linter.unusedVariables false
set_option maxRecDepth 100000
set_option linter.unusedSimpArgs false
namespace Go.Proofs.Ytmafibbnojdpjaa.St
open Go.Proofs.Ytmafibbnojdpjaa.Tr Go.RowKit Go.Proofs.YtmafibbnojdpjaaW.PrintWords Go.Proofs.YtmafibbnojdpjaaW.PrintLast Go.Proofs.YtmafibbnojdpjaaW.PrintMore Go.Proofs.Ytmafibbnojdpjaa.P Go.Proofs.Ytmafibbnojdpjaa.Mv
set_option maxHeartbeats 1000000 in
theorem marks_new2 (w : World) : Calls Try.prog 26 #[] w fun e w' => e = .returned (.pointer (some ⟨w.heap.size + 1, 0, none⟩)) ∧ MarksAt w' (w.heap.size + 1) w.heap.size 0 [] 0 ∧ Below w.heap.size w w' ∧ w'.heap.size = w.heap.size + 2 := by
  have hmm := @run_makeMap Try.prog
  go_enter Try.func26, Try.ntmps26
  go_wp2
  go_ret
  have hb : Below (w.alloc (.map #[] 0)).heap.size (w.alloc (.map #[] 0)) ((w.alloc (.map #[] 0)).alloc (.cells #[.map (some w.heap.size), .int .i64 0] 108)) := below_alloc (Below.refl _ _) _
  have h1 := heap_alloc_new (w.alloc (.map #[] 0)) (.cells #[.map (some w.heap.size), .int .i64 0] 108)
  rw [World.size_alloc] at h1
  exact ⟨rfl, ⟨h1, (MapV.new KI eI w).below hb⟩, (below_alloc (Below.refl _ _) _).trans (hb.mono (by simp)), by simp⟩
structure S49 where
  f0 : Int
  f1 : Int
  f2 : Int
def z49 : S49 := ⟨(0 : Int), (0 : Int), (0 : Int)⟩
def k49 : Kd S49 := Kd.iso (Kd.pair (Kd.int .i64) (Kd.pair (Kd.int .i64) (Kd.int .i64))) (fun x : S49 => (x.f0, x.f1, x.f2))
theorem k49_open {w : World} {x : S49} {cs : List Value} (h : k49.K w x cs) : cs = [.int .i64 x.f0, .int .i64 x.f1, .int .i64 x.f2] := by
  obtain ⟨_, _, rfl, rfl, ⟨_, _, rfl, rfl, rfl⟩⟩ := h
  exact rfl
def rd_T49 (xs : List S49) (i : Int) : S49 := xs.getD i.toNat z49
theorem at_T49 {w : World} {A : Option Addr} {n : Nat} {xs : List S49} (h : Kd.C k49 w A n xs) (i : Int) (h0 : 0 ≤ i) (h1 : i < n) : ∃ ad , A = some ad ∧ w.cell? (ad.add (i.toNat * 3)) = some (.int .i64 (rd_T49 xs i).f0) ∧ w.cell? ⟨(ad.add (i.toNat * 3)).block, (ad.add (i.toNat * 3)).off + 1, none⟩ = some (.int .i64 (rd_T49 xs i).f1) ∧ w.cell? ⟨(ad.add (i.toNat * 3)).block, (ad.add (i.toNat * 3)).off + 2, none⟩ = some (.int .i64 (rd_T49 xs i).f2) := by
  obtain ⟨ad, c, e, _, hK, hc0⟩ := Kd.C_get h z49 i h0 h1
  have hc : ∀ j u, c[j]? = some u → w.cell? (ad.add (i.toNat * 3 + j)) = some u := hc0
  obtain rfl := k49_open hK
  exact ⟨ad, e, hc 0 _ rfl, by rw [← add_field _ _ 1 (by omega)]; exact hc 1 _ rfl, by rw [← add_field _ _ 2 (by omega)]; exact hc 2 _ rfl⟩
theorem look_held {w : World} {b n : Nat} {C : List (Int × Int)} (h : MapV KI eI w b n C) {x : Int} (hx : wfI x) : (Instr.lookup 47 (.map (some b)) (.int .i64 x) true).run Try.prog w = .ok (.tuple #[.int .i64 ((findC C x).getD 0), .bool (findC C x).isSome]) w := by
  have := h.look2 Try.underlying47 (zero3 w) (x := x) hx
  rw [show gV eI (findC C x) (.int .i64 0) = .int .i64 ((findC C x).getD 0) from by cases findC C x <;> rfl] at this
  exact this
/-- the marks and what is held, alike -/
structure Both (w0 w : World) (b n : Nat) (C : List (Int × Int)) (nx : Int) : Prop where
  mrk : MarksAt w (b + 1) b n C nx
  held : MapV KI eI w (b + 2) n C
  lo : 0 ≤ nx
  hi : nx ≤ n
  bel : Below w0.heap.size w0 w
  base : w0.heap.size ≤ b
theorem Both.up {w0 w w' : World} {b n : Nat} {C : List (Int × Int)} {nx : Int} (h : Both w0 w b n C nx) (hb : Below w.heap.size w w') : Both w0 w' b n C nx := ⟨h.mrk.below hb, h.held.below hb, h.lo, h.hi, below_step h.bel hb, h.base⟩
theorem Both.mono {w0 w : World} {b n : Nat} {C : List (Int × Int)} {nx : Int} (h : Both w0 w b n C nx) : Both w0 w b (n + 1) C nx := ⟨h.mrk.mono (Nat.le_succ _), h.held.mono (Nat.le_succ _), h.lo, by have := h.hi; omega, h.bel, h.base⟩
/-- the marks' own call, then the map's operation -/
theorem Both.step {w0 w w3 w4 : World} {b n n' n'' : Nat} {C C' : List (Int × Int)} {nx nx' : Int} (h : Both w0 w b n C nx) (h3 : MarksAt w3 (b + 1) b n' C' nx') (hf : Fr (two (b + 1) b) w w3) (h4 : MapV KI eI w4 (b + 2) n'' C') (ht : w3.mapTurned w4 (b + 2)) (hn : n' ≤ n + 1) (hn2 : n'' ≤ n + 1) (h0 : 0 ≤ nx') (h1 : nx' ≤ n + 1) : Both w0 w4 b (n + 1) C' nx' := by
  have hg := ht.grown
  refine ⟨(h3.same (hg.block _ h3.lt (fun e => by injection e with e; omega)) (hg.block _ h3.mlt (fun e => by injection e with e; omega))).mono hn, h4.mono hn2, h0, h1, (below_fr h.bel hf (fun k hk => ?_)).grown hg (Nat.le_trans h.bel.size hf.size) (fun k e => ?_), h.base⟩
  · have := h.base
    rcases hk with rfl | rfl <;> omega
  · have := h.base
    cases e
    omega
theorem held3 {w w3 : World} {b n : Nat} {C : List (Int × Int)} (h : MapV KI eI w (b + 2) n C) (hf : Fr (two (b + 1) b) w w3) : MapV KI eI w3 (b + 2) n C := h.same (hf.block _ h.lt (fun hk => by rcases hk with e | e <;> omega))
theorem box3 {w w3 w4 : World} {b B : Nat} {o : Obj} (h : w.heap[B]? = some o) (hB : b + 2 < B) (hf : Fr (two (b + 1) b) w w3) (ht : w3.mapTurned w4 (b + 2)) : w3.heap[B]? = some o ∧ w4.heap[B]? = some o := by
  have h3 := (hf.block B (Array.getElem?_eq_some_iff.1 h).1 (fun hk => by rcases hk with e | e <;> omega)).trans h
  exact ⟨h3, (ht.grown.block B (Array.getElem?_eq_some_iff.1 h3).1 (fun e => by injection e with e; omega)).trans h3⟩
theorem turn_refl {w : World} {b n : Nat} {C : List (Int × Int)} (h : MapV KI eI w b n C) : w.mapTurned w b := by obtain ⟨D, h1, _⟩ := h; exact h1.turned_refl
set_option maxHeartbeats 16000000 in
theorem marks_walk (acts : List S49) (A : Option Addr) (cap : Nat) (most : Int) (w : World) (hr : Kd.C k49 w A acts.length acts) (hwf : ∀ i, i < acts.length → wfI (rd_T49 acts (i : Int)).f1) :
    Calls Try.prog 5 #[.slice A acts.length cap, .int .i64 most] w fun e w' => e = .returned (.bool true) ∧ Below w.heap.size w w' := by
  have HHD := Aside0.mk (head17_any w)
  have HR := Aside0.mk hr
  have HWF := Aside0.mk hwf
  have hmm := @run_makeMap Try.prog
  clear hr hwf
  by_cases h200 : (200 : Int) < (acts.length : Int)
  · go_enter Try.func5, Try.ntmps5
    go_wp2_with (first
      | (go_at_call 25; refine HHD.out.mono ?_; rintro e w1 ⟨rfl, hb⟩; have HB1 := Aside0.mk hb; clear hb))
    go_ret
    exact ⟨rfl, HB1.out⟩
  · go_enter Try.func5, Try.ntmps5
    go_wp2_with (first
      | (go_at_call 25; refine HHD.out.mono ?_; rintro e w1 ⟨rfl, hb⟩; have HB1 := Aside0.mk hb; clear hb)
      | (go_at_call 26; refine (marks_new2 _).mono ?_; rintro e w2 ⟨rfl, hm, hb, hz⟩
         have HS0 : Aside0 (Both w (w2.alloc (.map #[] 0)) w1.heap.size 0 [] 0) := ⟨⟨hm.below (below_alloc (Below.refl _ _) _), by have := MapV.new KI eI w2; rw [hz] at this; exact this, by decide, by decide, below_step HB1.out (below_step hb (below_alloc (Below.refl _ _) _)), HB1.out.size⟩⟩
         have HZ := Aside0.mk hz
         clear hm hb hz))
    rw [HZ.out]
    generalize w2.alloc (.map #[] 0) = W2 at *
    generalize w1.heap.size = b at *
    clear HHD HZ hmm HB1
    go_loopg [35, 7] (acts.length + 1) (fun kq v35 v7 wq => ∃ (i : Nat) (C : List (Int × Int)) (nx : Int), v35 = .int .i64 (i : Int) ∧ v7 = .int .i64 nx ∧ i ≤ acts.length ∧ acts.length - i < kq ∧ Aside0 (Both w wq b i C nx))
    case atStart => exact ⟨0, [], 0, rfl, rfl, Nat.zero_le _, by omega, HS0⟩
    case round =>
      clear HS0
      obtain ⟨i, C, nx, rfl, rfl, hi, hk, HO⟩ := hrel
      have z0 : (0 : Int) ≤ (i : Int) := by omega
      have hnx0 := HO.out.lo
      have hnx1 := HO.out.hi
      by_cases hlt : i < acts.length
      · have z1 : (i : Int) < (acts.length : Int) := by omega
        obtain ⟨ad5, eA, f0, f1, f2⟩ := at_T49 (Kd.C_below HR.out HO.out.bel) (i : Int) z0 z1
        rw [Int.toNat_natCast] at f0 f1 f2
        subst eA
        have hw := HWF.out i hlt
        generalize rd_T49 acts (i : Int) = a at *
        have hb2 : Below wr.heap.size wr (wr.alloc (.cells #[.int .i64 a.f0, .int .i64 a.f1, .int .i64 a.f2] 49)) := below_alloc (Below.refl _ _) _
        have hbx : b + 2 < wr.heap.size := HO.out.held.lt
        have HO := Aside0.mk (HO.out.up hb2)
        have HBX := Aside0.mk (heap_alloc_new wr (.cells #[.int .i64 a.f0, .int .i64 a.f1, .int .i64 a.f2] 49))
        obtain ⟨d0, d1, d2⟩ := three_new wr 49 (.int .i64 a.f0) (.int .i64 a.f1) (.int .i64 a.f2)
        have l1 := look_held HO.out.held hw
        obtain ⟨kk, hkk⟩ : ∃ kk : Nat, a.f0 % 4 = (kk : Int) := ⟨(a.f0 % 4).toNat, by omega⟩
        have m3 : bits .and .i64 a.f0 3 = (kk : Int) := (Tr.and_3 a.f0).trans hkk
        have hk4 : kk < 4 := by omega
        clear hkk
        by_cases k2 : kk = 2
        · subst k2
          cases hf : findC C a.f1 with
          | none =>
            rw [hf] at l1
            simp only [Option.getD_none, Option.isSome_none] at l1
            have HC : Aside0 (Calls Try.prog 30 #[.pointer (some ⟨b + 1, 0, none⟩), .int .i64 a.f1, .int .i64 a.f2] (wr.alloc (.cells #[.int .i64 a.f0, .int .i64 a.f1, .int .i64 a.f2] 49)) fun e w' => e = .returned (.int .i64 5) ∧ MarksAt w' (b + 1) b (i + 1) (C) nx ∧ Fr (two (b + 1) b) (wr.alloc (.cells #[.int .i64 a.f0, .int .i64 a.f1, .int .i64 a.f2] 49)) w') := ⟨by
              have h := marks_move HO.out.mrk (by omega) hw (m := a.f2)
              unfold moveE moveC at h
              rw [hf] at h
              exact h⟩
            clear hf
            go_wp2_with (first
              | (go_at_call 30; refine HC.out.mono ?_
                 rintro e w3 ⟨rfl, hm3, hf3⟩
                 have hq3 := held3 HO.out.held hf3
                 have hp4 := hq3.mono (Nat.le_succ _)
                 have ht4 := turn_refl hp4
                 obtain ⟨hx3, hx4⟩ := box3 HBX.out hbx hf3 ht4
                 have HW : Aside0 (Both w w3 b (i + 1) (C) (nx)) := ⟨HO.out.step hm3 hf3 hp4 ht4 (by omega) (by omega) (by omega) (by omega)⟩
                 obtain ⟨w5, hrg, hR5, hb5, _⟩ := HW.out.held.range Try.underlying47
                 have HR5 := Aside0.mk hR5
                 have HB5 := Aside0.mk hb5
                 have HX4 := Aside0.mk hx4
                 have t1 : w3.cell? ⟨wr.heap.size, 1, none⟩ = some (.int .i64 a.f1) := (cell_of_row _ _ _ _ _ _ hx3).trans rfl
                 have t2 : w3.cell? ⟨wr.heap.size, 2, none⟩ = some (.int .i64 a.f2) := (cell_of_row _ _ _ _ _ _ hx3).trans rfl

                 clear hm3 hf3 hp4 ht4 hR5 hb5 hx3 hx4 hq3))
            clear HO HBX d0 d1 d2 f0 f1 f2 l1 HC hb2
            obtain ⟨g0, hg0⟩ : ∃ g0, g0 = gk := ⟨_, rfl⟩
            subst hg0
            generalize wr.heap.size = B9 at *
            go_loopg [16] ((C).length + 1) (fun kq v16 wq => ∃ dn : List (Int × Int), v16 = .int .i64 (leastC dn most) ∧ (C).length - dn.length < kq ∧ Aside0 (Rng KI eI wq (b + 2) w3.heap.size (i + 1) (C) dn) ∧ Aside0 (Below w3.heap.size w3 wq))
            case atStart => exact ⟨[], rfl, by simp, HR5, HB5⟩
            case round =>
              clear HR5 HB5 hrg t1 t2
              try clear hu'
              obtain ⟨dn, rfl, hk2, HRq, HBq⟩ := hrel
              rcases HRq.out.next 0 with ⟨hp, hrun⟩ | ⟨x, w6, hx1, hx2, hx3, hrun, hr3, hg3, hx4, hen⟩
              · rw [leastC_perm hp most]
                have HW2 := Aside0.mk (HW.out.up HBq.out)
                have l2 := look_held HW2.out.held hw
                have HM7 := Aside0.mk (marks_mark HW2.out.mrk hw)
                have HL7 := Aside0.mk (marks_least HW2.out.mrk most)
                have t3 : wr.cell? ⟨B9, 1, none⟩ = some (.int .i64 a.f1) := (cell_of_row _ _ _ _ _ _ ((HBq.out.block B9 (Array.getElem?_eq_some_iff.1 HX4.out).1).trans HX4.out)).trans rfl
                clear hp
                go_wp2_with (first
                  | (go_at_call 31; refine HM7.out.mono ?_; rintro e w7 ⟨rfl, e7⟩; subst e7)
                  | (go_at_call 28; refine HL7.out.mono ?_; rintro e w8 ⟨rfl, hb8⟩; have HW8 := Aside0.mk (HW2.out.up hb8); clear hb8))
                go_roundg (g0 - 1)
                case measure => omega
                case rel => exact ⟨i + 1, _, _, by go_num, rfl, by omega, by omega, HW8⟩
              · change (Instr.next (.pointer (some ⟨w3.heap.size, 0, none⟩)) false 0).run Try.prog wr = .ok (.tuple #[.bool true, .int .i64 x.1, .int .i64 x.2]) w6 at hrun
                change (Instr.entry (.pointer (some ⟨w3.heap.size, 0, none⟩))).run Try.prog w6 = .ok (.tuple #[.int .i64 x.1, .int .i64 x.2]) w6 at hen
                have hl := hr3.len
                rw [List.length_append, List.length_singleton] at hl
                have hmn := fun ats ty => run_min ats ty (leastC dn most) x.2 w6
                have HR3 := Aside0.mk hr3
                have HB3 : Aside0 (Below w3.heap.size w3 w6) := ⟨HBq.out.grown hg3 HBq.out.size (fun k e => by cases e; exact Nat.le_refl _)⟩
                have HLS := Aside0.mk (leastC_snoc dn x most)
                clear hr3 hg3 hx1 hx2 hx3 hx4
                go_wp2
                go_roundg (gk - 1)
                case measure => omega
                case rel => exact ⟨dn ++ [x], by rw [HLS.out], by rw [List.length_append, List.length_singleton]; omega, HR3, HB3⟩
          | some o =>
            rw [hf] at l1
            simp only [Option.getD_some, Option.isSome_some] at l1
            by_cases hlo : a.f2 < o
            · have dlo : decide (a.f2 < o) = true := decide_eq_true hlo
              have HC : Aside0 (Calls Try.prog 30 #[.pointer (some ⟨b + 1, 0, none⟩), .int .i64 a.f1, .int .i64 a.f2] (wr.alloc (.cells #[.int .i64 a.f0, .int .i64 a.f1, .int .i64 a.f2] 49)) fun e w' => e = .returned (.int .i64 1) ∧ MarksAt w' (b + 1) b (i + 1) (C) nx ∧ Fr (two (b + 1) b) (wr.alloc (.cells #[.int .i64 a.f0, .int .i64 a.f1, .int .i64 a.f2] 49)) w') := ⟨by
                have h := marks_move HO.out.mrk (by omega) hw (m := a.f2)
                unfold moveE moveC at h
                rw [hf] at h
                simp only [if_pos hlo] at h
                exact h⟩
              clear hf
              clear hlo
              go_wp2_with (first
                | (go_at_call 30; refine HC.out.mono ?_
                   rintro e w3 ⟨rfl, hm3, hf3⟩
                   have hq3 := held3 HO.out.held hf3
                   have hp4 := hq3.mono (Nat.le_succ _)
                   have ht4 := turn_refl hp4
                   obtain ⟨hx3, hx4⟩ := box3 HBX.out hbx hf3 ht4
                   have HW : Aside0 (Both w w3 b (i + 1) (C) (nx)) := ⟨HO.out.step hm3 hf3 hp4 ht4 (by omega) (by omega) (by omega) (by omega)⟩
                   obtain ⟨w5, hrg, hR5, hb5, _⟩ := HW.out.held.range Try.underlying47
                   have HR5 := Aside0.mk hR5
                   have HB5 := Aside0.mk hb5
                   have HX4 := Aside0.mk hx4
                   have t1 : w3.cell? ⟨wr.heap.size, 1, none⟩ = some (.int .i64 a.f1) := (cell_of_row _ _ _ _ _ _ hx3).trans rfl
                   have t2 : w3.cell? ⟨wr.heap.size, 2, none⟩ = some (.int .i64 a.f2) := (cell_of_row _ _ _ _ _ _ hx3).trans rfl

                   clear hm3 hf3 hp4 ht4 hR5 hb5 hx3 hx4 hq3))
              clear HO HBX d0 d1 d2 f0 f1 f2 l1 HC hb2
              obtain ⟨g0, hg0⟩ : ∃ g0, g0 = gk := ⟨_, rfl⟩
              subst hg0
              generalize wr.heap.size = B9 at *
              go_loopg [16] ((C).length + 1) (fun kq v16 wq => ∃ dn : List (Int × Int), v16 = .int .i64 (leastC dn most) ∧ (C).length - dn.length < kq ∧ Aside0 (Rng KI eI wq (b + 2) w3.heap.size (i + 1) (C) dn) ∧ Aside0 (Below w3.heap.size w3 wq))
              case atStart => exact ⟨[], rfl, by simp, HR5, HB5⟩
              case round =>
                clear HR5 HB5 hrg t1 t2
                try clear hu'
                obtain ⟨dn, rfl, hk2, HRq, HBq⟩ := hrel
                rcases HRq.out.next 0 with ⟨hp, hrun⟩ | ⟨x, w6, hx1, hx2, hx3, hrun, hr3, hg3, hx4, hen⟩
                · rw [leastC_perm hp most]
                  have HW2 := Aside0.mk (HW.out.up HBq.out)
                  have l2 := look_held HW2.out.held hw
                  have HM7 := Aside0.mk (marks_mark HW2.out.mrk hw)
                  have HL7 := Aside0.mk (marks_least HW2.out.mrk most)
                  have t3 : wr.cell? ⟨B9, 1, none⟩ = some (.int .i64 a.f1) := (cell_of_row _ _ _ _ _ _ ((HBq.out.block B9 (Array.getElem?_eq_some_iff.1 HX4.out).1).trans HX4.out)).trans rfl
                  clear hp
                  go_wp2_with (first
                    | (go_at_call 31; refine HM7.out.mono ?_; rintro e w7 ⟨rfl, e7⟩; subst e7)
                    | (go_at_call 28; refine HL7.out.mono ?_; rintro e w8 ⟨rfl, hb8⟩; have HW8 := Aside0.mk (HW2.out.up hb8); clear hb8))
                  go_roundg (g0 - 1)
                  case measure => omega
                  case rel => exact ⟨i + 1, _, _, by go_num, rfl, by omega, by omega, HW8⟩
                · change (Instr.next (.pointer (some ⟨w3.heap.size, 0, none⟩)) false 0).run Try.prog wr = .ok (.tuple #[.bool true, .int .i64 x.1, .int .i64 x.2]) w6 at hrun
                  change (Instr.entry (.pointer (some ⟨w3.heap.size, 0, none⟩))).run Try.prog w6 = .ok (.tuple #[.int .i64 x.1, .int .i64 x.2]) w6 at hen
                  have hl := hr3.len
                  rw [List.length_append, List.length_singleton] at hl
                  have hmn := fun ats ty => run_min ats ty (leastC dn most) x.2 w6
                  have HR3 := Aside0.mk hr3
                  have HB3 : Aside0 (Below w3.heap.size w3 w6) := ⟨HBq.out.grown hg3 HBq.out.size (fun k e => by cases e; exact Nat.le_refl _)⟩
                  have HLS := Aside0.mk (leastC_snoc dn x most)
                  clear hr3 hg3 hx1 hx2 hx3 hx4
                  go_wp2
                  go_roundg (gk - 1)
                  case measure => omega
                  case rel => exact ⟨dn ++ [x], by rw [HLS.out], by rw [List.length_append, List.length_singleton]; omega, HR3, HB3⟩
            · have dlo : decide (a.f2 < o) = false := decide_eq_false hlo
              have HC : Aside0 (Calls Try.prog 30 #[.pointer (some ⟨b + 1, 0, none⟩), .int .i64 a.f1, .int .i64 a.f2] (wr.alloc (.cells #[.int .i64 a.f0, .int .i64 a.f1, .int .i64 a.f2] 49)) fun e w' => e = .returned (.int .i64 0) ∧ MarksAt w' (b + 1) b (i + 1) (putC C a.f1 a.f2) nx ∧ Fr (two (b + 1) b) (wr.alloc (.cells #[.int .i64 a.f0, .int .i64 a.f1, .int .i64 a.f2] 49)) w') := ⟨by
                have h := marks_move HO.out.mrk (by omega) hw (m := a.f2)
                unfold moveE moveC at h
                rw [hf] at h
                simp only [if_neg hlo] at h
                exact h⟩
              clear hf
              clear hlo
              go_wp2_with (first
                | (go_at_call 30; refine HC.out.mono ?_
                   rintro e w3 ⟨rfl, hm3, hf3⟩
                   have hq3 := held3 HO.out.held hf3
                   obtain ⟨w4, hu, hp4, ht4⟩ := hq3.put Try.underlying47 (by unfold maxLen; omega) (x := a.f1) hw a.f2
                   have hu' : (Instr.mapUpdate 47 (.map (some (b + 2))) (.int .i64 a.f1) (.int .i64 a.f2)).run Try.prog w3 = .ok () w4 := hu
                   clear hu
                   obtain ⟨hx3, hx4⟩ := box3 HBX.out hbx hf3 ht4
                   have HW : Aside0 (Both w w4 b (i + 1) (putC C a.f1 a.f2) (nx)) := ⟨HO.out.step hm3 hf3 hp4 ht4 (by omega) (by omega) (by omega) (by omega)⟩
                   obtain ⟨w5, hrg, hR5, hb5, _⟩ := HW.out.held.range Try.underlying47
                   have HR5 := Aside0.mk hR5
                   have HB5 := Aside0.mk hb5
                   have HX4 := Aside0.mk hx4
                   have t1 : w3.cell? ⟨wr.heap.size, 1, none⟩ = some (.int .i64 a.f1) := (cell_of_row _ _ _ _ _ _ hx3).trans rfl
                   have t2 : w3.cell? ⟨wr.heap.size, 2, none⟩ = some (.int .i64 a.f2) := (cell_of_row _ _ _ _ _ _ hx3).trans rfl

                   clear hm3 hf3 hp4 ht4 hR5 hb5 hx3 hx4 hq3))
              clear HO HBX d0 d1 d2 f0 f1 f2 l1 HC hb2
              obtain ⟨g0, hg0⟩ : ∃ g0, g0 = gk := ⟨_, rfl⟩
              subst hg0
              generalize wr.heap.size = B9 at *
              go_loopg [16] ((putC C a.f1 a.f2).length + 1) (fun kq v16 wq => ∃ dn : List (Int × Int), v16 = .int .i64 (leastC dn most) ∧ (putC C a.f1 a.f2).length - dn.length < kq ∧ Aside0 (Rng KI eI wq (b + 2) w4.heap.size (i + 1) (putC C a.f1 a.f2) dn) ∧ Aside0 (Below w4.heap.size w4 wq))
              case atStart => exact ⟨[], rfl, by simp, HR5, HB5⟩
              case round =>
                clear HR5 HB5 hrg t1 t2
                try clear hu'
                obtain ⟨dn, rfl, hk2, HRq, HBq⟩ := hrel
                rcases HRq.out.next 0 with ⟨hp, hrun⟩ | ⟨x, w6, hx1, hx2, hx3, hrun, hr3, hg3, hx4, hen⟩
                · rw [leastC_perm hp most]
                  have HW2 := Aside0.mk (HW.out.up HBq.out)
                  have l2 := look_held HW2.out.held hw
                  have HM7 := Aside0.mk (marks_mark HW2.out.mrk hw)
                  have HL7 := Aside0.mk (marks_least HW2.out.mrk most)
                  have t3 : wr.cell? ⟨B9, 1, none⟩ = some (.int .i64 a.f1) := (cell_of_row _ _ _ _ _ _ ((HBq.out.block B9 (Array.getElem?_eq_some_iff.1 HX4.out).1).trans HX4.out)).trans rfl
                  clear hp
                  go_wp2_with (first
                    | (go_at_call 31; refine HM7.out.mono ?_; rintro e w7 ⟨rfl, e7⟩; subst e7)
                    | (go_at_call 28; refine HL7.out.mono ?_; rintro e w8 ⟨rfl, hb8⟩; have HW8 := Aside0.mk (HW2.out.up hb8); clear hb8))
                  go_roundg (g0 - 1)
                  case measure => omega
                  case rel => exact ⟨i + 1, _, _, by go_num, rfl, by omega, by omega, HW8⟩
                · change (Instr.next (.pointer (some ⟨w4.heap.size, 0, none⟩)) false 0).run Try.prog wr = .ok (.tuple #[.bool true, .int .i64 x.1, .int .i64 x.2]) w6 at hrun
                  change (Instr.entry (.pointer (some ⟨w4.heap.size, 0, none⟩))).run Try.prog w6 = .ok (.tuple #[.int .i64 x.1, .int .i64 x.2]) w6 at hen
                  have hl := hr3.len
                  rw [List.length_append, List.length_singleton] at hl
                  have hmn := fun ats ty => run_min ats ty (leastC dn most) x.2 w6
                  have HR3 := Aside0.mk hr3
                  have HB3 : Aside0 (Below w4.heap.size w4 w6) := ⟨HBq.out.grown hg3 HBq.out.size (fun k e => by cases e; exact Nat.le_refl _)⟩
                  have HLS := Aside0.mk (leastC_snoc dn x most)
                  clear hr3 hg3 hx1 hx2 hx3 hx4
                  go_wp2
                  go_roundg (gk - 1)
                  case measure => omega
                  case rel => exact ⟨dn ++ [x], by rw [HLS.out], by rw [List.length_append, List.length_singleton]; omega, HR3, HB3⟩
        · by_cases k3 : kk = 3
          · subst k3
            cases hf : findC C a.f1 with
            | none =>
              rw [hf] at l1
              simp only [Option.getD_none, Option.isSome_none] at l1
              have hdel : delC C a.f1 = C := List.filter_eq_self.2 (fun x hx => by simpa using find_none.1 hf x hx)
              have HC : Aside0 (Calls Try.prog 29 #[.pointer (some ⟨b + 1, 0, none⟩), .int .i64 a.f1] (wr.alloc (.cells #[.int .i64 a.f0, .int .i64 a.f1, .int .i64 a.f2] 49)) fun e w' => e = .returned (.int .i64 5) ∧ MarksAt w' (b + 1) b i (C) nx ∧ Fr (two (b + 1) b) (wr.alloc (.cells #[.int .i64 a.f0, .int .i64 a.f1, .int .i64 a.f2] 49)) w') := ⟨by
                have h := marks_drop HO.out.mrk hw
                unfold dropE at h
                rw [hf, hdel] at h
                exact h⟩
              go_wp2_with (first
                | (go_at_call 29; refine HC.out.mono ?_
                   rintro e w3 ⟨rfl, hm3, hf3⟩
                   have hq3 := held3 HO.out.held hf3
                   obtain ⟨w4, hu, hp4, ht4⟩ := hq3.del Try.underlying47 (x := a.f1) hw 0
                   replace hp4 := hp4.mono (Nat.le_succ _)
                   have hu' : (Builtin.delete_ #[47, 3] 0 #[.map (some (b + 2)), .int .i64 a.f1]).run Try.prog w3 = .ok (.tuple #[]) w4 := hu
                   clear hu
                   rw [hdel] at hp4
                   obtain ⟨hx3, hx4⟩ := box3 HBX.out hbx hf3 ht4
                   have HW : Aside0 (Both w w4 b (i + 1) (C) (nx)) := ⟨HO.out.step hm3 hf3 hp4 ht4 (by omega) (by omega) (by omega) (by omega)⟩
                   obtain ⟨w5, hrg, hR5, hb5, _⟩ := HW.out.held.range Try.underlying47
                   have HR5 := Aside0.mk hR5
                   have HB5 := Aside0.mk hb5
                   have HX4 := Aside0.mk hx4
                   have t1 : w3.cell? ⟨wr.heap.size, 1, none⟩ = some (.int .i64 a.f1) := (cell_of_row _ _ _ _ _ _ hx3).trans rfl
                   have t2 : w3.cell? ⟨wr.heap.size, 2, none⟩ = some (.int .i64 a.f2) := (cell_of_row _ _ _ _ _ _ hx3).trans rfl

                   clear hm3 hf3 hp4 ht4 hR5 hb5 hx3 hx4 hq3))
              clear hf hdel HO HBX d0 d1 d2 f0 f1 f2 l1 HC hb2
              obtain ⟨g0, hg0⟩ : ∃ g0, g0 = gk := ⟨_, rfl⟩
              subst hg0
              generalize wr.heap.size = B9 at *
              go_loopg [16] ((C).length + 1) (fun kq v16 wq => ∃ dn : List (Int × Int), v16 = .int .i64 (leastC dn most) ∧ (C).length - dn.length < kq ∧ Aside0 (Rng KI eI wq (b + 2) w4.heap.size (i + 1) (C) dn) ∧ Aside0 (Below w4.heap.size w4 wq))
              case atStart => exact ⟨[], rfl, by simp, HR5, HB5⟩
              case round =>
                clear HR5 HB5 hrg t1 t2
                try clear hu'
                obtain ⟨dn, rfl, hk2, HRq, HBq⟩ := hrel
                rcases HRq.out.next 0 with ⟨hp, hrun⟩ | ⟨x, w6, hx1, hx2, hx3, hrun, hr3, hg3, hx4, hen⟩
                · rw [leastC_perm hp most]
                  have HW2 := Aside0.mk (HW.out.up HBq.out)
                  have l2 := look_held HW2.out.held hw
                  have HM7 := Aside0.mk (marks_mark HW2.out.mrk hw)
                  have HL7 := Aside0.mk (marks_least HW2.out.mrk most)
                  have t3 : wr.cell? ⟨B9, 1, none⟩ = some (.int .i64 a.f1) := (cell_of_row _ _ _ _ _ _ ((HBq.out.block B9 (Array.getElem?_eq_some_iff.1 HX4.out).1).trans HX4.out)).trans rfl
                  clear hp
                  go_wp2_with (first
                    | (go_at_call 31; refine HM7.out.mono ?_; rintro e w7 ⟨rfl, e7⟩; subst e7)
                    | (go_at_call 28; refine HL7.out.mono ?_; rintro e w8 ⟨rfl, hb8⟩; have HW8 := Aside0.mk (HW2.out.up hb8); clear hb8))
                  go_roundg (g0 - 1)
                  case measure => omega
                  case rel => exact ⟨i + 1, _, _, by go_num, rfl, by omega, by omega, HW8⟩
                · change (Instr.next (.pointer (some ⟨w4.heap.size, 0, none⟩)) false 0).run Try.prog wr = .ok (.tuple #[.bool true, .int .i64 x.1, .int .i64 x.2]) w6 at hrun
                  change (Instr.entry (.pointer (some ⟨w4.heap.size, 0, none⟩))).run Try.prog w6 = .ok (.tuple #[.int .i64 x.1, .int .i64 x.2]) w6 at hen
                  have hl := hr3.len
                  rw [List.length_append, List.length_singleton] at hl
                  have hmn := fun ats ty => run_min ats ty (leastC dn most) x.2 w6
                  have HR3 := Aside0.mk hr3
                  have HB3 : Aside0 (Below w4.heap.size w4 w6) := ⟨HBq.out.grown hg3 HBq.out.size (fun k e => by cases e; exact Nat.le_refl _)⟩
                  have HLS := Aside0.mk (leastC_snoc dn x most)
                  clear hr3 hg3 hx1 hx2 hx3 hx4
                  go_wp2
                  go_roundg (gk - 1)
                  case measure => omega
                  case rel => exact ⟨dn ++ [x], by rw [HLS.out], by rw [List.length_append, List.length_singleton]; omega, HR3, HB3⟩
            | some o =>
              rw [hf] at l1
              simp only [Option.getD_some, Option.isSome_some] at l1
              have HC : Aside0 (Calls Try.prog 29 #[.pointer (some ⟨b + 1, 0, none⟩), .int .i64 a.f1] (wr.alloc (.cells #[.int .i64 a.f0, .int .i64 a.f1, .int .i64 a.f2] 49)) fun e w' => e = .returned (.int .i64 0) ∧ MarksAt w' (b + 1) b i (delC C a.f1) nx ∧ Fr (two (b + 1) b) (wr.alloc (.cells #[.int .i64 a.f0, .int .i64 a.f1, .int .i64 a.f2] 49)) w') := ⟨by
                have h := marks_drop HO.out.mrk hw
                unfold dropE at h
                rw [hf] at h
                exact h⟩
              clear hf
              go_wp2_with (first
                | (go_at_call 29; refine HC.out.mono ?_
                   rintro e w3 ⟨rfl, hm3, hf3⟩
                   have hq3 := held3 HO.out.held hf3
                   obtain ⟨w4, hu, hp4, ht4⟩ := hq3.del Try.underlying47 (x := a.f1) hw 0
                   replace hp4 := hp4.mono (Nat.le_succ _)
                   have hu' : (Builtin.delete_ #[47, 3] 0 #[.map (some (b + 2)), .int .i64 a.f1]).run Try.prog w3 = .ok (.tuple #[]) w4 := hu
                   clear hu
                   obtain ⟨hx3, hx4⟩ := box3 HBX.out hbx hf3 ht4
                   have HW : Aside0 (Both w w4 b (i + 1) (delC C a.f1) (nx)) := ⟨HO.out.step hm3 hf3 hp4 ht4 (by omega) (by omega) (by omega) (by omega)⟩
                   obtain ⟨w5, hrg, hR5, hb5, _⟩ := HW.out.held.range Try.underlying47
                   have HR5 := Aside0.mk hR5
                   have HB5 := Aside0.mk hb5
                   have HX4 := Aside0.mk hx4
                   have t1 : w3.cell? ⟨wr.heap.size, 1, none⟩ = some (.int .i64 a.f1) := (cell_of_row _ _ _ _ _ _ hx3).trans rfl
                   have t2 : w3.cell? ⟨wr.heap.size, 2, none⟩ = some (.int .i64 a.f2) := (cell_of_row _ _ _ _ _ _ hx3).trans rfl

                   clear hm3 hf3 hp4 ht4 hR5 hb5 hx3 hx4 hq3))
              clear HO HBX d0 d1 d2 f0 f1 f2 l1 HC hb2
              obtain ⟨g0, hg0⟩ : ∃ g0, g0 = gk := ⟨_, rfl⟩
              subst hg0
              generalize wr.heap.size = B9 at *
              go_loopg [16] ((delC C a.f1).length + 1) (fun kq v16 wq => ∃ dn : List (Int × Int), v16 = .int .i64 (leastC dn most) ∧ (delC C a.f1).length - dn.length < kq ∧ Aside0 (Rng KI eI wq (b + 2) w4.heap.size (i + 1) (delC C a.f1) dn) ∧ Aside0 (Below w4.heap.size w4 wq))
              case atStart => exact ⟨[], rfl, by simp, HR5, HB5⟩
              case round =>
                clear HR5 HB5 hrg t1 t2
                try clear hu'
                obtain ⟨dn, rfl, hk2, HRq, HBq⟩ := hrel
                rcases HRq.out.next 0 with ⟨hp, hrun⟩ | ⟨x, w6, hx1, hx2, hx3, hrun, hr3, hg3, hx4, hen⟩
                · rw [leastC_perm hp most]
                  have HW2 := Aside0.mk (HW.out.up HBq.out)
                  have l2 := look_held HW2.out.held hw
                  have HM7 := Aside0.mk (marks_mark HW2.out.mrk hw)
                  have HL7 := Aside0.mk (marks_least HW2.out.mrk most)
                  have t3 : wr.cell? ⟨B9, 1, none⟩ = some (.int .i64 a.f1) := (cell_of_row _ _ _ _ _ _ ((HBq.out.block B9 (Array.getElem?_eq_some_iff.1 HX4.out).1).trans HX4.out)).trans rfl
                  clear hp
                  go_wp2_with (first
                    | (go_at_call 31; refine HM7.out.mono ?_; rintro e w7 ⟨rfl, e7⟩; subst e7)
                    | (go_at_call 28; refine HL7.out.mono ?_; rintro e w8 ⟨rfl, hb8⟩; have HW8 := Aside0.mk (HW2.out.up hb8); clear hb8))
                  go_roundg (g0 - 1)
                  case measure => omega
                  case rel => exact ⟨i + 1, _, _, by go_num, rfl, by omega, by omega, HW8⟩
                · change (Instr.next (.pointer (some ⟨w4.heap.size, 0, none⟩)) false 0).run Try.prog wr = .ok (.tuple #[.bool true, .int .i64 x.1, .int .i64 x.2]) w6 at hrun
                  change (Instr.entry (.pointer (some ⟨w4.heap.size, 0, none⟩))).run Try.prog w6 = .ok (.tuple #[.int .i64 x.1, .int .i64 x.2]) w6 at hen
                  have hl := hr3.len
                  rw [List.length_append, List.length_singleton] at hl
                  have hmn := fun ats ty => run_min ats ty (leastC dn most) x.2 w6
                  have HR3 := Aside0.mk hr3
                  have HB3 : Aside0 (Below w4.heap.size w4 w6) := ⟨HBq.out.grown hg3 HBq.out.size (fun k e => by cases e; exact Nat.le_refl _)⟩
                  have HLS := Aside0.mk (leastC_snoc dn x most)
                  clear hr3 hg3 hx1 hx2 hx3 hx4
                  go_wp2
                  go_roundg (gk - 1)
                  case measure => omega
                  case rel => exact ⟨dn ++ [x], by rw [HLS.out], by rw [List.length_append, List.length_singleton]; omega, HR3, HB3⟩
          · have q2 : ((kk : Int) == 2) = false := beq_eq_false_iff_ne.2 (by omega)
            have q3 : ((kk : Int) == 3) = false := beq_eq_false_iff_ne.2 (by omega)
            have e8 : IntKind.i64.wrap (nx + 1) = nx + 1 := by rw [IntKind.wrap_i64]; omega
            by_cases h64 : 64 ≤ C.length
            · have dl : decide ((64 : Int) ≤ (C.length : Int)) = true := decide_eq_true (by omega)
              have HC : Aside0 (Calls Try.prog 27 #[.pointer (some ⟨b + 1, 0, none⟩), .int .i64 a.f2] (wr.alloc (.cells #[.int .i64 a.f0, .int .i64 a.f1, .int .i64 a.f2] 49)) fun e w' => e = .returned (.tuple #[.int .i64 (0), .int .i64 4]) ∧ MarksAt w' (b + 1) b (i + 1) (C) (nx) ∧ Fr (two (b + 1) b) (wr.alloc (.cells #[.int .i64 a.f0, .int .i64 a.f1, .int .i64 a.f2] 49)) w') := ⟨by
                have h := marks_hold HO.out.mrk (by omega) a.f2 hnx0 (by omega)
                unfold holdN holdE holdC holdX at h
                rw [if_pos h64, if_pos h64, if_pos h64, if_pos h64] at h
                exact h⟩
              clear h64
              go_wp2_with (first
                | (go_at_call 27; refine HC.out.mono ?_; rintro e w3 ⟨rfl, hm3, hf3⟩
                   have hq3 := held3 HO.out.held hf3
                   have hln := hq3.len Try.underlying47 3
                   have hp4 := hq3.mono (Nat.le_succ _)
                   have HW : Aside0 (Both w w3 b (i + 1) C nx) := ⟨HO.out.step hm3 hf3 hp4 (turn_refl hp4) (by omega) (by omega) (by omega) (by omega)⟩
                   clear hm3 hf3 hp4 hq3))
              go_roundg (gk - 1)
              case measure => omega
              case rel => exact ⟨i + 1, _, _, by go_num, rfl, by omega, by omega, HW⟩
            · have dl : decide ((64 : Int) ≤ (C.length : Int)) = false := decide_eq_false (by omega)
              have HC : Aside0 (Calls Try.prog 27 #[.pointer (some ⟨b + 1, 0, none⟩), .int .i64 a.f2] (wr.alloc (.cells #[.int .i64 a.f0, .int .i64 a.f1, .int .i64 a.f2] 49)) fun e w' => e = .returned (.tuple #[.int .i64 (nx + 1), .int .i64 0]) ∧ MarksAt w' (b + 1) b (i + 1) (putC C (nx + 1) a.f2) (nx + 1) ∧ Fr (two (b + 1) b) (wr.alloc (.cells #[.int .i64 a.f0, .int .i64 a.f1, .int .i64 a.f2] 49)) w') := ⟨by
                have h := marks_hold HO.out.mrk (by omega) a.f2 hnx0 (by omega)
                unfold holdN holdE holdC holdX at h
                rw [if_neg h64, if_neg h64, if_neg h64, if_neg h64] at h
                exact h⟩
              clear h64
              go_wp2_with (first
                | (go_at_call 27; refine HC.out.mono ?_
                   rintro e w3 ⟨rfl, hm3, hf3⟩
                   have hq3 := held3 HO.out.held hf3
                   have hln := hq3.len Try.underlying47 3
                   obtain ⟨w4, hu, hp4, ht4⟩ := hq3.put Try.underlying47 (by unfold maxLen; omega) (x := nx + 1) (WalkArith.wf_i64 ⟨by omega, by omega⟩) a.f2
                   have hu' : (Instr.mapUpdate 47 (.map (some (b + 2))) (.int .i64 (nx + 1)) (.int .i64 a.f2)).run Try.prog w3 = .ok () w4 := hu
                   clear hu
                   obtain ⟨hx3, hx4⟩ := box3 HBX.out hbx hf3 ht4
                   have HW : Aside0 (Both w w4 b (i + 1) (putC C (nx + 1) a.f2) (nx + 1)) := ⟨HO.out.step hm3 hf3 hp4 ht4 (by omega) (by omega) (by omega) (by omega)⟩
                   obtain ⟨w5, hrg, hR5, hb5, _⟩ := HW.out.held.range Try.underlying47
                   have HR5 := Aside0.mk hR5
                   have HB5 := Aside0.mk hb5
                   have HX4 := Aside0.mk hx4
                   have t1 : w3.cell? ⟨wr.heap.size, 1, none⟩ = some (.int .i64 a.f1) := (cell_of_row _ _ _ _ _ _ hx3).trans rfl
                   have t2 : w3.cell? ⟨wr.heap.size, 2, none⟩ = some (.int .i64 a.f2) := (cell_of_row _ _ _ _ _ _ hx3).trans rfl

                   clear hm3 hf3 hp4 ht4 hR5 hb5 hx3 hx4 hq3))
              clear HO HBX d0 d1 d2 f0 f1 f2 l1 HC hb2
              obtain ⟨g0, hg0⟩ : ∃ g0, g0 = gk := ⟨_, rfl⟩
              subst hg0
              generalize wr.heap.size = B9 at *
              go_loopg [16] ((putC C (nx + 1) a.f2).length + 1) (fun kq v16 wq => ∃ dn : List (Int × Int), v16 = .int .i64 (leastC dn most) ∧ (putC C (nx + 1) a.f2).length - dn.length < kq ∧ Aside0 (Rng KI eI wq (b + 2) w4.heap.size (i + 1) (putC C (nx + 1) a.f2) dn) ∧ Aside0 (Below w4.heap.size w4 wq))
              case atStart => exact ⟨[], rfl, by simp, HR5, HB5⟩
              case round =>
                clear HR5 HB5 hrg t1 t2
                try clear hu'
                obtain ⟨dn, rfl, hk2, HRq, HBq⟩ := hrel
                rcases HRq.out.next 0 with ⟨hp, hrun⟩ | ⟨x, w6, hx1, hx2, hx3, hrun, hr3, hg3, hx4, hen⟩
                · rw [leastC_perm hp most]
                  have HW2 := Aside0.mk (HW.out.up HBq.out)
                  have l2 := look_held HW2.out.held hw
                  have HM7 := Aside0.mk (marks_mark HW2.out.mrk hw)
                  have HL7 := Aside0.mk (marks_least HW2.out.mrk most)
                  have t3 : wr.cell? ⟨B9, 1, none⟩ = some (.int .i64 a.f1) := (cell_of_row _ _ _ _ _ _ ((HBq.out.block B9 (Array.getElem?_eq_some_iff.1 HX4.out).1).trans HX4.out)).trans rfl
                  clear hp
                  go_wp2_with (first
                    | (go_at_call 31; refine HM7.out.mono ?_; rintro e w7 ⟨rfl, e7⟩; subst e7)
                    | (go_at_call 28; refine HL7.out.mono ?_; rintro e w8 ⟨rfl, hb8⟩; have HW8 := Aside0.mk (HW2.out.up hb8); clear hb8))
                  go_roundg (g0 - 1)
                  case measure => omega
                  case rel => exact ⟨i + 1, _, _, by go_num, rfl, by omega, by omega, HW8⟩
                · change (Instr.next (.pointer (some ⟨w4.heap.size, 0, none⟩)) false 0).run Try.prog wr = .ok (.tuple #[.bool true, .int .i64 x.1, .int .i64 x.2]) w6 at hrun
                  change (Instr.entry (.pointer (some ⟨w4.heap.size, 0, none⟩))).run Try.prog w6 = .ok (.tuple #[.int .i64 x.1, .int .i64 x.2]) w6 at hen
                  have hl := hr3.len
                  rw [List.length_append, List.length_singleton] at hl
                  have hmn := fun ats ty => run_min ats ty (leastC dn most) x.2 w6
                  have HR3 := Aside0.mk hr3
                  have HB3 : Aside0 (Below w4.heap.size w4 w6) := ⟨HBq.out.grown hg3 HBq.out.size (fun k e => by cases e; exact Nat.le_refl _)⟩
                  have HLS := Aside0.mk (leastC_snoc dn x most)
                  clear hr3 hg3 hx1 hx2 hx3 hx4
                  go_wp2
                  go_roundg (gk - 1)
                  case measure => omega
                  case rel => exact ⟨dn ++ [x], by rw [HLS.out], by rw [List.length_append, List.length_singleton]; omega, HR3, HB3⟩
      · have hiz : i = acts.length := by omega
        subst hiz
        go_wp2_with (first
          | (go_at_call 27; refine (marks_hold_nil _ _).mono ?_; rintro e w3 ⟨rfl, e3⟩; subst e3)
          | (go_at_call 30; refine (marks_move_nil _ _ _).mono ?_; rintro e w3 ⟨rfl, e3⟩; subst e3)
          | (go_at_call 29; refine (marks_drop_nil _ _).mono ?_; rintro e w3 ⟨rfl, e3⟩; subst e3)
          | (go_at_call 28; refine (marks_least_nil _ _).mono ?_; rintro e w3 ⟨rfl, e3⟩; subst e3))
        go_ret
        exact ⟨rfl, HO.out.bel⟩
theorem watchMarks_walk (l : List S49) (A : Option Addr) (c : Nat) (most : Int) (w : World) (hr : Kd.C k49 w A l.length l) (_ : l.length ≤ c) (ho : l.length ≤ maxLen ∧ l.length * 24 ≤ 140737488351232 ∧ ∀ y ∈ l, ((Lit.int .i64 y.f0).wf = true ∧ (Lit.int .i64 y.f1).wf = true ∧ (Lit.int .i64 y.f2).wf = true)) (_ : (Lit.int .i64 most).wf = true) :
    Calls Try.prog 5 #[.slice A l.length c, .int .i64 most] w fun e w' => e = .returned (.bool true) ∧ Below w.heap.size w w' :=
  marks_walk l A c most w hr (fun i hi => by
    have e : rd_T49 l (i : Int) = l[i] := by simp [rd_T49, List.getD, hi]
    rw [e]
    exact (ho.2.2 _ (List.getElem_mem hi)).2.1)
end Go.Proofs.Ytmafibbnojdpjaa.St
end
