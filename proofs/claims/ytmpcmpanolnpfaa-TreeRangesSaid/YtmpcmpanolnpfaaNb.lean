/- TreeRanges, the walk. -/
import Derived.Test.YtmpcmpanolnpfaaNa
import Derived.Test.YtmpcmpanolnpfaaEa
set_option linter.unusedVariables false
set_option linter.unusedSimpArgs false
namespace Go.Proofs.Ytmpcmpanolnpfaa.Tr
open Go.RowKit Go.Proofs.YtmpcmpanolnpfaaW.PrintWords Go.Proofs.YtmpcmpanolnpfaaW.PrintLast Go.Proofs.YtmpcmpanolnpfaaW.PrintMore
attribute [local go_sem] Oper.semAt_some

section
variable {α : Type} {n : Nat} {P : Program} {Q : Exit → Act → World → Prop} {a : Act} {w : World}
/-- a loop that is left by exits, or by a return that is shown not to be -/
theorem rangeO3 {g : Operand} {ps : Array Tmp} {assign body : Code} {gf : Nat} {lb : Array Value} (hg : a.eval g = .func (.func gf) #[] lb) (eg : ∀ args w, (callFunc gf args).run P w = .ok (.enter gf args) w) (h1 : 1 ≤ n)
    {encs : α → Array Value} {B : Nat → Prop} {S Sp : List α → Prop} {N : Nat} {w0 : World} (hseq : SeqO (n - 1) P gf lb encs B S Sp N w0) (hb0 : Below w0.heap.size w0 w) (hB : ∀ k, B k → k < w.heap.size) (hps : ∀ x, (encs x).size = ps.size)
    (I : List α → World → Prop) (Ix : Nat → List α → World → Prop) (Ir : List α → Prop) (hI : OwnFrom w.heap.size I) (hIx : ∀ c, OwnFrom w.heap.size (Ix c)) (h0 : I [] w) (a₁ : α → Act)
    (hassign : ∀ (l : Nat) (x : α) (W : World) (K : Act → World → Prop), K (a₁ x) W →
      assign.wpIn (Fence.wide.inRound l) (n - 1 - 1) P (Exit.then K (fun _ _ _ => False)) { tmps := (ps.zip (encs x)).foldl (fun t (p, v) => t.setIfInBounds p v) a.tmps, defers := [] } W)
    (hbody : ∀ (l : Nat) (pre : List α) (x : α) (W : World), I pre W → pre.length < N → body.wpIn (Fence.wide.inRound l) (n - 1 - 1) P (ownPostG w.heap.size (Kb (fun k => B k ∨ w.heap.size + 2 ≤ k)) I (fun c pre W => (∃ b, c = .exit b ∧ Ix b pre W) ∨ (c = .ret ∧ Ir pre)) (pre ++ [x]) W) (a₁ x) W)
    (hret : ∀ pre, Sp pre → ¬ Ir pre)
    (hout : ∀ (D : Nat) (e : Exit) (W : World), w.heap.size ≤ D → W.heap[D]? = some (.deferred (some [])) → ((e = .normal ∧ ∃ xs, S xs ∧ I xs W) ∨ (∃ b pre, e = .exit b ∧ Sp pre ∧ Ix b pre W)) → Q e { a with defers := { target := .collected D, args := #[] } :: a.defers } W) :
    (Code.rangeFunc g ps assign body).wpIn Fence.wide n P Q a w :=
  rangeO hg eg h1 hseq hb0 hB hps I (fun c pre W => (∃ b, c = .exit b ∧ Ix b pre W) ∨ (c = .ret ∧ Ir pre)) hI
    (fun c s X Y row hs hgr hr => by
      rcases hs with ⟨b, e, hs⟩ | hs
      · exact .inl ⟨b, e, hIx b _ _ _ _ hs hgr hr⟩
      · exact .inr hs) h0 a₁ hassign hbody
    (fun D xs W hD hS hi hk => hout D .normal W hD hk (.inl ⟨rfl, xs, hS, hi⟩))
    (fun D c pre W hD hS hx hk => by
      rcases hx with ⟨b, rfl, hx⟩ | ⟨rfl, hx⟩
      · exact wpIn_exit (hout D (.exit b) W hD hk (.inr ⟨b, pre, rfl, hS, hx⟩))
      · exact absurd hx (hret pre hS))
end

theorem inTo_nil (q : Pair) {y : ByteArray} (h : y = ⟨#[]⟩) : inTo y q = true := by simp [inTo, h]
theorem inTo_lt {q : Pair} {y : ByteArray} (h : kl q.1 y) : inTo y q = true := by simp [inTo, h]
theorem inTo_no {q : Pair} {y : ByteArray} (h0 : ¬ y = ⟨#[]⟩) (h : ¬ kl q.1 y) : inTo y q = false := by simp [inTo, h0, h]
theorem keeps_from {B : Nat} {X Y : World} (h : KeepsOthers X Y) : KeepsFrom B X Y := ⟨h.size, fun k o _ ho hc => h.same k o ho hc⟩
set_option maxRecDepth 100000 in
set_option maxHeartbeats 4000000 in
theorem ranges_in (A : Option Addr) (c : Nat) (l : List S81) (x y : ByteArray) (most : Int) (w : World) (hA : ActsAt w A l) (hn : l.length < 4611686018427387904) (hc : l.length ≤ c) (hk : ∀ a ∈ l, a.f2.size ≤ 140737488351232) (hkx : x.size ≤ 140737488351232) (hky : y.size ≤ 140737488351232) :
    CallsIn Fence.wide 5 Try.prog 7 #[.slice A l.length c, .string x, .string y, .int .i64 most] w fun e w' => e = .returned (.bool true) ∧ Below w.heap.size w w' := by
  have hh : ∀ W, CallsIn Fence.wide 4 Try.prog 9 #[] W fun e w' => e = .returned (.bool true) ∧ Below W.heap.size W w' := fun W => callsIn_wide.2 (callsIn_wide.1 (head_in W))
  have HA := Aside0.mk hA
  have HK := Aside0.mk hk
  have MB : Aside0 (Boxed ((w.alloc (.cells #[.int .i64 most] 3)).alloc (.cells #[.bool false] 4)) w.heap.size 3 (.int .i64 most)) := ⟨(Boxed.new _ _ _).alloc _⟩
  have KB : Aside0 (Boxed ((w.alloc (.cells #[.int .i64 most] 3)).alloc (.cells #[.bool false] 4)) (w.heap.size + 1) 4 (.bool false)) := ⟨by
    have := Boxed.new (w.alloc (.cells #[.int .i64 most] 3)) 4 (.bool false)
    rw [World.size_alloc] at this
    exact this⟩
  have HB0 : Aside0 (Below w.heap.size w ((w.alloc (.cells #[.int .i64 most] 3)).alloc (.cells #[.bool false] 4))) := ⟨((Below.refl _ _).alloc (Nat.le_refl _) _).alloc (by simp) _⟩
  clear hA hk
  refine callsIn_of_wp_marks Try.func7 rfl trivial ?_ rfl
  simp only [Try.ntmps7, List.size_toArray, List.length_cons, List.length_nil, Nat.reduceAdd, Nat.reduceSub, Array.replicate_succ, Array.replicate_zero, List.push_toArray, List.append_toArray, List.nil_append, List.cons_append]
  have hcase : fewB l = false ∨ (fewB l = true ∧ ¬ x.size ≤ 60) ∨ (fewB l = true ∧ x.size ≤ 60 ∧ ¬ y.size ≤ 60) ∨ (fewB l = true ∧ x.size ≤ 60 ∧ y.size ≤ 60) := by
    cases fewB l
    · exact .inl rfl
    · by_cases h : x.size ≤ 60
      · by_cases h2 : y.size ≤ 60
        · exact .inr (.inr (.inr ⟨rfl, h, h2⟩))
        · exact .inr (.inr (.inl ⟨rfl, h, h2⟩))
      · exact .inr (.inl ⟨rfl, h⟩)
  rcases hcase with hfw | ⟨hfw, hx60⟩ | ⟨hfw, hx60, hy60⟩ | ⟨hfw, hx60, hy60⟩
  · gi_wp2_with (first
      | (refine ⟨trivial, ?_⟩; gi_at_call 9; refine (hh _).mono ?_; rintro e w1 ⟨rfl, hb⟩; have HB := Aside0.mk (HB0.out.trans (hb.mono HB0.out.size)); have B1 := Aside0.mk (Boxed.upB KB.out hb); have M1 := Aside0.mk (Boxed.upB MB.out hb); have c1 := B1.out.cell; have f1 := B1.out.frozen; clear hb)
      | (refine ⟨trivial, ?_⟩; gi_at_call 18; refine (callsIn_wide.2 (few_any A c l w1 (HA.out.up HB.out) hn hc HK.out)).mono ?_; rw [hfw]; rintro e w2 ⟨rfl, hb⟩; have HB2 := Aside0.mk (HB.out.trans (hb.mono HB.out.size)); have B2 := Aside0.mk (Boxed.upB B1.out hb); have M2 := Aside0.mk (Boxed.upB M1.out hb); have c2 := B2.out.cell; have f2 := B2.out.frozen; clear hb))
    exact ⟨.bool true, results_bool rfl _ _ ⟨w.heap.size + 1, 0, none⟩ true rfl (B2.out.set (.bool true)).cell Try.underlying4, rfl, HB2.out.setCell (p := ⟨w.heap.size + 1, 0, none⟩) (Nat.le_succ _) _⟩
  · have hx61 : (60 : Int) < (x.size : Int) := by omega
    gi_wp2_with (first
      | (refine ⟨trivial, ?_⟩; gi_at_call 9; refine (hh _).mono ?_; rintro e w1 ⟨rfl, hb⟩; have HB := Aside0.mk (HB0.out.trans (hb.mono HB0.out.size)); have B1 := Aside0.mk (Boxed.upB KB.out hb); have M1 := Aside0.mk (Boxed.upB MB.out hb); have c1 := B1.out.cell; have f1 := B1.out.frozen; clear hb)
      | (refine ⟨trivial, ?_⟩; gi_at_call 18; refine (callsIn_wide.2 (few_any A c l w1 (HA.out.up HB.out) hn hc HK.out)).mono ?_; rw [hfw]; rintro e w2 ⟨rfl, hb⟩; have HB2 := Aside0.mk (HB.out.trans (hb.mono HB.out.size)); have B2 := Aside0.mk (Boxed.upB B1.out hb); have M2 := Aside0.mk (Boxed.upB M1.out hb); have c2 := B2.out.cell; have f2 := B2.out.frozen; clear hb))
    exact ⟨.bool true, results_bool rfl _ _ ⟨w.heap.size + 1, 0, none⟩ true rfl (B2.out.set (.bool true)).cell Try.underlying4, rfl, HB2.out.setCell (p := ⟨w.heap.size + 1, 0, none⟩) (Nat.le_succ _) _⟩
  · have hx61 : ¬ (60 : Int) < (x.size : Int) := by omega
    have hy61 : (60 : Int) < (y.size : Int) := by omega
    gi_wp2_with (first
      | (refine ⟨trivial, ?_⟩; gi_at_call 9; refine (hh _).mono ?_; rintro e w1 ⟨rfl, hb⟩; have HB := Aside0.mk (HB0.out.trans (hb.mono HB0.out.size)); have B1 := Aside0.mk (Boxed.upB KB.out hb); have M1 := Aside0.mk (Boxed.upB MB.out hb); have c1 := B1.out.cell; have f1 := B1.out.frozen; clear hb)
      | (refine ⟨trivial, ?_⟩; gi_at_call 18; refine (callsIn_wide.2 (few_any A c l w1 (HA.out.up HB.out) hn hc HK.out)).mono ?_; rw [hfw]; rintro e w2 ⟨rfl, hb⟩; have HB2 := Aside0.mk (HB.out.trans (hb.mono HB.out.size)); have B2 := Aside0.mk (Boxed.upB B1.out hb); have M2 := Aside0.mk (Boxed.upB M1.out hb); have c2 := B2.out.cell; have f2 := B2.out.frozen; clear hb))
    exact ⟨.bool true, results_bool rfl _ _ ⟨w.heap.size + 1, 0, none⟩ true rfl (B2.out.set (.bool true)).cell Try.underlying4, rfl, HB2.out.setCell (p := ⟨w.heap.size + 1, 0, none⟩) (Nat.le_succ _) _⟩
  have hx61 : ¬ (60 : Int) < (x.size : Int) := by omega
  have hy61 : ¬ (60 : Int) < (y.size : Int) := by omega
  have hl200 := (fewB_spec hfw).1
  obtain ⟨Z, hZ⟩ : ∃ Z, Z = playZ l := ⟨_, rfl⟩
  have hzl : Z.length ≤ 200 := by rw [hZ]; exact Nat.le_trans (playZ_len l) hl200
  have hplay := play_any A c l
  rw [← hZ] at hplay
  have HPL := Aside0.mk hplay
  obtain ⟨mm, hmm⟩ : ∃ mm : Nat, most % 64 + 1 = (mm : Int) := ⟨(most % 64 + 1).toNat, by omega⟩
  have m3 : bits .and .i64 most 63 = (mm : Int) - 1 := by rw [and_63]; omega
  have hmm1 : 1 ≤ mm := by omega
  have hmm2 : mm ≤ 64 := by omega
  have hwr1 : IntKind.i64.wrap (1 + ((mm : Int) - 1)) = (mm : Int) := by rw [IntKind.wrap_i64]; omega
  clear hplay hZ hmm
  gi_wp2_with (first
    | (refine ⟨trivial, ?_⟩; gi_at_call 9; refine (hh _).mono ?_; rintro e w1 ⟨rfl, hb⟩; have HB := Aside0.mk (HB0.out.trans (hb.mono HB0.out.size)); have B1 := Aside0.mk (Boxed.upB KB.out hb); have M1 := Aside0.mk (Boxed.upB MB.out hb); have c1 := B1.out.cell; have f1 := B1.out.frozen; clear hb)
    | (refine ⟨trivial, ?_⟩; gi_at_call 18; refine (callsIn_wide.2 (few_any A c l w1 (HA.out.up HB.out) hn hc HK.out)).mono ?_; rw [hfw]; rintro e w2 ⟨rfl, hb⟩; have HB2 := Aside0.mk (HB.out.trans (hb.mono HB.out.size)); have B2 := Aside0.mk (Boxed.upB B1.out hb); have M2 := Aside0.mk (Boxed.upB M1.out hb); have c2 := B2.out.cell; have f2 := B2.out.frozen; clear hb)
    | (refine ⟨trivial, ?_⟩; gi_at_call 19; refine (callsIn_wide.2 (HPL.out w2 (HA.out.up HB2.out) hl200 hc)).mono ?_; rintro e V0 ⟨g, lb, cap, rfl, hp⟩
       have B5 := Aside0.mk (Boxed.upB B2.out hp.bel)
       have M5 := Aside0.mk (Boxed.upB M2.out hp.bel)
       have HB5 := Aside0.mk (HB2.out.trans (hp.bel.mono HB2.out.size))
       have HP := Aside0.mk hp
       have c5 := M5.out.cell
       have f5 := M5.out.frozen
       clear hp))
  obtain ⟨V, hV⟩ : ∃ V, V = V0.setCell ⟨w.heap.size, 0, none⟩ (.int .i64 (mm : Int)) := ⟨_, rfl⟩
  rw [← hV]
  have hVs : V.heap.size = V0.heap.size := by rw [hV, size_setCell]
  rw [← hVs]
  have hmlt := M2.out.lt
  have PX : Aside0 (PL w2.heap.size V g lb cap Z) := ⟨by rw [hV]; exact PL.stored HP.out hmlt _⟩
  have MX : Aside0 (Boxed V w.heap.size 3 (.int .i64 (mm : Int))) := ⟨by rw [hV]; exact M5.out.set _⟩
  have BX : Aside0 (Boxed V (w.heap.size + 1) 4 (.bool false)) := ⟨by rw [hV]; exact B5.out.kept (grownBy_setCell' V0 w.heap.size (.int .i64 (mm : Int))) (by simp)⟩
  have HBX : Aside0 (Below w.heap.size w V) := ⟨by rw [hV]; exact HB5.out.setCell (p := ⟨w.heap.size, 0, none⟩) (Nat.le_refl _) _⟩
  have SZ := Aside0.mk HP.out.srt
  obtain ⟨o1, o2, o3, o4, o5⟩ := own_caps PX.out.row
  have hlb := PX.out.row.lt lb rfl
  have hgl := PX.out.tree.lt
  clear hV hVs c1 f1 c2 f2 c5 f5 m3 hwr1 B5 M5 HB5 HP B1 M1 B2 M2 KB MB HB0 HB HB2
  obtain ⟨X0, hX0⟩ : ∃ X0, X0 = (V.alloc (.cells #[] 55)).alloc (.cells #[.slice (some ⟨V.heap.size, 0, none⟩) 0 0] 51) := ⟨_, rfl⟩
  rw [← hX0]
  have WS0 : Aside0 (WSt V (V.heap.size + 1) X0 V.heap.size 0 (wantZ (Z.take 0) x y mm)) := ⟨by rw [hX0, show wantZ (Z.take 0) x y mm = [] by simp [wantZ, rangeL, fromL]]; exact WSt.new V⟩
  clear hX0
  gi_loopw [48] (fun v48 wr => ∃ (j lw cw : Nat), v48 = .int .i64 (j : Int) ∧ j ≤ Z.length ∧ Aside0 (WSt V (V.heap.size + 1) wr lw cw (wantZ (Z.take j) x y mm))) (fun v48 _ => Z.length - (intOf v48).toNat)
  case atStart => exact ⟨0, _, _, rfl, by omega, WS0⟩
  case round =>
    obtain ⟨j, lw, cw, rfl, hj, HW⟩ := hrel
    have HP3 := Aside0.mk (PX.out.below HW.out.bel)
    by_cases hjl : j < Z.length
    · have e0 := HP3.out.cell0 hjl
      have e1 := HP3.out.cell1 hjl
      have hlow := want_low (x := x) (y := y) (mm := mm) hjl
      have hhigh := want_high (x := x) (y := y) (mm := mm) hjl
      have hfull := want_full (x := x) (y := y) (mm := mm) hjl
      have hadd := want_add (x := x) (y := y) (mm := mm) hjl
      have hlen := (want_len (Z.take j) x y mm).2
      generalize wantZ (Z.take j) x y mm = L at *
      generalize Z[j] = q at *
      have g0 : (0 : Int) ≤ (j : Int) := by omega
      have g1 : (j : Int) < (Z.length : Int) := by omega
      have hba : Below wr.heap.size wr (wr.alloc (.cells #[.string q.1, .int .i64 q.2] 55)) := below_alloc (Below.refl _ _) _
      have HW1 := Aside0.mk (HW.out.below hba)
      have cw1 := HW1.out.box.cell
      have cm1 := (Boxed.upB MX.out HW1.out.bel).cell
      have hws := HW.out.bel.size
      have HLO := Aside0.mk hlow
      have HHI := Aside0.mk hhigh
      have HFU := Aside0.mk hfull
      have HAD := Aside0.mk hadd
      clear hba hlow hhigh hfull hadd
      rcases Nat.lt_or_ge L.length mm with hLm | hLm
      · have hLm2 : (L.length : Int) < (mm : Int) := by omega
        by_cases hkx : kl q.1 x
        · have hbx : Op.bytesLess q.1.toList x.toList = true := by rw [cb_less, ByteArray.toList_eq, ByteArray.toList_eq]; exact decide_eq_true hkx
          have HX := Aside0.mk hkx
          clear hkx
          gi_wp2
          exact ⟨⟨j + 1, lw, cw, by simp, by omega, ⟨by rw [HLO.out HX.out]; exact HW1.out⟩⟩, by simp [intOf]; omega⟩
        · have hbx : Op.bytesLess q.1.toList x.toList = false := by rw [cb_less, ByteArray.toList_eq, ByteArray.toList_eq]; exact decide_eq_false hkx
          have HX := Aside0.mk hkx
          clear hkx
          by_cases hy : y = ⟨#[]⟩
          · have hyE := (isEmpty_iff y).2 hy
            have HT := Aside0.mk (inTo_nil q hy)
            clear hy
            have hb2 : Below (wr.alloc (.cells #[.string q.1, .int .i64 q.2] 55)).heap.size (wr.alloc (.cells #[.string q.1, .int .i64 q.2] 55)) ((wr.alloc (.cells #[.string q.1, .int .i64 q.2] 55)).alloc (.cells #[.string q.1, .int .i64 q.2] 55)) := below_alloc (Below.refl _ _) _
            have HW2 := Aside0.mk (HW1.out.below hb2)
            have HNW : Aside0 (∀ t u, [Value.string q.1, .int .i64 q.2][t]? = some u → ((wr.alloc (.cells #[.string q.1, .int .i64 q.2] 55)).alloc (.cells #[.string q.1, .int .i64 q.2] 55)).cell? ((⟨wr.heap.size + 1, 0, none⟩ : Addr).add t) = some u) := ⟨fun t u hu => by
              have := cells_of_heap (heap_alloc_new (wr.alloc (.cells #[.string q.1, .int .i64 q.2] 55)) (.cells #[.string q.1, .int .i64 q.2] 55)) 0 t u (by simpa using hu)
              rw [World.size_alloc] at this
              exact this⟩
            clear hb2
            gi_wp2_with (first
              | (gi_at_builtin; refine app51b _ rfl _ _ rfl V.heap.size lw L.length cw (fp L) (by simp [Act.eval, Act.put]) HW2.out.own ⟨wr.heap.size + 1, 0, none⟩ 1 1 [.string q.1, .int .i64 q.2] (by simp [Act.eval, Act.put]) rfl HNW.out (by intro u hu; simp at hu; rcases hu with rfl | rfl <;> rfl) (by omega) HW2.out.bel.size ?_
                 intro g1' cap1 w1' ho1 hg1
                 have HO1 := Aside0.mk ho1
                 have HG1 := Aside0.mk hg1
                 have hbk := HW2.out.box.kept hg1 (Boxed.not_row HW2.out.box (by decide) HW2.out.own)
                 have k1 := hbk.cell
                 have k2 := hbk.frozen
                 clear ho1 hg1 hbk))
            have HF := Aside0.mk (WSt.add HW2.out (by omega) HO1.out HG1.out)
            exact ⟨⟨j + 1, g1', cap1, by simp, by omega, ⟨by rw [HAD.out HX.out HT.out hLm]; exact HF.out⟩⟩, by simp [intOf]; omega⟩
          · have hyE := isEmpty_not hy
            by_cases hky : kl q.1 y
            · have hby : Op.bytesLess q.1.toList y.toList = true := by rw [cb_less, ByteArray.toList_eq, ByteArray.toList_eq]; exact decide_eq_true hky
              have HT := Aside0.mk (inTo_lt hky)
              clear hy hky
              have hb2 : Below (wr.alloc (.cells #[.string q.1, .int .i64 q.2] 55)).heap.size (wr.alloc (.cells #[.string q.1, .int .i64 q.2] 55)) ((wr.alloc (.cells #[.string q.1, .int .i64 q.2] 55)).alloc (.cells #[.string q.1, .int .i64 q.2] 55)) := below_alloc (Below.refl _ _) _
              have HW2 := Aside0.mk (HW1.out.below hb2)
              have HNW : Aside0 (∀ t u, [Value.string q.1, .int .i64 q.2][t]? = some u → ((wr.alloc (.cells #[.string q.1, .int .i64 q.2] 55)).alloc (.cells #[.string q.1, .int .i64 q.2] 55)).cell? ((⟨wr.heap.size + 1, 0, none⟩ : Addr).add t) = some u) := ⟨fun t u hu => by
                have := cells_of_heap (heap_alloc_new (wr.alloc (.cells #[.string q.1, .int .i64 q.2] 55)) (.cells #[.string q.1, .int .i64 q.2] 55)) 0 t u (by simpa using hu)
                rw [World.size_alloc] at this
                exact this⟩
              clear hb2
              gi_wp2_with (first
                | (gi_at_builtin; refine app51b _ rfl _ _ rfl V.heap.size lw L.length cw (fp L) (by simp [Act.eval, Act.put]) HW2.out.own ⟨wr.heap.size + 1, 0, none⟩ 1 1 [.string q.1, .int .i64 q.2] (by simp [Act.eval, Act.put]) rfl HNW.out (by intro u hu; simp at hu; rcases hu with rfl | rfl <;> rfl) (by omega) HW2.out.bel.size ?_
                   intro g1' cap1 w1' ho1 hg1
                   have HO1 := Aside0.mk ho1
                   have HG1 := Aside0.mk hg1
                   have hbk := HW2.out.box.kept hg1 (Boxed.not_row HW2.out.box (by decide) HW2.out.own)
                   have k1 := hbk.cell
                   have k2 := hbk.frozen
                   clear ho1 hg1 hbk))
              have HF := Aside0.mk (WSt.add HW2.out (by omega) HO1.out HG1.out)
              exact ⟨⟨j + 1, g1', cap1, by simp, by omega, ⟨by rw [HAD.out HX.out HT.out hLm]; exact HF.out⟩⟩, by simp [intOf]; omega⟩
            · have hby : Op.bytesLess q.1.toList y.toList = false := by rw [cb_less, ByteArray.toList_eq, ByteArray.toList_eq]; exact decide_eq_false hky
              have HT := Aside0.mk (inTo_no hy hky)
              clear hy hky
              gi_wp2
              exact ⟨⟨j + 1, lw, cw, by simp, by omega, ⟨by rw [HHI.out HX.out HT.out]; exact HW1.out⟩⟩, by simp [intOf]; omega⟩
      · have hLm1 : ¬ L.length < mm := by omega
        have hLm2 : ¬ (L.length : Int) < (mm : Int) := by omega
        clear hLm
        by_cases hkx : kl q.1 x
        · have hbx : Op.bytesLess q.1.toList x.toList = true := by rw [cb_less, ByteArray.toList_eq, ByteArray.toList_eq]; exact decide_eq_true hkx
          have HX := Aside0.mk hkx
          clear hkx
          gi_wp2
          exact ⟨⟨j + 1, lw, cw, by simp, by omega, ⟨by rw [HLO.out HX.out]; exact HW1.out⟩⟩, by simp [intOf]; omega⟩
        · have hbx : Op.bytesLess q.1.toList x.toList = false := by rw [cb_less, ByteArray.toList_eq, ByteArray.toList_eq]; exact decide_eq_false hkx
          have HX := Aside0.mk hkx
          clear hkx
          by_cases hy : y = ⟨#[]⟩
          · have hyE := (isEmpty_iff y).2 hy
            have HT := Aside0.mk (inTo_nil q hy)
            clear hy
            gi_wp2
            exact ⟨⟨j + 1, lw, cw, by simp, by omega, ⟨by rw [HFU.out hLm1]; exact HW1.out⟩⟩, by simp [intOf]; omega⟩
          · have hyE := isEmpty_not hy
            by_cases hky : kl q.1 y
            · have hby : Op.bytesLess q.1.toList y.toList = true := by rw [cb_less, ByteArray.toList_eq, ByteArray.toList_eq]; exact decide_eq_true hky
              have HT := Aside0.mk (inTo_lt hky)
              clear hy hky
              gi_wp2
              exact ⟨⟨j + 1, lw, cw, by simp, by omega, ⟨by rw [HFU.out hLm1]; exact HW1.out⟩⟩, by simp [intOf]; omega⟩
            · have hby : Op.bytesLess q.1.toList y.toList = false := by rw [cb_less, ByteArray.toList_eq, ByteArray.toList_eq]; exact decide_eq_false hky
              have HT := Aside0.mk (inTo_no hy hky)
              clear hy hky
              gi_wp2
              exact ⟨⟨j + 1, lw, cw, by simp, by omega, ⟨by rw [HHI.out HX.out HT.out]; exact HW1.out⟩⟩, by simp [intOf]; omega⟩
    · have hjz : j = Z.length := by omega
      subst hjz
      rw [List.take_length] at HW
      obtain ⟨hL1, hL2⟩ := want_len Z x y mm
      obtain ⟨R, hR⟩ : ∃ R, R = rangeL Z x y := ⟨_, rfl⟩
      have hLR : wantZ Z x y mm = R.take mm := by rw [hR]; rfl
      generalize wantZ Z x y mm = L at *
      have LR := Aside0.mk hLR
      have RR := Aside0.mk hR
      have hws := HW.out.bel.size
      have hlw := HW.out.own.lt lw rfl
      have HWB := Aside0.mk (HW.out.bel)
      clear hLR hR hj hjl
      have hgl2 := HP3.out.tree.lt
      gi_wp2_with (first
        | (refine ⟨trivial, ?_⟩; gi_at_call 21; refine (callsIn_wide.2 (range_any _ _ _ _)).mono ?_; rintro e w6 ⟨rfl, rfl⟩))
      obtain ⟨W3, hW3⟩ : ∃ W3, W3 = (((wr.alloc (.cells #[.int .i64 0] 3)).alloc (.cells #[.pointer (some ⟨g, 0, none⟩)] 25)).alloc (.cells #[.string x] 9)).alloc (.cells #[.string y] 9) := ⟨_, rfl⟩
      rw [← hW3]
      obtain ⟨by1, by2, by3, by4, hz3, hb3⟩ := four_boxes wr _ _ _ _ _ _ _ _ W3 hW3
      clear hW3
      have hseq2 := range_stops 4 (by omega) (wr.heap.size + 1) (wr.heap.size + 2) (wr.heap.size + 3) g (fun k => k < wr.heap.size ∨ (wr.heap.size + 1 ≤ k ∧ k ≤ wr.heap.size + 3)) x y Z W3 (.inr ⟨by omega, by omega⟩) (.inr ⟨by omega, by omega⟩) (.inr ⟨by omega, by omega⟩) (by unfold maxTree; omega)
        ((HP3.out.tree.turn (G := fun k => k < wr.heap.size ∨ (wr.heap.size + 1 ≤ k ∧ k ≤ wr.heap.size + 3)) (fun k hk _ => .inl hk)).below hb3) by2 by3 by4 (fun k hk => by omega)
      refine' rangeO3 rfl (enters_of Try.func35 (by kernel_rfl) rfl) (by omega) hseq2 (Below.refl _ _) (fun k hk => by omega) (fun _ => rfl)
        (fun pre X => ((vals pre = L.take pre.length ∧ pre.length ≤ L.length ∧ pre.length < mm) ∧ Boxed X wr.heap.size 3 (.int .i64 (pre.length : Int))) ∧ Below wr.heap.size wr X)
        (fun b pre X => (b = 2 ∧ Boxed X wr.heap.size 3 (.int .i64 (L.length : Int))) ∧ Below wr.heap.size wr X)
        (fun pre => ¬ vals pre <+: R)
        ?hI ?hIx ⟨⟨⟨rfl, Nat.zero_le _, hmm1⟩, by1⟩, hb3⟩ _ ?assign ?body ?ret ?out
      case hI =>
        intro s X Y row hs hg hr
        exact ⟨⟨hs.1.1, own_box hs.1.2 hg hr⟩, own_below (Nat.le_refl _) (by omega) hs.2 hg hr⟩
      case hIx =>
        intro b s X Y row hs hg hr
        exact ⟨⟨hs.1.1, own_box hs.1.2 hg hr⟩, own_below (Nat.le_refl _) (by omega) hs.2 hg hr⟩
      case assign =>
        intro l2 z W K hK
        dsimp only [pe]
        gi_wp2
        exact hK
      case ret =>
        intro pre hsp hno
        rw [RR.out] at hno
        exact hno hsp
      case body =>
        rintro l0 pre z X ⟨⟨⟨hv, hpl, hpm⟩, p1⟩, hb⟩ hlen
        have hWX := Aside0.mk (HW.out.below hb)
        have c0 := p1.cell
        have f0 := p1.frozen
        have c1 := hWX.out.box.cell
        have cr := (Boxed.upB (Boxed.upB BX.out HWB.out) hb).cell
        have fr := (Boxed.upB (Boxed.upB BX.out HWB.out) hb).frozen
        have cm := (Boxed.upB (Boxed.upB MX.out HWB.out) hb).cell
        obtain ⟨⟨xk, xv⟩, hx⟩ := z
        have hln : (pre ++ [(⟨(xk, xv), hx⟩ : El Z)]).length = pre.length + 1 := by simp
        have hlv : (vals pre).length = pre.length := by simp [vals]
        have hpf : vals (pre ++ [(⟨(xk, xv), hx⟩ : El Z)]) <+: R → R[pre.length]? = some (xk, xv) := fun hpre => by
          rw [vals_snoc] at hpre
          have h1 := prefix_get hpre
          rw [hlv] at h1
          exact h1
        have hsn : L[pre.length]? = some (xk, xv) → vals (pre ++ [(⟨(xk, xv), hx⟩ : El Z)]) = L.take (pre.length + 1) := fun e => by
          obtain ⟨h1, h2⟩ := List.getElem?_eq_some_iff.1 e
          rw [vals_snoc, hv, List.take_succ_eq_append_getElem h1, h2]
        have hgt : L[pre.length]? = R[pre.length]? := by rw [LR.out, List.getElem?_take, if_pos hpm]
        have HLN := Aside0.mk hln
        have HPF := Aside0.mk hpf
        have HSN := Aside0.mk hsn
        have HGT := Aside0.mk hgt
        have P1 := Aside0.mk p1
        have HB1 := Aside0.mk hb
        clear hln hlv hpf hsn hgt p1 hb hv hlen
        generalize pre.length = i at *
        have hi0 : (0 : Int) ≤ (i : Int) := by omega
        rcases Nat.lt_or_ge i L.length with hiL | hiL
        · have hq1 : L[i]? = some L[i] := List.getElem?_eq_getElem hiL
          have e0 := hWX.out.cell0 hiL
          have e1 := hWX.out.cell1 hiL
          have HQ1 := Aside0.mk hq1
          clear hq1
          generalize L[i] = q at *
          obtain ⟨qk, qv⟩ := q
          have hni : ¬ L.length ≤ i := by omega
          have hni2 : ¬ (L.length : Int) ≤ (i : Int) := by omega
          have hil2 : (i : Int) < (L.length : Int) := by omega
          by_cases hkq : qk = xk
          · subst hkq
            by_cases hvq : qv = xv
            · subst hvq
              have hwr : IntKind.i64.wrap ((i : Int) + 1) = (i : Int) + 1 := by rw [IntKind.wrap_i64]; omega
              have m1 := (Boxed.other (Boxed.upB (Boxed.upB MX.out HWB.out) HB1.out) (show w.heap.size ≠ wr.heap.size by omega) (.int .i64 ((i : Int) + 1))).cell
              rcases Nat.lt_or_ge (i + 1) mm with him | him
              · have hie : ¬ (i : Int) + 1 = (mm : Int) := by omega
                have hie2 : ¬ i + 1 = mm := by omega
                gi_wp2
                refine ⟨keeps_from (KeepsOthers.setCell _ _ _), kb_setCell _ _ _ _ (by omega), ⟨⟨?_, ?_, ?_⟩, ?_⟩, HB1.out.setCell (p := ⟨wr.heap.size, 0, none⟩) (Nat.le_refl _) _⟩
                · rw [HLN.out]; exact HSN.out HQ1.out
                · rw [HLN.out]; omega
                · rw [HLN.out]; exact him
                · rw [HLN.out, show ((i + 1 : Nat) : Int) = (i : Int) + 1 by omega]; exact P1.out.set _
              · have hie : (i : Int) + 1 = (mm : Int) := by omega
                have hie2 : i + 1 = mm := by omega
                have hLi : (i : Int) + 1 = (L.length : Int) := by omega
                have HIE := Aside0.mk hie
                have HLI := Aside0.mk hLi
                clear hie2 hLi hie
                have hde : decide ((i : Int) + 1 = (mm : Int)) = true := decide_eq_true HIE.out
                gi_wp2
                exact ⟨keeps_from (KeepsOthers.setCell _ _ _), .inl ⟨2, rfl, ⟨rfl, by rw [← HLI.out]; exact P1.out.set _⟩, HB1.out.setCell (p := ⟨wr.heap.size, 0, none⟩) (Nat.le_refl _) _⟩⟩
            · have hvq2 : ¬ xv = qv := fun e => hvq e.symm
              have hvb : (qv == xv) = false := by simpa using hvq
              have hvb2 : (xv == qv) = false := by simpa using hvq2
              gi_wp2
              refine ⟨keeps_from (KeepsOthers.setCell _ _ _), .inr ⟨rfl, fun hpre => hvq ?_⟩⟩
              have h1 := HPF.out hpre
              rw [← HGT.out, HQ1.out] at h1
              exact congrArg Prod.snd (Option.some.inj h1)
          · have hbe : (qk.toList == xk.toList) = false := bytes_ne hkq
            gi_wp2
            refine ⟨keeps_from (KeepsOthers.setCell _ _ _), .inr ⟨rfl, fun hpre => hkq ?_⟩⟩
            have h1 := HPF.out hpre
            rw [← HGT.out, HQ1.out] at h1
            exact congrArg Prod.fst (Option.some.inj h1)
        · have hni : L.length ≤ i := hiL
          have hni2 : (L.length : Int) ≤ (i : Int) := by omega
          gi_wp2
          refine ⟨keeps_from (KeepsOthers.setCell _ _ _), .inr ⟨rfl, fun hpre => ?_⟩⟩
          have h1 := HPF.out hpre
          rw [← HGT.out, List.getElem?_eq_none hiL] at h1
          cases h1
      case out =>
        intro D e X hD hK hes
        have hmid : (e = .normal ∨ e = .exit 2) ∧ Boxed X wr.heap.size 3 (.int .i64 (L.length : Int)) ∧ Below wr.heap.size wr X := by
          rcases hes with ⟨rfl, xs, hxs, ⟨⟨hv, hpl, hpm⟩, p1⟩, hb⟩ | ⟨b, pre, rfl, hsp, ⟨rfl, p1⟩, hb⟩
          · replace hxs : vals xs = rangeL Z x y := hxs
            have hlv : (vals xs).length = xs.length := by simp [vals]
            have h2 : L.length = xs.length := by
              rw [← RR.out] at hxs
              rw [LR.out, List.length_take, ← hxs, hlv]
              omega
            rw [← h2] at p1
            exact ⟨.inl rfl, p1, hb⟩
          · exact ⟨.inr rfl, p1, hb⟩
        obtain ⟨he, p1, hb⟩ := hmid
        clear hes
        refine inBlock_same he ?_
        clear he
        have P1 := Aside0.mk p1
        have HB1 := Aside0.mk hb
        have HKD := Aside0.mk hK
        have hXl := hb.size
        have hWX := Aside0.mk (HW.out.below hb)
        have BR := Aside0.mk (Boxed.upB (Boxed.upB BX.out HWB.out) hb)
        clear p1 hb hK
        gi_wp2_with (first
          | (refine ⟨trivial, ?_⟩; gi_at_call 13; refine (callsIn_wide.2 (from_any _ _ _)).mono ?_; rintro e w6 ⟨rfl, rfl⟩))
        obtain ⟨Wn, hWn⟩ : ∃ Wn, Wn = (X.alloc (.cells #[.pointer none] 25)).alloc (.cells #[.string ⟨#[]⟩] 9) := ⟨_, rfl⟩
        rw [← hWn]
        have hbn : Below X.heap.size X Wn := by rw [hWn]; exact ((Below.refl _ _).alloc (Nat.le_refl _) _).alloc (by simp) _
        have hzn : Wn.heap.size = X.heap.size + 2 := by rw [hWn]; simp
        have n1 : Boxed Wn X.heap.size 25 (.pointer none) := by rw [hWn]; exact (Boxed.new _ _ _).alloc _
        have n2 : Boxed Wn (X.heap.size + 1) 9 (.string ⟨#[]⟩) := by
          rw [hWn]
          have := Boxed.new (X.alloc (.cells #[.pointer none] 25)) 9 (.string ⟨#[]⟩)
          rw [World.size_alloc] at this
          exact this
        clear hWn
        refine' rangeO2 rfl (enters_of Try.func30 (by kernel_rfl) rfl) (by omega) (seq_nil 4 (by omega) X.heap.size (X.heap.size + 1) (fun k => k < X.heap.size) ⟨#[]⟩ 0 Wn n1.cell n2.cell) (Below.refl _ _) (fun k hk => by omega) (fun _ => rfl)
          (fun _ Y => Below X.heap.size X Y) (fun _ _ _ => False) ?hI3 ?hIx3 hbn _ ?assign3 ?body3 ?out3
        case hI3 =>
          intro s Y Y' row hs hg hr
          exact own_below (Nat.le_refl _) (by omega) hs hg hr
        case hIx3 =>
          intro b s Y Y' row hs hg hr
          exact hs
        case assign3 =>
          intro l2 z W K hK
          dsimp only [pe]
          gi_wp2
          exact hK
        case body3 =>
          rintro l2 pre ⟨a, ha⟩ W _ _
          cases ha
        case out3 =>
          intro D2 e Y hD2 hK2 hes
          have hmid2 : e = .normal ∧ Below X.heap.size X Y := by
            rcases hes with ⟨rfl, xs, _, hb⟩ | ⟨b, pre, rfl, hsp, _⟩
            · exact ⟨rfl, hb⟩
            · exact hsp.elim
          obtain ⟨he, hbY⟩ := hmid2
          clear hes
          refine inBlock_same (.inl he) ?_
          clear he
          have hYl := hbY.size
          have c0 := (Boxed.upB P1.out hbY).cell
          have c1 := (hWX.out.below hbY).box.cell
          have BRY := Aside0.mk (Boxed.upB BR.out hbY)
          have cr := BRY.out.cell
          have fr := BRY.out.frozen
          have HK2 := Aside0.mk hK2
          have hDl := (Array.getElem?_eq_some_iff.1 HKD.out).1
          have HKD2 := Aside0.mk ((hbY.block D hDl).trans HKD.out)
          have HBY : Aside0 (Below w.heap.size w Y) := ⟨HBX.out.trans ((HWB.out.trans ((HB1.out.trans (hbY.mono HB1.out.size)).mono HWB.out.size)).mono HBX.out.size)⟩
          have hwV := HBX.out.size
          clear hbY hK2
          gi_wp2_with (first
            | (refine ⟨trivial, ?_⟩; gi_at_call 14; refine (callsIn_wide.2 (len_nil _)).mono ?_; rintro e w7 ⟨rfl, rfl⟩)
            | (refine ⟨trivial, ?_⟩; gi_at_call 11; refine (callsIn_wide.2 (put_nil _ _ _)).mono ?_; rintro e w8 ⟨rfl, rfl⟩)
            | (refine ⟨trivial, ?_⟩; gi_at_call 12; refine (callsIn_wide.2 (drop_nil _ _)).mono ?_; rintro e w9 ⟨rfl, rfl⟩)
            | (refine ⟨trivial, ?_⟩; gi_at_call 22; refine (callsIn_wide.2 (tclone_nil _)).mono ?_; rintro e w10 ⟨rfl, rfl⟩))
          have hk2 : (w10.setCell ⟨w.heap.size + 1, 0, none⟩ (.bool true)).heap[D2]? = some (.deferred (some [])) := (KeepsOthers.setCell w10 ⟨w.heap.size + 1, 0, none⟩ (.bool true)).same D2 _ HK2.out rfl
          have hk1 : (w10.setCell ⟨w.heap.size + 1, 0, none⟩ (.bool true)).heap[D]? = some (.deferred (some [])) := (KeepsOthers.setCell w10 ⟨w.heap.size + 1, 0, none⟩ (.bool true)).same D _ HKD2.out rfl
          have hBT : Below w.heap.size w (w10.setCell ⟨w.heap.size + 1, 0, none⟩ (.bool true)) := HBY.out.setCell (p := ⟨w.heap.size + 1, 0, none⟩) (Nat.le_succ _) _
          obtain ⟨h3, h4⟩ := two_marks hBT (by omega) (by omega) hk1 hk2
          refine ⟨by simp, .inl ⟨_, _, rfl, run_takeDeferred hk2, ?_⟩⟩
          refine ⟨by simp, .inl ⟨_, _, rfl, run_takeDeferred h3, ?_⟩⟩
          refine ⟨.bool true, results_bool rfl _ _ ⟨w.heap.size + 1, 0, none⟩ true rfl ?_ Try.underlying4, rfl, h4⟩
          exact ((World.cell?_of_block (World.putObj_heap_other (by show w.heap.size + 1 ≠ D; omega))).trans (World.cell?_of_block (World.putObj_heap_other (by show w.heap.size + 1 ≠ D2; omega)))).trans (BRY.out.set (.bool true)).cell
end Go.Proofs.Ytmpcmpanolnpfaa.Tr
